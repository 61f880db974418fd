/- Printed by a program of this session (gen.py): Go functions as Lean functions over the heap, and that the Go code does what they say; no condition. -/
import Derived.Test.YtgcmojbajjajgaaGlh
namespace Go.Proofs.Ytgcmojbajjajgaa.V
open Go
set_option linter.unusedVariables false
set_option maxRecDepth 100000
/-- spate/spatelaw9.EpochNames -/
def F.spatelaw9_EpochNames  (h : H) (Q : Bool → H → Prop) : Prop :=
  Q true h
theorem F.spatelaw9_EpochNames_ok  {h : H} {Q : Bool → H → Prop} (H : F.spatelaw9_EpochNames  h Q) : Fn PP 3 ([] : List Value).toArray h fun r h' => ∃ r0, r = (.bool r0) ∧ Q r0 h' := by
  unfold F.spatelaw9_EpochNames at H
  refine fn_of Try.func3 Try.ntmps3 rfl rfl fun w0 => ?_
  refine tr_sub [] trivial ?_
  refine tr_seq ?_
  refine tr_region ?_
  refine tr_p (y_assign rfl) rfl rfl ?_
  refine tr_nil ?_
  refine tr_thenN ?_
  refine tr_seq ?_
  refine tr_region ?_
  refine tr_p (y_assign rfl) rfl rfl ?_
  refine tr_nil ?_
  refine tr_thenN ?_
  refine tr_ret ?_
  exact tr_ret1 rfl rfl ⟨_, rfl, H⟩

def F.epoch_New.l2 (Q : (Option Addr) → Int → H → Prop) : Nat → Addr → Int → H → Prop
  | 0, _, _, _ => False
  | q2 + 1, x4, x16, h =>
    ((decide (x16 < 65)) = true →
    RunS PP (Instr.makeMap 60 none) h fun u h6 => ∃ m7 : Option Nat, u = (.map m7) ∧
    (0 ≤ (x16 : Int) ∧ x16 < 65) ∧
    stH h6 (((x4.add 4).add ((x16 : Int).toNat * 2)).add 0) [(.map m7)] fun h9 =>
    (F.epoch_New.l2 Q q2) x4 (IntKind.wrap .i64 (x16 + 1)) h9) ∧
    ((decide (x16 < 65)) = false →
    Q (some x4) 0 h)
def F.epoch_New.j1 (Q : (Option Addr) → Int → H → Prop) (x0 : Int) (h : H) : Prop :=
  RunS PP (Instr.makeMap 28 none) h fun u h1 => ∃ m2 : Option Nat, u = (.map m2) ∧
  new h1 ((⟨(⟨(⟨⟩ : S_sync_noCopy), (⟨0, 0⟩ : S_sync_Mutex)⟩ : S_sync_Mutex_58), x0, 1, (List.replicate 65 (⟨none, 0⟩ : S_epoch_owner)), m2, false⟩ : S_epoch_Book).cells.toArray) ty_65 fun a4 h3 =>
  ∃ m, F.epoch_New.l2 Q m a4 0 h3
def F.epoch_New.j3 (Q : (Option Addr) → Int → H → Prop) (x0 : Int) (x11 : Bool) (h : H) : Prop :=
  (x11 = true →
  Q none 1 h) ∧
  (x11 = false →
  F.epoch_New.j1 Q x0 h)
/-- spate/epoch.New -/
def F.epoch_New (p0 : Int) (h : H) (Q : (Option Addr) → Int → H → Prop) : Prop :=
  ((decide (p0 < 1)) = true →
  F.epoch_New.j3 Q p0 true h) ∧
  ((decide (p0 < 1)) = false →
  F.epoch_New.j3 Q p0 (decide (p0 > 64)) h)
theorem F.epoch_New_ok {p0 : Int} {h : H} {Q : (Option Addr) → Int → H → Prop} (H : F.epoch_New p0 h Q) : Fn PP 10 ([(.int .i64 p0)] : List Value).toArray h fun r h' => ∃ r0 r1, r = .tuple #[(.pointer r0), (.int .i64 r1)] ∧ Q r0 r1 h' := by
  unfold F.epoch_New at H
  refine fn_of Try.func10 Try.ntmps10 rfl rfl fun w0 => ?_
  refine tr_sub [(0, (.int .i64 p0))] ⟨rfl, trivial⟩ ?_
  refine tr_seq ?_
  refine tr_region ?_
  refine tr_p (y_assign rfl) rfl rfl ?_
  refine tr_p (y_assign rfl) rfl rfl ?_
  refine tr_nil ?_
  refine tr_thenN ?_
  refine tr_seq_j (fun L' h => ∃ (x0 : Int), L' = [(0, (.int .i64 x0))] ∧ F.epoch_New.j1 Q x0 h) ?_ ?_
  · rintro L' h ⟨x0, rfl, H⟩
    unfold F.epoch_New.j1 at H
    refine tr_seq ?_
    refine tr_region ?_
    refine tr_p (y_move rfl) rfl rfl ?_
    refine tr_e (f_mkN H) rfl rfl ?_
    rintro _ h1 ⟨m2, rfl, H⟩
    refine tr_p (f_build rfl (bd_65_1_2_4 x0 1 m2)) rfl rfl ?_
    refine tr_e (f_box (cs := (⟨(⟨(⟨⟩ : S_sync_noCopy), (⟨0, 0⟩ : S_sync_Mutex)⟩ : S_sync_Mutex_58), x0, 1, (List.replicate 65 (⟨none, 0⟩ : S_epoch_owner)), m2, false⟩ : S_epoch_Book).cells.toArray) rfl rfl H) rfl rfl ?_
    rintro _ h3 ⟨a4, rfl, H⟩
    refine tr_p (y_assign rfl) rfl rfl ?_
    refine tr_nil ?_
    refine tr_thenN ?_
    refine tr_seq ?_
    refine tr_seq ?_
    refine tr_region ?_
    refine tr_p (y_move rfl) rfl rfl ?_
    refine tr_nil ?_
    refine tr_thenN ?_
    refine tr_block ?_
    obtain ⟨m10, H⟩ := H
    refine tr_sub [(4, (.pointer (some a4))), (16, (.int .i64 0))] ⟨rfl, rfl, trivial⟩ ?_
    refine tr_loop_j (fun m L' h => ∃ (x4 : Addr) (x16 : Int), L' = [(4, (.pointer (some x4))), (16, (.int .i64 x16))] ∧ F.epoch_New.l2 Q m x4 x16 h) ?_ ?_ m10 ⟨_, _, rfl, H⟩
    · rintro L' h ⟨_, _, _, H⟩; exact H
    · rintro q2 L' h ⟨x4, x16, rfl, H⟩
      unfold F.epoch_New.l2 at H
      refine tr_seq ?_
      refine tr_region ?_
      refine tr_p (y_lss rfl rfl) rfl rfl ?_
      refine tr_nil ?_
      refine tr_thenN ?_
      refine tr_seq ?_
      refine tr_cond rfl (fun g5 => ?_) (fun g5 => ?_)
      · replace H := H.1 g5
        refine tr_skip ?_
        refine tr_thenN ?_
        refine tr_seq ?_
        refine tr_block ?_
        refine tr_seq ?_
        refine tr_region ?_
        refine tr_p (y_move rfl) rfl rfl ?_
        refine tr_p (y_assign rfl) rfl rfl ?_
        refine tr_nil ?_
        refine tr_thenN ?_
        refine tr_region ?_
        refine tr_p (y_move rfl) rfl rfl ?_
        refine tr_p (y_move rfl) rfl rfl ?_
        refine tr_e (f_mkN H) rfl rfl ?_
        rintro _ h6 ⟨m7, rfl, H⟩
        refine tr_p (y_nil rfl) rfl rfl ?_
        refine tr_p (y_fa (off := 4) Try.runUnderlying65 fo_65_3 rfl) rfl rfl ?_
        obtain ⟨e8, H⟩ := H
        refine tr_p (f_idxArr Try.runUnderlying63 Try.sizeOf62 rfl rfl e8) rfl rfl ?_
        refine tr_p (y_fa (off := 0) Try.runUnderlying62 fo_62_0 rfl) rfl rfl ?_
        refine tr_e (f_store (vs := [(.map m7)]) Try.sizeOf60 rfl rfl rfl rfl (one1 rfl) H) rfl rfl ?_
        rintro _ h9 ⟨rfl, H⟩
        refine tr_nil ?_
        refine tr_blockN ?_
        refine tr_thenN ?_
        refine tr_region ?_
        refine tr_p (y_add rfl rfl) rfl rfl ?_
        refine tr_p (y_move rfl) rfl rfl ?_
        refine tr_nil ?_
        refine tr_thenN ?_
        exact tr_join [(4, (.pointer (some x4))), (16, (.int .i64 (IntKind.wrap .i64 (x16 + 1))))] ⟨rfl, rfl, trivial⟩ ⟨_, _, rfl, H⟩
      · replace H := H.2 g5
        refine tr_exit ?_
        refine tr_thenE ?_
        refine tr_thenE ?_
        refine tr_hit ?_
        refine tr_thenN ?_
        refine tr_seq ?_
        refine tr_region ?_
        refine tr_p (y_move rfl) rfl rfl ?_
        refine tr_p (y_assign rfl) rfl rfl ?_
        refine tr_p (y_assign rfl) rfl rfl ?_
        refine tr_nil ?_
        refine tr_thenN ?_
        refine tr_ret ?_
        exact tr_ret2 rfl rfl rfl ⟨_, _, rfl, H⟩
  · refine tr_seq_j (fun L' h => ∃ (x0 : Int) (x11 : Bool), L' = [(0, (.int .i64 x0)), (11, (.bool x11))] ∧ F.epoch_New.j3 Q x0 x11 h) ?_ ?_
    · rintro L' h ⟨x0, x11, rfl, H⟩
      unfold F.epoch_New.j3 at H
      refine tr_cond rfl (fun g11 => ?_) (fun g11 => ?_)
      · replace H := H.1 g11
        refine tr_seq ?_
        refine tr_region ?_
        refine tr_p (y_assign rfl) rfl rfl ?_
        refine tr_p (y_assign rfl) rfl rfl ?_
        refine tr_nil ?_
        refine tr_thenN ?_
        refine tr_ret ?_
        refine tr_thenR ?_
        exact tr_ret2 rfl rfl rfl ⟨_, _, rfl, H⟩
      · replace H := H.2 g11
        refine tr_skip ?_
        refine tr_thenN ?_
        exact tr_join [(0, (.int .i64 x0))] ⟨rfl, trivial⟩ ⟨_, rfl, H⟩
    · refine tr_region ?_
      refine tr_p (y_move rfl) rfl rfl ?_
      refine tr_p (y_lss rfl rfl) rfl rfl ?_
      refine tr_p (y_move rfl) rfl rfl ?_
      refine tr_split (t := 8) rfl (fun g12 => ?_) (fun g12 => ?_)
      · replace H := H.1 g12
        refine tr_s rfl rfl ?_
        refine tr_s rfl rfl ?_
        refine tr_p (y_pick_t rfl rfl) rfl rfl ?_
        refine tr_nil ?_
        refine tr_thenN ?_
        exact tr_join [(0, (.int .i64 p0)), (11, (.bool true))] ⟨rfl, rfl, trivial⟩ ⟨_, _, rfl, H⟩
      · replace H := H.2 g12
        refine tr_p (y_move rfl) rfl rfl ?_
        refine tr_p (y_gtr rfl rfl) rfl rfl ?_
        refine tr_p (y_pick_f rfl rfl) rfl rfl ?_
        refine tr_nil ?_
        refine tr_thenN ?_
        exact tr_join [(0, (.int .i64 p0)), (11, (.bool (decide (p0 > 64))))] ⟨rfl, rfl, trivial⟩ ⟨_, _, rfl, H⟩

/-- (*internal/sync.Mutex).Lock -/
def F.internal_sync_Mutex_Lock (p0 : Option Addr) (h : H) (Q : H → Prop) : Prop :=
  nn p0 fun a1 =>
  casI .i32 h (a1.add 0) 0 1 fun r4 h3 =>
  (r4 = true →
  nn p0 fun a7 =>
  hasC h3 a7 ∧
  Q h3) ∧
  (r4 = false →
  False)
theorem F.internal_sync_Mutex_Lock_ok {p0 : Option Addr} {h : H} {Q : H → Prop} (H : F.internal_sync_Mutex_Lock p0 h Q) : Fn PP 54 ([(.pointer p0)] : List Value).toArray h fun r h' => r = .tuple #[] ∧ Q  h' := by
  unfold F.internal_sync_Mutex_Lock at H
  refine fn_of Try.func54 Try.ntmps54 rfl rfl fun w0 => ?_
  refine tr_sub [(0, (.pointer p0))] ⟨rfl, trivial⟩ ?_
  refine tr_seq ?_
  refine tr_region ?_
  refine tr_p (y_still (still_62) rfl) rfl rfl ?_
  refine tr_nil ?_
  refine tr_thenN ?_
  refine tr_seq ?_
  refine tr_seq ?_
  refine tr_region ?_
  refine tr_p (y_move rfl) rfl rfl ?_
  obtain ⟨a1, e2, H⟩ := H
  refine tr_p (f_nn rfl e2) rfl rfl ?_
  refine tr_p (y_fa (off := 0) Try.runUnderlying57 fo_57_0 rfl) rfl rfl ?_
  refine tr_e (f_cas cas_63 rfl H) rfl rfl ?_
  rintro _ h3 ⟨r4, rfl, H⟩
  refine tr_nil ?_
  refine tr_thenN ?_
  refine tr_cond rfl (fun g5 => ?_) (fun g5 => ?_)
  · replace H := H.1 g5
    refine tr_seq ?_
    refine tr_cond_t rfl ?_
    refine tr_seq ?_
    refine tr_region ?_
    refine tr_p (y_still (still_64) rfl) rfl rfl ?_
    refine tr_nil ?_
    refine tr_thenN ?_
    refine tr_region ?_
    refine tr_p (y_move rfl) rfl rfl ?_
    obtain ⟨a7, e8, H⟩ := H
    obtain ⟨k6, H⟩ := H
    refine tr_h (y_upt Try.underlying92 Try.underlying96 (by kernel_rfl) rfl e8) k6 rfl rfl ?_
    refine tr_p (y_still (still_65 a7) rfl) rfl rfl ?_
    refine tr_nil ?_
    refine tr_thenN ?_
    refine tr_ret ?_
    refine tr_thenR ?_
    exact tr_ret0 rfl ⟨rfl, H⟩
  · replace H := H.2 g5
    refine tr_skip ?_
    refine tr_thenN ?_
    refine tr_region ?_
    refine tr_p (y_move rfl) rfl rfl ?_
    exact H.elim

/-- (*sync.Mutex).Lock -/
def F.sync_Mutex_Lock (p0 : Option Addr) (h : H) (Q : H → Prop) : Prop :=
  nn p0 fun a1 =>
  F.internal_sync_Mutex_Lock (some (a1.add 0)) h fun h3 =>
  Q h3
theorem F.sync_Mutex_Lock_ok {p0 : Option Addr} {h : H} {Q : H → Prop} (H : F.sync_Mutex_Lock p0 h Q) : Fn PP 43 ([(.pointer p0)] : List Value).toArray h fun r h' => r = .tuple #[] ∧ Q  h' := by
  unfold F.sync_Mutex_Lock at H
  refine fn_of Try.func43 Try.ntmps43 rfl rfl fun w0 => ?_
  refine tr_sub [(0, (.pointer p0))] ⟨rfl, trivial⟩ ?_
  refine tr_region ?_
  refine tr_p (y_move rfl) rfl rfl ?_
  obtain ⟨a1, e2, H⟩ := H
  refine tr_p (f_nn rfl e2) rfl rfl ?_
  refine tr_p (y_fa (off := 0) Try.runUnderlying59 fo_59_1 rfl) rfl rfl ?_
  refine tr_e (e_call Try.call54 rfl (F.internal_sync_Mutex_Lock_ok H)) rfl rfl ?_
  rintro _ h3 ⟨rfl, H⟩
  refine tr_nil ?_
  exact tr_end0 rfl ⟨rfl, H⟩

def F.internal_sync_Mutex_Unlock.j1 (Q : H → Prop) (x0 : Option Addr) (h : H) : Prop :=
  nn x0 fun a1 =>
  addI .i32 h (a1.add 0) (-1) fun r4 h3 =>
  (((r4 != 0)) = true →
  False) ∧
  (((r4 != 0)) = false →
  Q h3)
/-- (*internal/sync.Mutex).Unlock -/
def F.internal_sync_Mutex_Unlock (p0 : Option Addr) (h : H) (Q : H → Prop) : Prop :=
  nn p0 fun a7 =>
  ldI .i32 h (a7.add 0) fun y9 =>
  nn p0 fun a12 =>
  hasC h a12 ∧
  F.internal_sync_Mutex_Unlock.j1 Q p0 h
theorem F.internal_sync_Mutex_Unlock_ok {p0 : Option Addr} {h : H} {Q : H → Prop} (H : F.internal_sync_Mutex_Unlock p0 h Q) : Fn PP 55 ([(.pointer p0)] : List Value).toArray h fun r h' => r = .tuple #[] ∧ Q  h' := by
  unfold F.internal_sync_Mutex_Unlock at H
  refine fn_of Try.func55 Try.ntmps55 rfl rfl fun w0 => ?_
  refine tr_sub [(0, (.pointer p0))] ⟨rfl, trivial⟩ ?_
  refine tr_seq_j (fun L' h => ∃ (x0 : Option Addr), L' = [(0, (.pointer x0))] ∧ F.internal_sync_Mutex_Unlock.j1 Q x0 h) ?_ ?_
  · rintro L' h ⟨x0, rfl, H⟩
    unfold F.internal_sync_Mutex_Unlock.j1 at H
    refine tr_seq ?_
    refine tr_region ?_
    refine tr_p (y_move rfl) rfl rfl ?_
    obtain ⟨a1, e2, H⟩ := H
    refine tr_p (f_nn rfl e2) rfl rfl ?_
    refine tr_p (y_fa (off := 0) Try.runUnderlying57 fo_57_0 rfl) rfl rfl ?_
    refine tr_e (f_addI add_68 rfl H) rfl rfl ?_
    rintro _ h3 ⟨r4, rfl, H⟩
    refine tr_p (y_assign rfl) rfl rfl ?_
    refine tr_nil ?_
    refine tr_thenN ?_
    refine tr_seq ?_
    refine tr_seq ?_
    refine tr_region ?_
    refine tr_p (y_move rfl) rfl rfl ?_
    refine tr_p (y_neq rfl rfl) rfl rfl ?_
    refine tr_nil ?_
    refine tr_thenN ?_
    refine tr_cond rfl (fun g5 => ?_) (fun g5 => ?_)
    · replace H := H.1 g5
      refine tr_region ?_
      refine tr_p (y_move rfl) rfl rfl ?_
      refine tr_p (y_move rfl) rfl rfl ?_
      exact H.elim
    · replace H := H.2 g5
      refine tr_skip ?_
      refine tr_thenN ?_
      refine tr_region ?_
      refine tr_p (y_still (still_64) rfl) rfl rfl ?_
      refine tr_nil ?_
      exact tr_end0 rfl ⟨rfl, H⟩
  · refine tr_cond_t rfl ?_
    refine tr_seq ?_
    refine tr_region ?_
    refine tr_p (y_move rfl) rfl rfl ?_
    obtain ⟨a7, e8, H⟩ := H
    refine tr_p (f_nn rfl e8) rfl rfl ?_
    refine tr_p (y_fa (off := 0) Try.runUnderlying57 fo_57_0 rfl) rfl rfl ?_
    obtain ⟨y9, k10, H⟩ := H
    refine tr_h (y_ld Try.isAgg21 rfl) k10 rfl rfl ?_
    refine tr_nil ?_
    refine tr_thenN ?_
    refine tr_seq ?_
    refine tr_region ?_
    refine tr_p (y_move rfl) rfl rfl ?_
    obtain ⟨a12, e13, H⟩ := H
    obtain ⟨k11, H⟩ := H
    refine tr_h (y_upt Try.underlying92 Try.underlying96 (by kernel_rfl) rfl e13) k11 rfl rfl ?_
    refine tr_p (y_still (still_67 a12) rfl) rfl rfl ?_
    refine tr_nil ?_
    refine tr_thenN ?_
    refine tr_region ?_
    refine tr_p (y_still (still_62) rfl) rfl rfl ?_
    refine tr_nil ?_
    refine tr_thenN ?_
    exact tr_join [(0, (.pointer p0))] ⟨rfl, trivial⟩ ⟨_, rfl, H⟩

/-- (*sync.Mutex).Unlock -/
def F.sync_Mutex_Unlock (p0 : Option Addr) (h : H) (Q : H → Prop) : Prop :=
  nn p0 fun a1 =>
  F.internal_sync_Mutex_Unlock (some (a1.add 0)) h fun h3 =>
  Q h3
theorem F.sync_Mutex_Unlock_ok {p0 : Option Addr} {h : H} {Q : H → Prop} (H : F.sync_Mutex_Unlock p0 h Q) : Fn PP 44 ([(.pointer p0)] : List Value).toArray h fun r h' => r = .tuple #[] ∧ Q  h' := by
  unfold F.sync_Mutex_Unlock at H
  refine fn_of Try.func44 Try.ntmps44 rfl rfl fun w0 => ?_
  refine tr_sub [(0, (.pointer p0))] ⟨rfl, trivial⟩ ?_
  refine tr_region ?_
  refine tr_p (y_move rfl) rfl rfl ?_
  obtain ⟨a1, e2, H⟩ := H
  refine tr_p (f_nn rfl e2) rfl rfl ?_
  refine tr_p (y_fa (off := 0) Try.runUnderlying59 fo_59_1 rfl) rfl rfl ?_
  refine tr_e (e_call Try.call55 rfl (F.internal_sync_Mutex_Unlock_ok H)) rfl rfl ?_
  rintro _ h3 ⟨rfl, H⟩
  refine tr_nil ?_
  exact tr_end0 rfl ⟨rfl, H⟩
theorem F.sync_Mutex_Unlock_dok {p0 : Option Addr} {h : H} {Q : H → Prop} (H : F.sync_Mutex_Unlock p0 h Q) : DFn PP 44 ([(.pointer p0)] : List Value).toArray h fun r h' => r = .tuple #[] ∧ Q  h' := by
  unfold F.sync_Mutex_Unlock at H
  refine dfn_of Try.func44 Try.ntmps44 rfl rfl fun w0 => ?_
  refine tr_sub [(0, (.pointer p0))] ⟨rfl, trivial⟩ ?_
  refine tr_region ?_
  refine tr_p (y_move rfl) rfl rfl ?_
  obtain ⟨a1, e2, H⟩ := H
  refine tr_p (f_nn rfl e2) rfl rfl ?_
  refine tr_p (y_fa (off := 0) Try.runUnderlying59 fo_59_1 rfl) rfl rfl ?_
  refine tr_e (e_call Try.call55 rfl (F.internal_sync_Mutex_Unlock_ok H)) rfl rfl ?_
  rintro _ h3 ⟨rfl, H⟩
  refine tr_nil ?_
  exact tr_end0 rfl ⟨rfl, H⟩

/-- (*spate/epoch.Book).guard -/
def F.epoch_Book_guard (p0 : Option Addr) (h : H) (Q : Value → H → Prop) : Prop :=
  nn p0 fun a1 =>
  F.sync_Mutex_Lock (some (a1.add 0)) h fun h3 =>
  nn p0 fun a4 =>
  Q (.func (.func 44) #[(.pointer (some (a4.add 0)))] #[]) h3
theorem F.epoch_Book_guard_ok {p0 : Option Addr} {h : H} {Q : Value → H → Prop} (H : F.epoch_Book_guard p0 h Q) : Fn PP 28 ([(.pointer p0)] : List Value).toArray h fun r h' => ∃ r0, r = r0 ∧ Q r0 h' := by
  unfold F.epoch_Book_guard at H
  refine fn_of Try.func28 Try.ntmps28 rfl rfl fun w0 => ?_
  refine tr_sub [(0, (.pointer p0))] ⟨rfl, trivial⟩ ?_
  refine tr_seq ?_
  refine tr_region ?_
  refine tr_p (y_assign rfl) rfl rfl ?_
  refine tr_nil ?_
  refine tr_thenN ?_
  refine tr_seq ?_
  refine tr_region ?_
  refine tr_p (y_move rfl) rfl rfl ?_
  obtain ⟨a1, e2, H⟩ := H
  refine tr_p (f_nn rfl e2) rfl rfl ?_
  refine tr_p (y_fa (off := 0) Try.runUnderlying65 fo_65_0 rfl) rfl rfl ?_
  refine tr_e (e_call Try.call43 rfl (F.sync_Mutex_Lock_ok H)) rfl rfl ?_
  rintro _ h3 ⟨rfl, H⟩
  refine tr_nil ?_
  refine tr_thenN ?_
  refine tr_seq ?_
  refine tr_region ?_
  refine tr_p (y_move rfl) rfl rfl ?_
  obtain ⟨a4, e5, H⟩ := H
  refine tr_p (f_nn rfl e5) rfl rfl ?_
  refine tr_p (y_fa (off := 0) Try.runUnderlying65 fo_65_0 rfl) rfl rfl ?_
  refine tr_p (y_fn rfl rfl) rfl rfl ?_
  refine tr_p (y_assign rfl) rfl rfl ?_
  refine tr_nil ?_
  refine tr_thenN ?_
  refine tr_ret ?_
  exact tr_ret1 rfl rfl ⟨_, rfl, H⟩

/-- spate/epoch.is -/
def F.epoch_is (p0 : Int) (h : H) (Q : Bool → H → Prop) : Prop :=
  ((decide (p0 ≥ 1)) = true →
  Q (decide (p0 ≤ 64)) h) ∧
  ((decide (p0 ≥ 1)) = false →
  Q false h)
theorem F.epoch_is_ok {p0 : Int} {h : H} {Q : Bool → H → Prop} (H : F.epoch_is p0 h Q) : Fn PP 37 ([(.int .i64 p0)] : List Value).toArray h fun r h' => ∃ r0, r = (.bool r0) ∧ Q r0 h' := by
  unfold F.epoch_is at H
  refine fn_of Try.func37 Try.ntmps37 rfl rfl fun w0 => ?_
  refine tr_sub [(0, (.int .i64 p0))] ⟨rfl, trivial⟩ ?_
  refine tr_seq ?_
  refine tr_region ?_
  refine tr_p (y_assign rfl) rfl rfl ?_
  refine tr_nil ?_
  refine tr_thenN ?_
  refine tr_seq ?_
  refine tr_region ?_
  refine tr_p (y_move rfl) rfl rfl ?_
  refine tr_p (y_geq rfl rfl) rfl rfl ?_
  refine tr_p (y_move rfl) rfl rfl ?_
  refine tr_split (t := 5) rfl (fun g1 => ?_) (fun g1 => ?_)
  · replace H := H.1 g1
    refine tr_p (y_move rfl) rfl rfl ?_
    refine tr_p (y_leq rfl rfl) rfl rfl ?_
    refine tr_p (y_pick_t rfl rfl) rfl rfl ?_
    refine tr_p (y_assign rfl) rfl rfl ?_
    refine tr_nil ?_
    refine tr_thenN ?_
    refine tr_ret ?_
    exact tr_ret1 rfl rfl ⟨_, rfl, H⟩
  · replace H := H.2 g1
    refine tr_s rfl rfl ?_
    refine tr_s rfl rfl ?_
    refine tr_p (y_pick_f rfl rfl) rfl rfl ?_
    refine tr_p (y_assign rfl) rfl rfl ?_
    refine tr_nil ?_
    refine tr_thenN ?_
    refine tr_ret ?_
    exact tr_ret1 rfl rfl ⟨_, rfl, H⟩

/-- (*spate/epoch.Book).Seal -/
def F.epoch_Book_Seal (p0 : Option Addr) (p1 : Int) (h : H) (Q : Int → Int → H → Prop) : Prop :=
  F.epoch_Book_guard p0 h fun r2 h1 =>
  fnV r2 fun f_1 fi_1 ca_1 =>
  F.epoch_is p1 h1 fun r5 h4 =>
  ((!r5) = true →
  dcall PP f_1 ((fi_1 ++ ([] : List Value).toArray) ++ ca_1) h4 fun h7 =>
  Q 0 1 h7) ∧
  ((!r5) = false →
  nn p0 fun a8 =>
  (0 ≤ (p1 : Int) ∧ p1 < 65) ∧
  ldM h4 (((a8.add 4).add ((p1 : Int).toNat * 2)).add 0) fun y11 =>
  nn p0 fun a13 =>
  ldI .i64 h4 (a13.add 2) fun y15 =>
  RunS PP (Builtin.len_ #[60] 3 #[(.map y11)]) h4 fun u h17 => ∃ s18 : Int, u = (.int .i64 s18) ∧
  cellH h17 (a13.add 2) = some (.int .i64 y15) ∧
  (((s18 == y15)) = true →
  dcall PP f_1 ((fi_1 ++ ([] : List Value).toArray) ++ ca_1) h17 fun h21 =>
  Q 0 34 h21) ∧
  (((s18 == y15)) = false →
  nn p0 fun a22 =>
  ldI .i64 h17 (a22.add 3) fun y24 =>
  (((y24 == 1099511627776)) = true →
  dcall PP f_1 ((fi_1 ++ ([] : List Value).toArray) ++ ca_1) h17 fun h27 =>
  Q 0 2 h27) ∧
  (((y24 == 1099511627776)) = false →
  nn p0 fun a28 =>
  (0 ≤ (p1 : Int) ∧ p1 < 65) ∧
  ldM h17 (((a28.add 4).add ((p1 : Int).toNat * 2)).add 0) fun y31 =>
  nn p0 fun a33 =>
  ldI .i64 h17 (a33.add 3) fun y35 =>
  RunS PP (Instr.mapUpdate 60 (.map y31) (.int .i64 y35) (.agg (⟨⟩ : S_sync_noCopy).cells.toArray)) h17 fun _ h37 =>
  nn p0 fun a38 =>
  ldI .i64 h37 (a38.add 3) fun y40 =>
  nn p0 fun a42 =>
  stH h37 (a42.add 3) [(.int .i64 (IntKind.wrap .i64 (y40 + 1)))] fun h44 =>
  nn p0 fun a45 =>
  ldI .i64 h44 (a45.add 3) fun y47 =>
  dcall PP f_1 ((fi_1 ++ ([] : List Value).toArray) ++ ca_1) h44 fun h49 =>
  Q (IntKind.wrap .i64 (y47 - 1)) 0 h49)))
theorem F.epoch_Book_Seal_ok {p0 : Option Addr} {p1 : Int} {h : H} {Q : Int → Int → H → Prop} (H : F.epoch_Book_Seal p0 p1 h Q) : Fn PP 22 ([(.pointer p0), (.int .i64 p1)] : List Value).toArray h fun r h' => ∃ r0 r1, r = .tuple #[(.int .i64 r0), (.int .i64 r1)] ∧ Q r0 r1 h' := by
  unfold F.epoch_Book_Seal at H
  refine fn_ofM Try.func22 Try.ntmps22 rfl rfl fun w0 => ?_
  refine tr_sub [(0, (.pointer p0)), (1, (.int .i64 p1))] ⟨rfl, rfl, trivial⟩ ?_
  refine tr_seq ?_
  refine tr_region ?_
  refine tr_p (y_assign rfl) rfl rfl ?_
  refine tr_p (y_assign rfl) rfl rfl ?_
  refine tr_nil ?_
  refine tr_thenN ?_
  refine tr_seq ?_
  refine tr_region ?_
  refine tr_p (y_move rfl) rfl rfl ?_
  refine tr_e (e_call Try.call28 rfl (F.epoch_Book_guard_ok H)) rfl rfl ?_
  rintro r2 h1 ⟨_, rfl, H⟩
  obtain ⟨f_1, fi_1, ca_1, e3, H⟩ := H
  subst e3
  refine tr_defer rfl rfl rfl ?_
  refine tr_nil ?_
  refine tr_thenN ?_
  refine tr_seq ?_
  refine tr_block ?_
  refine tr_seq ?_
  refine tr_region ?_
  refine tr_p (y_move rfl) rfl rfl ?_
  refine tr_e (e_call Try.call37 rfl (F.epoch_is_ok H)) rfl rfl ?_
  rintro _ h4 ⟨r5, rfl, H⟩
  refine tr_p (y_not rfl) rfl rfl ?_
  refine tr_p (y_assign rfl) rfl rfl ?_
  refine tr_nil ?_
  refine tr_thenN ?_
  refine tr_cond rfl (fun g6 => ?_) (fun g6 => ?_)
  · replace H := H.1 g6
    refine tr_seq ?_
    refine tr_region ?_
    refine tr_p (y_assign rfl) rfl rfl ?_
    refine tr_p (y_assign rfl) rfl rfl ?_
    refine tr_nil ?_
    refine tr_thenN ?_
    refine tr_ret ?_
    refine tr_blockR ?_
    refine tr_thenR ?_
    refine tr_dcall H fun h7 H => ?_
    refine tr_pm0 ?_
    exact tr_ret2 rfl rfl rfl ⟨_, _, rfl, H⟩
  · replace H := H.2 g6
    refine tr_seq ?_
    refine tr_draw mixed [0, 0, 1, 5, 15, 31, 63, 127, 0, 256, 768, 1792, 4095, 8191] (by kernel_rfl) ?_
    refine g_p 0 1 rfl (by kernel_rfl) (y_move rfl) rfl rfl ?_
    refine g_p 1 3 rfl (by kernel_rfl) (y_move rfl) rfl rfl ?_
    obtain ⟨a8, e9, H⟩ := H
    refine g_p 2 7 rfl (by kernel_rfl) (f_nn rfl e9) rfl rfl ?_
    refine g_p 3 15 rfl (by kernel_rfl) (y_fa (off := 4) Try.runUnderlying65 fo_65_3 rfl) rfl rfl ?_
    obtain ⟨e10, H⟩ := H
    refine g_p 4 31 rfl (by kernel_rfl) (f_idxArr Try.runUnderlying63 Try.sizeOf62 rfl rfl e10) rfl rfl ?_
    refine g_p 5 63 rfl (by kernel_rfl) (y_fa (off := 0) Try.runUnderlying62 fo_62_0 rfl) rfl rfl ?_
    obtain ⟨y11, k12, H⟩ := H
    refine g_h 6 127 rfl (by kernel_rfl) (y_ld Try.isAgg60 rfl) k12 rfl rfl ?_
    refine g_p 8 383 rfl (by kernel_rfl) (y_move rfl) rfl rfl ?_
    obtain ⟨a13, e14, H⟩ := H
    refine g_p 9 895 rfl (by kernel_rfl) (f_nn rfl e14) rfl rfl ?_
    refine g_p 10 1919 rfl (by kernel_rfl) (y_fa (off := 2) Try.runUnderlying65 fo_65_1 rfl) rfl rfl ?_
    obtain ⟨y15, k16, H⟩ := H
    refine g_h 11 3967 rfl (by kernel_rfl) (y_ld Try.isAgg3 rfl) k16 rfl rfl ?_
    refine g_e 7 4095 [(11, fun h => cellH h (a13.add 2) = some (.int .i64 y15))] (by kernel_rfl) rfl (by kernel_rfl) (f_lenM rfl H) rfl rfl ?_
    rintro _ h17 ⟨s18, rfl, H⟩
    obtain ⟨k19, H⟩ := H
    refine ⟨And.intro k19 trivial, ?_⟩
    refine g_p 12 8191 rfl (by kernel_rfl) (y_eql rfl rfl) rfl rfl ?_
    refine g_p 13 16383 rfl (by kernel_rfl) (y_assign rfl) rfl rfl ?_
    refine g_d (by kernel_rfl) ?_
    refine tr_thenN ?_
    refine tr_cond rfl (fun g20 => ?_) (fun g20 => ?_)
    · replace H := H.1 g20
      refine tr_seq ?_
      refine tr_region ?_
      refine tr_p (y_assign rfl) rfl rfl ?_
      refine tr_p (y_assign rfl) rfl rfl ?_
      refine tr_nil ?_
      refine tr_thenN ?_
      refine tr_ret ?_
      refine tr_blockR ?_
      refine tr_thenR ?_
      refine tr_dcall H fun h21 H => ?_
      refine tr_pm0 ?_
      exact tr_ret2 rfl rfl rfl ⟨_, _, rfl, H⟩
    · replace H := H.2 g20
      refine tr_seq ?_
      refine tr_region ?_
      refine tr_p (y_move rfl) rfl rfl ?_
      obtain ⟨a22, e23, H⟩ := H
      refine tr_p (f_nn rfl e23) rfl rfl ?_
      refine tr_p (y_fa (off := 3) Try.runUnderlying65 fo_65_2 rfl) rfl rfl ?_
      obtain ⟨y24, k25, H⟩ := H
      refine tr_h (y_ld Try.isAgg3 rfl) k25 rfl rfl ?_
      refine tr_p (y_eql rfl rfl) rfl rfl ?_
      refine tr_p (y_assign rfl) rfl rfl ?_
      refine tr_nil ?_
      refine tr_thenN ?_
      refine tr_cond rfl (fun g26 => ?_) (fun g26 => ?_)
      · replace H := H.1 g26
        refine tr_seq ?_
        refine tr_region ?_
        refine tr_p (y_assign rfl) rfl rfl ?_
        refine tr_p (y_assign rfl) rfl rfl ?_
        refine tr_nil ?_
        refine tr_thenN ?_
        refine tr_ret ?_
        refine tr_blockR ?_
        refine tr_thenR ?_
        refine tr_dcall H fun h27 H => ?_
        refine tr_pm0 ?_
        exact tr_ret2 rfl rfl rfl ⟨_, _, rfl, H⟩
      · replace H := H.2 g26
        refine tr_skip ?_
        refine tr_blockN ?_
        refine tr_thenN ?_
        refine tr_seq ?_
        refine tr_draw mixed [0, 0, 1, 5, 15, 31, 63, 0, 128, 384, 896, 0, 4095] (by kernel_rfl) ?_
        refine g_p 0 1 rfl (by kernel_rfl) (y_move rfl) rfl rfl ?_
        refine g_p 1 3 rfl (by kernel_rfl) (y_move rfl) rfl rfl ?_
        obtain ⟨a28, e29, H⟩ := H
        refine g_p 2 7 rfl (by kernel_rfl) (f_nn rfl e29) rfl rfl ?_
        refine g_p 3 15 rfl (by kernel_rfl) (y_fa (off := 4) Try.runUnderlying65 fo_65_3 rfl) rfl rfl ?_
        obtain ⟨e30, H⟩ := H
        refine g_p 4 31 rfl (by kernel_rfl) (f_idxArr Try.runUnderlying63 Try.sizeOf62 rfl rfl e30) rfl rfl ?_
        refine g_p 5 63 rfl (by kernel_rfl) (y_fa (off := 0) Try.runUnderlying62 fo_62_0 rfl) rfl rfl ?_
        obtain ⟨y31, k32, H⟩ := H
        refine g_h 6 127 rfl (by kernel_rfl) (y_ld Try.isAgg60 rfl) k32 rfl rfl ?_
        refine g_p 7 255 rfl (by kernel_rfl) (y_move rfl) rfl rfl ?_
        obtain ⟨a33, e34, H⟩ := H
        refine g_p 8 511 rfl (by kernel_rfl) (f_nn rfl e34) rfl rfl ?_
        refine g_p 9 1023 rfl (by kernel_rfl) (y_fa (off := 3) Try.runUnderlying65 fo_65_2 rfl) rfl rfl ?_
        obtain ⟨y35, k36, H⟩ := H
        refine g_h 10 2047 rfl (by kernel_rfl) (y_ld Try.isAgg3 rfl) k36 rfl rfl ?_
        refine g_p 11 4095 rfl (by kernel_rfl) (f_build rfl (bd_53_ )) rfl rfl ?_
        refine g_e 12 8191 [] (by kernel_rfl) rfl (by kernel_rfl) (f_mu rfl rfl rfl H) rfl rfl ?_
        rintro _ h37 ⟨rfl, H⟩
        refine ⟨trivial, ?_⟩
        refine g_d (by kernel_rfl) ?_
        refine tr_thenN ?_
        refine tr_seq ?_
        refine tr_region ?_
        refine tr_p (y_move rfl) rfl rfl ?_
        obtain ⟨a38, e39, H⟩ := H
        refine tr_p (f_nn rfl e39) rfl rfl ?_
        refine tr_p (y_fa (off := 3) Try.runUnderlying65 fo_65_2 rfl) rfl rfl ?_
        obtain ⟨y40, k41, H⟩ := H
        refine tr_h (y_ld Try.isAgg3 rfl) k41 rfl rfl ?_
        refine tr_p (y_add rfl rfl) rfl rfl ?_
        obtain ⟨a42, e43, H⟩ := H
        refine tr_p (f_nn rfl e43) rfl rfl ?_
        refine tr_p (y_fa (off := 3) Try.runUnderlying65 fo_65_2 rfl) rfl rfl ?_
        refine tr_e (f_store (vs := [(.int .i64 (IntKind.wrap .i64 (y40 + 1)))]) Try.sizeOf3 rfl rfl rfl rfl (one1 rfl) H) rfl rfl ?_
        rintro _ h44 ⟨rfl, H⟩
        refine tr_nil ?_
        refine tr_thenN ?_
        refine tr_seq ?_
        refine tr_region ?_
        refine tr_p (y_move rfl) rfl rfl ?_
        obtain ⟨a45, e46, H⟩ := H
        refine tr_p (f_nn rfl e46) rfl rfl ?_
        refine tr_p (y_fa (off := 3) Try.runUnderlying65 fo_65_2 rfl) rfl rfl ?_
        obtain ⟨y47, k48, H⟩ := H
        refine tr_h (y_ld Try.isAgg3 rfl) k48 rfl rfl ?_
        refine tr_p (y_sub rfl rfl) rfl rfl ?_
        refine tr_p (y_assign rfl) rfl rfl ?_
        refine tr_p (y_assign rfl) rfl rfl ?_
        refine tr_nil ?_
        refine tr_thenN ?_
        refine tr_ret ?_
        refine tr_dcall H fun h49 H => ?_
        refine tr_pm0 ?_
        exact tr_ret2 rfl rfl rfl ⟨_, _, rfl, H⟩

def F.maps_DeleteFunc_map_int_int_int_int.l1 (Q : H → Prop) : Nat → (Option Nat) → Value → Addr → H → Prop
  | 0, _, _, _, _ => False
  | q1 + 1, x0, x1, x7, h =>
    RunS PP (Instr.next (.pointer (some x7)) false 0) h fun u h3 => ∃ (b4 : Bool) (t5 : Array Value), u = (.tuple (#[.bool b4] ++ t5)) ∧
    (b4 = true →
    RunS PP (Instr.entry (.pointer (some x7))) h3 fun u h7 => ∃ (r8 : Int) (r9 : Int), u = (.tuple #[(.int .i64 r8), (.int .i64 r9)]) ∧
    CV PP x1 [(.int .i64 r8), (.int .i64 r9)] h7 fun u h10 => ∃ (r11 : Bool), u = (.bool r11) ∧
    (r11 = true →
    RunS PP (Builtin.delete_ #[28, 3] 0 #[(.map x0), (.int .i64 r8)]) h10 fun u h13 => u = (.tuple #[]) ∧
    (F.maps_DeleteFunc_map_int_int_int_int.l1 Q q1) x0 x1 x7 h13) ∧
    (r11 = false →
    (F.maps_DeleteFunc_map_int_int_int_int.l1 Q q1) x0 x1 x7 h10)) ∧
    (b4 = false →
    Q h3)
/-- maps.DeleteFunc[map[int]int,int,int] -/
def F.maps_DeleteFunc_map_int_int_int_int (p0 : Option Nat) (p1 : Value) (h : H) (Q : H → Prop) : Prop :=
  RunS PP (Instr.range 28 (.map p0)) h fun u h1 => ∃ a2 : Addr, u = (.pointer (some a2)) ∧
  ∃ m, F.maps_DeleteFunc_map_int_int_int_int.l1 Q m p0 p1 a2 h1
theorem F.maps_DeleteFunc_map_int_int_int_int_ok {p0 : Option Nat} {p1 : Value} {h : H} {Q : H → Prop} (H : F.maps_DeleteFunc_map_int_int_int_int p0 p1 h Q) : Fn PP 41 ([(.map p0), p1] : List Value).toArray h fun r h' => r = .tuple #[] ∧ Q  h' := by
  unfold F.maps_DeleteFunc_map_int_int_int_int at H
  refine fn_of Try.func41 Try.ntmps41 rfl rfl fun w0 => ?_
  refine tr_sub [(0, (.map p0)), (1, p1)] ⟨rfl, rfl, trivial⟩ ?_
  refine tr_seq ?_
  refine tr_region ?_
  refine tr_p (y_move rfl) rfl rfl ?_
  refine tr_e (f_rg rfl H) rfl rfl ?_
  rintro _ h1 ⟨a2, rfl, H⟩
  refine tr_nil ?_
  refine tr_thenN ?_
  refine tr_block ?_
  obtain ⟨m15, H⟩ := H
  refine tr_sub [(0, (.map p0)), (1, p1), (7, (.pointer (some a2)))] ⟨rfl, rfl, rfl, trivial⟩ ?_
  refine tr_loop_j (fun m L' h => ∃ (x0 : Option Nat) (x1 : Value) (x7 : Addr), L' = [(0, (.map x0)), (1, x1), (7, (.pointer (some x7)))] ∧ F.maps_DeleteFunc_map_int_int_int_int.l1 Q m x0 x1 x7 h) ?_ ?_ m15 ⟨_, _, _, rfl, H⟩
  · rintro L' h ⟨_, _, _, _, H⟩; exact H
  · rintro q1 L' h ⟨x0, x1, x7, rfl, H⟩
    unfold F.maps_DeleteFunc_map_int_int_int_int.l1 at H
    refine tr_seq ?_
    refine tr_region ?_
    refine tr_e (f_nx rfl H) rfl rfl ?_
    rintro _ h3 ⟨b4, t5, rfl, H⟩
    refine tr_p (y_ext0 (t := t5) rfl) rfl rfl ?_
    refine tr_nil ?_
    refine tr_thenN ?_
    refine tr_seq ?_
    refine tr_cond rfl (fun g6 => ?_) (fun g6 => ?_)
    · replace H := H.1 g6
      refine tr_skip ?_
      refine tr_thenN ?_
      refine tr_block ?_
      refine tr_seq ?_
      refine tr_region ?_
      refine tr_e (f_en rfl H) rfl rfl ?_
      rintro _ h7 ⟨r8, r9, rfl, H⟩
      refine tr_p (y_ext rfl rfl) rfl rfl ?_
      refine tr_p (y_ext rfl rfl) rfl rfl ?_
      refine tr_p (y_assign rfl) rfl rfl ?_
      refine tr_p (y_assign rfl) rfl rfl ?_
      refine tr_nil ?_
      refine tr_thenN ?_
      refine tr_seq ?_
      refine tr_region ?_
      refine tr_p (y_move rfl) rfl rfl ?_
      refine tr_p (y_move rfl) rfl rfl ?_
      refine tr_p (y_move rfl) rfl rfl ?_
      refine tr_e (e_callD rfl rfl H) rfl rfl ?_
      rintro _ h10 ⟨r11, rfl, H⟩
      refine tr_nil ?_
      refine tr_thenN ?_
      refine tr_cond rfl (fun g12 => ?_) (fun g12 => ?_)
      · replace H := H.1 g12
        refine tr_region ?_
        refine tr_p (y_move rfl) rfl rfl ?_
        refine tr_p (y_move rfl) rfl rfl ?_
        refine tr_e (f_del rfl H) rfl rfl ?_
        rintro _ h13 ⟨rfl, H⟩
        refine tr_nil ?_
        refine tr_blockN ?_
        refine tr_thenN ?_
        exact tr_join [(0, (.map x0)), (1, x1), (7, (.pointer (some x7)))] ⟨rfl, rfl, rfl, trivial⟩ ⟨_, _, _, rfl, H⟩
      · replace H := H.2 g12
        refine tr_skip ?_
        refine tr_blockN ?_
        refine tr_thenN ?_
        exact tr_join [(0, (.map x0)), (1, x1), (7, (.pointer (some x7)))] ⟨rfl, rfl, rfl, trivial⟩ ⟨_, _, _, rfl, H⟩
    · replace H := H.2 g6
      refine tr_exit ?_
      refine tr_thenE ?_
      refine tr_thenE ?_
      refine tr_hit ?_
      exact tr_end0 rfl ⟨rfl, H⟩

/-- (*spate/epoch.Book).End$1 -/
def F.epoch_Book_End_1 (p0 : Int) (p1 : Int) (h : H) (Q : Bool → H → Prop) : Prop :=
  Q ((p1 == 1)) h
theorem F.epoch_Book_End_1_ok {p0 : Int} {p1 : Int} {h : H} {Q : Bool → H → Prop} (H : F.epoch_Book_End_1 p0 p1 h Q) : Fn PP 42 ([(.int .i64 p0), (.int .i64 p1)] : List Value).toArray h fun r h' => ∃ r0, r = (.bool r0) ∧ Q r0 h' := by
  unfold F.epoch_Book_End_1 at H
  refine fn_of Try.func42 Try.ntmps42 rfl rfl fun w0 => ?_
  refine tr_sub [(0, (.int .i64 p0)), (1, (.int .i64 p1))] ⟨rfl, rfl, trivial⟩ ?_
  refine tr_seq ?_
  refine tr_region ?_
  refine tr_p (y_assign rfl) rfl rfl ?_
  refine tr_nil ?_
  refine tr_thenN ?_
  refine tr_seq ?_
  refine tr_region ?_
  refine tr_p (y_move rfl) rfl rfl ?_
  refine tr_p (y_eql rfl rfl) rfl rfl ?_
  refine tr_p (y_assign rfl) rfl rfl ?_
  refine tr_nil ?_
  refine tr_thenN ?_
  refine tr_ret ?_
  exact tr_ret1 rfl rfl ⟨_, rfl, H⟩

/-- (*spate/epoch.Book).End -/
def F.epoch_Book_End (p0 : Option Addr) (h : H) (Q : Int → Int → H → Prop) : Prop :=
  F.epoch_Book_guard p0 h fun r2 h1 =>
  fnV r2 fun f_1 fi_1 ca_1 =>
  nn p0 fun a4 =>
  ldB h1 (a4.add 135) fun y6 =>
  ((!y6) = true →
  dcall PP f_1 ((fi_1 ++ ([] : List Value).toArray) ++ ca_1) h1 fun h9 =>
  Q 0 44 h9) ∧
  ((!y6) = false →
  nn p0 fun a10 =>
  stH h1 (a10.add 135) [(.bool false)] fun h12 =>
  nn p0 fun a13 =>
  ldM h12 (a13.add 134) fun y15 =>
  RunS PP (Builtin.len_ #[28] 3 #[(.map y15)]) h12 fun u h17 => ∃ s18 : Int, u = (.int .i64 s18) ∧
  nn p0 fun a19 =>
  ldM h17 (a19.add 134) fun y21 =>
  F.maps_DeleteFunc_map_int_int_int_int y21 (.func (.func 42) #[] #[]) h17 fun h23 =>
  nn p0 fun a24 =>
  ldM h23 (a24.add 134) fun y26 =>
  RunS PP (Builtin.len_ #[28] 3 #[(.map y26)]) h23 fun u h28 => ∃ s29 : Int, u = (.int .i64 s29) ∧
  dcall PP f_1 ((fi_1 ++ ([] : List Value).toArray) ++ ca_1) h28 fun h30 =>
  Q (IntKind.wrap .i64 (s18 - s29)) 0 h30)
theorem F.epoch_Book_End_ok {p0 : Option Addr} {h : H} {Q : Int → Int → H → Prop} (H : F.epoch_Book_End p0 h Q) : Fn PP 27 ([(.pointer p0)] : List Value).toArray h fun r h' => ∃ r0 r1, r = .tuple #[(.int .i64 r0), (.int .i64 r1)] ∧ Q r0 r1 h' := by
  unfold F.epoch_Book_End at H
  refine fn_ofM Try.func27 Try.ntmps27 rfl rfl fun w0 => ?_
  refine tr_sub [(0, (.pointer p0))] ⟨rfl, trivial⟩ ?_
  refine tr_seq ?_
  refine tr_region ?_
  refine tr_p (y_assign rfl) rfl rfl ?_
  refine tr_p (y_assign rfl) rfl rfl ?_
  refine tr_nil ?_
  refine tr_thenN ?_
  refine tr_seq ?_
  refine tr_region ?_
  refine tr_p (y_move rfl) rfl rfl ?_
  refine tr_e (e_call Try.call28 rfl (F.epoch_Book_guard_ok H)) rfl rfl ?_
  rintro r2 h1 ⟨_, rfl, H⟩
  obtain ⟨f_1, fi_1, ca_1, e3, H⟩ := H
  subst e3
  refine tr_defer rfl rfl rfl ?_
  refine tr_nil ?_
  refine tr_thenN ?_
  refine tr_seq ?_
  refine tr_seq ?_
  refine tr_region ?_
  refine tr_p (y_move rfl) rfl rfl ?_
  obtain ⟨a4, e5, H⟩ := H
  refine tr_p (f_nn rfl e5) rfl rfl ?_
  refine tr_p (y_fa (off := 135) Try.runUnderlying65 fo_65_5 rfl) rfl rfl ?_
  obtain ⟨y6, k7, H⟩ := H
  refine tr_h (y_ld Try.isAgg4 rfl) k7 rfl rfl ?_
  refine tr_p (y_not rfl) rfl rfl ?_
  refine tr_nil ?_
  refine tr_thenN ?_
  refine tr_cond rfl (fun g8 => ?_) (fun g8 => ?_)
  · replace H := H.1 g8
    refine tr_seq ?_
    refine tr_region ?_
    refine tr_p (y_assign rfl) rfl rfl ?_
    refine tr_p (y_assign rfl) rfl rfl ?_
    refine tr_nil ?_
    refine tr_thenN ?_
    refine tr_ret ?_
    refine tr_thenR ?_
    refine tr_dcall H fun h9 H => ?_
    refine tr_pm0 ?_
    exact tr_ret2 rfl rfl rfl ⟨_, _, rfl, H⟩
  · replace H := H.2 g8
    refine tr_skip ?_
    refine tr_thenN ?_
    refine tr_seq ?_
    refine tr_region ?_
    refine tr_p (y_move rfl) rfl rfl ?_
    obtain ⟨a10, e11, H⟩ := H
    refine tr_p (f_nn rfl e11) rfl rfl ?_
    refine tr_p (y_fa (off := 135) Try.runUnderlying65 fo_65_5 rfl) rfl rfl ?_
    refine tr_e (f_store (vs := [(.bool false)]) Try.sizeOf4 rfl rfl rfl rfl (one1 rfl) H) rfl rfl ?_
    rintro _ h12 ⟨rfl, H⟩
    refine tr_nil ?_
    refine tr_thenN ?_
    refine tr_seq ?_
    refine tr_region ?_
    refine tr_p (y_move rfl) rfl rfl ?_
    obtain ⟨a13, e14, H⟩ := H
    refine tr_p (f_nn rfl e14) rfl rfl ?_
    refine tr_p (y_fa (off := 134) Try.runUnderlying65 fo_65_4 rfl) rfl rfl ?_
    obtain ⟨y15, k16, H⟩ := H
    refine tr_h (y_ld Try.isAgg28 rfl) k16 rfl rfl ?_
    refine tr_e (f_lenM rfl H) rfl rfl ?_
    rintro _ h17 ⟨s18, rfl, H⟩
    refine tr_p (y_assign rfl) rfl rfl ?_
    refine tr_nil ?_
    refine tr_thenN ?_
    refine tr_seq ?_
    refine tr_region ?_
    refine tr_p (y_move rfl) rfl rfl ?_
    obtain ⟨a19, e20, H⟩ := H
    refine tr_p (f_nn rfl e20) rfl rfl ?_
    refine tr_p (y_fa (off := 134) Try.runUnderlying65 fo_65_4 rfl) rfl rfl ?_
    obtain ⟨y21, k22, H⟩ := H
    refine tr_h (y_ld Try.isAgg28 rfl) k22 rfl rfl ?_
    refine tr_e (e_call Try.call41 rfl (F.maps_DeleteFunc_map_int_int_int_int_ok H)) rfl rfl ?_
    rintro _ h23 ⟨rfl, H⟩
    refine tr_nil ?_
    refine tr_thenN ?_
    refine tr_seq ?_
    refine tr_region ?_
    refine tr_p (y_move rfl) rfl rfl ?_
    refine tr_p (y_move rfl) rfl rfl ?_
    obtain ⟨a24, e25, H⟩ := H
    refine tr_p (f_nn rfl e25) rfl rfl ?_
    refine tr_p (y_fa (off := 134) Try.runUnderlying65 fo_65_4 rfl) rfl rfl ?_
    obtain ⟨y26, k27, H⟩ := H
    refine tr_h (y_ld Try.isAgg28 rfl) k27 rfl rfl ?_
    refine tr_e (f_lenM rfl H) rfl rfl ?_
    rintro _ h28 ⟨s29, rfl, H⟩
    refine tr_p (y_sub rfl rfl) rfl rfl ?_
    refine tr_p (y_assign rfl) rfl rfl ?_
    refine tr_p (y_assign rfl) rfl rfl ?_
    refine tr_nil ?_
    refine tr_thenN ?_
    refine tr_ret ?_
    refine tr_dcall H fun h30 H => ?_
    refine tr_pm0 ?_
    exact tr_ret2 rfl rfl rfl ⟨_, _, rfl, H⟩

def F.maps_Copy_map_int_struct_map_int_struct_int_struct.l1 (Q : H → Prop) : Nat → (Option Nat) → Addr → H → Prop
  | 0, _, _, _ => False
  | q1 + 1, x0, x7, h =>
    RunS PP (Instr.next (.pointer (some x7)) false 0) h fun u h3 => ∃ (b4 : Bool) (t5 : Array Value), u = (.tuple (#[.bool b4] ++ t5)) ∧
    (b4 = true →
    RunS PP (Instr.entry (.pointer (some x7))) h3 fun u h7 => ∃ (r8 : Int) (r9 : S_sync_noCopy), u = (.tuple #[(.int .i64 r8), (.agg r9.cells.toArray)]) ∧
    new h7 (((⟨⟩ : S_sync_noCopy) : S_sync_noCopy).cells.toArray) ty_53 fun a11 h10 =>
    stH h10 a11 r9.cells fun h12 =>
    ld_S_sync_noCopy h12 a11 fun y13 =>
    RunS PP (Instr.mapUpdate 60 (.map x0) (.int .i64 r8) (.agg y13.cells.toArray)) h12 fun _ h15 =>
    (F.maps_Copy_map_int_struct_map_int_struct_int_struct.l1 Q q1) x0 x7 h15) ∧
    (b4 = false →
    Q h3)
/-- maps.Copy[map[int]struct{},map[int]struct{},int,struct{}] -/
def F.maps_Copy_map_int_struct_map_int_struct_int_struct (p0 : Option Nat) (p1 : Option Nat) (h : H) (Q : H → Prop) : Prop :=
  RunS PP (Instr.range 60 (.map p1)) h fun u h1 => ∃ a2 : Addr, u = (.pointer (some a2)) ∧
  ∃ m, F.maps_Copy_map_int_struct_map_int_struct_int_struct.l1 Q m p0 a2 h1
theorem F.maps_Copy_map_int_struct_map_int_struct_int_struct_ok {p0 : Option Nat} {p1 : Option Nat} {h : H} {Q : H → Prop} (H : F.maps_Copy_map_int_struct_map_int_struct_int_struct p0 p1 h Q) : Fn PP 45 ([(.map p0), (.map p1)] : List Value).toArray h fun r h' => r = .tuple #[] ∧ Q  h' := by
  unfold F.maps_Copy_map_int_struct_map_int_struct_int_struct at H
  refine fn_of Try.func45 Try.ntmps45 rfl rfl fun w0 => ?_
  refine tr_sub [(0, (.map p0)), (1, (.map p1))] ⟨rfl, rfl, trivial⟩ ?_
  refine tr_seq ?_
  refine tr_region ?_
  refine tr_p (y_move rfl) rfl rfl ?_
  refine tr_e (f_rg rfl H) rfl rfl ?_
  rintro _ h1 ⟨a2, rfl, H⟩
  refine tr_nil ?_
  refine tr_thenN ?_
  refine tr_block ?_
  obtain ⟨m16, H⟩ := H
  refine tr_sub [(0, (.map p0)), (7, (.pointer (some a2)))] ⟨rfl, rfl, trivial⟩ ?_
  refine tr_loop_j (fun m L' h => ∃ (x0 : Option Nat) (x7 : Addr), L' = [(0, (.map x0)), (7, (.pointer (some x7)))] ∧ F.maps_Copy_map_int_struct_map_int_struct_int_struct.l1 Q m x0 x7 h) ?_ ?_ m16 ⟨_, _, rfl, H⟩
  · rintro L' h ⟨_, _, _, H⟩; exact H
  · rintro q1 L' h ⟨x0, x7, rfl, H⟩
    unfold F.maps_Copy_map_int_struct_map_int_struct_int_struct.l1 at H
    refine tr_seq ?_
    refine tr_region ?_
    refine tr_e (f_nx rfl H) rfl rfl ?_
    rintro _ h3 ⟨b4, t5, rfl, H⟩
    refine tr_p (y_ext0 (t := t5) rfl) rfl rfl ?_
    refine tr_nil ?_
    refine tr_thenN ?_
    refine tr_seq ?_
    refine tr_cond rfl (fun g6 => ?_) (fun g6 => ?_)
    · replace H := H.1 g6
      refine tr_skip ?_
      refine tr_thenN ?_
      refine tr_block ?_
      refine tr_seq ?_
      refine tr_region ?_
      refine tr_e (f_en rfl H) rfl rfl ?_
      rintro _ h7 ⟨r8, r9, rfl, H⟩
      refine tr_p (y_ext rfl rfl) rfl rfl ?_
      refine tr_p (y_ext rfl rfl) rfl rfl ?_
      refine tr_e (f_alloc (cs := ((⟨⟩ : S_sync_noCopy) : S_sync_noCopy).cells.toArray) Try.zeroValue53 rfl H) rfl rfl ?_
      rintro _ h10 ⟨a11, rfl, H⟩
      refine tr_p (y_assign rfl) rfl rfl ?_
      refine tr_e (f_store (vs := r9.cells) Try.sizeOf53 rfl rfl cellsOfStruct rfl (by intro v hv; exact ones_S_sync_noCopy _ v hv) H) rfl rfl ?_
      rintro _ h12 ⟨rfl, H⟩
      refine tr_nil ?_
      refine tr_thenN ?_
      refine tr_region ?_
      refine tr_p (y_move rfl) rfl rfl ?_
      refine tr_p (y_move rfl) rfl rfl ?_
      obtain ⟨y13, k14, H⟩ := H
      refine tr_h (y_ldS Try.isAgg53 Try.sizeOf53 rfl rfl) k14 rfl rfl ?_
      refine tr_e (f_mu rfl rfl rfl H) rfl rfl ?_
      rintro _ h15 ⟨rfl, H⟩
      refine tr_nil ?_
      refine tr_blockN ?_
      refine tr_thenN ?_
      exact tr_join [(0, (.map x0)), (7, (.pointer (some x7)))] ⟨rfl, rfl, trivial⟩ ⟨_, _, rfl, H⟩
    · replace H := H.2 g6
      refine tr_exit ?_
      refine tr_thenE ?_
      refine tr_thenE ?_
      refine tr_hit ?_
      exact tr_end0 rfl ⟨rfl, H⟩

def F.maps_Keys_map_int_struct_int_struct_1.l1 (Q : H → Prop) : Nat → Value → Addr → H → Prop
  | 0, _, _, _ => False
  | q1 + 1, x0, x5, h =>
    RunS PP (Instr.next (.pointer (some x5)) false 0) h fun u h5 => ∃ (b6 : Bool) (t7 : Array Value), u = (.tuple (#[.bool b6] ++ t7)) ∧
    (b6 = true →
    RunS PP (Instr.entry (.pointer (some x5))) h5 fun u h9 => ∃ (r10 : Int) (r11 : S_sync_noCopy), u = (.tuple #[(.int .i64 r10), (.agg r11.cells.toArray)]) ∧
    CV PP x0 [(.int .i64 r10)] h9 fun u h12 => ∃ (r13 : Bool), u = (.bool r13) ∧
    ((!r13) = true →
    Q h12) ∧
    ((!r13) = false →
    (F.maps_Keys_map_int_struct_int_struct_1.l1 Q q1) x0 x5 h12)) ∧
    (b6 = false →
    Q h5)
/-- maps.Keys[map[int]struct{},int,struct{}]$1 -/
def F.maps_Keys_map_int_struct_int_struct_1 (p0 : Value) (p1 : Addr) (h : H) (Q : H → Prop) : Prop :=
  ldM h p1 fun y1 =>
  RunS PP (Instr.range 60 (.map y1)) h fun u h3 => ∃ a4 : Addr, u = (.pointer (some a4)) ∧
  ∃ m, F.maps_Keys_map_int_struct_int_struct_1.l1 Q m p0 a4 h3
theorem F.maps_Keys_map_int_struct_int_struct_1_ok {p0 : Value} {p1 : Addr} {h : H} {Q : H → Prop} (H : F.maps_Keys_map_int_struct_int_struct_1 p0 p1 h Q) : Fn PP 56 ([p0, (.pointer (some p1))] : List Value).toArray h fun r h' => r = .tuple #[] ∧ Q  h' := by
  unfold F.maps_Keys_map_int_struct_int_struct_1 at H
  refine fn_of Try.func56 Try.ntmps56 rfl rfl fun w0 => ?_
  refine tr_sub [(0, p0), (1, (.pointer (some p1)))] ⟨rfl, rfl, trivial⟩ ?_
  refine tr_seq ?_
  refine tr_region ?_
  obtain ⟨y1, k2, H⟩ := H
  refine tr_h (y_ld Try.isAgg60 rfl) k2 rfl rfl ?_
  refine tr_e (f_rg rfl H) rfl rfl ?_
  rintro _ h3 ⟨a4, rfl, H⟩
  refine tr_nil ?_
  refine tr_thenN ?_
  refine tr_block ?_
  obtain ⟨m15, H⟩ := H
  refine tr_sub [(0, p0), (5, (.pointer (some a4)))] ⟨rfl, rfl, trivial⟩ ?_
  refine tr_loop_j (fun m L' h => ∃ (x0 : Value) (x5 : Addr), L' = [(0, x0), (5, (.pointer (some x5)))] ∧ F.maps_Keys_map_int_struct_int_struct_1.l1 Q m x0 x5 h) ?_ ?_ m15 ⟨_, _, rfl, H⟩
  · rintro L' h ⟨_, _, _, H⟩; exact H
  · rintro q1 L' h ⟨x0, x5, rfl, H⟩
    unfold F.maps_Keys_map_int_struct_int_struct_1.l1 at H
    refine tr_seq ?_
    refine tr_region ?_
    refine tr_e (f_nx rfl H) rfl rfl ?_
    rintro _ h5 ⟨b6, t7, rfl, H⟩
    refine tr_p (y_ext0 (t := t7) rfl) rfl rfl ?_
    refine tr_nil ?_
    refine tr_thenN ?_
    refine tr_seq ?_
    refine tr_cond rfl (fun g8 => ?_) (fun g8 => ?_)
    · replace H := H.1 g8
      refine tr_skip ?_
      refine tr_thenN ?_
      refine tr_block ?_
      refine tr_seq ?_
      refine tr_region ?_
      refine tr_e (f_en rfl H) rfl rfl ?_
      rintro _ h9 ⟨r10, r11, rfl, H⟩
      refine tr_p (y_ext rfl rfl) rfl rfl ?_
      refine tr_p (y_assign rfl) rfl rfl ?_
      refine tr_nil ?_
      refine tr_thenN ?_
      refine tr_seq ?_
      refine tr_region ?_
      refine tr_p (y_move rfl) rfl rfl ?_
      refine tr_p (y_move rfl) rfl rfl ?_
      refine tr_e (e_callD rfl rfl H) rfl rfl ?_
      rintro _ h12 ⟨r13, rfl, H⟩
      refine tr_p (y_not rfl) rfl rfl ?_
      refine tr_nil ?_
      refine tr_thenN ?_
      refine tr_cond rfl (fun g14 => ?_) (fun g14 => ?_)
      · replace H := H.1 g14
        refine tr_ret ?_
        refine tr_blockR ?_
        refine tr_thenR ?_
        refine tr_blockR ?_
        exact tr_ret0 rfl ⟨rfl, H⟩
      · replace H := H.2 g14
        refine tr_skip ?_
        refine tr_blockN ?_
        refine tr_thenN ?_
        exact tr_join [(0, x0), (5, (.pointer (some x5)))] ⟨rfl, rfl, trivial⟩ ⟨_, _, rfl, H⟩
    · replace H := H.2 g8
      refine tr_exit ?_
      refine tr_thenE ?_
      refine tr_thenE ?_
      refine tr_hit ?_
      exact tr_end0 rfl ⟨rfl, H⟩

/-- maps.Keys[map[int]struct{},int,struct{}] -/
def F.maps_Keys_map_int_struct_int_struct (p0 : Option Nat) (h : H) (Q : Value → H → Prop) : Prop :=
  new h #[(.map p0)] ty_60 fun a2 h1 =>
  Q (.func (.func 56) #[] #[(.pointer (some a2))]) h1
theorem F.maps_Keys_map_int_struct_int_struct_ok {p0 : Option Nat} {h : H} {Q : Value → H → Prop} (H : F.maps_Keys_map_int_struct_int_struct p0 h Q) : Fn PP 46 ([(.map p0)] : List Value).toArray h fun r h' => ∃ r0, r = r0 ∧ Q r0 h' := by
  unfold F.maps_Keys_map_int_struct_int_struct at H
  refine fn_of Try.func46 Try.ntmps46 rfl rfl fun w0 => ?_
  refine tr_sub [(0, (.map p0))] ⟨rfl, trivial⟩ ?_
  refine tr_seq ?_
  refine tr_region ?_
  refine tr_e (f_box (cs := #[(.map p0)]) rfl rfl H) rfl rfl ?_
  rintro _ h1 ⟨a2, rfl, H⟩
  refine tr_p (y_assign rfl) rfl rfl ?_
  refine tr_nil ?_
  refine tr_thenN ?_
  refine tr_seq ?_
  refine tr_region ?_
  refine tr_p (y_fn rfl rfl) rfl rfl ?_
  refine tr_p (y_assign rfl) rfl rfl ?_
  refine tr_nil ?_
  refine tr_thenN ?_
  refine tr_ret ?_
  exact tr_ret1 rfl rfl ⟨_, rfl, H⟩

/-- slices.AppendSeq[[]int,int] -/
def F.slices_AppendSeq_Slint_int (p0 : Sl) (p1 : Value) (h : H) (Q : Sl → H → Prop) : Prop :=
  new h #[p0.enc] ty_29 fun a2 h1 =>
  rng PP p1 h1 [] (fun bg1 l1 args h K1 J1 => ∃ (y1_7 : Int), args = [(.int .i64 y1_7)] ∧
    bg1 h fun h3 =>
    ldL h3 a2 fun y4 =>
    newL h3 #[(.int .i64 y1_7)] ty_3 1 fun s7 h6 =>
    runL PP (Builtin.append_ #[29, 29] 29 #[y4.enc, s7.enc]) h6 fun s9 h8 =>
    stH h8 a2 [s9.enc] fun h10 =>
    K1 h10) (fun h11 =>
    ldL h11 a2 fun y12 =>
    shuts (h1.size :: ([] : List Nat)) h11 fun h14 =>
    Q y12 h14) (fun jj h15 =>
    True)
theorem F.slices_AppendSeq_Slint_int_ok {p0 : Sl} {p1 : Value} {h : H} {Q : Sl → H → Prop} (H : F.slices_AppendSeq_Slint_int p0 p1 h Q) : Fn PP 57 ([p0.enc, p1] : List Value).toArray h fun r h' => ∃ r0, r = r0.enc ∧ Q r0 h' := by
  unfold F.slices_AppendSeq_Slint_int at H
  refine fn_ofM Try.func57 Try.ntmps57 rfl rfl fun w0 => ?_
  refine tr_sub [(0, p0.enc), (1, p1)] ⟨rfl, rfl, trivial⟩ ?_
  refine tr_seq ?_
  refine tr_region ?_
  refine tr_e (f_box (cs := #[p0.enc]) rfl rfl H) rfl rfl ?_
  rintro _ h1 ⟨a2, rfl, H⟩
  refine tr_p (y_assign rfl) rfl rfl ?_
  refine tr_nil ?_
  refine tr_thenN ?_
  refine tr_seq ?_
  refine tr_seq ?_
  refine tr_region ?_
  refine tr_p (y_move rfl) rfl rfl ?_
  refine tr_nil ?_
  refine tr_thenN ?_
  refine tr_block ?_
  refine tr_range rfl (by kernel_rfl) H ?_ ?_ ?_
  · intro bg1 l1 args h K1 J1 w1 hbg1 H
    obtain ⟨y1_7, rfl, H⟩ := H
    refine ⟨rfl, ?_⟩
    refine tr_sub [(0, p0.enc), (1, p1), (2, (.pointer (some a2))), (4, (⟨none, 0, 0⟩ : Sl).enc), (6, p1), (7, (.int .i64 y1_7))] ⟨rfl, rfl, rfl, rfl, rfl, rfl, trivial⟩ ?_
    refine tr_region ?_
    refine tr_p (y_assign rfl) rfl rfl ?_
    refine tr_nil ?_
    refine tr_thenN ?_
    refine tr_bgn hbg1 H fun h3 H => ?_
    refine tr_block ?_
    refine tr_region ?_
    obtain ⟨y4, k5, H⟩ := H
    refine tr_h (y_ld Try.isAgg29 rfl) k5 rfl rfl ?_
    refine tr_p (y_move rfl) rfl rfl ?_
    refine tr_e (f_buildL (cs := #[(.int .i64 y1_7)]) rfl rfl (bl_29_1_0 y1_7) H) rfl rfl ?_
    rintro _ h6 ⟨s7, rfl, H⟩
    refine tr_e (f_app rfl H) rfl rfl ?_
    rintro _ h8 ⟨s9, rfl, H⟩
    refine tr_e (f_store (vs := [s9.enc]) Try.sizeOf29 rfl rfl rfl rfl (one1 rfl) H) rfl rfl ?_
    rintro _ h10 ⟨rfl, H⟩
    refine tr_nil ?_
    refine tr_blockN ?_
    exact tr_rN H
  · intro h11 H
    refine tr_blockN ?_
    refine tr_thenN ?_
    refine tr_seq ?_
    refine tr_region ?_
    obtain ⟨y12, k13, H⟩ := H
    refine tr_h (y_ld Try.isAgg29 rfl) k13 rfl rfl ?_
    refine tr_p (y_assign rfl) rfl rfl ?_
    refine tr_nil ?_
    refine tr_thenN ?_
    refine tr_ret ?_
    refine tr_shut (h1.size :: ([] : List Nat)) rfl H fun h14 H => ?_
    exact tr_ret1 rfl rfl ⟨_, rfl, H⟩
  · intro jj c h15 hjc H
    simp at hjc

/-- slices.Collect[int] -/
def F.slices_Collect_int (p0 : Value) (h : H) (Q : Sl → H → Prop) : Prop :=
  F.slices_AppendSeq_Slint_int (⟨none, 0, 0⟩ : Sl) p0 h fun r2 h1 =>
  Q r2 h1
theorem F.slices_Collect_int_ok {p0 : Value} {h : H} {Q : Sl → H → Prop} (H : F.slices_Collect_int p0 h Q) : Fn PP 47 ([p0] : List Value).toArray h fun r h' => ∃ r0, r = r0.enc ∧ Q r0 h' := by
  unfold F.slices_Collect_int at H
  refine fn_of Try.func47 Try.ntmps47 rfl rfl fun w0 => ?_
  refine tr_sub [(0, p0)] ⟨rfl, trivial⟩ ?_
  refine tr_seq ?_
  refine tr_region ?_
  refine tr_p (y_assign rfl) rfl rfl ?_
  refine tr_nil ?_
  refine tr_thenN ?_
  refine tr_seq ?_
  refine tr_region ?_
  refine tr_p (y_move rfl) rfl rfl ?_
  refine tr_e (e_call Try.call57 rfl (F.slices_AppendSeq_Slint_int_ok H)) rfl rfl ?_
  rintro _ h1 ⟨r2, rfl, H⟩
  refine tr_p (y_assign rfl) rfl rfl ?_
  refine tr_nil ?_
  refine tr_thenN ?_
  refine tr_ret ?_
  exact tr_ret1 rfl rfl ⟨_, rfl, H⟩

/-- slices.Sorted[int] -/
def F.slices_Sorted_int (p0 : Value) (h : H) (Q : Sl → H → Prop) : Prop :=
  F.slices_Collect_int p0 h fun r2 h1 =>
  Fn PP 48 [r2.enc].toArray h1 fun u h3 => u = (.tuple #[]) ∧
  Q r2 h3
theorem F.slices_Sorted_int_ok {p0 : Value} {h : H} {Q : Sl → H → Prop} (H : F.slices_Sorted_int p0 h Q) : Fn PP 30 ([p0] : List Value).toArray h fun r h' => ∃ r0, r = r0.enc ∧ Q r0 h' := by
  unfold F.slices_Sorted_int at H
  refine fn_of Try.func30 Try.ntmps30 rfl rfl fun w0 => ?_
  refine tr_sub [(0, p0)] ⟨rfl, trivial⟩ ?_
  refine tr_seq ?_
  refine tr_region ?_
  refine tr_p (y_assign rfl) rfl rfl ?_
  refine tr_nil ?_
  refine tr_thenN ?_
  refine tr_seq ?_
  refine tr_region ?_
  refine tr_p (y_move rfl) rfl rfl ?_
  refine tr_e (e_call Try.call47 rfl (F.slices_Collect_int_ok H)) rfl rfl ?_
  rintro _ h1 ⟨r2, rfl, H⟩
  refine tr_p (y_assign rfl) rfl rfl ?_
  refine tr_nil ?_
  refine tr_thenN ?_
  refine tr_seq ?_
  refine tr_region ?_
  refine tr_p (y_move rfl) rfl rfl ?_
  refine tr_e (e_call Try.call48 rfl H) rfl rfl ?_
  rintro _ h3 ⟨rfl, H⟩
  refine tr_nil ?_
  refine tr_thenN ?_
  refine tr_seq ?_
  refine tr_region ?_
  refine tr_p (y_move rfl) rfl rfl ?_
  refine tr_p (y_assign rfl) rfl rfl ?_
  refine tr_nil ?_
  refine tr_thenN ?_
  refine tr_ret ?_
  exact tr_ret1 rfl rfl ⟨_, rfl, H⟩

def F.epoch_Book_all.l1 (Q : Sl → H → Prop) : Nat → (Option Nat) → (List S_epoch_owner) → Int → H → Prop
  | 0, _, _, _, _ => False
  | q1 + 1, x3, x10, x11, h =>
    ((decide (x11 < 65)) = true →
    idxV x10 65 x11 fun z10 =>
    new h (((⟨none, 0⟩ : S_epoch_owner) : S_epoch_owner).cells.toArray) ty_62 fun a13 h12 =>
    stH h12 a13 z10.cells fun h14 =>
    ldM h14 (a13.add 0) fun y15 =>
    F.maps_Copy_map_int_struct_map_int_struct_int_struct x3 y15 h14 fun h17 =>
    ldI .i64 h17 (a13.add 1) fun y18 =>
    (((y18 != 0)) = true →
    ldI .i64 h17 (a13.add 1) fun y21 =>
    RunS PP (Instr.mapUpdate 60 (.map x3) (.int .i64 y21) (.agg (⟨⟩ : S_sync_noCopy).cells.toArray)) h17 fun _ h23 =>
    (F.epoch_Book_all.l1 Q q1) x3 x10 (IntKind.wrap .i64 (x11 + 1)) h23) ∧
    (((y18 != 0)) = false →
    (F.epoch_Book_all.l1 Q q1) x3 x10 (IntKind.wrap .i64 (x11 + 1)) h17)) ∧
    ((decide (x11 < 65)) = false →
    F.maps_Keys_map_int_struct_int_struct x3 h fun r25 h24 =>
    F.slices_Sorted_int r25 h24 fun r27 h26 =>
    Q r27 h26)
/-- (*spate/epoch.Book).all -/
def F.epoch_Book_all (p0 : Option Addr) (h : H) (Q : Sl → H → Prop) : Prop :=
  RunS PP (Instr.makeMap 60 none) h fun u h1 => ∃ m2 : Option Nat, u = (.map m2) ∧
  nn p0 fun a3 =>
  ldA S_epoch_owner.cells 65 130 h1 (a3.add 4) fun y5 =>
  ∃ m, F.epoch_Book_all.l1 Q m m2 y5 0 h1
theorem F.epoch_Book_all_ok {p0 : Option Addr} {h : H} {Q : Sl → H → Prop} (H : F.epoch_Book_all p0 h Q) : Fn PP 29 ([(.pointer p0)] : List Value).toArray h fun r h' => ∃ r0, r = r0.enc ∧ Q r0 h' := by
  unfold F.epoch_Book_all at H
  refine fn_of Try.func29 Try.ntmps29 rfl rfl fun w0 => ?_
  refine tr_sub [(0, (.pointer p0))] ⟨rfl, trivial⟩ ?_
  refine tr_seq ?_
  refine tr_region ?_
  refine tr_p (y_assign rfl) rfl rfl ?_
  refine tr_nil ?_
  refine tr_thenN ?_
  refine tr_seq ?_
  refine tr_region ?_
  refine tr_e (f_mkN H) rfl rfl ?_
  rintro _ h1 ⟨m2, rfl, H⟩
  refine tr_p (y_assign rfl) rfl rfl ?_
  refine tr_nil ?_
  refine tr_thenN ?_
  refine tr_seq ?_
  refine tr_seq ?_
  refine tr_region ?_
  refine tr_p (y_move rfl) rfl rfl ?_
  obtain ⟨a3, e4, H⟩ := H
  refine tr_p (f_nn rfl e4) rfl rfl ?_
  refine tr_p (y_fa (off := 4) Try.runUnderlying65 fo_65_3 rfl) rfl rfl ?_
  obtain ⟨y5, e7, e8, k6, H⟩ := H
  refine tr_h (y_ldS Try.isAgg63 Try.sizeOf63 e7 rfl) k6 rfl rfl ?_
  refine tr_p (y_move rfl) rfl rfl ?_
  refine tr_nil ?_
  refine tr_thenN ?_
  refine tr_block ?_
  obtain ⟨m28, H⟩ := H
  refine tr_sub [(3, (.map m2)), (10, (.agg (y5.flatMap S_epoch_owner.cells).toArray)), (11, (.int .i64 0))] ⟨rfl, rfl, rfl, trivial⟩ ?_
  refine tr_loop_j (fun m L' h => ∃ (x3 : Option Nat) (x10 : List S_epoch_owner) (x11 : Int), L' = [(3, (.map x3)), (10, (.agg (x10.flatMap S_epoch_owner.cells).toArray)), (11, (.int .i64 x11))] ∧ F.epoch_Book_all.l1 Q m x3 x10 x11 h) ?_ ?_ m28 ⟨_, _, _, rfl, H⟩
  · rintro L' h ⟨_, _, _, _, H⟩; exact H
  · rintro q1 L' h ⟨x3, x10, x11, rfl, H⟩
    unfold F.epoch_Book_all.l1 at H
    refine tr_seq ?_
    refine tr_region ?_
    refine tr_p (y_lss rfl rfl) rfl rfl ?_
    refine tr_nil ?_
    refine tr_thenN ?_
    refine tr_seq ?_
    refine tr_cond rfl (fun g9 => ?_) (fun g9 => ?_)
    · replace H := H.1 g9
      refine tr_skip ?_
      refine tr_thenN ?_
      refine tr_seq ?_
      refine tr_block ?_
      refine tr_seq ?_
      refine tr_region ?_
      obtain ⟨z10, e11, H⟩ := H
      refine tr_p (f_idxVS (f := S_epoch_owner.cells) (M := x10) Try.runUnderlying63 Try.isAgg62 Try.sizeOf62 (fun _ => rfl) rfl rfl e11) rfl rfl ?_
      refine tr_e (f_alloc (cs := ((⟨none, 0⟩ : S_epoch_owner) : S_epoch_owner).cells.toArray) Try.zeroValue62 rfl H) rfl rfl ?_
      rintro _ h12 ⟨a13, rfl, H⟩
      refine tr_e (f_store (vs := z10.cells) Try.sizeOf62 rfl rfl cellsOfStruct rfl (by intro v hv; exact ones_S_epoch_owner _ v hv) H) rfl rfl ?_
      rintro _ h14 ⟨rfl, H⟩
      refine tr_nil ?_
      refine tr_thenN ?_
      refine tr_seq ?_
      refine tr_region ?_
      refine tr_p (y_move rfl) rfl rfl ?_
      refine tr_p (y_fa (off := 0) Try.runUnderlying62 fo_62_0 rfl) rfl rfl ?_
      obtain ⟨y15, k16, H⟩ := H
      refine tr_h (y_ld Try.isAgg60 rfl) k16 rfl rfl ?_
      refine tr_e (e_call Try.call45 rfl (F.maps_Copy_map_int_struct_map_int_struct_int_struct_ok H)) rfl rfl ?_
      rintro _ h17 ⟨rfl, H⟩
      refine tr_nil ?_
      refine tr_thenN ?_
      refine tr_seq ?_
      refine tr_region ?_
      refine tr_p (y_fa (off := 1) Try.runUnderlying62 fo_62_1 rfl) rfl rfl ?_
      obtain ⟨y18, k19, H⟩ := H
      refine tr_h (y_ld Try.isAgg3 rfl) k19 rfl rfl ?_
      refine tr_p (y_neq rfl rfl) rfl rfl ?_
      refine tr_nil ?_
      refine tr_thenN ?_
      refine tr_cond rfl (fun g20 => ?_) (fun g20 => ?_)
      · replace H := H.1 g20
        refine tr_region ?_
        refine tr_p (y_move rfl) rfl rfl ?_
        refine tr_p (y_fa (off := 1) Try.runUnderlying62 fo_62_1 rfl) rfl rfl ?_
        obtain ⟨y21, k22, H⟩ := H
        refine tr_h (y_ld Try.isAgg3 rfl) k22 rfl rfl ?_
        refine tr_p (f_build rfl (bd_53_ )) rfl rfl ?_
        refine tr_e (f_mu rfl rfl rfl H) rfl rfl ?_
        rintro _ h23 ⟨rfl, H⟩
        refine tr_nil ?_
        refine tr_blockN ?_
        refine tr_thenN ?_
        refine tr_region ?_
        refine tr_p (y_add rfl rfl) rfl rfl ?_
        refine tr_p (y_move rfl) rfl rfl ?_
        refine tr_nil ?_
        refine tr_thenN ?_
        exact tr_join [(3, (.map x3)), (10, (.agg (x10.flatMap S_epoch_owner.cells).toArray)), (11, (.int .i64 (IntKind.wrap .i64 (x11 + 1))))] ⟨rfl, rfl, rfl, trivial⟩ ⟨_, _, _, rfl, H⟩
      · replace H := H.2 g20
        refine tr_skip ?_
        refine tr_blockN ?_
        refine tr_thenN ?_
        refine tr_region ?_
        refine tr_p (y_add rfl rfl) rfl rfl ?_
        refine tr_p (y_move rfl) rfl rfl ?_
        refine tr_nil ?_
        refine tr_thenN ?_
        exact tr_join [(3, (.map x3)), (10, (.agg (x10.flatMap S_epoch_owner.cells).toArray)), (11, (.int .i64 (IntKind.wrap .i64 (x11 + 1))))] ⟨rfl, rfl, rfl, trivial⟩ ⟨_, _, _, rfl, H⟩
    · replace H := H.2 g9
      refine tr_exit ?_
      refine tr_thenE ?_
      refine tr_thenE ?_
      refine tr_hit ?_
      refine tr_thenN ?_
      refine tr_seq ?_
      refine tr_region ?_
      refine tr_p (y_move rfl) rfl rfl ?_
      refine tr_e (e_call Try.call46 rfl (F.maps_Keys_map_int_struct_int_struct_ok H)) rfl rfl ?_
      rintro r25 h24 ⟨_, rfl, H⟩
      refine tr_e (e_call Try.call30 rfl (F.slices_Sorted_int_ok H)) rfl rfl ?_
      rintro _ h26 ⟨r27, rfl, H⟩
      refine tr_p (y_assign rfl) rfl rfl ?_
      refine tr_nil ?_
      refine tr_thenN ?_
      refine tr_ret ?_
      exact tr_ret1 rfl rfl ⟨_, rfl, H⟩

/-- (*spate/epoch.Book).Live -/
def F.epoch_Book_Live (p0 : Option Addr) (h : H) (Q : Int → H → Prop) : Prop :=
  F.epoch_Book_guard p0 h fun r2 h1 =>
  fnV r2 fun f_1 fi_1 ca_1 =>
  nn p0 fun a4 =>
  ldM h1 (a4.add 134) fun y6 =>
  F.epoch_Book_all p0 h1 fun r9 h8 =>
  cellH h8 (a4.add 134) = some (.map y6) ∧
  RunS PP (Builtin.len_ #[28] 3 #[(.map y6)]) h8 fun u h11 => ∃ s12 : Int, u = (.int .i64 s12) ∧
  dcall PP f_1 ((fi_1 ++ ([] : List Value).toArray) ++ ca_1) h11 fun h13 =>
  Q (IntKind.wrap .i64 ((r9.len : Int) + s12)) h13
theorem F.epoch_Book_Live_ok {p0 : Option Addr} {h : H} {Q : Int → H → Prop} (H : F.epoch_Book_Live p0 h Q) : Fn PP 16 ([(.pointer p0)] : List Value).toArray h fun r h' => ∃ r0, r = (.int .i64 r0) ∧ Q r0 h' := by
  unfold F.epoch_Book_Live at H
  refine fn_ofM Try.func16 Try.ntmps16 rfl rfl fun w0 => ?_
  refine tr_sub [(0, (.pointer p0))] ⟨rfl, trivial⟩ ?_
  refine tr_seq ?_
  refine tr_region ?_
  refine tr_p (y_assign rfl) rfl rfl ?_
  refine tr_nil ?_
  refine tr_thenN ?_
  refine tr_seq ?_
  refine tr_region ?_
  refine tr_p (y_move rfl) rfl rfl ?_
  refine tr_e (e_call Try.call28 rfl (F.epoch_Book_guard_ok H)) rfl rfl ?_
  rintro r2 h1 ⟨_, rfl, H⟩
  obtain ⟨f_1, fi_1, ca_1, e3, H⟩ := H
  subst e3
  refine tr_defer rfl rfl rfl ?_
  refine tr_nil ?_
  refine tr_thenN ?_
  refine tr_seq ?_
  refine tr_draw mixed [0, 1, 3, 0, 8, 24, 56, 123, 255, 511] (by kernel_rfl) ?_
  refine g_p 0 1 rfl (by kernel_rfl) (y_move rfl) rfl rfl ?_
  refine g_p 3 9 rfl (by kernel_rfl) (y_move rfl) rfl rfl ?_
  obtain ⟨a4, e5, H⟩ := H
  refine g_p 4 25 rfl (by kernel_rfl) (f_nn rfl e5) rfl rfl ?_
  refine g_p 5 57 rfl (by kernel_rfl) (y_fa (off := 134) Try.runUnderlying65 fo_65_4 rfl) rfl rfl ?_
  obtain ⟨y6, k7, H⟩ := H
  refine g_h 6 121 rfl (by kernel_rfl) (y_ld Try.isAgg28 rfl) k7 rfl rfl ?_
  refine g_e 1 123 [(6, fun h => cellH h (a4.add 134) = some (.map y6))] (by kernel_rfl) rfl (by kernel_rfl) (e_call Try.call29 rfl (F.epoch_Book_all_ok H)) rfl rfl ?_
  rintro _ h8 ⟨r9, rfl, H⟩
  obtain ⟨k10, H⟩ := H
  refine ⟨And.intro k10 trivial, ?_⟩
  refine g_p 2 127 rfl (by kernel_rfl) (y_len (ts := #[]) Try.runUnderlying29 (o := r9.ptr) (n := r9.len) (cap := r9.cap) rfl) rfl rfl ?_
  refine g_e 7 255 [] (by kernel_rfl) rfl (by kernel_rfl) (f_lenM rfl H) rfl rfl ?_
  rintro _ h11 ⟨s12, rfl, H⟩
  refine ⟨trivial, ?_⟩
  refine g_p 8 511 rfl (by kernel_rfl) (y_add rfl rfl) rfl rfl ?_
  refine g_p 9 1023 rfl (by kernel_rfl) (y_assign rfl) rfl rfl ?_
  refine g_d (by kernel_rfl) ?_
  refine tr_thenN ?_
  refine tr_ret ?_
  refine tr_dcall H fun h13 H => ?_
  refine tr_pm0 ?_
  exact tr_ret1 rfl rfl ⟨_, rfl, H⟩

/-- (*spate/epoch.Book).Now -/
def F.epoch_Book_Now (p0 : Option Addr) (h : H) (Q : Int → H → Prop) : Prop :=
  F.epoch_Book_guard p0 h fun r2 h1 =>
  fnV r2 fun f_1 fi_1 ca_1 =>
  nn p0 fun a4 =>
  ldI .i64 h1 (a4.add 3) fun y6 =>
  dcall PP f_1 ((fi_1 ++ ([] : List Value).toArray) ++ ca_1) h1 fun h8 =>
  Q y6 h8
theorem F.epoch_Book_Now_ok {p0 : Option Addr} {h : H} {Q : Int → H → Prop} (H : F.epoch_Book_Now p0 h Q) : Fn PP 15 ([(.pointer p0)] : List Value).toArray h fun r h' => ∃ r0, r = (.int .i64 r0) ∧ Q r0 h' := by
  unfold F.epoch_Book_Now at H
  refine fn_ofM Try.func15 Try.ntmps15 rfl rfl fun w0 => ?_
  refine tr_sub [(0, (.pointer p0))] ⟨rfl, trivial⟩ ?_
  refine tr_seq ?_
  refine tr_region ?_
  refine tr_p (y_assign rfl) rfl rfl ?_
  refine tr_nil ?_
  refine tr_thenN ?_
  refine tr_seq ?_
  refine tr_region ?_
  refine tr_p (y_move rfl) rfl rfl ?_
  refine tr_e (e_call Try.call28 rfl (F.epoch_Book_guard_ok H)) rfl rfl ?_
  rintro r2 h1 ⟨_, rfl, H⟩
  obtain ⟨f_1, fi_1, ca_1, e3, H⟩ := H
  subst e3
  refine tr_defer rfl rfl rfl ?_
  refine tr_nil ?_
  refine tr_thenN ?_
  refine tr_seq ?_
  refine tr_region ?_
  refine tr_p (y_move rfl) rfl rfl ?_
  obtain ⟨a4, e5, H⟩ := H
  refine tr_p (f_nn rfl e5) rfl rfl ?_
  refine tr_p (y_fa (off := 3) Try.runUnderlying65 fo_65_2 rfl) rfl rfl ?_
  obtain ⟨y6, k7, H⟩ := H
  refine tr_h (y_ld Try.isAgg3 rfl) k7 rfl rfl ?_
  refine tr_p (y_assign rfl) rfl rfl ?_
  refine tr_nil ?_
  refine tr_thenN ?_
  refine tr_ret ?_
  refine tr_dcall H fun h8 H => ?_
  refine tr_pm0 ?_
  exact tr_ret1 rfl rfl ⟨_, rfl, H⟩

/-- (*spate/epoch.Book).has -/
def F.epoch_Book_has (p0 : Option Addr) (p1 : Int) (p2 : Int) (h : H) (Q : Bool → H → Prop) : Prop :=
  nn p0 fun a1 =>
  (0 ≤ (p1 : Int) ∧ p1 < 65) ∧
  ldM h (((a1.add 4).add ((p1 : Int).toNat * 2)).add 0) fun y4 =>
  RunS PP (Instr.lookup 60 (.map y4) (.int .i64 p2) true) h fun u h6 => ∃ (r7 : S_sync_noCopy) (r8 : Bool), u = (.tuple #[(.agg r7.cells.toArray), (.bool r8)]) ∧
  new h6 (((⟨⟩ : S_sync_noCopy) : S_sync_noCopy).cells.toArray) ty_53 fun a10 h9 =>
  stH h9 a10 r7.cells fun h11 =>
  Q r8 h11
theorem F.epoch_Book_has_ok {p0 : Option Addr} {p1 : Int} {p2 : Int} {h : H} {Q : Bool → H → Prop} (H : F.epoch_Book_has p0 p1 p2 h Q) : Fn PP 39 ([(.pointer p0), (.int .i64 p1), (.int .i64 p2)] : List Value).toArray h fun r h' => ∃ r0, r = (.bool r0) ∧ Q r0 h' := by
  unfold F.epoch_Book_has at H
  refine fn_of Try.func39 Try.ntmps39 rfl rfl fun w0 => ?_
  refine tr_sub [(0, (.pointer p0)), (1, (.int .i64 p1)), (2, (.int .i64 p2))] ⟨rfl, rfl, rfl, trivial⟩ ?_
  refine tr_seq ?_
  refine tr_region ?_
  refine tr_p (y_assign rfl) rfl rfl ?_
  refine tr_nil ?_
  refine tr_thenN ?_
  refine tr_seq ?_
  refine tr_region ?_
  refine tr_p (y_move rfl) rfl rfl ?_
  refine tr_p (y_move rfl) rfl rfl ?_
  obtain ⟨a1, e2, H⟩ := H
  refine tr_p (f_nn rfl e2) rfl rfl ?_
  refine tr_p (y_fa (off := 4) Try.runUnderlying65 fo_65_3 rfl) rfl rfl ?_
  obtain ⟨e3, H⟩ := H
  refine tr_p (f_idxArr Try.runUnderlying63 Try.sizeOf62 rfl rfl e3) rfl rfl ?_
  refine tr_p (y_fa (off := 0) Try.runUnderlying62 fo_62_0 rfl) rfl rfl ?_
  obtain ⟨y4, k5, H⟩ := H
  refine tr_h (y_ld Try.isAgg60 rfl) k5 rfl rfl ?_
  refine tr_p (y_move rfl) rfl rfl ?_
  refine tr_e (f_lk rfl rfl H) rfl rfl ?_
  rintro _ h6 ⟨r7, r8, rfl, H⟩
  refine tr_p (y_move rfl) rfl rfl ?_
  refine tr_p (y_ext rfl rfl) rfl rfl ?_
  refine tr_p (y_ext rfl rfl) rfl rfl ?_
  refine tr_e (f_alloc (cs := ((⟨⟩ : S_sync_noCopy) : S_sync_noCopy).cells.toArray) Try.zeroValue53 rfl H) rfl rfl ?_
  rintro _ h9 ⟨a10, rfl, H⟩
  refine tr_e (f_store (vs := r7.cells) Try.sizeOf53 rfl rfl cellsOfStruct rfl (by intro v hv; exact ones_S_sync_noCopy _ v hv) H) rfl rfl ?_
  rintro _ h11 ⟨rfl, H⟩
  refine tr_p (y_assign rfl) rfl rfl ?_
  refine tr_nil ?_
  refine tr_thenN ?_
  refine tr_seq ?_
  refine tr_region ?_
  refine tr_p (y_move rfl) rfl rfl ?_
  refine tr_p (y_assign rfl) rfl rfl ?_
  refine tr_nil ?_
  refine tr_thenN ?_
  refine tr_ret ?_
  exact tr_ret1 rfl rfl ⟨_, rfl, H⟩

/-- (*spate/epoch.Book).pinned$1 -/
def F.epoch_Book_pinned_1 (p0 : S_epoch_owner) (p1 : Addr) (h : H) (Q : Bool → H → Prop) : Prop :=
  new h p0.cells.toArray ty_62 fun a2 h1 =>
  ldM h1 (a2.add 0) fun y3 =>
  ldI .i64 h1 p1 fun y5 =>
  RunS PP (Instr.lookup 60 (.map y3) (.int .i64 y5) true) h1 fun u h7 => ∃ (r8 : S_sync_noCopy) (r9 : Bool), u = (.tuple #[(.agg r8.cells.toArray), (.bool r9)]) ∧
  new h7 (((⟨⟩ : S_sync_noCopy) : S_sync_noCopy).cells.toArray) ty_53 fun a11 h10 =>
  stH h10 a11 r8.cells fun h12 =>
  Q r9 h12
theorem F.epoch_Book_pinned_1_ok {p0 : S_epoch_owner} {p1 : Addr} {h : H} {Q : Bool → H → Prop} (H : F.epoch_Book_pinned_1 p0 p1 h Q) : Fn PP 52 ([(.agg p0.cells.toArray), (.pointer (some p1))] : List Value).toArray h fun r h' => ∃ r0, r = (.bool r0) ∧ Q r0 h' := by
  unfold F.epoch_Book_pinned_1 at H
  refine fn_of Try.func52 Try.ntmps52 rfl rfl fun w0 => ?_
  refine tr_sub [(0, (.agg p0.cells.toArray)), (1, (.pointer (some p1)))] ⟨rfl, rfl, trivial⟩ ?_
  refine tr_seq ?_
  refine tr_region ?_
  refine tr_e (f_box (cs := p0.cells.toArray) rfl rfl H) rfl rfl ?_
  rintro _ h1 ⟨a2, rfl, H⟩
  refine tr_p (y_assign rfl) rfl rfl ?_
  refine tr_nil ?_
  refine tr_thenN ?_
  refine tr_seq ?_
  refine tr_region ?_
  refine tr_p (y_fa (off := 0) Try.runUnderlying62 fo_62_0 rfl) rfl rfl ?_
  obtain ⟨y3, k4, H⟩ := H
  refine tr_h (y_ld Try.isAgg60 rfl) k4 rfl rfl ?_
  obtain ⟨y5, k6, H⟩ := H
  refine tr_h (y_ld Try.isAgg3 rfl) k6 rfl rfl ?_
  refine tr_e (f_lk rfl rfl H) rfl rfl ?_
  rintro _ h7 ⟨r8, r9, rfl, H⟩
  refine tr_p (y_move rfl) rfl rfl ?_
  refine tr_p (y_ext rfl rfl) rfl rfl ?_
  refine tr_p (y_ext rfl rfl) rfl rfl ?_
  refine tr_e (f_alloc (cs := ((⟨⟩ : S_sync_noCopy) : S_sync_noCopy).cells.toArray) Try.zeroValue53 rfl H) rfl rfl ?_
  rintro _ h10 ⟨a11, rfl, H⟩
  refine tr_e (f_store (vs := r8.cells) Try.sizeOf53 rfl rfl cellsOfStruct rfl (by intro v hv; exact ones_S_sync_noCopy _ v hv) H) rfl rfl ?_
  rintro _ h12 ⟨rfl, H⟩
  refine tr_p (y_assign rfl) rfl rfl ?_
  refine tr_nil ?_
  refine tr_thenN ?_
  refine tr_seq ?_
  refine tr_region ?_
  refine tr_p (y_move rfl) rfl rfl ?_
  refine tr_p (y_assign rfl) rfl rfl ?_
  refine tr_nil ?_
  refine tr_thenN ?_
  refine tr_ret ?_
  exact tr_ret1 rfl rfl ⟨_, rfl, H⟩

def F.slices_IndexFunc_Slepoch_owner_epoch_owner.l1 (Q : Int → H → Prop) : Nat → Sl → Value → Int → Int → H → Prop
  | 0, _, _, _, _, _ => False
  | q1 + 1, x0, x1, x7, x8, h =>
    ((decide (x8 < x7)) = true →
    idxA x0 x8 2 fun a2 =>
    ld_S_epoch_owner h a2 fun y4 =>
    CV PP x1 [(.agg y4.cells.toArray)] h fun u h6 => ∃ (r7 : Bool), u = (.bool r7) ∧
    (r7 = true →
    Q x8 h6) ∧
    (r7 = false →
    (F.slices_IndexFunc_Slepoch_owner_epoch_owner.l1 Q q1) x0 x1 x7 (IntKind.wrap .i64 (x8 + 1)) h6)) ∧
    ((decide (x8 < x7)) = false →
    Q (-1) h)
/-- slices.IndexFunc[[]spate/epoch.owner,spate/epoch.owner] -/
def F.slices_IndexFunc_Slepoch_owner_epoch_owner (p0 : Sl) (p1 : Value) (h : H) (Q : Int → H → Prop) : Prop :=
  ∃ m, F.slices_IndexFunc_Slepoch_owner_epoch_owner.l1 Q m p0 p1 (p0.len : Int) 0 h
theorem F.slices_IndexFunc_Slepoch_owner_epoch_owner_ok {p0 : Sl} {p1 : Value} {h : H} {Q : Int → H → Prop} (H : F.slices_IndexFunc_Slepoch_owner_epoch_owner p0 p1 h Q) : Fn PP 60 ([p0.enc, p1] : List Value).toArray h fun r h' => ∃ r0, r = (.int .i64 r0) ∧ Q r0 h' := by
  unfold F.slices_IndexFunc_Slepoch_owner_epoch_owner at H
  refine fn_of Try.func60 Try.ntmps60 rfl rfl fun w0 => ?_
  refine tr_sub [(0, p0.enc), (1, p1)] ⟨rfl, rfl, trivial⟩ ?_
  refine tr_seq ?_
  refine tr_region ?_
  refine tr_p (y_assign rfl) rfl rfl ?_
  refine tr_nil ?_
  refine tr_thenN ?_
  refine tr_seq ?_
  refine tr_seq ?_
  refine tr_region ?_
  refine tr_p (y_move rfl) rfl rfl ?_
  refine tr_p (y_len (ts := #[]) Try.runUnderlying83 (o := p0.ptr) (n := p0.len) (cap := p0.cap) rfl) rfl rfl ?_
  refine tr_p (y_move rfl) rfl rfl ?_
  refine tr_nil ?_
  refine tr_thenN ?_
  refine tr_block ?_
  obtain ⟨m9, H⟩ := H
  refine tr_sub [(0, p0.enc), (1, p1), (7, (.int .i64 (p0.len : Int))), (8, (.int .i64 0))] ⟨rfl, rfl, rfl, rfl, trivial⟩ ?_
  refine tr_loop_j (fun m L' h => ∃ (x0 : Sl) (x1 : Value) (x7 : Int) (x8 : Int), L' = [(0, x0.enc), (1, x1), (7, (.int .i64 x7)), (8, (.int .i64 x8))] ∧ F.slices_IndexFunc_Slepoch_owner_epoch_owner.l1 Q m x0 x1 x7 x8 h) ?_ ?_ m9 ⟨_, _, _, _, rfl, H⟩
  · rintro L' h ⟨_, _, _, _, _, H⟩; exact H
  · rintro q1 L' h ⟨x0, x1, x7, x8, rfl, H⟩
    unfold F.slices_IndexFunc_Slepoch_owner_epoch_owner.l1 at H
    refine tr_seq ?_
    refine tr_region ?_
    refine tr_p (y_lss rfl rfl) rfl rfl ?_
    refine tr_nil ?_
    refine tr_thenN ?_
    refine tr_seq ?_
    refine tr_cond rfl (fun g1 => ?_) (fun g1 => ?_)
    · replace H := H.1 g1
      refine tr_skip ?_
      refine tr_thenN ?_
      refine tr_seq ?_
      refine tr_block ?_
      refine tr_seq ?_
      refine tr_region ?_
      refine tr_p (y_move rfl) rfl rfl ?_
      refine tr_p (y_assign rfl) rfl rfl ?_
      refine tr_nil ?_
      refine tr_thenN ?_
      refine tr_seq ?_
      refine tr_region ?_
      refine tr_p (y_move rfl) rfl rfl ?_
      refine tr_p (y_move rfl) rfl rfl ?_
      refine tr_p (y_move rfl) rfl rfl ?_
      obtain ⟨a2, e3, H⟩ := H
      refine tr_p (f_idx (s := x0) Try.runUnderlying83 Try.sizeOf62 rfl rfl e3) rfl rfl ?_
      obtain ⟨y4, k5, H⟩ := H
      refine tr_h (y_ldS Try.isAgg62 Try.sizeOf62 rfl rfl) k5 rfl rfl ?_
      refine tr_e (e_callD rfl rfl H) rfl rfl ?_
      rintro _ h6 ⟨r7, rfl, H⟩
      refine tr_nil ?_
      refine tr_thenN ?_
      refine tr_cond rfl (fun g8 => ?_) (fun g8 => ?_)
      · replace H := H.1 g8
        refine tr_seq ?_
        refine tr_region ?_
        refine tr_p (y_move rfl) rfl rfl ?_
        refine tr_p (y_assign rfl) rfl rfl ?_
        refine tr_nil ?_
        refine tr_thenN ?_
        refine tr_ret ?_
        refine tr_blockR ?_
        refine tr_thenR ?_
        refine tr_thenR ?_
        refine tr_blockR ?_
        refine tr_thenR ?_
        exact tr_ret1 rfl rfl ⟨_, rfl, H⟩
      · replace H := H.2 g8
        refine tr_skip ?_
        refine tr_blockN ?_
        refine tr_thenN ?_
        refine tr_region ?_
        refine tr_p (y_add rfl rfl) rfl rfl ?_
        refine tr_p (y_move rfl) rfl rfl ?_
        refine tr_nil ?_
        refine tr_thenN ?_
        exact tr_join [(0, x0.enc), (1, x1), (7, (.int .i64 x7)), (8, (.int .i64 (IntKind.wrap .i64 (x8 + 1))))] ⟨rfl, rfl, rfl, rfl, trivial⟩ ⟨_, _, _, _, rfl, H⟩
    · replace H := H.2 g1
      refine tr_exit ?_
      refine tr_thenE ?_
      refine tr_thenE ?_
      refine tr_hit ?_
      refine tr_thenN ?_
      refine tr_seq ?_
      refine tr_region ?_
      refine tr_p (y_assign rfl) rfl rfl ?_
      refine tr_nil ?_
      refine tr_thenN ?_
      refine tr_ret ?_
      exact tr_ret1 rfl rfl ⟨_, rfl, H⟩

/-- slices.ContainsFunc[[]spate/epoch.owner,spate/epoch.owner] -/
def F.slices_ContainsFunc_Slepoch_owner_epoch_owner (p0 : Sl) (p1 : Value) (h : H) (Q : Bool → H → Prop) : Prop :=
  F.slices_IndexFunc_Slepoch_owner_epoch_owner p0 p1 h fun r2 h1 =>
  Q (decide (r2 ≥ 0)) h1
theorem F.slices_ContainsFunc_Slepoch_owner_epoch_owner_ok {p0 : Sl} {p1 : Value} {h : H} {Q : Bool → H → Prop} (H : F.slices_ContainsFunc_Slepoch_owner_epoch_owner p0 p1 h Q) : Fn PP 51 ([p0.enc, p1] : List Value).toArray h fun r h' => ∃ r0, r = (.bool r0) ∧ Q r0 h' := by
  unfold F.slices_ContainsFunc_Slepoch_owner_epoch_owner at H
  refine fn_of Try.func51 Try.ntmps51 rfl rfl fun w0 => ?_
  refine tr_sub [(0, p0.enc), (1, p1)] ⟨rfl, rfl, trivial⟩ ?_
  refine tr_seq ?_
  refine tr_region ?_
  refine tr_p (y_assign rfl) rfl rfl ?_
  refine tr_nil ?_
  refine tr_thenN ?_
  refine tr_seq ?_
  refine tr_region ?_
  refine tr_p (y_move rfl) rfl rfl ?_
  refine tr_p (y_move rfl) rfl rfl ?_
  refine tr_e (e_call Try.call60 rfl (F.slices_IndexFunc_Slepoch_owner_epoch_owner_ok H)) rfl rfl ?_
  rintro _ h1 ⟨r2, rfl, H⟩
  refine tr_p (y_geq rfl rfl) rfl rfl ?_
  refine tr_p (y_assign rfl) rfl rfl ?_
  refine tr_nil ?_
  refine tr_thenN ?_
  refine tr_ret ?_
  exact tr_ret1 rfl rfl ⟨_, rfl, H⟩

/-- (*spate/epoch.Book).pinned -/
def F.epoch_Book_pinned (p0 : Option Addr) (p1 : Int) (h : H) (Q : Bool → H → Prop) : Prop :=
  new h #[(.int .i64 p1)] ty_3 fun a2 h1 =>
  nn p0 fun a3 =>
  F.slices_ContainsFunc_Slepoch_owner_epoch_owner (⟨some (a3.add 4), 65, 65⟩ : Sl) (.func (.func 52) #[] #[(.pointer (some a2))]) h1 fun r6 h5 =>
  Q r6 h5
theorem F.epoch_Book_pinned_ok {p0 : Option Addr} {p1 : Int} {h : H} {Q : Bool → H → Prop} (H : F.epoch_Book_pinned p0 p1 h Q) : Fn PP 38 ([(.pointer p0), (.int .i64 p1)] : List Value).toArray h fun r h' => ∃ r0, r = (.bool r0) ∧ Q r0 h' := by
  unfold F.epoch_Book_pinned at H
  refine fn_of Try.func38 Try.ntmps38 rfl rfl fun w0 => ?_
  refine tr_sub [(0, (.pointer p0)), (1, (.int .i64 p1))] ⟨rfl, rfl, trivial⟩ ?_
  refine tr_seq ?_
  refine tr_region ?_
  refine tr_e (f_box (cs := #[(.int .i64 p1)]) rfl rfl H) rfl rfl ?_
  rintro _ h1 ⟨a2, rfl, H⟩
  refine tr_p (y_assign rfl) rfl rfl ?_
  refine tr_nil ?_
  refine tr_thenN ?_
  refine tr_seq ?_
  refine tr_region ?_
  refine tr_p (y_move rfl) rfl rfl ?_
  obtain ⟨a3, e4, H⟩ := H
  refine tr_p (f_nn rfl e4) rfl rfl ?_
  refine tr_p (y_fa (off := 4) Try.runUnderlying65 fo_65_3 rfl) rfl rfl ?_
  refine tr_p (f_sliceArr Try.runUnderlying63 Try.sizeOf62 rfl) rfl rfl ?_
  refine tr_p (y_fn rfl rfl) rfl rfl ?_
  refine tr_e (e_call Try.call51 rfl (F.slices_ContainsFunc_Slepoch_owner_epoch_owner_ok H)) rfl rfl ?_
  rintro _ h5 ⟨r6, rfl, H⟩
  refine tr_p (y_assign rfl) rfl rfl ?_
  refine tr_nil ?_
  refine tr_thenN ?_
  refine tr_ret ?_
  exact tr_ret1 rfl rfl ⟨_, rfl, H⟩

/-- (*spate/epoch.Book).held$1 -/
def F.epoch_Book_held_1 (p0 : S_epoch_owner) (p1 : Addr) (h : H) (Q : Bool → H → Prop) : Prop :=
  new h p0.cells.toArray ty_62 fun a2 h1 =>
  ldI .i64 h1 (a2.add 1) fun y3 =>
  ldI .i64 h1 p1 fun y5 =>
  Q ((y3 == y5)) h1
theorem F.epoch_Book_held_1_ok {p0 : S_epoch_owner} {p1 : Addr} {h : H} {Q : Bool → H → Prop} (H : F.epoch_Book_held_1 p0 p1 h Q) : Fn PP 61 ([(.agg p0.cells.toArray), (.pointer (some p1))] : List Value).toArray h fun r h' => ∃ r0, r = (.bool r0) ∧ Q r0 h' := by
  unfold F.epoch_Book_held_1 at H
  refine fn_of Try.func61 Try.ntmps61 rfl rfl fun w0 => ?_
  refine tr_sub [(0, (.agg p0.cells.toArray)), (1, (.pointer (some p1)))] ⟨rfl, rfl, trivial⟩ ?_
  refine tr_seq ?_
  refine tr_region ?_
  refine tr_e (f_box (cs := p0.cells.toArray) rfl rfl H) rfl rfl ?_
  rintro _ h1 ⟨a2, rfl, H⟩
  refine tr_p (y_assign rfl) rfl rfl ?_
  refine tr_nil ?_
  refine tr_thenN ?_
  refine tr_seq ?_
  refine tr_region ?_
  refine tr_p (y_fa (off := 1) Try.runUnderlying62 fo_62_1 rfl) rfl rfl ?_
  obtain ⟨y3, k4, H⟩ := H
  refine tr_h (y_ld Try.isAgg3 rfl) k4 rfl rfl ?_
  obtain ⟨y5, k6, H⟩ := H
  refine tr_h (y_ld Try.isAgg3 rfl) k6 rfl rfl ?_
  refine tr_p (y_eql rfl rfl) rfl rfl ?_
  refine tr_p (y_assign rfl) rfl rfl ?_
  refine tr_nil ?_
  refine tr_thenN ?_
  refine tr_ret ?_
  exact tr_ret1 rfl rfl ⟨_, rfl, H⟩

/-- (*spate/epoch.Book).held -/
def F.epoch_Book_held (p0 : Option Addr) (p1 : Int) (h : H) (Q : Bool → H → Prop) : Prop :=
  new h #[(.int .i64 p1)] ty_3 fun a2 h1 =>
  ldI .i64 h1 a2 fun y3 =>
  F.epoch_Book_pinned p0 y3 h1 fun r6 h5 =>
  (r6 = true →
  Q true h5) ∧
  (r6 = false →
  nn p0 fun a8 =>
  F.slices_ContainsFunc_Slepoch_owner_epoch_owner (⟨some (a8.add 4), 65, 65⟩ : Sl) (.func (.func 61) #[] #[(.pointer (some a2))]) h5 fun r11 h10 =>
  Q r11 h10)
theorem F.epoch_Book_held_ok {p0 : Option Addr} {p1 : Int} {h : H} {Q : Bool → H → Prop} (H : F.epoch_Book_held p0 p1 h Q) : Fn PP 53 ([(.pointer p0), (.int .i64 p1)] : List Value).toArray h fun r h' => ∃ r0, r = (.bool r0) ∧ Q r0 h' := by
  unfold F.epoch_Book_held at H
  refine fn_of Try.func53 Try.ntmps53 rfl rfl fun w0 => ?_
  refine tr_sub [(0, (.pointer p0)), (1, (.int .i64 p1))] ⟨rfl, rfl, trivial⟩ ?_
  refine tr_seq ?_
  refine tr_region ?_
  refine tr_e (f_box (cs := #[(.int .i64 p1)]) rfl rfl H) rfl rfl ?_
  rintro _ h1 ⟨a2, rfl, H⟩
  refine tr_p (y_assign rfl) rfl rfl ?_
  refine tr_nil ?_
  refine tr_thenN ?_
  refine tr_seq ?_
  refine tr_region ?_
  refine tr_p (y_move rfl) rfl rfl ?_
  obtain ⟨y3, k4, H⟩ := H
  refine tr_h (y_ld Try.isAgg3 rfl) k4 rfl rfl ?_
  refine tr_e (e_call Try.call38 rfl (F.epoch_Book_pinned_ok H)) rfl rfl ?_
  rintro _ h5 ⟨r6, rfl, H⟩
  refine tr_p (y_move rfl) rfl rfl ?_
  refine tr_split (t := 8) rfl (fun g7 => ?_) (fun g7 => ?_)
  · replace H := H.1 g7
    refine tr_s rfl rfl ?_
    refine tr_s rfl rfl ?_
    refine tr_s rfl rfl ?_
    refine tr_s rfl rfl ?_
    refine tr_s rfl rfl ?_
    refine tr_s rfl rfl ?_
    refine tr_p (y_pick_t rfl rfl) rfl rfl ?_
    refine tr_p (y_assign rfl) rfl rfl ?_
    refine tr_nil ?_
    refine tr_thenN ?_
    refine tr_ret ?_
    exact tr_ret1 rfl rfl ⟨_, rfl, H⟩
  · replace H := H.2 g7
    refine tr_p (y_move rfl) rfl rfl ?_
    obtain ⟨a8, e9, H⟩ := H
    refine tr_p (f_nn rfl e9) rfl rfl ?_
    refine tr_p (y_fa (off := 4) Try.runUnderlying65 fo_65_3 rfl) rfl rfl ?_
    refine tr_p (f_sliceArr Try.runUnderlying63 Try.sizeOf62 rfl) rfl rfl ?_
    refine tr_p (y_fn rfl rfl) rfl rfl ?_
    refine tr_e (e_call Try.call51 rfl (F.slices_ContainsFunc_Slepoch_owner_epoch_owner_ok H)) rfl rfl ?_
    rintro _ h10 ⟨r11, rfl, H⟩
    refine tr_p (y_pick_f rfl rfl) rfl rfl ?_
    refine tr_p (y_assign rfl) rfl rfl ?_
    refine tr_nil ?_
    refine tr_thenN ?_
    refine tr_ret ?_
    exact tr_ret1 rfl rfl ⟨_, rfl, H⟩

/-- (*spate/epoch.Book).let -/
def F.epoch_Book_let (p0 : Option Addr) (p1 : Int) (h : H) (Q : H → Prop) : Prop :=
  F.epoch_Book_held p0 p1 h fun r2 h1 =>
  ((!r2) = true →
  nn p0 fun a4 =>
  ldM h1 (a4.add 134) fun y6 =>
  RunS PP (Instr.mapUpdate 28 (.map y6) (.int .i64 p1) (.int .i64 0)) h1 fun _ h8 =>
  Q h8) ∧
  ((!r2) = false →
  Q h1)
theorem F.epoch_Book_let_ok {p0 : Option Addr} {p1 : Int} {h : H} {Q : H → Prop} (H : F.epoch_Book_let p0 p1 h Q) : Fn PP 40 ([(.pointer p0), (.int .i64 p1)] : List Value).toArray h fun r h' => r = .tuple #[] ∧ Q  h' := by
  unfold F.epoch_Book_let at H
  refine fn_of Try.func40 Try.ntmps40 rfl rfl fun w0 => ?_
  refine tr_sub [(0, (.pointer p0)), (1, (.int .i64 p1))] ⟨rfl, rfl, trivial⟩ ?_
  refine tr_seq ?_
  refine tr_region ?_
  refine tr_p (y_move rfl) rfl rfl ?_
  refine tr_p (y_move rfl) rfl rfl ?_
  refine tr_e (e_call Try.call53 rfl (F.epoch_Book_held_ok H)) rfl rfl ?_
  rintro _ h1 ⟨r2, rfl, H⟩
  refine tr_p (y_not rfl) rfl rfl ?_
  refine tr_nil ?_
  refine tr_thenN ?_
  refine tr_cond rfl (fun g3 => ?_) (fun g3 => ?_)
  · replace H := H.1 g3
    refine tr_region ?_
    refine tr_p (y_move rfl) rfl rfl ?_
    obtain ⟨a4, e5, H⟩ := H
    refine tr_p (f_nn rfl e5) rfl rfl ?_
    refine tr_p (y_fa (off := 134) Try.runUnderlying65 fo_65_4 rfl) rfl rfl ?_
    obtain ⟨y6, k7, H⟩ := H
    refine tr_h (y_ld Try.isAgg28 rfl) k7 rfl rfl ?_
    refine tr_p (y_move rfl) rfl rfl ?_
    refine tr_e (f_mu rfl rfl rfl H) rfl rfl ?_
    rintro _ h8 ⟨rfl, H⟩
    refine tr_nil ?_
    exact tr_end0 rfl ⟨rfl, H⟩
  · replace H := H.2 g3
    refine tr_skip ?_
    exact tr_end0 rfl ⟨rfl, H⟩

/-- (*spate/epoch.Book).Release -/
def F.epoch_Book_Release (p0 : Option Addr) (p1 : Int) (p2 : Int) (h : H) (Q : Int → H → Prop) : Prop :=
  F.epoch_Book_guard p0 h fun r2 h1 =>
  fnV r2 fun f_1 fi_1 ca_1 =>
  F.epoch_is p1 h1 fun r5 h4 =>
  ((!r5) = true →
  dcall PP f_1 ((fi_1 ++ ([] : List Value).toArray) ++ ca_1) h4 fun h7 =>
  Q 1 h7) ∧
  ((!r5) = false →
  F.epoch_Book_has p0 p1 p2 h4 fun r9 h8 =>
  ((!r9) = true →
  dcall PP f_1 ((fi_1 ++ ([] : List Value).toArray) ++ ca_1) h8 fun h11 =>
  Q 33 h11) ∧
  ((!r9) = false →
  nn p0 fun a12 =>
  (0 ≤ (p1 : Int) ∧ p1 < 65) ∧
  ldM h8 (((a12.add 4).add ((p1 : Int).toNat * 2)).add 0) fun y15 =>
  RunS PP (Builtin.delete_ #[60, 3] 0 #[(.map y15), (.int .i64 p2)]) h8 fun u h17 => u = (.tuple #[]) ∧
  F.epoch_Book_let p0 p2 h17 fun h19 =>
  dcall PP f_1 ((fi_1 ++ ([] : List Value).toArray) ++ ca_1) h19 fun h20 =>
  Q 0 h20))
theorem F.epoch_Book_Release_ok {p0 : Option Addr} {p1 : Int} {p2 : Int} {h : H} {Q : Int → H → Prop} (H : F.epoch_Book_Release p0 p1 p2 h Q) : Fn PP 24 ([(.pointer p0), (.int .i64 p1), (.int .i64 p2)] : List Value).toArray h fun r h' => ∃ r0, r = (.int .i64 r0) ∧ Q r0 h' := by
  unfold F.epoch_Book_Release at H
  refine fn_ofM Try.func24 Try.ntmps24 rfl rfl fun w0 => ?_
  refine tr_sub [(0, (.pointer p0)), (1, (.int .i64 p1)), (2, (.int .i64 p2))] ⟨rfl, rfl, rfl, trivial⟩ ?_
  refine tr_seq ?_
  refine tr_region ?_
  refine tr_p (y_assign rfl) rfl rfl ?_
  refine tr_nil ?_
  refine tr_thenN ?_
  refine tr_seq ?_
  refine tr_region ?_
  refine tr_p (y_move rfl) rfl rfl ?_
  refine tr_e (e_call Try.call28 rfl (F.epoch_Book_guard_ok H)) rfl rfl ?_
  rintro r2 h1 ⟨_, rfl, H⟩
  obtain ⟨f_1, fi_1, ca_1, e3, H⟩ := H
  subst e3
  refine tr_defer rfl rfl rfl ?_
  refine tr_nil ?_
  refine tr_thenN ?_
  refine tr_seq ?_
  refine tr_block ?_
  refine tr_seq ?_
  refine tr_region ?_
  refine tr_p (y_move rfl) rfl rfl ?_
  refine tr_e (e_call Try.call37 rfl (F.epoch_is_ok H)) rfl rfl ?_
  rintro _ h4 ⟨r5, rfl, H⟩
  refine tr_p (y_not rfl) rfl rfl ?_
  refine tr_p (y_assign rfl) rfl rfl ?_
  refine tr_nil ?_
  refine tr_thenN ?_
  refine tr_cond rfl (fun g6 => ?_) (fun g6 => ?_)
  · replace H := H.1 g6
    refine tr_seq ?_
    refine tr_region ?_
    refine tr_p (y_assign rfl) rfl rfl ?_
    refine tr_nil ?_
    refine tr_thenN ?_
    refine tr_ret ?_
    refine tr_blockR ?_
    refine tr_thenR ?_
    refine tr_dcall H fun h7 H => ?_
    refine tr_pm0 ?_
    exact tr_ret1 rfl rfl ⟨_, rfl, H⟩
  · replace H := H.2 g6
    refine tr_seq ?_
    refine tr_region ?_
    refine tr_p (y_move rfl) rfl rfl ?_
    refine tr_p (y_move rfl) rfl rfl ?_
    refine tr_p (y_move rfl) rfl rfl ?_
    refine tr_e (e_call Try.call39 rfl (F.epoch_Book_has_ok H)) rfl rfl ?_
    rintro _ h8 ⟨r9, rfl, H⟩
    refine tr_p (y_not rfl) rfl rfl ?_
    refine tr_p (y_assign rfl) rfl rfl ?_
    refine tr_nil ?_
    refine tr_thenN ?_
    refine tr_cond rfl (fun g10 => ?_) (fun g10 => ?_)
    · replace H := H.1 g10
      refine tr_seq ?_
      refine tr_region ?_
      refine tr_p (y_assign rfl) rfl rfl ?_
      refine tr_nil ?_
      refine tr_thenN ?_
      refine tr_ret ?_
      refine tr_blockR ?_
      refine tr_thenR ?_
      refine tr_dcall H fun h11 H => ?_
      refine tr_pm0 ?_
      exact tr_ret1 rfl rfl ⟨_, rfl, H⟩
    · replace H := H.2 g10
      refine tr_skip ?_
      refine tr_blockN ?_
      refine tr_thenN ?_
      refine tr_seq ?_
      refine tr_region ?_
      refine tr_p (y_move rfl) rfl rfl ?_
      refine tr_p (y_move rfl) rfl rfl ?_
      obtain ⟨a12, e13, H⟩ := H
      refine tr_p (f_nn rfl e13) rfl rfl ?_
      refine tr_p (y_fa (off := 4) Try.runUnderlying65 fo_65_3 rfl) rfl rfl ?_
      obtain ⟨e14, H⟩ := H
      refine tr_p (f_idxArr Try.runUnderlying63 Try.sizeOf62 rfl rfl e14) rfl rfl ?_
      refine tr_p (y_fa (off := 0) Try.runUnderlying62 fo_62_0 rfl) rfl rfl ?_
      obtain ⟨y15, k16, H⟩ := H
      refine tr_h (y_ld Try.isAgg60 rfl) k16 rfl rfl ?_
      refine tr_p (y_move rfl) rfl rfl ?_
      refine tr_e (f_del rfl H) rfl rfl ?_
      rintro _ h17 ⟨rfl, H⟩
      refine tr_nil ?_
      refine tr_thenN ?_
      refine tr_seq ?_
      refine tr_region ?_
      refine tr_p (y_move rfl) rfl rfl ?_
      refine tr_p (y_move rfl) rfl rfl ?_
      refine tr_e (e_call Try.call40 rfl (F.epoch_Book_let_ok H)) rfl rfl ?_
      rintro _ h19 ⟨rfl, H⟩
      refine tr_nil ?_
      refine tr_thenN ?_
      refine tr_seq ?_
      refine tr_region ?_
      refine tr_p (y_assign rfl) rfl rfl ?_
      refine tr_nil ?_
      refine tr_thenN ?_
      refine tr_ret ?_
      refine tr_dcall H fun h20 H => ?_
      refine tr_pm0 ?_
      exact tr_ret1 rfl rfl ⟨_, rfl, H⟩

/-- (*spate/epoch.Book).Held -/
def F.epoch_Book_Held (p0 : Option Addr) (h : H) (Q : Sl → H → Prop) : Prop :=
  F.epoch_Book_guard p0 h fun r2 h1 =>
  fnV r2 fun f_1 fi_1 ca_1 =>
  F.epoch_Book_all p0 h1 fun r5 h4 =>
  dcall PP f_1 ((fi_1 ++ ([] : List Value).toArray) ++ ca_1) h4 fun h6 =>
  Q r5 h6
theorem F.epoch_Book_Held_ok {p0 : Option Addr} {h : H} {Q : Sl → H → Prop} (H : F.epoch_Book_Held p0 h Q) : Fn PP 11 ([(.pointer p0)] : List Value).toArray h fun r h' => ∃ r0, r = r0.enc ∧ Q r0 h' := by
  unfold F.epoch_Book_Held at H
  refine fn_ofM Try.func11 Try.ntmps11 rfl rfl fun w0 => ?_
  refine tr_sub [(0, (.pointer p0))] ⟨rfl, trivial⟩ ?_
  refine tr_seq ?_
  refine tr_region ?_
  refine tr_p (y_assign rfl) rfl rfl ?_
  refine tr_nil ?_
  refine tr_thenN ?_
  refine tr_seq ?_
  refine tr_region ?_
  refine tr_p (y_move rfl) rfl rfl ?_
  refine tr_e (e_call Try.call28 rfl (F.epoch_Book_guard_ok H)) rfl rfl ?_
  rintro r2 h1 ⟨_, rfl, H⟩
  obtain ⟨f_1, fi_1, ca_1, e3, H⟩ := H
  subst e3
  refine tr_defer rfl rfl rfl ?_
  refine tr_nil ?_
  refine tr_thenN ?_
  refine tr_seq ?_
  refine tr_region ?_
  refine tr_p (y_move rfl) rfl rfl ?_
  refine tr_e (e_call Try.call29 rfl (F.epoch_Book_all_ok H)) rfl rfl ?_
  rintro _ h4 ⟨r5, rfl, H⟩
  refine tr_p (y_assign rfl) rfl rfl ?_
  refine tr_nil ?_
  refine tr_thenN ?_
  refine tr_ret ?_
  refine tr_dcall H fun h6 H => ?_
  refine tr_pm0 ?_
  exact tr_ret1 rfl rfl ⟨_, rfl, H⟩

def F.maps_Keys_map_int_int_int_int_1.l1 (Q : H → Prop) : Nat → Value → Addr → H → Prop
  | 0, _, _, _ => False
  | q1 + 1, x0, x5, h =>
    RunS PP (Instr.next (.pointer (some x5)) false 0) h fun u h5 => ∃ (b6 : Bool) (t7 : Array Value), u = (.tuple (#[.bool b6] ++ t7)) ∧
    (b6 = true →
    RunS PP (Instr.entry (.pointer (some x5))) h5 fun u h9 => ∃ (r10 : Int) (r11 : Int), u = (.tuple #[(.int .i64 r10), (.int .i64 r11)]) ∧
    CV PP x0 [(.int .i64 r10)] h9 fun u h12 => ∃ (r13 : Bool), u = (.bool r13) ∧
    ((!r13) = true →
    Q h12) ∧
    ((!r13) = false →
    (F.maps_Keys_map_int_int_int_int_1.l1 Q q1) x0 x5 h12)) ∧
    (b6 = false →
    Q h5)
/-- maps.Keys[map[int]int,int,int]$1 -/
def F.maps_Keys_map_int_int_int_int_1 (p0 : Value) (p1 : Addr) (h : H) (Q : H → Prop) : Prop :=
  ldM h p1 fun y1 =>
  RunS PP (Instr.range 28 (.map y1)) h fun u h3 => ∃ a4 : Addr, u = (.pointer (some a4)) ∧
  ∃ m, F.maps_Keys_map_int_int_int_int_1.l1 Q m p0 a4 h3
theorem F.maps_Keys_map_int_int_int_int_1_ok {p0 : Value} {p1 : Addr} {h : H} {Q : H → Prop} (H : F.maps_Keys_map_int_int_int_int_1 p0 p1 h Q) : Fn PP 49 ([p0, (.pointer (some p1))] : List Value).toArray h fun r h' => r = .tuple #[] ∧ Q  h' := by
  unfold F.maps_Keys_map_int_int_int_int_1 at H
  refine fn_of Try.func49 Try.ntmps49 rfl rfl fun w0 => ?_
  refine tr_sub [(0, p0), (1, (.pointer (some p1)))] ⟨rfl, rfl, trivial⟩ ?_
  refine tr_seq ?_
  refine tr_region ?_
  obtain ⟨y1, k2, H⟩ := H
  refine tr_h (y_ld Try.isAgg28 rfl) k2 rfl rfl ?_
  refine tr_e (f_rg rfl H) rfl rfl ?_
  rintro _ h3 ⟨a4, rfl, H⟩
  refine tr_nil ?_
  refine tr_thenN ?_
  refine tr_block ?_
  obtain ⟨m15, H⟩ := H
  refine tr_sub [(0, p0), (5, (.pointer (some a4)))] ⟨rfl, rfl, trivial⟩ ?_
  refine tr_loop_j (fun m L' h => ∃ (x0 : Value) (x5 : Addr), L' = [(0, x0), (5, (.pointer (some x5)))] ∧ F.maps_Keys_map_int_int_int_int_1.l1 Q m x0 x5 h) ?_ ?_ m15 ⟨_, _, rfl, H⟩
  · rintro L' h ⟨_, _, _, H⟩; exact H
  · rintro q1 L' h ⟨x0, x5, rfl, H⟩
    unfold F.maps_Keys_map_int_int_int_int_1.l1 at H
    refine tr_seq ?_
    refine tr_region ?_
    refine tr_e (f_nx rfl H) rfl rfl ?_
    rintro _ h5 ⟨b6, t7, rfl, H⟩
    refine tr_p (y_ext0 (t := t7) rfl) rfl rfl ?_
    refine tr_nil ?_
    refine tr_thenN ?_
    refine tr_seq ?_
    refine tr_cond rfl (fun g8 => ?_) (fun g8 => ?_)
    · replace H := H.1 g8
      refine tr_skip ?_
      refine tr_thenN ?_
      refine tr_block ?_
      refine tr_seq ?_
      refine tr_region ?_
      refine tr_e (f_en rfl H) rfl rfl ?_
      rintro _ h9 ⟨r10, r11, rfl, H⟩
      refine tr_p (y_ext rfl rfl) rfl rfl ?_
      refine tr_p (y_assign rfl) rfl rfl ?_
      refine tr_nil ?_
      refine tr_thenN ?_
      refine tr_seq ?_
      refine tr_region ?_
      refine tr_p (y_move rfl) rfl rfl ?_
      refine tr_p (y_move rfl) rfl rfl ?_
      refine tr_e (e_callD rfl rfl H) rfl rfl ?_
      rintro _ h12 ⟨r13, rfl, H⟩
      refine tr_p (y_not rfl) rfl rfl ?_
      refine tr_nil ?_
      refine tr_thenN ?_
      refine tr_cond rfl (fun g14 => ?_) (fun g14 => ?_)
      · replace H := H.1 g14
        refine tr_ret ?_
        refine tr_blockR ?_
        refine tr_thenR ?_
        refine tr_blockR ?_
        exact tr_ret0 rfl ⟨rfl, H⟩
      · replace H := H.2 g14
        refine tr_skip ?_
        refine tr_blockN ?_
        refine tr_thenN ?_
        exact tr_join [(0, x0), (5, (.pointer (some x5)))] ⟨rfl, rfl, trivial⟩ ⟨_, _, rfl, H⟩
    · replace H := H.2 g8
      refine tr_exit ?_
      refine tr_thenE ?_
      refine tr_thenE ?_
      refine tr_hit ?_
      exact tr_end0 rfl ⟨rfl, H⟩

/-- maps.Keys[map[int]int,int,int] -/
def F.maps_Keys_map_int_int_int_int (p0 : Option Nat) (h : H) (Q : Value → H → Prop) : Prop :=
  new h #[(.map p0)] ty_28 fun a2 h1 =>
  Q (.func (.func 49) #[] #[(.pointer (some a2))]) h1
theorem F.maps_Keys_map_int_int_int_int_ok {p0 : Option Nat} {h : H} {Q : Value → H → Prop} (H : F.maps_Keys_map_int_int_int_int p0 h Q) : Fn PP 31 ([(.map p0)] : List Value).toArray h fun r h' => ∃ r0, r = r0 ∧ Q r0 h' := by
  unfold F.maps_Keys_map_int_int_int_int at H
  refine fn_of Try.func31 Try.ntmps31 rfl rfl fun w0 => ?_
  refine tr_sub [(0, (.map p0))] ⟨rfl, trivial⟩ ?_
  refine tr_seq ?_
  refine tr_region ?_
  refine tr_e (f_box (cs := #[(.map p0)]) rfl rfl H) rfl rfl ?_
  rintro _ h1 ⟨a2, rfl, H⟩
  refine tr_p (y_assign rfl) rfl rfl ?_
  refine tr_nil ?_
  refine tr_thenN ?_
  refine tr_seq ?_
  refine tr_region ?_
  refine tr_p (y_fn rfl rfl) rfl rfl ?_
  refine tr_p (y_assign rfl) rfl rfl ?_
  refine tr_nil ?_
  refine tr_thenN ?_
  refine tr_ret ?_
  exact tr_ret1 rfl rfl ⟨_, rfl, H⟩

/-- (*spate/epoch.Book).Dying -/
def F.epoch_Book_Dying (p0 : Option Addr) (h : H) (Q : Sl → H → Prop) : Prop :=
  F.epoch_Book_guard p0 h fun r2 h1 =>
  fnV r2 fun f_1 fi_1 ca_1 =>
  nn p0 fun a4 =>
  ldM h1 (a4.add 134) fun y6 =>
  F.maps_Keys_map_int_int_int_int y6 h1 fun r9 h8 =>
  F.slices_Sorted_int r9 h8 fun r11 h10 =>
  dcall PP f_1 ((fi_1 ++ ([] : List Value).toArray) ++ ca_1) h10 fun h12 =>
  Q r11 h12
theorem F.epoch_Book_Dying_ok {p0 : Option Addr} {h : H} {Q : Sl → H → Prop} (H : F.epoch_Book_Dying p0 h Q) : Fn PP 12 ([(.pointer p0)] : List Value).toArray h fun r h' => ∃ r0, r = r0.enc ∧ Q r0 h' := by
  unfold F.epoch_Book_Dying at H
  refine fn_ofM Try.func12 Try.ntmps12 rfl rfl fun w0 => ?_
  refine tr_sub [(0, (.pointer p0))] ⟨rfl, trivial⟩ ?_
  refine tr_seq ?_
  refine tr_region ?_
  refine tr_p (y_assign rfl) rfl rfl ?_
  refine tr_nil ?_
  refine tr_thenN ?_
  refine tr_seq ?_
  refine tr_region ?_
  refine tr_p (y_move rfl) rfl rfl ?_
  refine tr_e (e_call Try.call28 rfl (F.epoch_Book_guard_ok H)) rfl rfl ?_
  rintro r2 h1 ⟨_, rfl, H⟩
  obtain ⟨f_1, fi_1, ca_1, e3, H⟩ := H
  subst e3
  refine tr_defer rfl rfl rfl ?_
  refine tr_nil ?_
  refine tr_thenN ?_
  refine tr_seq ?_
  refine tr_region ?_
  refine tr_p (y_move rfl) rfl rfl ?_
  obtain ⟨a4, e5, H⟩ := H
  refine tr_p (f_nn rfl e5) rfl rfl ?_
  refine tr_p (y_fa (off := 134) Try.runUnderlying65 fo_65_4 rfl) rfl rfl ?_
  obtain ⟨y6, k7, H⟩ := H
  refine tr_h (y_ld Try.isAgg28 rfl) k7 rfl rfl ?_
  refine tr_e (e_call Try.call31 rfl (F.maps_Keys_map_int_int_int_int_ok H)) rfl rfl ?_
  rintro r9 h8 ⟨_, rfl, H⟩
  refine tr_e (e_call Try.call30 rfl (F.slices_Sorted_int_ok H)) rfl rfl ?_
  rintro _ h10 ⟨r11, rfl, H⟩
  refine tr_p (y_assign rfl) rfl rfl ?_
  refine tr_nil ?_
  refine tr_thenN ?_
  refine tr_ret ?_
  refine tr_dcall H fun h12 H => ?_
  refine tr_pm0 ?_
  exact tr_ret1 rfl rfl ⟨_, rfl, H⟩

/-- (*spate/epoch.Book).Join -/
def F.epoch_Book_Join (p0 : Option Addr) (p1 : Int) (p2 : Int) (h : H) (Q : Int → H → Prop) : Prop :=
  F.epoch_Book_guard p0 h fun r2 h1 =>
  fnV r2 fun f_1 fi_1 ca_1 =>
  F.epoch_is p1 h1 fun r5 h4 =>
  ((!r5) = true →
  dcall PP f_1 ((fi_1 ++ ([] : List Value).toArray) ++ ca_1) h4 fun h7 =>
  Q 1 h7) ∧
  ((!r5) = false →
  F.epoch_Book_pinned p0 p2 h4 fun r9 h8 =>
  ((!r9) = true →
  dcall PP f_1 ((fi_1 ++ ([] : List Value).toArray) ++ ca_1) h8 fun h11 =>
  Q 33 h11) ∧
  ((!r9) = false →
  F.epoch_Book_has p0 p1 p2 h8 fun r13 h12 =>
  (r13 = true →
  dcall PP f_1 ((fi_1 ++ ([] : List Value).toArray) ++ ca_1) h12 fun h15 =>
  Q 0 h15) ∧
  (r13 = false →
  nn p0 fun a16 =>
  (0 ≤ (p1 : Int) ∧ p1 < 65) ∧
  ldM h12 (((a16.add 4).add ((p1 : Int).toNat * 2)).add 0) fun y19 =>
  nn p0 fun a21 =>
  ldI .i64 h12 (a21.add 2) fun y23 =>
  RunS PP (Builtin.len_ #[60] 3 #[(.map y19)]) h12 fun u h25 => ∃ s26 : Int, u = (.int .i64 s26) ∧
  cellH h25 (a21.add 2) = some (.int .i64 y23) ∧
  (((s26 == y23)) = true →
  dcall PP f_1 ((fi_1 ++ ([] : List Value).toArray) ++ ca_1) h25 fun h29 =>
  Q 34 h29) ∧
  (((s26 == y23)) = false →
  nn p0 fun a30 =>
  (0 ≤ (p1 : Int) ∧ p1 < 65) ∧
  ldM h25 (((a30.add 4).add ((p1 : Int).toNat * 2)).add 0) fun y33 =>
  RunS PP (Instr.mapUpdate 60 (.map y33) (.int .i64 p2) (.agg (⟨⟩ : S_sync_noCopy).cells.toArray)) h25 fun _ h35 =>
  dcall PP f_1 ((fi_1 ++ ([] : List Value).toArray) ++ ca_1) h35 fun h36 =>
  Q 0 h36))))
theorem F.epoch_Book_Join_ok {p0 : Option Addr} {p1 : Int} {p2 : Int} {h : H} {Q : Int → H → Prop} (H : F.epoch_Book_Join p0 p1 p2 h Q) : Fn PP 23 ([(.pointer p0), (.int .i64 p1), (.int .i64 p2)] : List Value).toArray h fun r h' => ∃ r0, r = (.int .i64 r0) ∧ Q r0 h' := by
  unfold F.epoch_Book_Join at H
  refine fn_ofM Try.func23 Try.ntmps23 rfl rfl fun w0 => ?_
  refine tr_sub [(0, (.pointer p0)), (1, (.int .i64 p1)), (2, (.int .i64 p2))] ⟨rfl, rfl, rfl, trivial⟩ ?_
  refine tr_seq ?_
  refine tr_region ?_
  refine tr_p (y_assign rfl) rfl rfl ?_
  refine tr_nil ?_
  refine tr_thenN ?_
  refine tr_seq ?_
  refine tr_region ?_
  refine tr_p (y_move rfl) rfl rfl ?_
  refine tr_e (e_call Try.call28 rfl (F.epoch_Book_guard_ok H)) rfl rfl ?_
  rintro r2 h1 ⟨_, rfl, H⟩
  obtain ⟨f_1, fi_1, ca_1, e3, H⟩ := H
  subst e3
  refine tr_defer rfl rfl rfl ?_
  refine tr_nil ?_
  refine tr_thenN ?_
  refine tr_seq ?_
  refine tr_block ?_
  refine tr_seq ?_
  refine tr_region ?_
  refine tr_p (y_move rfl) rfl rfl ?_
  refine tr_e (e_call Try.call37 rfl (F.epoch_is_ok H)) rfl rfl ?_
  rintro _ h4 ⟨r5, rfl, H⟩
  refine tr_p (y_not rfl) rfl rfl ?_
  refine tr_p (y_assign rfl) rfl rfl ?_
  refine tr_nil ?_
  refine tr_thenN ?_
  refine tr_cond rfl (fun g6 => ?_) (fun g6 => ?_)
  · replace H := H.1 g6
    refine tr_seq ?_
    refine tr_region ?_
    refine tr_p (y_assign rfl) rfl rfl ?_
    refine tr_nil ?_
    refine tr_thenN ?_
    refine tr_ret ?_
    refine tr_blockR ?_
    refine tr_thenR ?_
    refine tr_dcall H fun h7 H => ?_
    refine tr_pm0 ?_
    exact tr_ret1 rfl rfl ⟨_, rfl, H⟩
  · replace H := H.2 g6
    refine tr_seq ?_
    refine tr_region ?_
    refine tr_p (y_move rfl) rfl rfl ?_
    refine tr_p (y_move rfl) rfl rfl ?_
    refine tr_e (e_call Try.call38 rfl (F.epoch_Book_pinned_ok H)) rfl rfl ?_
    rintro _ h8 ⟨r9, rfl, H⟩
    refine tr_p (y_not rfl) rfl rfl ?_
    refine tr_p (y_assign rfl) rfl rfl ?_
    refine tr_nil ?_
    refine tr_thenN ?_
    refine tr_cond rfl (fun g10 => ?_) (fun g10 => ?_)
    · replace H := H.1 g10
      refine tr_seq ?_
      refine tr_region ?_
      refine tr_p (y_assign rfl) rfl rfl ?_
      refine tr_nil ?_
      refine tr_thenN ?_
      refine tr_ret ?_
      refine tr_blockR ?_
      refine tr_thenR ?_
      refine tr_dcall H fun h11 H => ?_
      refine tr_pm0 ?_
      exact tr_ret1 rfl rfl ⟨_, rfl, H⟩
    · replace H := H.2 g10
      refine tr_seq ?_
      refine tr_region ?_
      refine tr_p (y_move rfl) rfl rfl ?_
      refine tr_p (y_move rfl) rfl rfl ?_
      refine tr_p (y_move rfl) rfl rfl ?_
      refine tr_e (e_call Try.call39 rfl (F.epoch_Book_has_ok H)) rfl rfl ?_
      rintro _ h12 ⟨r13, rfl, H⟩
      refine tr_p (y_assign rfl) rfl rfl ?_
      refine tr_nil ?_
      refine tr_thenN ?_
      refine tr_cond rfl (fun g14 => ?_) (fun g14 => ?_)
      · replace H := H.1 g14
        refine tr_seq ?_
        refine tr_region ?_
        refine tr_p (y_assign rfl) rfl rfl ?_
        refine tr_nil ?_
        refine tr_thenN ?_
        refine tr_ret ?_
        refine tr_blockR ?_
        refine tr_thenR ?_
        refine tr_dcall H fun h15 H => ?_
        refine tr_pm0 ?_
        exact tr_ret1 rfl rfl ⟨_, rfl, H⟩
      · replace H := H.2 g14
        refine tr_seq ?_
        refine tr_draw mixed [0, 0, 1, 5, 15, 31, 63, 127, 0, 256, 768, 1792, 4095, 8191] (by kernel_rfl) ?_
        refine g_p 0 1 rfl (by kernel_rfl) (y_move rfl) rfl rfl ?_
        refine g_p 1 3 rfl (by kernel_rfl) (y_move rfl) rfl rfl ?_
        obtain ⟨a16, e17, H⟩ := H
        refine g_p 2 7 rfl (by kernel_rfl) (f_nn rfl e17) rfl rfl ?_
        refine g_p 3 15 rfl (by kernel_rfl) (y_fa (off := 4) Try.runUnderlying65 fo_65_3 rfl) rfl rfl ?_
        obtain ⟨e18, H⟩ := H
        refine g_p 4 31 rfl (by kernel_rfl) (f_idxArr Try.runUnderlying63 Try.sizeOf62 rfl rfl e18) rfl rfl ?_
        refine g_p 5 63 rfl (by kernel_rfl) (y_fa (off := 0) Try.runUnderlying62 fo_62_0 rfl) rfl rfl ?_
        obtain ⟨y19, k20, H⟩ := H
        refine g_h 6 127 rfl (by kernel_rfl) (y_ld Try.isAgg60 rfl) k20 rfl rfl ?_
        refine g_p 8 383 rfl (by kernel_rfl) (y_move rfl) rfl rfl ?_
        obtain ⟨a21, e22, H⟩ := H
        refine g_p 9 895 rfl (by kernel_rfl) (f_nn rfl e22) rfl rfl ?_
        refine g_p 10 1919 rfl (by kernel_rfl) (y_fa (off := 2) Try.runUnderlying65 fo_65_1 rfl) rfl rfl ?_
        obtain ⟨y23, k24, H⟩ := H
        refine g_h 11 3967 rfl (by kernel_rfl) (y_ld Try.isAgg3 rfl) k24 rfl rfl ?_
        refine g_e 7 4095 [(11, fun h => cellH h (a21.add 2) = some (.int .i64 y23))] (by kernel_rfl) rfl (by kernel_rfl) (f_lenM rfl H) rfl rfl ?_
        rintro _ h25 ⟨s26, rfl, H⟩
        obtain ⟨k27, H⟩ := H
        refine ⟨And.intro k27 trivial, ?_⟩
        refine g_p 12 8191 rfl (by kernel_rfl) (y_eql rfl rfl) rfl rfl ?_
        refine g_p 13 16383 rfl (by kernel_rfl) (y_assign rfl) rfl rfl ?_
        refine g_d (by kernel_rfl) ?_
        refine tr_thenN ?_
        refine tr_cond rfl (fun g28 => ?_) (fun g28 => ?_)
        · replace H := H.1 g28
          refine tr_seq ?_
          refine tr_region ?_
          refine tr_p (y_assign rfl) rfl rfl ?_
          refine tr_nil ?_
          refine tr_thenN ?_
          refine tr_ret ?_
          refine tr_blockR ?_
          refine tr_thenR ?_
          refine tr_dcall H fun h29 H => ?_
          refine tr_pm0 ?_
          exact tr_ret1 rfl rfl ⟨_, rfl, H⟩
        · replace H := H.2 g28
          refine tr_skip ?_
          refine tr_blockN ?_
          refine tr_thenN ?_
          refine tr_seq ?_
          refine tr_region ?_
          refine tr_p (y_move rfl) rfl rfl ?_
          refine tr_p (y_move rfl) rfl rfl ?_
          obtain ⟨a30, e31, H⟩ := H
          refine tr_p (f_nn rfl e31) rfl rfl ?_
          refine tr_p (y_fa (off := 4) Try.runUnderlying65 fo_65_3 rfl) rfl rfl ?_
          obtain ⟨e32, H⟩ := H
          refine tr_p (f_idxArr Try.runUnderlying63 Try.sizeOf62 rfl rfl e32) rfl rfl ?_
          refine tr_p (y_fa (off := 0) Try.runUnderlying62 fo_62_0 rfl) rfl rfl ?_
          obtain ⟨y33, k34, H⟩ := H
          refine tr_h (y_ld Try.isAgg60 rfl) k34 rfl rfl ?_
          refine tr_p (y_move rfl) rfl rfl ?_
          refine tr_p (f_build rfl (bd_53_ )) rfl rfl ?_
          refine tr_e (f_mu rfl rfl rfl H) rfl rfl ?_
          rintro _ h35 ⟨rfl, H⟩
          refine tr_nil ?_
          refine tr_thenN ?_
          refine tr_seq ?_
          refine tr_region ?_
          refine tr_p (y_assign rfl) rfl rfl ?_
          refine tr_nil ?_
          refine tr_thenN ?_
          refine tr_ret ?_
          refine tr_dcall H fun h36 H => ?_
          refine tr_pm0 ?_
          exact tr_ret1 rfl rfl ⟨_, rfl, H⟩

def F.epoch_Book_Begin.l1 (Q : Int → H → Prop) (f_1 : FuncId) (fi_1 ca_1 : Array Value) : Nat → (Option Addr) → Addr → H → Prop
  | 0, _, _, _ => False
  | q1 + 1, x0, x17, h =>
    RunS PP (Instr.next (.pointer (some x17)) false 0) h fun u h19 => ∃ (b20 : Bool) (t21 : Array Value), u = (.tuple (#[.bool b20] ++ t21)) ∧
    (b20 = true →
    RunS PP (Instr.entry (.pointer (some x17))) h19 fun u h23 => ∃ (r24 : Int) (r25 : Int), u = (.tuple #[(.int .i64 r24), (.int .i64 r25)]) ∧
    nn x0 fun a26 =>
    ldM h23 (a26.add 134) fun y28 =>
    RunS PP (Instr.mapUpdate 28 (.map y28) (.int .i64 r24) (.int .i64 1)) h23 fun _ h30 =>
    (F.epoch_Book_Begin.l1 Q f_1 fi_1 ca_1 q1) x0 x17 h30) ∧
    (b20 = false →
    dcall PP f_1 ((fi_1 ++ ([] : List Value).toArray) ++ ca_1) h19 fun h31 =>
    Q 0 h31)
/-- (*spate/epoch.Book).Begin -/
def F.epoch_Book_Begin (p0 : Option Addr) (h : H) (Q : Int → H → Prop) : Prop :=
  F.epoch_Book_guard p0 h fun r2 h1 =>
  fnV r2 fun f_1 fi_1 ca_1 =>
  nn p0 fun a4 =>
  ldB h1 (a4.add 135) fun y6 =>
  (y6 = true →
  dcall PP f_1 ((fi_1 ++ ([] : List Value).toArray) ++ ca_1) h1 fun h9 =>
  Q 43 h9) ∧
  (y6 = false →
  nn p0 fun a10 =>
  stH h1 (a10.add 135) [(.bool true)] fun h12 =>
  nn p0 fun a13 =>
  ldM h12 (a13.add 134) fun y15 =>
  RunS PP (Instr.range 28 (.map y15)) h12 fun u h17 => ∃ a18 : Addr, u = (.pointer (some a18)) ∧
  ∃ m, F.epoch_Book_Begin.l1 Q f_1 fi_1 ca_1 m p0 a18 h17)
theorem F.epoch_Book_Begin_ok {p0 : Option Addr} {h : H} {Q : Int → H → Prop} (H : F.epoch_Book_Begin p0 h Q) : Fn PP 26 ([(.pointer p0)] : List Value).toArray h fun r h' => ∃ r0, r = (.int .i64 r0) ∧ Q r0 h' := by
  unfold F.epoch_Book_Begin at H
  refine fn_ofM Try.func26 Try.ntmps26 rfl rfl fun w0 => ?_
  refine tr_sub [(0, (.pointer p0))] ⟨rfl, trivial⟩ ?_
  refine tr_seq ?_
  refine tr_region ?_
  refine tr_p (y_assign rfl) rfl rfl ?_
  refine tr_nil ?_
  refine tr_thenN ?_
  refine tr_seq ?_
  refine tr_region ?_
  refine tr_p (y_move rfl) rfl rfl ?_
  refine tr_e (e_call Try.call28 rfl (F.epoch_Book_guard_ok H)) rfl rfl ?_
  rintro r2 h1 ⟨_, rfl, H⟩
  obtain ⟨f_1, fi_1, ca_1, e3, H⟩ := H
  subst e3
  refine tr_defer rfl rfl rfl ?_
  refine tr_nil ?_
  refine tr_thenN ?_
  refine tr_seq ?_
  refine tr_seq ?_
  refine tr_region ?_
  refine tr_p (y_move rfl) rfl rfl ?_
  obtain ⟨a4, e5, H⟩ := H
  refine tr_p (f_nn rfl e5) rfl rfl ?_
  refine tr_p (y_fa (off := 135) Try.runUnderlying65 fo_65_5 rfl) rfl rfl ?_
  obtain ⟨y6, k7, H⟩ := H
  refine tr_h (y_ld Try.isAgg4 rfl) k7 rfl rfl ?_
  refine tr_nil ?_
  refine tr_thenN ?_
  refine tr_cond rfl (fun g8 => ?_) (fun g8 => ?_)
  · replace H := H.1 g8
    refine tr_seq ?_
    refine tr_region ?_
    refine tr_p (y_assign rfl) rfl rfl ?_
    refine tr_nil ?_
    refine tr_thenN ?_
    refine tr_ret ?_
    refine tr_thenR ?_
    refine tr_dcall H fun h9 H => ?_
    refine tr_pm0 ?_
    exact tr_ret1 rfl rfl ⟨_, rfl, H⟩
  · replace H := H.2 g8
    refine tr_skip ?_
    refine tr_thenN ?_
    refine tr_seq ?_
    refine tr_region ?_
    refine tr_p (y_move rfl) rfl rfl ?_
    obtain ⟨a10, e11, H⟩ := H
    refine tr_p (f_nn rfl e11) rfl rfl ?_
    refine tr_p (y_fa (off := 135) Try.runUnderlying65 fo_65_5 rfl) rfl rfl ?_
    refine tr_e (f_store (vs := [(.bool true)]) Try.sizeOf4 rfl rfl rfl rfl (one1 rfl) H) rfl rfl ?_
    rintro _ h12 ⟨rfl, H⟩
    refine tr_nil ?_
    refine tr_thenN ?_
    refine tr_seq ?_
    refine tr_seq ?_
    refine tr_region ?_
    refine tr_p (y_move rfl) rfl rfl ?_
    obtain ⟨a13, e14, H⟩ := H
    refine tr_p (f_nn rfl e14) rfl rfl ?_
    refine tr_p (y_fa (off := 134) Try.runUnderlying65 fo_65_4 rfl) rfl rfl ?_
    obtain ⟨y15, k16, H⟩ := H
    refine tr_h (y_ld Try.isAgg28 rfl) k16 rfl rfl ?_
    refine tr_e (f_rg rfl H) rfl rfl ?_
    rintro _ h17 ⟨a18, rfl, H⟩
    refine tr_nil ?_
    refine tr_thenN ?_
    refine tr_block ?_
    obtain ⟨m32, H⟩ := H
    refine tr_sub [(0, (.pointer p0)), (17, (.pointer (some a18)))] ⟨rfl, rfl, trivial⟩ ?_
    refine tr_loop_j (fun m L' h => ∃ (x0 : Option Addr) (x17 : Addr), L' = [(0, (.pointer x0)), (17, (.pointer (some x17)))] ∧ F.epoch_Book_Begin.l1 Q f_1 fi_1 ca_1 m x0 x17 h) ?_ ?_ m32 ⟨_, _, rfl, H⟩
    · rintro L' h ⟨_, _, _, H⟩; exact H
    · rintro q1 L' h ⟨x0, x17, rfl, H⟩
      unfold F.epoch_Book_Begin.l1 at H
      refine tr_seq ?_
      refine tr_region ?_
      refine tr_e (f_nx rfl H) rfl rfl ?_
      rintro _ h19 ⟨b20, t21, rfl, H⟩
      refine tr_p (y_ext0 (t := t21) rfl) rfl rfl ?_
      refine tr_nil ?_
      refine tr_thenN ?_
      refine tr_seq ?_
      refine tr_cond rfl (fun g22 => ?_) (fun g22 => ?_)
      · replace H := H.1 g22
        refine tr_skip ?_
        refine tr_thenN ?_
        refine tr_block ?_
        refine tr_seq ?_
        refine tr_region ?_
        refine tr_e (f_en rfl H) rfl rfl ?_
        rintro _ h23 ⟨r24, r25, rfl, H⟩
        refine tr_p (y_ext rfl rfl) rfl rfl ?_
        refine tr_p (y_assign rfl) rfl rfl ?_
        refine tr_nil ?_
        refine tr_thenN ?_
        refine tr_region ?_
        refine tr_p (y_move rfl) rfl rfl ?_
        obtain ⟨a26, e27, H⟩ := H
        refine tr_p (f_nn rfl e27) rfl rfl ?_
        refine tr_p (y_fa (off := 134) Try.runUnderlying65 fo_65_4 rfl) rfl rfl ?_
        obtain ⟨y28, k29, H⟩ := H
        refine tr_h (y_ld Try.isAgg28 rfl) k29 rfl rfl ?_
        refine tr_p (y_move rfl) rfl rfl ?_
        refine tr_e (f_mu rfl rfl rfl H) rfl rfl ?_
        rintro _ h30 ⟨rfl, H⟩
        refine tr_nil ?_
        refine tr_blockN ?_
        refine tr_thenN ?_
        exact tr_join [(0, (.pointer x0)), (17, (.pointer (some x17)))] ⟨rfl, rfl, trivial⟩ ⟨_, _, rfl, H⟩
      · replace H := H.2 g22
        refine tr_exit ?_
        refine tr_thenE ?_
        refine tr_thenE ?_
        refine tr_hit ?_
        refine tr_thenN ?_
        refine tr_seq ?_
        refine tr_region ?_
        refine tr_p (y_assign rfl) rfl rfl ?_
        refine tr_nil ?_
        refine tr_thenN ?_
        refine tr_ret ?_
        refine tr_dcall H fun h31 H => ?_
        refine tr_pm0 ?_
        exact tr_ret1 rfl rfl ⟨_, rfl, H⟩

/-- (*spate/epoch.Book).Holds -/
def F.epoch_Book_Holds (p0 : Option Addr) (p1 : Int) (p2 : Int) (h : H) (Q : Bool → H → Prop) : Prop :=
  F.epoch_Book_guard p0 h fun r2 h1 =>
  fnV r2 fun f_1 fi_1 ca_1 =>
  F.epoch_is p1 h1 fun r5 h4 =>
  (r5 = true →
  F.epoch_Book_has p0 p1 p2 h4 fun r8 h7 =>
  dcall PP f_1 ((fi_1 ++ ([] : List Value).toArray) ++ ca_1) h7 fun h9 =>
  Q r8 h9) ∧
  (r5 = false →
  dcall PP f_1 ((fi_1 ++ ([] : List Value).toArray) ++ ca_1) h4 fun h10 =>
  Q false h10)
theorem F.epoch_Book_Holds_ok {p0 : Option Addr} {p1 : Int} {p2 : Int} {h : H} {Q : Bool → H → Prop} (H : F.epoch_Book_Holds p0 p1 p2 h Q) : Fn PP 25 ([(.pointer p0), (.int .i64 p1), (.int .i64 p2)] : List Value).toArray h fun r h' => ∃ r0, r = (.bool r0) ∧ Q r0 h' := by
  unfold F.epoch_Book_Holds at H
  refine fn_ofM Try.func25 Try.ntmps25 rfl rfl fun w0 => ?_
  refine tr_sub [(0, (.pointer p0)), (1, (.int .i64 p1)), (2, (.int .i64 p2))] ⟨rfl, rfl, rfl, trivial⟩ ?_
  refine tr_seq ?_
  refine tr_region ?_
  refine tr_p (y_assign rfl) rfl rfl ?_
  refine tr_nil ?_
  refine tr_thenN ?_
  refine tr_seq ?_
  refine tr_region ?_
  refine tr_p (y_move rfl) rfl rfl ?_
  refine tr_e (e_call Try.call28 rfl (F.epoch_Book_guard_ok H)) rfl rfl ?_
  rintro r2 h1 ⟨_, rfl, H⟩
  obtain ⟨f_1, fi_1, ca_1, e3, H⟩ := H
  subst e3
  refine tr_defer rfl rfl rfl ?_
  refine tr_nil ?_
  refine tr_thenN ?_
  refine tr_seq ?_
  refine tr_region ?_
  refine tr_p (y_move rfl) rfl rfl ?_
  refine tr_e (e_call Try.call37 rfl (F.epoch_is_ok H)) rfl rfl ?_
  rintro _ h4 ⟨r5, rfl, H⟩
  refine tr_p (y_move rfl) rfl rfl ?_
  refine tr_split (t := 11) rfl (fun g6 => ?_) (fun g6 => ?_)
  · replace H := H.1 g6
    refine tr_p (y_move rfl) rfl rfl ?_
    refine tr_p (y_move rfl) rfl rfl ?_
    refine tr_p (y_move rfl) rfl rfl ?_
    refine tr_e (e_call Try.call39 rfl (F.epoch_Book_has_ok H)) rfl rfl ?_
    rintro _ h7 ⟨r8, rfl, H⟩
    refine tr_p (y_pick_t rfl rfl) rfl rfl ?_
    refine tr_p (y_assign rfl) rfl rfl ?_
    refine tr_nil ?_
    refine tr_thenN ?_
    refine tr_ret ?_
    refine tr_dcall H fun h9 H => ?_
    refine tr_pm0 ?_
    exact tr_ret1 rfl rfl ⟨_, rfl, H⟩
  · replace H := H.2 g6
    refine tr_s rfl rfl ?_
    refine tr_s rfl rfl ?_
    refine tr_s rfl rfl ?_
    refine tr_s rfl rfl ?_
    refine tr_p (y_pick_f rfl rfl) rfl rfl ?_
    refine tr_p (y_assign rfl) rfl rfl ?_
    refine tr_nil ?_
    refine tr_thenN ?_
    refine tr_ret ?_
    refine tr_dcall H fun h10 H => ?_
    refine tr_pm0 ?_
    exact tr_ret1 rfl rfl ⟨_, rfl, H⟩

def F.spatelaw9_known.j3 (Q : Bool → H → Prop) (x1 : Option Addr) (x6 : Bool) (h : H) : Prop :=
  F.epoch_Book_End x1 h fun r11 r12 h10 =>
  (x6 = true →
  (((r11 == 1)) = true →
  (((r12 == 0)) = true →
  F.epoch_Book_Live x1 h10 fun r17 h16 =>
  (((r17 == 0)) = true →
  F.epoch_Book_Now x1 h16 fun r20 h19 =>
  Q ((r20 == 2)) h19) ∧
  (((r17 == 0)) = false →
  Q false h16)) ∧
  (((r12 == 0)) = false →
  Q false h10)) ∧
  (((r11 == 1)) = false →
  Q false h10)) ∧
  (x6 = false →
  Q false h10)
def F.spatelaw9_known.j2 (Q : Bool → H → Prop) (x1 : Option Addr) (x6 : Bool) (h : H) : Prop :=
  (x6 = true →
  F.epoch_Book_Release x1 2 1 h fun r23 h22 =>
  (((r23 == 0)) = true →
  F.epoch_Book_Held x1 h22 fun r26 h25 =>
  ((((r26.len : Int) == 0)) = true →
  F.epoch_Book_Dying x1 h25 fun r29 h28 =>
  ((((r29.len : Int) == 1)) = true →
  F.epoch_Book_Join x1 1 1 h28 fun r32 h31 =>
  (((r32 == 33)) = true →
  F.epoch_Book_Begin x1 h31 fun r35 h34 =>
  F.spatelaw9_known.j3 Q x1 ((r35 == 0)) h34) ∧
  (((r32 == 33)) = false →
  F.spatelaw9_known.j3 Q x1 false h31)) ∧
  ((((r29.len : Int) == 1)) = false →
  F.spatelaw9_known.j3 Q x1 false h28)) ∧
  ((((r26.len : Int) == 0)) = false →
  F.spatelaw9_known.j3 Q x1 false h25)) ∧
  (((r23 == 0)) = false →
  F.spatelaw9_known.j3 Q x1 false h22)) ∧
  (x6 = false →
  F.spatelaw9_known.j3 Q x1 false h)
def F.spatelaw9_known.j1 (Q : Bool → H → Prop) (x1 : Option Addr) (h : H) : Prop :=
  F.epoch_Book_Seal x1 1 h fun r8 r9 h7 =>
  (((r8 == 1)) = true →
  (((r9 == 0)) = true →
  F.epoch_Book_Join x1 2 1 h7 fun r39 h38 =>
  (((r39 == 0)) = true →
  F.epoch_Book_Release x1 1 1 h38 fun r42 h41 =>
  (((r42 == 0)) = true →
  F.epoch_Book_Holds x1 2 1 h41 fun r45 h44 =>
  (r45 = true →
  F.epoch_Book_Live x1 h44 fun r48 h47 =>
  (((r48 == 1)) = true →
  F.epoch_Book_Dying x1 h47 fun r51 h50 =>
  F.spatelaw9_known.j2 Q x1 (((r51.len : Int) == 0)) h50) ∧
  (((r48 == 1)) = false →
  F.spatelaw9_known.j2 Q x1 false h47)) ∧
  (r45 = false →
  F.spatelaw9_known.j2 Q x1 false h44)) ∧
  (((r42 == 0)) = false →
  F.spatelaw9_known.j2 Q x1 false h41)) ∧
  (((r39 == 0)) = false →
  F.spatelaw9_known.j2 Q x1 false h38)) ∧
  (((r9 == 0)) = false →
  F.spatelaw9_known.j2 Q x1 false h7)) ∧
  (((r8 == 1)) = false →
  F.spatelaw9_known.j2 Q x1 false h7)
def F.spatelaw9_known.j4 (Q : Bool → H → Prop) (x1 : Option Addr) (x30 : Bool) (h : H) : Prop :=
  (x30 = true →
  Q false h) ∧
  (x30 = false →
  F.spatelaw9_known.j1 Q x1 h)
/-- spate/spatelaw9.known -/
def F.spatelaw9_known  (h : H) (Q : Bool → H → Prop) : Prop :=
  F.epoch_New 2 h fun r2 r3 h1 =>
  F.epoch_New 0 h1 fun r5 r6 h4 =>
  (((r3 != 0)) = true →
  F.spatelaw9_known.j4 Q r2 true h4) ∧
  (((r3 != 0)) = false →
  (r2.isNone = true →
  F.spatelaw9_known.j4 Q r2 true h4) ∧
  (r2.isNone = false →
  ((!r5.isNone) = true →
  F.spatelaw9_known.j4 Q r2 true h4) ∧
  ((!r5.isNone) = false →
  F.spatelaw9_known.j4 Q r2 ((r6 != 1)) h4)))
theorem F.spatelaw9_known_ok  {h : H} {Q : Bool → H → Prop} (H : F.spatelaw9_known  h Q) : Fn PP 9 ([] : List Value).toArray h fun r h' => ∃ r0, r = (.bool r0) ∧ Q r0 h' := by
  unfold F.spatelaw9_known at H
  refine fn_of Try.func9 Try.ntmps9 rfl rfl fun w0 => ?_
  refine tr_sub [] trivial ?_
  refine tr_seq ?_
  refine tr_region ?_
  refine tr_p (y_assign rfl) rfl rfl ?_
  refine tr_nil ?_
  refine tr_thenN ?_
  refine tr_seq ?_
  refine tr_region ?_
  refine tr_e (e_call Try.call10 rfl (F.epoch_New_ok H)) rfl rfl ?_
  rintro _ h1 ⟨r2, r3, rfl, H⟩
  refine tr_p (y_move rfl) rfl rfl ?_
  refine tr_p (y_ext rfl rfl) rfl rfl ?_
  refine tr_p (y_ext rfl rfl) rfl rfl ?_
  refine tr_p (y_assign rfl) rfl rfl ?_
  refine tr_p (y_assign rfl) rfl rfl ?_
  refine tr_nil ?_
  refine tr_thenN ?_
  refine tr_seq ?_
  refine tr_region ?_
  refine tr_e (e_call Try.call10 rfl (F.epoch_New_ok H)) rfl rfl ?_
  rintro _ h4 ⟨r5, r6, rfl, H⟩
  refine tr_p (y_move rfl) rfl rfl ?_
  refine tr_p (y_ext rfl rfl) rfl rfl ?_
  refine tr_p (y_ext rfl rfl) rfl rfl ?_
  refine tr_p (y_assign rfl) rfl rfl ?_
  refine tr_p (y_assign rfl) rfl rfl ?_
  refine tr_nil ?_
  refine tr_thenN ?_
  refine tr_seq_j (fun L' h => ∃ (x1 : Option Addr), L' = [(1, (.pointer x1))] ∧ F.spatelaw9_known.j1 Q x1 h) ?_ ?_
  · rintro L' h ⟨x1, rfl, H⟩
    unfold F.spatelaw9_known.j1 at H
    refine tr_seq ?_
    refine tr_region ?_
    refine tr_p (y_move rfl) rfl rfl ?_
    refine tr_e (e_call Try.call22 rfl (F.epoch_Book_Seal_ok H)) rfl rfl ?_
    rintro _ h7 ⟨r8, r9, rfl, H⟩
    refine tr_p (y_move rfl) rfl rfl ?_
    refine tr_p (y_ext rfl rfl) rfl rfl ?_
    refine tr_p (y_ext rfl rfl) rfl rfl ?_
    refine tr_p (y_assign rfl) rfl rfl ?_
    refine tr_p (y_assign rfl) rfl rfl ?_
    refine tr_nil ?_
    refine tr_thenN ?_
    refine tr_seq_j (fun L' h => ∃ (x1 : Option Addr) (x6 : Bool), L' = [(1, (.pointer x1)), (6, (.bool x6))] ∧ F.spatelaw9_known.j2 Q x1 x6 h) ?_ ?_
    · rintro L' h ⟨x1, x6, rfl, H⟩
      unfold F.spatelaw9_known.j2 at H
      refine tr_seq_j (fun L' h => ∃ (x1 : Option Addr) (x6 : Bool), L' = [(1, (.pointer x1)), (6, (.bool x6))] ∧ F.spatelaw9_known.j3 Q x1 x6 h) ?_ ?_
      · rintro L' h ⟨x1, x6, rfl, H⟩
        unfold F.spatelaw9_known.j3 at H
        refine tr_seq ?_
        refine tr_region ?_
        refine tr_p (y_move rfl) rfl rfl ?_
        refine tr_e (e_call Try.call27 rfl (F.epoch_Book_End_ok H)) rfl rfl ?_
        rintro _ h10 ⟨r11, r12, rfl, H⟩
        refine tr_p (y_move rfl) rfl rfl ?_
        refine tr_p (y_ext rfl rfl) rfl rfl ?_
        refine tr_p (y_ext rfl rfl) rfl rfl ?_
        refine tr_p (y_assign rfl) rfl rfl ?_
        refine tr_p (y_assign rfl) rfl rfl ?_
        refine tr_nil ?_
        refine tr_thenN ?_
        refine tr_seq ?_
        refine tr_region ?_
        refine tr_p (y_move rfl) rfl rfl ?_
        refine tr_p (y_move rfl) rfl rfl ?_
        refine tr_split (t := 101) rfl (fun g13 => ?_) (fun g13 => ?_)
        · replace H := H.1 g13
          refine tr_p (y_move rfl) rfl rfl ?_
          refine tr_p (y_eql rfl rfl) rfl rfl ?_
          refine tr_p (y_pick_t rfl rfl) rfl rfl ?_
          refine tr_p (y_move rfl) rfl rfl ?_
          refine tr_split (t := 105) rfl (fun g14 => ?_) (fun g14 => ?_)
          · replace H := H.1 g14
            refine tr_p (y_move rfl) rfl rfl ?_
            refine tr_p (y_eql rfl rfl) rfl rfl ?_
            refine tr_p (y_pick_t rfl rfl) rfl rfl ?_
            refine tr_p (y_move rfl) rfl rfl ?_
            refine tr_split (t := 109) rfl (fun g15 => ?_) (fun g15 => ?_)
            · replace H := H.1 g15
              refine tr_p (y_move rfl) rfl rfl ?_
              refine tr_e (e_call Try.call16 rfl (F.epoch_Book_Live_ok H)) rfl rfl ?_
              rintro _ h16 ⟨r17, rfl, H⟩
              refine tr_p (y_eql rfl rfl) rfl rfl ?_
              refine tr_p (y_pick_t rfl rfl) rfl rfl ?_
              refine tr_p (y_move rfl) rfl rfl ?_
              refine tr_split (t := 114) rfl (fun g18 => ?_) (fun g18 => ?_)
              · replace H := H.1 g18
                refine tr_p (y_move rfl) rfl rfl ?_
                refine tr_e (e_call Try.call15 rfl (F.epoch_Book_Now_ok H)) rfl rfl ?_
                rintro _ h19 ⟨r20, rfl, H⟩
                refine tr_p (y_eql rfl rfl) rfl rfl ?_
                refine tr_p (y_pick_t rfl rfl) rfl rfl ?_
                refine tr_p (y_assign rfl) rfl rfl ?_
                refine tr_nil ?_
                refine tr_thenN ?_
                refine tr_ret ?_
                exact tr_ret1 rfl rfl ⟨_, rfl, H⟩
              · replace H := H.2 g18
                refine tr_s rfl rfl ?_
                refine tr_s rfl rfl ?_
                refine tr_s rfl rfl ?_
                refine tr_p (y_pick_f rfl rfl) rfl rfl ?_
                refine tr_p (y_assign rfl) rfl rfl ?_
                refine tr_nil ?_
                refine tr_thenN ?_
                refine tr_ret ?_
                exact tr_ret1 rfl rfl ⟨_, rfl, H⟩
            · replace H := H.2 g15
              refine tr_s rfl rfl ?_
              refine tr_s rfl rfl ?_
              refine tr_s rfl rfl ?_
              refine tr_p (y_pick_f rfl rfl) rfl rfl ?_
              refine tr_p (y_move rfl) rfl rfl ?_
              refine tr_s rfl rfl ?_
              refine tr_s rfl rfl ?_
              refine tr_s rfl rfl ?_
              refine tr_p (y_pick_f rfl rfl) rfl rfl ?_
              refine tr_p (y_assign rfl) rfl rfl ?_
              refine tr_nil ?_
              refine tr_thenN ?_
              refine tr_ret ?_
              exact tr_ret1 rfl rfl ⟨_, rfl, H⟩
          · replace H := H.2 g14
            refine tr_s rfl rfl ?_
            refine tr_s rfl rfl ?_
            refine tr_p (y_pick_f rfl rfl) rfl rfl ?_
            refine tr_p (y_move rfl) rfl rfl ?_
            refine tr_s rfl rfl ?_
            refine tr_s rfl rfl ?_
            refine tr_s rfl rfl ?_
            refine tr_p (y_pick_f rfl rfl) rfl rfl ?_
            refine tr_p (y_move rfl) rfl rfl ?_
            refine tr_s rfl rfl ?_
            refine tr_s rfl rfl ?_
            refine tr_s rfl rfl ?_
            refine tr_p (y_pick_f rfl rfl) rfl rfl ?_
            refine tr_p (y_assign rfl) rfl rfl ?_
            refine tr_nil ?_
            refine tr_thenN ?_
            refine tr_ret ?_
            exact tr_ret1 rfl rfl ⟨_, rfl, H⟩
        · replace H := H.2 g13
          refine tr_s rfl rfl ?_
          refine tr_s rfl rfl ?_
          refine tr_p (y_pick_f rfl rfl) rfl rfl ?_
          refine tr_p (y_move rfl) rfl rfl ?_
          refine tr_s rfl rfl ?_
          refine tr_s rfl rfl ?_
          refine tr_p (y_pick_f rfl rfl) rfl rfl ?_
          refine tr_p (y_move rfl) rfl rfl ?_
          refine tr_s rfl rfl ?_
          refine tr_s rfl rfl ?_
          refine tr_s rfl rfl ?_
          refine tr_p (y_pick_f rfl rfl) rfl rfl ?_
          refine tr_p (y_move rfl) rfl rfl ?_
          refine tr_s rfl rfl ?_
          refine tr_s rfl rfl ?_
          refine tr_s rfl rfl ?_
          refine tr_p (y_pick_f rfl rfl) rfl rfl ?_
          refine tr_p (y_assign rfl) rfl rfl ?_
          refine tr_nil ?_
          refine tr_thenN ?_
          refine tr_ret ?_
          exact tr_ret1 rfl rfl ⟨_, rfl, H⟩
      · refine tr_region ?_
        refine tr_p (y_move rfl) rfl rfl ?_
        refine tr_p (y_move rfl) rfl rfl ?_
        refine tr_split (t := 68) rfl (fun g21 => ?_) (fun g21 => ?_)
        · replace H := H.1 g21
          refine tr_p (y_move rfl) rfl rfl ?_
          refine tr_e (e_call Try.call24 rfl (F.epoch_Book_Release_ok H)) rfl rfl ?_
          rintro _ h22 ⟨r23, rfl, H⟩
          refine tr_p (y_eql rfl rfl) rfl rfl ?_
          refine tr_p (y_pick_t rfl rfl) rfl rfl ?_
          refine tr_p (y_move rfl) rfl rfl ?_
          refine tr_split (t := 73) rfl (fun g24 => ?_) (fun g24 => ?_)
          · replace H := H.1 g24
            refine tr_p (y_move rfl) rfl rfl ?_
            refine tr_e (e_call Try.call11 rfl (F.epoch_Book_Held_ok H)) rfl rfl ?_
            rintro _ h25 ⟨r26, rfl, H⟩
            refine tr_p (y_len (ts := #[]) Try.runUnderlying29 (o := r26.ptr) (n := r26.len) (cap := r26.cap) rfl) rfl rfl ?_
            refine tr_p (y_eql rfl rfl) rfl rfl ?_
            refine tr_p (y_pick_t rfl rfl) rfl rfl ?_
            refine tr_p (y_move rfl) rfl rfl ?_
            refine tr_split (t := 79) rfl (fun g27 => ?_) (fun g27 => ?_)
            · replace H := H.1 g27
              refine tr_p (y_move rfl) rfl rfl ?_
              refine tr_e (e_call Try.call12 rfl (F.epoch_Book_Dying_ok H)) rfl rfl ?_
              rintro _ h28 ⟨r29, rfl, H⟩
              refine tr_p (y_len (ts := #[]) Try.runUnderlying29 (o := r29.ptr) (n := r29.len) (cap := r29.cap) rfl) rfl rfl ?_
              refine tr_p (y_eql rfl rfl) rfl rfl ?_
              refine tr_p (y_pick_t rfl rfl) rfl rfl ?_
              refine tr_p (y_move rfl) rfl rfl ?_
              refine tr_split (t := 85) rfl (fun g30 => ?_) (fun g30 => ?_)
              · replace H := H.1 g30
                refine tr_p (y_move rfl) rfl rfl ?_
                refine tr_e (e_call Try.call23 rfl (F.epoch_Book_Join_ok H)) rfl rfl ?_
                rintro _ h31 ⟨r32, rfl, H⟩
                refine tr_p (y_eql rfl rfl) rfl rfl ?_
                refine tr_p (y_pick_t rfl rfl) rfl rfl ?_
                refine tr_p (y_move rfl) rfl rfl ?_
                refine tr_split (t := 90) rfl (fun g33 => ?_) (fun g33 => ?_)
                · replace H := H.1 g33
                  refine tr_p (y_move rfl) rfl rfl ?_
                  refine tr_e (e_call Try.call26 rfl (F.epoch_Book_Begin_ok H)) rfl rfl ?_
                  rintro _ h34 ⟨r35, rfl, H⟩
                  refine tr_p (y_eql rfl rfl) rfl rfl ?_
                  refine tr_p (y_pick_t rfl rfl) rfl rfl ?_
                  refine tr_p (y_assign rfl) rfl rfl ?_
                  refine tr_nil ?_
                  refine tr_thenN ?_
                  exact tr_join [(1, (.pointer x1)), (6, (.bool ((r35 == 0))))] ⟨rfl, rfl, trivial⟩ ⟨_, _, rfl, H⟩
                · replace H := H.2 g33
                  refine tr_s rfl rfl ?_
                  refine tr_s rfl rfl ?_
                  refine tr_s rfl rfl ?_
                  refine tr_p (y_pick_f rfl rfl) rfl rfl ?_
                  refine tr_p (y_assign rfl) rfl rfl ?_
                  refine tr_nil ?_
                  refine tr_thenN ?_
                  exact tr_join [(1, (.pointer x1)), (6, (.bool false))] ⟨rfl, rfl, trivial⟩ ⟨_, _, rfl, H⟩
              · replace H := H.2 g30
                refine tr_s rfl rfl ?_
                refine tr_s rfl rfl ?_
                refine tr_s rfl rfl ?_
                refine tr_p (y_pick_f rfl rfl) rfl rfl ?_
                refine tr_p (y_move rfl) rfl rfl ?_
                refine tr_s rfl rfl ?_
                refine tr_s rfl rfl ?_
                refine tr_s rfl rfl ?_
                refine tr_p (y_pick_f rfl rfl) rfl rfl ?_
                refine tr_p (y_assign rfl) rfl rfl ?_
                refine tr_nil ?_
                refine tr_thenN ?_
                exact tr_join [(1, (.pointer x1)), (6, (.bool false))] ⟨rfl, rfl, trivial⟩ ⟨_, _, rfl, H⟩
            · replace H := H.2 g27
              refine tr_s rfl rfl ?_
              refine tr_s rfl rfl ?_
              refine tr_s rfl rfl ?_
              refine tr_s rfl rfl ?_
              refine tr_p (y_pick_f rfl rfl) rfl rfl ?_
              refine tr_p (y_move rfl) rfl rfl ?_
              refine tr_s rfl rfl ?_
              refine tr_s rfl rfl ?_
              refine tr_s rfl rfl ?_
              refine tr_p (y_pick_f rfl rfl) rfl rfl ?_
              refine tr_p (y_move rfl) rfl rfl ?_
              refine tr_s rfl rfl ?_
              refine tr_s rfl rfl ?_
              refine tr_s rfl rfl ?_
              refine tr_p (y_pick_f rfl rfl) rfl rfl ?_
              refine tr_p (y_assign rfl) rfl rfl ?_
              refine tr_nil ?_
              refine tr_thenN ?_
              exact tr_join [(1, (.pointer x1)), (6, (.bool false))] ⟨rfl, rfl, trivial⟩ ⟨_, _, rfl, H⟩
          · replace H := H.2 g24
            refine tr_s rfl rfl ?_
            refine tr_s rfl rfl ?_
            refine tr_s rfl rfl ?_
            refine tr_s rfl rfl ?_
            refine tr_p (y_pick_f rfl rfl) rfl rfl ?_
            refine tr_p (y_move rfl) rfl rfl ?_
            refine tr_s rfl rfl ?_
            refine tr_s rfl rfl ?_
            refine tr_s rfl rfl ?_
            refine tr_s rfl rfl ?_
            refine tr_p (y_pick_f rfl rfl) rfl rfl ?_
            refine tr_p (y_move rfl) rfl rfl ?_
            refine tr_s rfl rfl ?_
            refine tr_s rfl rfl ?_
            refine tr_s rfl rfl ?_
            refine tr_p (y_pick_f rfl rfl) rfl rfl ?_
            refine tr_p (y_move rfl) rfl rfl ?_
            refine tr_s rfl rfl ?_
            refine tr_s rfl rfl ?_
            refine tr_s rfl rfl ?_
            refine tr_p (y_pick_f rfl rfl) rfl rfl ?_
            refine tr_p (y_assign rfl) rfl rfl ?_
            refine tr_nil ?_
            refine tr_thenN ?_
            exact tr_join [(1, (.pointer x1)), (6, (.bool false))] ⟨rfl, rfl, trivial⟩ ⟨_, _, rfl, H⟩
        · replace H := H.2 g21
          refine tr_s rfl rfl ?_
          refine tr_s rfl rfl ?_
          refine tr_s rfl rfl ?_
          refine tr_p (y_pick_f rfl rfl) rfl rfl ?_
          refine tr_p (y_move rfl) rfl rfl ?_
          refine tr_s rfl rfl ?_
          refine tr_s rfl rfl ?_
          refine tr_s rfl rfl ?_
          refine tr_s rfl rfl ?_
          refine tr_p (y_pick_f rfl rfl) rfl rfl ?_
          refine tr_p (y_move rfl) rfl rfl ?_
          refine tr_s rfl rfl ?_
          refine tr_s rfl rfl ?_
          refine tr_s rfl rfl ?_
          refine tr_s rfl rfl ?_
          refine tr_p (y_pick_f rfl rfl) rfl rfl ?_
          refine tr_p (y_move rfl) rfl rfl ?_
          refine tr_s rfl rfl ?_
          refine tr_s rfl rfl ?_
          refine tr_s rfl rfl ?_
          refine tr_p (y_pick_f rfl rfl) rfl rfl ?_
          refine tr_p (y_move rfl) rfl rfl ?_
          refine tr_s rfl rfl ?_
          refine tr_s rfl rfl ?_
          refine tr_s rfl rfl ?_
          refine tr_p (y_pick_f rfl rfl) rfl rfl ?_
          refine tr_p (y_assign rfl) rfl rfl ?_
          refine tr_nil ?_
          refine tr_thenN ?_
          exact tr_join [(1, (.pointer x1)), (6, (.bool false))] ⟨rfl, rfl, trivial⟩ ⟨_, _, rfl, H⟩
    · refine tr_region ?_
      refine tr_p (y_move rfl) rfl rfl ?_
      refine tr_p (y_eql rfl rfl) rfl rfl ?_
      refine tr_p (y_move rfl) rfl rfl ?_
      refine tr_split (t := 38) rfl (fun g36 => ?_) (fun g36 => ?_)
      · replace H := H.1 g36
        refine tr_p (y_move rfl) rfl rfl ?_
        refine tr_p (y_eql rfl rfl) rfl rfl ?_
        refine tr_p (y_pick_t rfl rfl) rfl rfl ?_
        refine tr_p (y_move rfl) rfl rfl ?_
        refine tr_split (t := 42) rfl (fun g37 => ?_) (fun g37 => ?_)
        · replace H := H.1 g37
          refine tr_p (y_move rfl) rfl rfl ?_
          refine tr_e (e_call Try.call23 rfl (F.epoch_Book_Join_ok H)) rfl rfl ?_
          rintro _ h38 ⟨r39, rfl, H⟩
          refine tr_p (y_eql rfl rfl) rfl rfl ?_
          refine tr_p (y_pick_t rfl rfl) rfl rfl ?_
          refine tr_p (y_move rfl) rfl rfl ?_
          refine tr_split (t := 47) rfl (fun g40 => ?_) (fun g40 => ?_)
          · replace H := H.1 g40
            refine tr_p (y_move rfl) rfl rfl ?_
            refine tr_e (e_call Try.call24 rfl (F.epoch_Book_Release_ok H)) rfl rfl ?_
            rintro _ h41 ⟨r42, rfl, H⟩
            refine tr_p (y_eql rfl rfl) rfl rfl ?_
            refine tr_p (y_pick_t rfl rfl) rfl rfl ?_
            refine tr_p (y_move rfl) rfl rfl ?_
            refine tr_split (t := 52) rfl (fun g43 => ?_) (fun g43 => ?_)
            · replace H := H.1 g43
              refine tr_p (y_move rfl) rfl rfl ?_
              refine tr_e (e_call Try.call25 rfl (F.epoch_Book_Holds_ok H)) rfl rfl ?_
              rintro _ h44 ⟨r45, rfl, H⟩
              refine tr_p (y_pick_t rfl rfl) rfl rfl ?_
              refine tr_p (y_move rfl) rfl rfl ?_
              refine tr_split (t := 56) rfl (fun g46 => ?_) (fun g46 => ?_)
              · replace H := H.1 g46
                refine tr_p (y_move rfl) rfl rfl ?_
                refine tr_e (e_call Try.call16 rfl (F.epoch_Book_Live_ok H)) rfl rfl ?_
                rintro _ h47 ⟨r48, rfl, H⟩
                refine tr_p (y_eql rfl rfl) rfl rfl ?_
                refine tr_p (y_pick_t rfl rfl) rfl rfl ?_
                refine tr_p (y_move rfl) rfl rfl ?_
                refine tr_split (t := 61) rfl (fun g49 => ?_) (fun g49 => ?_)
                · replace H := H.1 g49
                  refine tr_p (y_move rfl) rfl rfl ?_
                  refine tr_e (e_call Try.call12 rfl (F.epoch_Book_Dying_ok H)) rfl rfl ?_
                  rintro _ h50 ⟨r51, rfl, H⟩
                  refine tr_p (y_len (ts := #[]) Try.runUnderlying29 (o := r51.ptr) (n := r51.len) (cap := r51.cap) rfl) rfl rfl ?_
                  refine tr_p (y_eql rfl rfl) rfl rfl ?_
                  refine tr_p (y_pick_t rfl rfl) rfl rfl ?_
                  refine tr_p (y_assign rfl) rfl rfl ?_
                  refine tr_nil ?_
                  refine tr_thenN ?_
                  exact tr_join [(1, (.pointer x1)), (6, (.bool (((r51.len : Int) == 0))))] ⟨rfl, rfl, trivial⟩ ⟨_, _, rfl, H⟩
                · replace H := H.2 g49
                  refine tr_s rfl rfl ?_
                  refine tr_s rfl rfl ?_
                  refine tr_s rfl rfl ?_
                  refine tr_s rfl rfl ?_
                  refine tr_p (y_pick_f rfl rfl) rfl rfl ?_
                  refine tr_p (y_assign rfl) rfl rfl ?_
                  refine tr_nil ?_
                  refine tr_thenN ?_
                  exact tr_join [(1, (.pointer x1)), (6, (.bool false))] ⟨rfl, rfl, trivial⟩ ⟨_, _, rfl, H⟩
              · replace H := H.2 g46
                refine tr_s rfl rfl ?_
                refine tr_s rfl rfl ?_
                refine tr_s rfl rfl ?_
                refine tr_p (y_pick_f rfl rfl) rfl rfl ?_
                refine tr_p (y_move rfl) rfl rfl ?_
                refine tr_s rfl rfl ?_
                refine tr_s rfl rfl ?_
                refine tr_s rfl rfl ?_
                refine tr_s rfl rfl ?_
                refine tr_p (y_pick_f rfl rfl) rfl rfl ?_
                refine tr_p (y_assign rfl) rfl rfl ?_
                refine tr_nil ?_
                refine tr_thenN ?_
                exact tr_join [(1, (.pointer x1)), (6, (.bool false))] ⟨rfl, rfl, trivial⟩ ⟨_, _, rfl, H⟩
            · replace H := H.2 g43
              refine tr_s rfl rfl ?_
              refine tr_s rfl rfl ?_
              refine tr_p (y_pick_f rfl rfl) rfl rfl ?_
              refine tr_p (y_move rfl) rfl rfl ?_
              refine tr_s rfl rfl ?_
              refine tr_s rfl rfl ?_
              refine tr_s rfl rfl ?_
              refine tr_p (y_pick_f rfl rfl) rfl rfl ?_
              refine tr_p (y_move rfl) rfl rfl ?_
              refine tr_s rfl rfl ?_
              refine tr_s rfl rfl ?_
              refine tr_s rfl rfl ?_
              refine tr_s rfl rfl ?_
              refine tr_p (y_pick_f rfl rfl) rfl rfl ?_
              refine tr_p (y_assign rfl) rfl rfl ?_
              refine tr_nil ?_
              refine tr_thenN ?_
              exact tr_join [(1, (.pointer x1)), (6, (.bool false))] ⟨rfl, rfl, trivial⟩ ⟨_, _, rfl, H⟩
          · replace H := H.2 g40
            refine tr_s rfl rfl ?_
            refine tr_s rfl rfl ?_
            refine tr_s rfl rfl ?_
            refine tr_p (y_pick_f rfl rfl) rfl rfl ?_
            refine tr_p (y_move rfl) rfl rfl ?_
            refine tr_s rfl rfl ?_
            refine tr_s rfl rfl ?_
            refine tr_p (y_pick_f rfl rfl) rfl rfl ?_
            refine tr_p (y_move rfl) rfl rfl ?_
            refine tr_s rfl rfl ?_
            refine tr_s rfl rfl ?_
            refine tr_s rfl rfl ?_
            refine tr_p (y_pick_f rfl rfl) rfl rfl ?_
            refine tr_p (y_move rfl) rfl rfl ?_
            refine tr_s rfl rfl ?_
            refine tr_s rfl rfl ?_
            refine tr_s rfl rfl ?_
            refine tr_s rfl rfl ?_
            refine tr_p (y_pick_f rfl rfl) rfl rfl ?_
            refine tr_p (y_assign rfl) rfl rfl ?_
            refine tr_nil ?_
            refine tr_thenN ?_
            exact tr_join [(1, (.pointer x1)), (6, (.bool false))] ⟨rfl, rfl, trivial⟩ ⟨_, _, rfl, H⟩
        · replace H := H.2 g37
          refine tr_s rfl rfl ?_
          refine tr_s rfl rfl ?_
          refine tr_s rfl rfl ?_
          refine tr_p (y_pick_f rfl rfl) rfl rfl ?_
          refine tr_p (y_move rfl) rfl rfl ?_
          refine tr_s rfl rfl ?_
          refine tr_s rfl rfl ?_
          refine tr_s rfl rfl ?_
          refine tr_p (y_pick_f rfl rfl) rfl rfl ?_
          refine tr_p (y_move rfl) rfl rfl ?_
          refine tr_s rfl rfl ?_
          refine tr_s rfl rfl ?_
          refine tr_p (y_pick_f rfl rfl) rfl rfl ?_
          refine tr_p (y_move rfl) rfl rfl ?_
          refine tr_s rfl rfl ?_
          refine tr_s rfl rfl ?_
          refine tr_s rfl rfl ?_
          refine tr_p (y_pick_f rfl rfl) rfl rfl ?_
          refine tr_p (y_move rfl) rfl rfl ?_
          refine tr_s rfl rfl ?_
          refine tr_s rfl rfl ?_
          refine tr_s rfl rfl ?_
          refine tr_s rfl rfl ?_
          refine tr_p (y_pick_f rfl rfl) rfl rfl ?_
          refine tr_p (y_assign rfl) rfl rfl ?_
          refine tr_nil ?_
          refine tr_thenN ?_
          exact tr_join [(1, (.pointer x1)), (6, (.bool false))] ⟨rfl, rfl, trivial⟩ ⟨_, _, rfl, H⟩
      · replace H := H.2 g36
        refine tr_s rfl rfl ?_
        refine tr_s rfl rfl ?_
        refine tr_p (y_pick_f rfl rfl) rfl rfl ?_
        refine tr_p (y_move rfl) rfl rfl ?_
        refine tr_s rfl rfl ?_
        refine tr_s rfl rfl ?_
        refine tr_s rfl rfl ?_
        refine tr_p (y_pick_f rfl rfl) rfl rfl ?_
        refine tr_p (y_move rfl) rfl rfl ?_
        refine tr_s rfl rfl ?_
        refine tr_s rfl rfl ?_
        refine tr_s rfl rfl ?_
        refine tr_p (y_pick_f rfl rfl) rfl rfl ?_
        refine tr_p (y_move rfl) rfl rfl ?_
        refine tr_s rfl rfl ?_
        refine tr_s rfl rfl ?_
        refine tr_p (y_pick_f rfl rfl) rfl rfl ?_
        refine tr_p (y_move rfl) rfl rfl ?_
        refine tr_s rfl rfl ?_
        refine tr_s rfl rfl ?_
        refine tr_s rfl rfl ?_
        refine tr_p (y_pick_f rfl rfl) rfl rfl ?_
        refine tr_p (y_move rfl) rfl rfl ?_
        refine tr_s rfl rfl ?_
        refine tr_s rfl rfl ?_
        refine tr_s rfl rfl ?_
        refine tr_s rfl rfl ?_
        refine tr_p (y_pick_f rfl rfl) rfl rfl ?_
        refine tr_p (y_assign rfl) rfl rfl ?_
        refine tr_nil ?_
        refine tr_thenN ?_
        exact tr_join [(1, (.pointer x1)), (6, (.bool false))] ⟨rfl, rfl, trivial⟩ ⟨_, _, rfl, H⟩
  · refine tr_seq_j (fun L' h => ∃ (x1 : Option Addr) (x30 : Bool), L' = [(1, (.pointer x1)), (30, (.bool x30))] ∧ F.spatelaw9_known.j4 Q x1 x30 h) ?_ ?_
    · rintro L' h ⟨x1, x30, rfl, H⟩
      unfold F.spatelaw9_known.j4 at H
      refine tr_cond rfl (fun g52 => ?_) (fun g52 => ?_)
      · replace H := H.1 g52
        refine tr_seq ?_
        refine tr_region ?_
        refine tr_p (y_assign rfl) rfl rfl ?_
        refine tr_nil ?_
        refine tr_thenN ?_
        refine tr_ret ?_
        refine tr_thenR ?_
        exact tr_ret1 rfl rfl ⟨_, rfl, H⟩
      · replace H := H.2 g52
        refine tr_skip ?_
        refine tr_thenN ?_
        exact tr_join [(1, (.pointer x1))] ⟨rfl, trivial⟩ ⟨_, rfl, H⟩
    · refine tr_region ?_
      refine tr_p (y_move rfl) rfl rfl ?_
      refine tr_p (y_neq rfl rfl) rfl rfl ?_
      refine tr_p (y_move rfl) rfl rfl ?_
      refine tr_split (t := 19) rfl (fun g53 => ?_) (fun g53 => ?_)
      · replace H := H.1 g53
        refine tr_s rfl rfl ?_
        refine tr_s rfl rfl ?_
        refine tr_p (y_pick_t rfl rfl) rfl rfl ?_
        refine tr_p (y_move rfl) rfl rfl ?_
        refine tr_s rfl rfl ?_
        refine tr_s rfl rfl ?_
        refine tr_p (y_pick_t rfl rfl) rfl rfl ?_
        refine tr_p (y_move rfl) rfl rfl ?_
        refine tr_s rfl rfl ?_
        refine tr_s rfl rfl ?_
        refine tr_p (y_pick_t rfl rfl) rfl rfl ?_
        refine tr_nil ?_
        refine tr_thenN ?_
        exact tr_join [(1, (.pointer r2)), (30, (.bool true))] ⟨rfl, rfl, trivial⟩ ⟨_, _, rfl, H⟩
      · replace H := H.2 g53
        refine tr_p (y_move rfl) rfl rfl ?_
        refine tr_p (y_pnil_eql Try.runUnderlying24 rfl rfl) rfl rfl ?_
        refine tr_p (y_pick_f rfl rfl) rfl rfl ?_
        refine tr_p (y_move rfl) rfl rfl ?_
        refine tr_split (t := 23) rfl (fun g54 => ?_) (fun g54 => ?_)
        · replace H := H.1 g54
          refine tr_s rfl rfl ?_
          refine tr_s rfl rfl ?_
          refine tr_p (y_pick_t rfl rfl) rfl rfl ?_
          refine tr_p (y_move rfl) rfl rfl ?_
          refine tr_s rfl rfl ?_
          refine tr_s rfl rfl ?_
          refine tr_p (y_pick_t rfl rfl) rfl rfl ?_
          refine tr_nil ?_
          refine tr_thenN ?_
          exact tr_join [(1, (.pointer r2)), (30, (.bool true))] ⟨rfl, rfl, trivial⟩ ⟨_, _, rfl, H⟩
        · replace H := H.2 g54
          refine tr_p (y_move rfl) rfl rfl ?_
          refine tr_p (y_pnil_neq Try.runUnderlying24 rfl rfl) rfl rfl ?_
          refine tr_p (y_pick_f rfl rfl) rfl rfl ?_
          refine tr_p (y_move rfl) rfl rfl ?_
          refine tr_split (t := 27) rfl (fun g55 => ?_) (fun g55 => ?_)
          · replace H := H.1 g55
            refine tr_s rfl rfl ?_
            refine tr_s rfl rfl ?_
            refine tr_p (y_pick_t rfl rfl) rfl rfl ?_
            refine tr_nil ?_
            refine tr_thenN ?_
            exact tr_join [(1, (.pointer r2)), (30, (.bool true))] ⟨rfl, rfl, trivial⟩ ⟨_, _, rfl, H⟩
          · replace H := H.2 g55
            refine tr_p (y_move rfl) rfl rfl ?_
            refine tr_p (y_neq rfl rfl) rfl rfl ?_
            refine tr_p (y_pick_f rfl rfl) rfl rfl ?_
            refine tr_nil ?_
            refine tr_thenN ?_
            exact tr_join [(1, (.pointer r2)), (30, (.bool ((r6 != 1))))] ⟨rfl, rfl, trivial⟩ ⟨_, _, rfl, H⟩

/-- spate/spatelaw9.of -/
def F.spatelaw9_of (p0 : S_spatelaw9_Step) (p1 : Int) (h : H) (Q : Int → H → Prop) : Prop :=
  new h p0.cells.toArray ty_31 fun a2 h1 =>
  ldB h1 (a2.add 3) fun y3 =>
  (y3 = true →
  ldI .i64 h1 (a2.add 2) fun y6 =>
  Q (IntKind.wrap .i64 (p1 - y6)) h1) ∧
  (y3 = false →
  ldI .i64 h1 (a2.add 2) fun y8 =>
  Q y8 h1)
theorem F.spatelaw9_of_ok {p0 : S_spatelaw9_Step} {p1 : Int} {h : H} {Q : Int → H → Prop} (H : F.spatelaw9_of p0 p1 h Q) : Fn PP 18 ([(.agg p0.cells.toArray), (.int .i64 p1)] : List Value).toArray h fun r h' => ∃ r0, r = (.int .i64 r0) ∧ Q r0 h' := by
  unfold F.spatelaw9_of at H
  refine fn_of Try.func18 Try.ntmps18 rfl rfl fun w0 => ?_
  refine tr_sub [(0, (.agg p0.cells.toArray)), (1, (.int .i64 p1))] ⟨rfl, rfl, trivial⟩ ?_
  refine tr_seq ?_
  refine tr_region ?_
  refine tr_e (f_box (cs := p0.cells.toArray) rfl rfl H) rfl rfl ?_
  rintro _ h1 ⟨a2, rfl, H⟩
  refine tr_p (y_assign rfl) rfl rfl ?_
  refine tr_nil ?_
  refine tr_thenN ?_
  refine tr_seq ?_
  refine tr_seq ?_
  refine tr_region ?_
  refine tr_p (y_fa (off := 3) Try.runUnderlying31 fo_31_3 rfl) rfl rfl ?_
  obtain ⟨y3, k4, H⟩ := H
  refine tr_h (y_ld Try.isAgg4 rfl) k4 rfl rfl ?_
  refine tr_nil ?_
  refine tr_thenN ?_
  refine tr_cond rfl (fun g5 => ?_) (fun g5 => ?_)
  · replace H := H.1 g5
    refine tr_seq ?_
    refine tr_region ?_
    refine tr_p (y_move rfl) rfl rfl ?_
    refine tr_p (y_fa (off := 2) Try.runUnderlying31 fo_31_2 rfl) rfl rfl ?_
    obtain ⟨y6, k7, H⟩ := H
    refine tr_h (y_ld Try.isAgg3 rfl) k7 rfl rfl ?_
    refine tr_p (y_sub rfl rfl) rfl rfl ?_
    refine tr_p (y_assign rfl) rfl rfl ?_
    refine tr_nil ?_
    refine tr_thenN ?_
    refine tr_ret ?_
    refine tr_thenR ?_
    exact tr_ret1 rfl rfl ⟨_, rfl, H⟩
  · replace H := H.2 g5
    refine tr_skip ?_
    refine tr_thenN ?_
    refine tr_seq ?_
    refine tr_region ?_
    refine tr_p (y_fa (off := 2) Try.runUnderlying31 fo_31_2 rfl) rfl rfl ?_
    obtain ⟨y8, k9, H⟩ := H
    refine tr_h (y_ld Try.isAgg3 rfl) k9 rfl rfl ?_
    refine tr_p (y_assign rfl) rfl rfl ?_
    refine tr_nil ?_
    refine tr_thenN ?_
    refine tr_ret ?_
    exact tr_ret1 rfl rfl ⟨_, rfl, H⟩

/-- (*spate/epoch.Book).Inner -/
def F.epoch_Book_Inner (p0 : Option Addr) (p1 : Int) (h : H) (Q : Int → Int → H → Prop) : Prop :=
  F.epoch_Book_guard p0 h fun r2 h1 =>
  fnV r2 fun f_1 fi_1 ca_1 =>
  F.epoch_is p1 h1 fun r5 h4 =>
  ((!r5) = true →
  dcall PP f_1 ((fi_1 ++ ([] : List Value).toArray) ++ ca_1) h4 fun h7 =>
  Q 0 1 h7) ∧
  ((!r5) = false →
  nn p0 fun a8 =>
  (0 ≤ (p1 : Int) ∧ p1 < 65) ∧
  ldI .i64 h4 (((a8.add 4).add ((p1 : Int).toNat * 2)).add 1) fun y11 =>
  (((y11 != 0)) = true →
  dcall PP f_1 ((fi_1 ++ ([] : List Value).toArray) ++ ca_1) h4 fun h14 =>
  Q 0 43 h14) ∧
  (((y11 != 0)) = false →
  nn p0 fun a15 =>
  ldI .i64 h4 (a15.add 3) fun y17 =>
  (((y17 == 1099511627776)) = true →
  dcall PP f_1 ((fi_1 ++ ([] : List Value).toArray) ++ ca_1) h4 fun h20 =>
  Q 0 2 h20) ∧
  (((y17 == 1099511627776)) = false →
  nn p0 fun a21 =>
  ldI .i64 h4 (a21.add 3) fun y23 =>
  nn p0 fun a25 =>
  (0 ≤ (p1 : Int) ∧ p1 < 65) ∧
  stH h4 (((a25.add 4).add ((p1 : Int).toNat * 2)).add 1) [(.int .i64 y23)] fun h28 =>
  nn p0 fun a29 =>
  ldI .i64 h28 (a29.add 3) fun y31 =>
  nn p0 fun a33 =>
  stH h28 (a33.add 3) [(.int .i64 (IntKind.wrap .i64 (y31 + 1)))] fun h35 =>
  nn p0 fun a36 =>
  ldI .i64 h35 (a36.add 3) fun y38 =>
  dcall PP f_1 ((fi_1 ++ ([] : List Value).toArray) ++ ca_1) h35 fun h40 =>
  Q (IntKind.wrap .i64 (y38 - 1)) 0 h40)))
theorem F.epoch_Book_Inner_ok {p0 : Option Addr} {p1 : Int} {h : H} {Q : Int → Int → H → Prop} (H : F.epoch_Book_Inner p0 p1 h Q) : Fn PP 32 ([(.pointer p0), (.int .i64 p1)] : List Value).toArray h fun r h' => ∃ r0 r1, r = .tuple #[(.int .i64 r0), (.int .i64 r1)] ∧ Q r0 r1 h' := by
  unfold F.epoch_Book_Inner at H
  refine fn_ofM Try.func32 Try.ntmps32 rfl rfl fun w0 => ?_
  refine tr_sub [(0, (.pointer p0)), (1, (.int .i64 p1))] ⟨rfl, rfl, trivial⟩ ?_
  refine tr_seq ?_
  refine tr_region ?_
  refine tr_p (y_assign rfl) rfl rfl ?_
  refine tr_p (y_assign rfl) rfl rfl ?_
  refine tr_nil ?_
  refine tr_thenN ?_
  refine tr_seq ?_
  refine tr_region ?_
  refine tr_p (y_move rfl) rfl rfl ?_
  refine tr_e (e_call Try.call28 rfl (F.epoch_Book_guard_ok H)) rfl rfl ?_
  rintro r2 h1 ⟨_, rfl, H⟩
  obtain ⟨f_1, fi_1, ca_1, e3, H⟩ := H
  subst e3
  refine tr_defer rfl rfl rfl ?_
  refine tr_nil ?_
  refine tr_thenN ?_
  refine tr_seq ?_
  refine tr_block ?_
  refine tr_seq ?_
  refine tr_region ?_
  refine tr_p (y_move rfl) rfl rfl ?_
  refine tr_e (e_call Try.call37 rfl (F.epoch_is_ok H)) rfl rfl ?_
  rintro _ h4 ⟨r5, rfl, H⟩
  refine tr_p (y_not rfl) rfl rfl ?_
  refine tr_p (y_assign rfl) rfl rfl ?_
  refine tr_nil ?_
  refine tr_thenN ?_
  refine tr_cond rfl (fun g6 => ?_) (fun g6 => ?_)
  · replace H := H.1 g6
    refine tr_seq ?_
    refine tr_region ?_
    refine tr_p (y_assign rfl) rfl rfl ?_
    refine tr_p (y_assign rfl) rfl rfl ?_
    refine tr_nil ?_
    refine tr_thenN ?_
    refine tr_ret ?_
    refine tr_blockR ?_
    refine tr_thenR ?_
    refine tr_dcall H fun h7 H => ?_
    refine tr_pm0 ?_
    exact tr_ret2 rfl rfl rfl ⟨_, _, rfl, H⟩
  · replace H := H.2 g6
    refine tr_seq ?_
    refine tr_region ?_
    refine tr_p (y_move rfl) rfl rfl ?_
    refine tr_p (y_move rfl) rfl rfl ?_
    obtain ⟨a8, e9, H⟩ := H
    refine tr_p (f_nn rfl e9) rfl rfl ?_
    refine tr_p (y_fa (off := 4) Try.runUnderlying65 fo_65_3 rfl) rfl rfl ?_
    obtain ⟨e10, H⟩ := H
    refine tr_p (f_idxArr Try.runUnderlying63 Try.sizeOf62 rfl rfl e10) rfl rfl ?_
    refine tr_p (y_fa (off := 1) Try.runUnderlying62 fo_62_1 rfl) rfl rfl ?_
    obtain ⟨y11, k12, H⟩ := H
    refine tr_h (y_ld Try.isAgg3 rfl) k12 rfl rfl ?_
    refine tr_p (y_neq rfl rfl) rfl rfl ?_
    refine tr_p (y_assign rfl) rfl rfl ?_
    refine tr_nil ?_
    refine tr_thenN ?_
    refine tr_cond rfl (fun g13 => ?_) (fun g13 => ?_)
    · replace H := H.1 g13
      refine tr_seq ?_
      refine tr_region ?_
      refine tr_p (y_assign rfl) rfl rfl ?_
      refine tr_p (y_assign rfl) rfl rfl ?_
      refine tr_nil ?_
      refine tr_thenN ?_
      refine tr_ret ?_
      refine tr_blockR ?_
      refine tr_thenR ?_
      refine tr_dcall H fun h14 H => ?_
      refine tr_pm0 ?_
      exact tr_ret2 rfl rfl rfl ⟨_, _, rfl, H⟩
    · replace H := H.2 g13
      refine tr_seq ?_
      refine tr_region ?_
      refine tr_p (y_move rfl) rfl rfl ?_
      obtain ⟨a15, e16, H⟩ := H
      refine tr_p (f_nn rfl e16) rfl rfl ?_
      refine tr_p (y_fa (off := 3) Try.runUnderlying65 fo_65_2 rfl) rfl rfl ?_
      obtain ⟨y17, k18, H⟩ := H
      refine tr_h (y_ld Try.isAgg3 rfl) k18 rfl rfl ?_
      refine tr_p (y_eql rfl rfl) rfl rfl ?_
      refine tr_p (y_assign rfl) rfl rfl ?_
      refine tr_nil ?_
      refine tr_thenN ?_
      refine tr_cond rfl (fun g19 => ?_) (fun g19 => ?_)
      · replace H := H.1 g19
        refine tr_seq ?_
        refine tr_region ?_
        refine tr_p (y_assign rfl) rfl rfl ?_
        refine tr_p (y_assign rfl) rfl rfl ?_
        refine tr_nil ?_
        refine tr_thenN ?_
        refine tr_ret ?_
        refine tr_blockR ?_
        refine tr_thenR ?_
        refine tr_dcall H fun h20 H => ?_
        refine tr_pm0 ?_
        exact tr_ret2 rfl rfl rfl ⟨_, _, rfl, H⟩
      · replace H := H.2 g19
        refine tr_skip ?_
        refine tr_blockN ?_
        refine tr_thenN ?_
        refine tr_seq ?_
        refine tr_draw mixed [0, 0, 0, 4, 12, 28, 1, 65, 255, 511, 1023] (by kernel_rfl) ?_
        refine g_p 0 1 rfl (by kernel_rfl) (y_move rfl) rfl rfl ?_
        refine g_p 1 3 rfl (by kernel_rfl) (y_move rfl) rfl rfl ?_
        refine g_p 2 7 rfl (by kernel_rfl) (y_move rfl) rfl rfl ?_
        obtain ⟨a21, e22, H⟩ := H
        refine g_p 3 15 rfl (by kernel_rfl) (f_nn rfl e22) rfl rfl ?_
        refine g_p 4 31 rfl (by kernel_rfl) (y_fa (off := 3) Try.runUnderlying65 fo_65_2 rfl) rfl rfl ?_
        obtain ⟨y23, k24, H⟩ := H
        refine g_h 5 63 rfl (by kernel_rfl) (y_ld Try.isAgg3 rfl) k24 rfl rfl ?_
        obtain ⟨a25, e26, H⟩ := H
        refine g_p 6 127 rfl (by kernel_rfl) (f_nn rfl e26) rfl rfl ?_
        refine g_p 7 255 rfl (by kernel_rfl) (y_fa (off := 4) Try.runUnderlying65 fo_65_3 rfl) rfl rfl ?_
        obtain ⟨e27, H⟩ := H
        refine g_p 8 511 rfl (by kernel_rfl) (f_idxArr Try.runUnderlying63 Try.sizeOf62 rfl rfl e27) rfl rfl ?_
        refine g_p 9 1023 rfl (by kernel_rfl) (y_fa (off := 1) Try.runUnderlying62 fo_62_1 rfl) rfl rfl ?_
        refine g_e 10 2047 [] (by kernel_rfl) rfl (by kernel_rfl) (f_store (vs := [(.int .i64 y23)]) Try.sizeOf3 rfl rfl rfl rfl (one1 rfl) H) rfl rfl ?_
        rintro _ h28 ⟨rfl, H⟩
        refine ⟨trivial, ?_⟩
        refine g_d (by kernel_rfl) ?_
        refine tr_thenN ?_
        refine tr_seq ?_
        refine tr_region ?_
        refine tr_p (y_move rfl) rfl rfl ?_
        obtain ⟨a29, e30, H⟩ := H
        refine tr_p (f_nn rfl e30) rfl rfl ?_
        refine tr_p (y_fa (off := 3) Try.runUnderlying65 fo_65_2 rfl) rfl rfl ?_
        obtain ⟨y31, k32, H⟩ := H
        refine tr_h (y_ld Try.isAgg3 rfl) k32 rfl rfl ?_
        refine tr_p (y_add rfl rfl) rfl rfl ?_
        obtain ⟨a33, e34, H⟩ := H
        refine tr_p (f_nn rfl e34) rfl rfl ?_
        refine tr_p (y_fa (off := 3) Try.runUnderlying65 fo_65_2 rfl) rfl rfl ?_
        refine tr_e (f_store (vs := [(.int .i64 (IntKind.wrap .i64 (y31 + 1)))]) Try.sizeOf3 rfl rfl rfl rfl (one1 rfl) H) rfl rfl ?_
        rintro _ h35 ⟨rfl, H⟩
        refine tr_nil ?_
        refine tr_thenN ?_
        refine tr_seq ?_
        refine tr_region ?_
        refine tr_p (y_move rfl) rfl rfl ?_
        obtain ⟨a36, e37, H⟩ := H
        refine tr_p (f_nn rfl e37) rfl rfl ?_
        refine tr_p (y_fa (off := 3) Try.runUnderlying65 fo_65_2 rfl) rfl rfl ?_
        obtain ⟨y38, k39, H⟩ := H
        refine tr_h (y_ld Try.isAgg3 rfl) k39 rfl rfl ?_
        refine tr_p (y_sub rfl rfl) rfl rfl ?_
        refine tr_p (y_assign rfl) rfl rfl ?_
        refine tr_p (y_assign rfl) rfl rfl ?_
        refine tr_nil ?_
        refine tr_thenN ?_
        refine tr_ret ?_
        refine tr_dcall H fun h40 H => ?_
        refine tr_pm0 ?_
        exact tr_ret2 rfl rfl rfl ⟨_, _, rfl, H⟩

/-- (*spate/epoch.Book).Done -/
def F.epoch_Book_Done (p0 : Option Addr) (p1 : Int) (h : H) (Q : Int → H → Prop) : Prop :=
  F.epoch_Book_guard p0 h fun r2 h1 =>
  fnV r2 fun f_1 fi_1 ca_1 =>
  F.epoch_is p1 h1 fun r5 h4 =>
  ((!r5) = true →
  dcall PP f_1 ((fi_1 ++ ([] : List Value).toArray) ++ ca_1) h4 fun h7 =>
  Q 1 h7) ∧
  ((!r5) = false →
  nn p0 fun a8 =>
  (0 ≤ (p1 : Int) ∧ p1 < 65) ∧
  ldI .i64 h4 (((a8.add 4).add ((p1 : Int).toNat * 2)).add 1) fun y11 =>
  (((y11 == 0)) = true →
  dcall PP f_1 ((fi_1 ++ ([] : List Value).toArray) ++ ca_1) h4 fun h14 =>
  Q 44 h14) ∧
  (((y11 == 0)) = false →
  nn p0 fun a15 =>
  (0 ≤ (p1 : Int) ∧ p1 < 65) ∧
  stH h4 (((a15.add 4).add ((p1 : Int).toNat * 2)).add 1) [(.int .i64 0)] fun h18 =>
  F.epoch_Book_let p0 y11 h18 fun h19 =>
  dcall PP f_1 ((fi_1 ++ ([] : List Value).toArray) ++ ca_1) h19 fun h20 =>
  Q 0 h20))
theorem F.epoch_Book_Done_ok {p0 : Option Addr} {p1 : Int} {h : H} {Q : Int → H → Prop} (H : F.epoch_Book_Done p0 p1 h Q) : Fn PP 33 ([(.pointer p0), (.int .i64 p1)] : List Value).toArray h fun r h' => ∃ r0, r = (.int .i64 r0) ∧ Q r0 h' := by
  unfold F.epoch_Book_Done at H
  refine fn_ofM Try.func33 Try.ntmps33 rfl rfl fun w0 => ?_
  refine tr_sub [(0, (.pointer p0)), (1, (.int .i64 p1))] ⟨rfl, rfl, trivial⟩ ?_
  refine tr_seq ?_
  refine tr_region ?_
  refine tr_p (y_assign rfl) rfl rfl ?_
  refine tr_nil ?_
  refine tr_thenN ?_
  refine tr_seq ?_
  refine tr_region ?_
  refine tr_p (y_move rfl) rfl rfl ?_
  refine tr_e (e_call Try.call28 rfl (F.epoch_Book_guard_ok H)) rfl rfl ?_
  rintro r2 h1 ⟨_, rfl, H⟩
  obtain ⟨f_1, fi_1, ca_1, e3, H⟩ := H
  subst e3
  refine tr_defer rfl rfl rfl ?_
  refine tr_nil ?_
  refine tr_thenN ?_
  refine tr_seq ?_
  refine tr_seq ?_
  refine tr_region ?_
  refine tr_p (y_move rfl) rfl rfl ?_
  refine tr_e (e_call Try.call37 rfl (F.epoch_is_ok H)) rfl rfl ?_
  rintro _ h4 ⟨r5, rfl, H⟩
  refine tr_p (y_not rfl) rfl rfl ?_
  refine tr_nil ?_
  refine tr_thenN ?_
  refine tr_cond rfl (fun g6 => ?_) (fun g6 => ?_)
  · replace H := H.1 g6
    refine tr_seq ?_
    refine tr_region ?_
    refine tr_p (y_assign rfl) rfl rfl ?_
    refine tr_nil ?_
    refine tr_thenN ?_
    refine tr_ret ?_
    refine tr_thenR ?_
    refine tr_dcall H fun h7 H => ?_
    refine tr_pm0 ?_
    exact tr_ret1 rfl rfl ⟨_, rfl, H⟩
  · replace H := H.2 g6
    refine tr_skip ?_
    refine tr_thenN ?_
    refine tr_seq ?_
    refine tr_region ?_
    refine tr_p (y_move rfl) rfl rfl ?_
    refine tr_p (y_move rfl) rfl rfl ?_
    obtain ⟨a8, e9, H⟩ := H
    refine tr_p (f_nn rfl e9) rfl rfl ?_
    refine tr_p (y_fa (off := 4) Try.runUnderlying65 fo_65_3 rfl) rfl rfl ?_
    obtain ⟨e10, H⟩ := H
    refine tr_p (f_idxArr Try.runUnderlying63 Try.sizeOf62 rfl rfl e10) rfl rfl ?_
    refine tr_p (y_fa (off := 1) Try.runUnderlying62 fo_62_1 rfl) rfl rfl ?_
    obtain ⟨y11, k12, H⟩ := H
    refine tr_h (y_ld Try.isAgg3 rfl) k12 rfl rfl ?_
    refine tr_p (y_assign rfl) rfl rfl ?_
    refine tr_nil ?_
    refine tr_thenN ?_
    refine tr_seq ?_
    refine tr_seq ?_
    refine tr_region ?_
    refine tr_p (y_move rfl) rfl rfl ?_
    refine tr_p (y_eql rfl rfl) rfl rfl ?_
    refine tr_nil ?_
    refine tr_thenN ?_
    refine tr_cond rfl (fun g13 => ?_) (fun g13 => ?_)
    · replace H := H.1 g13
      refine tr_seq ?_
      refine tr_region ?_
      refine tr_p (y_assign rfl) rfl rfl ?_
      refine tr_nil ?_
      refine tr_thenN ?_
      refine tr_ret ?_
      refine tr_thenR ?_
      refine tr_dcall H fun h14 H => ?_
      refine tr_pm0 ?_
      exact tr_ret1 rfl rfl ⟨_, rfl, H⟩
    · replace H := H.2 g13
      refine tr_skip ?_
      refine tr_thenN ?_
      refine tr_seq ?_
      refine tr_region ?_
      refine tr_p (y_move rfl) rfl rfl ?_
      refine tr_p (y_move rfl) rfl rfl ?_
      obtain ⟨a15, e16, H⟩ := H
      refine tr_p (f_nn rfl e16) rfl rfl ?_
      refine tr_p (y_fa (off := 4) Try.runUnderlying65 fo_65_3 rfl) rfl rfl ?_
      obtain ⟨e17, H⟩ := H
      refine tr_p (f_idxArr Try.runUnderlying63 Try.sizeOf62 rfl rfl e17) rfl rfl ?_
      refine tr_p (y_fa (off := 1) Try.runUnderlying62 fo_62_1 rfl) rfl rfl ?_
      refine tr_e (f_store (vs := [(.int .i64 0)]) Try.sizeOf3 rfl rfl rfl rfl (one1 rfl) H) rfl rfl ?_
      rintro _ h18 ⟨rfl, H⟩
      refine tr_nil ?_
      refine tr_thenN ?_
      refine tr_seq ?_
      refine tr_region ?_
      refine tr_p (y_move rfl) rfl rfl ?_
      refine tr_p (y_move rfl) rfl rfl ?_
      refine tr_e (e_call Try.call40 rfl (F.epoch_Book_let_ok H)) rfl rfl ?_
      rintro _ h19 ⟨rfl, H⟩
      refine tr_nil ?_
      refine tr_thenN ?_
      refine tr_seq ?_
      refine tr_region ?_
      refine tr_p (y_assign rfl) rfl rfl ?_
      refine tr_nil ?_
      refine tr_thenN ?_
      refine tr_ret ?_
      refine tr_dcall H fun h20 H => ?_
      refine tr_pm0 ?_
      exact tr_ret1 rfl rfl ⟨_, rfl, H⟩

def F.epoch_Book_Drop.l2 (Q : Int → H → Prop) (f_1 : FuncId) (fi_1 ca_1 : Array Value) : Nat → (Option Addr) → Sl → Sl → Int → Int → H → Prop
  | 0, _, _, _, _, _, _ => False
  | q2 + 1, x0, x5, x43, x44, x45, h =>
    ((decide (x45 < x44)) = true →
    idxA x43 x45 1 fun a24 =>
    ldI .i64 h a24 fun y26 =>
    F.epoch_Book_let x0 y26 h fun h28 =>
    (F.epoch_Book_Drop.l2 Q f_1 fi_1 ca_1 q2) x0 x5 x43 x44 (IntKind.wrap .i64 (x45 + 1)) h28) ∧
    ((decide (x45 < x44)) = false →
    dcall PP f_1 ((fi_1 ++ ([] : List Value).toArray) ++ ca_1) h fun h29 =>
    Q (x5.len : Int) h29)
def F.epoch_Book_Drop.j1 (Q : Int → H → Prop) (f_1 : FuncId) (fi_1 ca_1 : Array Value) (x0 : Option Addr) (x1 : Int) (x5 : Sl) (h : H) : Prop :=
  RunS PP (Instr.makeMap 60 none) h fun u h17 => ∃ m18 : Option Nat, u = (.map m18) ∧
  nn x0 fun a19 =>
  (0 ≤ (x1 : Int) ∧ x1 < 65) ∧
  stH h17 ((a19.add 4).add ((x1 : Int).toNat * 2)) ((⟨m18, 0⟩ : S_epoch_owner).cells) fun h22 =>
  ∃ m, F.epoch_Book_Drop.l2 Q f_1 fi_1 ca_1 m x0 x5 x5 (x5.len : Int) 0 h22
/-- (*spate/epoch.Book).Drop -/
def F.epoch_Book_Drop (p0 : Option Addr) (p1 : Int) (h : H) (Q : Int → H → Prop) : Prop :=
  F.epoch_Book_guard p0 h fun r2 h1 =>
  fnV r2 fun f_1 fi_1 ca_1 =>
  F.epoch_is p1 h1 fun r5 h4 =>
  ((!r5) = true →
  dcall PP f_1 ((fi_1 ++ ([] : List Value).toArray) ++ ca_1) h4 fun h7 =>
  Q 0 h7) ∧
  ((!r5) = false →
  nn p0 fun a8 =>
  (0 ≤ (p1 : Int) ∧ p1 < 65) ∧
  ldM h4 (((a8.add 4).add ((p1 : Int).toNat * 2)).add 0) fun y11 =>
  F.maps_Keys_map_int_struct_int_struct y11 h4 fun r14 h13 =>
  F.slices_Collect_int r14 h13 fun r16 h15 =>
  nn p0 fun a31 =>
  (0 ≤ (p1 : Int) ∧ p1 < 65) ∧
  ldI .i64 h15 (((a31.add 4).add ((p1 : Int).toNat * 2)).add 1) fun y34 =>
  (((y34 != 0)) = true →
  newL h15 #[(.int .i64 y34)] ty_3 1 fun s38 h37 =>
  runL PP (Builtin.append_ #[29, 29] 29 #[r16.enc, s38.enc]) h37 fun s40 h39 =>
  F.epoch_Book_Drop.j1 Q f_1 fi_1 ca_1 p0 p1 s40 h39) ∧
  (((y34 != 0)) = false →
  F.epoch_Book_Drop.j1 Q f_1 fi_1 ca_1 p0 p1 r16 h15))
theorem F.epoch_Book_Drop_ok {p0 : Option Addr} {p1 : Int} {h : H} {Q : Int → H → Prop} (H : F.epoch_Book_Drop p0 p1 h Q) : Fn PP 34 ([(.pointer p0), (.int .i64 p1)] : List Value).toArray h fun r h' => ∃ r0, r = (.int .i64 r0) ∧ Q r0 h' := by
  unfold F.epoch_Book_Drop at H
  refine fn_ofM Try.func34 Try.ntmps34 rfl rfl fun w0 => ?_
  refine tr_sub [(0, (.pointer p0)), (1, (.int .i64 p1))] ⟨rfl, rfl, trivial⟩ ?_
  refine tr_seq ?_
  refine tr_region ?_
  refine tr_p (y_assign rfl) rfl rfl ?_
  refine tr_nil ?_
  refine tr_thenN ?_
  refine tr_seq ?_
  refine tr_region ?_
  refine tr_p (y_move rfl) rfl rfl ?_
  refine tr_e (e_call Try.call28 rfl (F.epoch_Book_guard_ok H)) rfl rfl ?_
  rintro r2 h1 ⟨_, rfl, H⟩
  obtain ⟨f_1, fi_1, ca_1, e3, H⟩ := H
  subst e3
  refine tr_defer rfl rfl rfl ?_
  refine tr_nil ?_
  refine tr_thenN ?_
  refine tr_seq ?_
  refine tr_seq ?_
  refine tr_region ?_
  refine tr_p (y_move rfl) rfl rfl ?_
  refine tr_e (e_call Try.call37 rfl (F.epoch_is_ok H)) rfl rfl ?_
  rintro _ h4 ⟨r5, rfl, H⟩
  refine tr_p (y_not rfl) rfl rfl ?_
  refine tr_nil ?_
  refine tr_thenN ?_
  refine tr_cond rfl (fun g6 => ?_) (fun g6 => ?_)
  · replace H := H.1 g6
    refine tr_seq ?_
    refine tr_region ?_
    refine tr_p (y_assign rfl) rfl rfl ?_
    refine tr_nil ?_
    refine tr_thenN ?_
    refine tr_ret ?_
    refine tr_thenR ?_
    refine tr_dcall H fun h7 H => ?_
    refine tr_pm0 ?_
    exact tr_ret1 rfl rfl ⟨_, rfl, H⟩
  · replace H := H.2 g6
    refine tr_skip ?_
    refine tr_thenN ?_
    refine tr_seq ?_
    refine tr_region ?_
    refine tr_p (y_move rfl) rfl rfl ?_
    refine tr_p (y_move rfl) rfl rfl ?_
    obtain ⟨a8, e9, H⟩ := H
    refine tr_p (f_nn rfl e9) rfl rfl ?_
    refine tr_p (y_fa (off := 4) Try.runUnderlying65 fo_65_3 rfl) rfl rfl ?_
    obtain ⟨e10, H⟩ := H
    refine tr_p (f_idxArr Try.runUnderlying63 Try.sizeOf62 rfl rfl e10) rfl rfl ?_
    refine tr_p (y_fa (off := 0) Try.runUnderlying62 fo_62_0 rfl) rfl rfl ?_
    obtain ⟨y11, k12, H⟩ := H
    refine tr_h (y_ld Try.isAgg60 rfl) k12 rfl rfl ?_
    refine tr_e (e_call Try.call46 rfl (F.maps_Keys_map_int_struct_int_struct_ok H)) rfl rfl ?_
    rintro r14 h13 ⟨_, rfl, H⟩
    refine tr_e (e_call Try.call47 rfl (F.slices_Collect_int_ok H)) rfl rfl ?_
    rintro _ h15 ⟨r16, rfl, H⟩
    refine tr_p (y_assign rfl) rfl rfl ?_
    refine tr_nil ?_
    refine tr_thenN ?_
    refine tr_seq_j (fun L' h => ∃ (x0 : Option Addr) (x1 : Int) (x5 : Sl), L' = [(0, (.pointer x0)), (1, (.int .i64 x1)), (5, x5.enc)] ∧ F.epoch_Book_Drop.j1 Q f_1 fi_1 ca_1 x0 x1 x5 h) ?_ ?_
    · rintro L' h ⟨x0, x1, x5, rfl, H⟩
      unfold F.epoch_Book_Drop.j1 at H
      refine tr_seq ?_
      refine tr_region ?_
      refine tr_p (y_move rfl) rfl rfl ?_
      refine tr_p (y_move rfl) rfl rfl ?_
      refine tr_e (f_mkN H) rfl rfl ?_
      rintro _ h17 ⟨m18, rfl, H⟩
      refine tr_p (f_build rfl (bd_62_0 m18)) rfl rfl ?_
      obtain ⟨a19, e20, H⟩ := H
      refine tr_p (f_nn rfl e20) rfl rfl ?_
      refine tr_p (y_fa (off := 4) Try.runUnderlying65 fo_65_3 rfl) rfl rfl ?_
      obtain ⟨e21, H⟩ := H
      refine tr_p (f_idxArr Try.runUnderlying63 Try.sizeOf62 rfl rfl e21) rfl rfl ?_
      refine tr_e (f_store (vs := (⟨m18, 0⟩ : S_epoch_owner).cells) Try.sizeOf62 rfl rfl cellsOfStruct rfl (by intro v hv; exact ones_S_epoch_owner _ v hv) H) rfl rfl ?_
      rintro _ h22 ⟨rfl, H⟩
      refine tr_nil ?_
      refine tr_thenN ?_
      refine tr_seq ?_
      refine tr_seq ?_
      refine tr_region ?_
      refine tr_p (y_move rfl) rfl rfl ?_
      refine tr_p (y_len (ts := #[]) Try.runUnderlying29 (o := x5.ptr) (n := x5.len) (cap := x5.cap) rfl) rfl rfl ?_
      refine tr_p (y_move rfl) rfl rfl ?_
      refine tr_nil ?_
      refine tr_thenN ?_
      refine tr_block ?_
      obtain ⟨m30, H⟩ := H
      refine tr_sub [(0, (.pointer x0)), (5, x5.enc), (43, x5.enc), (44, (.int .i64 (x5.len : Int))), (45, (.int .i64 0))] ⟨rfl, rfl, rfl, rfl, rfl, trivial⟩ ?_
      refine tr_loop_j (fun m L' h => ∃ (x0 : Option Addr) (x5 : Sl) (x43 : Sl) (x44 : Int) (x45 : Int), L' = [(0, (.pointer x0)), (5, x5.enc), (43, x43.enc), (44, (.int .i64 x44)), (45, (.int .i64 x45))] ∧ F.epoch_Book_Drop.l2 Q f_1 fi_1 ca_1 m x0 x5 x43 x44 x45 h) ?_ ?_ m30 ⟨_, _, _, _, _, rfl, H⟩
      · rintro L' h ⟨_, _, _, _, _, _, H⟩; exact H
      · rintro q2 L' h ⟨x0, x5, x43, x44, x45, rfl, H⟩
        unfold F.epoch_Book_Drop.l2 at H
        refine tr_seq ?_
        refine tr_region ?_
        refine tr_p (y_lss rfl rfl) rfl rfl ?_
        refine tr_nil ?_
        refine tr_thenN ?_
        refine tr_seq ?_
        refine tr_cond rfl (fun g23 => ?_) (fun g23 => ?_)
        · replace H := H.1 g23
          refine tr_skip ?_
          refine tr_thenN ?_
          refine tr_seq ?_
          refine tr_block ?_
          refine tr_seq ?_
          refine tr_region ?_
          obtain ⟨a24, e25, H⟩ := H
          refine tr_p (f_idx (s := x43) Try.runUnderlying29 Try.sizeOf3 rfl rfl e25) rfl rfl ?_
          obtain ⟨y26, k27, H⟩ := H
          refine tr_h (y_ld Try.isAgg3 rfl) k27 rfl rfl ?_
          refine tr_p (y_assign rfl) rfl rfl ?_
          refine tr_nil ?_
          refine tr_thenN ?_
          refine tr_region ?_
          refine tr_p (y_move rfl) rfl rfl ?_
          refine tr_p (y_move rfl) rfl rfl ?_
          refine tr_e (e_call Try.call40 rfl (F.epoch_Book_let_ok H)) rfl rfl ?_
          rintro _ h28 ⟨rfl, H⟩
          refine tr_nil ?_
          refine tr_blockN ?_
          refine tr_thenN ?_
          refine tr_region ?_
          refine tr_p (y_add rfl rfl) rfl rfl ?_
          refine tr_p (y_move rfl) rfl rfl ?_
          refine tr_nil ?_
          refine tr_thenN ?_
          exact tr_join [(0, (.pointer x0)), (5, x5.enc), (43, x43.enc), (44, (.int .i64 x44)), (45, (.int .i64 (IntKind.wrap .i64 (x45 + 1))))] ⟨rfl, rfl, rfl, rfl, rfl, trivial⟩ ⟨_, _, _, _, _, rfl, H⟩
        · replace H := H.2 g23
          refine tr_exit ?_
          refine tr_thenE ?_
          refine tr_thenE ?_
          refine tr_hit ?_
          refine tr_thenN ?_
          refine tr_seq ?_
          refine tr_region ?_
          refine tr_p (y_move rfl) rfl rfl ?_
          refine tr_p (y_len (ts := #[]) Try.runUnderlying29 (o := x5.ptr) (n := x5.len) (cap := x5.cap) rfl) rfl rfl ?_
          refine tr_p (y_assign rfl) rfl rfl ?_
          refine tr_nil ?_
          refine tr_thenN ?_
          refine tr_ret ?_
          refine tr_dcall H fun h29 H => ?_
          refine tr_pm0 ?_
          exact tr_ret1 rfl rfl ⟨_, rfl, H⟩
    · refine tr_seq ?_
      refine tr_region ?_
      refine tr_p (y_move rfl) rfl rfl ?_
      refine tr_p (y_move rfl) rfl rfl ?_
      obtain ⟨a31, e32, H⟩ := H
      refine tr_p (f_nn rfl e32) rfl rfl ?_
      refine tr_p (y_fa (off := 4) Try.runUnderlying65 fo_65_3 rfl) rfl rfl ?_
      obtain ⟨e33, H⟩ := H
      refine tr_p (f_idxArr Try.runUnderlying63 Try.sizeOf62 rfl rfl e33) rfl rfl ?_
      refine tr_p (y_fa (off := 1) Try.runUnderlying62 fo_62_1 rfl) rfl rfl ?_
      obtain ⟨y34, k35, H⟩ := H
      refine tr_h (y_ld Try.isAgg3 rfl) k35 rfl rfl ?_
      refine tr_p (y_assign rfl) rfl rfl ?_
      refine tr_nil ?_
      refine tr_thenN ?_
      refine tr_seq ?_
      refine tr_region ?_
      refine tr_p (y_move rfl) rfl rfl ?_
      refine tr_p (y_neq rfl rfl) rfl rfl ?_
      refine tr_nil ?_
      refine tr_thenN ?_
      refine tr_cond rfl (fun g36 => ?_) (fun g36 => ?_)
      · replace H := H.1 g36
        refine tr_region ?_
        refine tr_p (y_move rfl) rfl rfl ?_
        refine tr_p (y_move rfl) rfl rfl ?_
        refine tr_e (f_buildL (cs := #[(.int .i64 y34)]) rfl rfl (bl_29_1_0 y34) H) rfl rfl ?_
        rintro _ h37 ⟨s38, rfl, H⟩
        refine tr_e (f_app rfl H) rfl rfl ?_
        rintro _ h39 ⟨s40, rfl, H⟩
        refine tr_p (y_assign rfl) rfl rfl ?_
        refine tr_nil ?_
        refine tr_thenN ?_
        exact tr_join [(0, (.pointer p0)), (1, (.int .i64 p1)), (5, s40.enc)] ⟨rfl, rfl, rfl, trivial⟩ ⟨_, _, _, rfl, H⟩
      · replace H := H.2 g36
        refine tr_skip ?_
        refine tr_thenN ?_
        exact tr_join [(0, (.pointer p0)), (1, (.int .i64 p1)), (5, r16.enc)] ⟨rfl, rfl, rfl, trivial⟩ ⟨_, _, _, rfl, H⟩

/-- spate/spatelaw9.do -/
def F.spatelaw9_do (p0 : Option Addr) (p1 : S_spatelaw9_Step) (h : H) (Q : Bool → H → Prop) : Prop :=
  new h p1.cells.toArray ty_31 fun a2 h1 =>
  ld_S_spatelaw9_Step h1 a2 fun y3 =>
  F.epoch_Book_Now p0 h1 fun r6 h5 =>
  Cells h5 a2 y3.cells ∧
  F.spatelaw9_of y3 r6 h5 fun r9 h8 =>
  ldI .i64 h8 (a2.add 0) fun y10 =>
  (((y10 == 1)) = true →
  ldI .i64 h8 (a2.add 1) fun y13 =>
  F.epoch_Book_Seal p0 y13 h8 fun r16 r17 h15 =>
  Q ((r17 == 0)) h15) ∧
  (((y10 == 1)) = false →
  (((y10 == 2)) = true →
  ldI .i64 h8 (a2.add 1) fun y19 =>
  F.epoch_Book_Inner p0 y19 h8 fun r22 r23 h21 =>
  Q ((r23 == 0)) h21) ∧
  (((y10 == 2)) = false →
  (((y10 == 3)) = true →
  ldI .i64 h8 (a2.add 1) fun y25 =>
  F.epoch_Book_Join p0 y25 r9 h8 fun r28 h27 =>
  Q ((r28 == 0)) h27) ∧
  (((y10 == 3)) = false →
  (((y10 == 4)) = true →
  ldI .i64 h8 (a2.add 1) fun y30 =>
  F.epoch_Book_Release p0 y30 r9 h8 fun r33 h32 =>
  Q ((r33 == 0)) h32) ∧
  (((y10 == 4)) = false →
  (((y10 == 5)) = true →
  ldI .i64 h8 (a2.add 1) fun y35 =>
  F.epoch_Book_Done p0 y35 h8 fun r38 h37 =>
  Q ((r38 == 0)) h37) ∧
  (((y10 == 5)) = false →
  (((y10 == 6)) = true →
  ldI .i64 h8 (a2.add 1) fun y40 =>
  F.epoch_Book_Drop p0 y40 h8 fun r43 h42 =>
  Q (decide (r43 > 0)) h42) ∧
  (((y10 == 6)) = false →
  (((y10 == 7)) = true →
  F.epoch_Book_Begin p0 h8 fun r46 h45 =>
  Q ((r46 == 0)) h45) ∧
  (((y10 == 7)) = false →
  (((y10 == 8)) = true →
  F.epoch_Book_End p0 h8 fun r49 r50 h48 =>
  Q ((r50 == 0)) h48) ∧
  (((y10 == 8)) = false →
  Q false h8))))))))
theorem F.spatelaw9_do_ok {p0 : Option Addr} {p1 : S_spatelaw9_Step} {h : H} {Q : Bool → H → Prop} (H : F.spatelaw9_do p0 p1 h Q) : Fn PP 13 ([(.pointer p0), (.agg p1.cells.toArray)] : List Value).toArray h fun r h' => ∃ r0, r = (.bool r0) ∧ Q r0 h' := by
  unfold F.spatelaw9_do at H
  refine fn_of Try.func13 Try.ntmps13 rfl rfl fun w0 => ?_
  refine tr_sub [(0, (.pointer p0)), (1, (.agg p1.cells.toArray))] ⟨rfl, rfl, trivial⟩ ?_
  refine tr_seq ?_
  refine tr_region ?_
  refine tr_e (f_box (cs := p1.cells.toArray) rfl rfl H) rfl rfl ?_
  rintro _ h1 ⟨a2, rfl, H⟩
  refine tr_p (y_assign rfl) rfl rfl ?_
  refine tr_nil ?_
  refine tr_thenN ?_
  refine tr_seq ?_
  refine tr_draw mixed [0, 0, 2, 7, 15] (by kernel_rfl) ?_
  obtain ⟨y3, k4, H⟩ := H
  refine g_h 0 1 rfl (by kernel_rfl) (y_ldS Try.isAgg31 Try.sizeOf31 rfl rfl) k4 rfl rfl ?_
  refine g_p 1 3 rfl (by kernel_rfl) (y_move rfl) rfl rfl ?_
  refine g_e 2 7 [(0, fun h => Cells h a2 y3.cells)] (by kernel_rfl) rfl (by kernel_rfl) (e_call Try.call15 rfl (F.epoch_Book_Now_ok H)) rfl rfl ?_
  rintro _ h5 ⟨r6, rfl, H⟩
  obtain ⟨k7, H⟩ := H
  refine ⟨And.intro k7 trivial, ?_⟩
  refine g_e 3 15 [] (by kernel_rfl) rfl (by kernel_rfl) (e_call Try.call18 rfl (F.spatelaw9_of_ok H)) rfl rfl ?_
  rintro _ h8 ⟨r9, rfl, H⟩
  refine ⟨trivial, ?_⟩
  refine g_p 4 31 rfl (by kernel_rfl) (y_assign rfl) rfl rfl ?_
  refine g_d (by kernel_rfl) ?_
  refine tr_thenN ?_
  refine tr_seq ?_
  refine tr_seq ?_
  refine tr_region ?_
  refine tr_p (y_fa (off := 0) Try.runUnderlying31 fo_31_0 rfl) rfl rfl ?_
  obtain ⟨y10, k11, H⟩ := H
  refine tr_h (y_ld Try.isAgg3 rfl) k11 rfl rfl ?_
  refine tr_nil ?_
  refine tr_thenN ?_
  refine tr_block ?_
  refine tr_seq ?_
  refine tr_region ?_
  refine tr_p (y_eql rfl rfl) rfl rfl ?_
  refine tr_p (y_assign rfl) rfl rfl ?_
  refine tr_nil ?_
  refine tr_thenN ?_
  refine tr_cond rfl (fun g12 => ?_) (fun g12 => ?_)
  · replace H := H.1 g12
    refine tr_seq ?_
    refine tr_region ?_
    refine tr_p (y_move rfl) rfl rfl ?_
    refine tr_p (y_fa (off := 1) Try.runUnderlying31 fo_31_1 rfl) rfl rfl ?_
    obtain ⟨y13, k14, H⟩ := H
    refine tr_h (y_ld Try.isAgg3 rfl) k14 rfl rfl ?_
    refine tr_e (e_call Try.call22 rfl (F.epoch_Book_Seal_ok H)) rfl rfl ?_
    rintro _ h15 ⟨r16, r17, rfl, H⟩
    refine tr_p (y_move rfl) rfl rfl ?_
    refine tr_p (y_ext rfl rfl) rfl rfl ?_
    refine tr_p (y_ext rfl rfl) rfl rfl ?_
    refine tr_p (y_assign rfl) rfl rfl ?_
    refine tr_p (y_assign rfl) rfl rfl ?_
    refine tr_nil ?_
    refine tr_thenN ?_
    refine tr_seq ?_
    refine tr_region ?_
    refine tr_p (y_move rfl) rfl rfl ?_
    refine tr_p (y_eql rfl rfl) rfl rfl ?_
    refine tr_p (y_assign rfl) rfl rfl ?_
    refine tr_nil ?_
    refine tr_thenN ?_
    refine tr_ret ?_
    refine tr_blockR ?_
    refine tr_thenR ?_
    exact tr_ret1 rfl rfl ⟨_, rfl, H⟩
  · replace H := H.2 g12
    refine tr_seq ?_
    refine tr_region ?_
    refine tr_p (y_eql rfl rfl) rfl rfl ?_
    refine tr_p (y_assign rfl) rfl rfl ?_
    refine tr_nil ?_
    refine tr_thenN ?_
    refine tr_cond rfl (fun g18 => ?_) (fun g18 => ?_)
    · replace H := H.1 g18
      refine tr_seq ?_
      refine tr_region ?_
      refine tr_p (y_move rfl) rfl rfl ?_
      refine tr_p (y_fa (off := 1) Try.runUnderlying31 fo_31_1 rfl) rfl rfl ?_
      obtain ⟨y19, k20, H⟩ := H
      refine tr_h (y_ld Try.isAgg3 rfl) k20 rfl rfl ?_
      refine tr_e (e_call Try.call32 rfl (F.epoch_Book_Inner_ok H)) rfl rfl ?_
      rintro _ h21 ⟨r22, r23, rfl, H⟩
      refine tr_p (y_move rfl) rfl rfl ?_
      refine tr_p (y_ext rfl rfl) rfl rfl ?_
      refine tr_p (y_ext rfl rfl) rfl rfl ?_
      refine tr_p (y_assign rfl) rfl rfl ?_
      refine tr_p (y_assign rfl) rfl rfl ?_
      refine tr_nil ?_
      refine tr_thenN ?_
      refine tr_seq ?_
      refine tr_region ?_
      refine tr_p (y_move rfl) rfl rfl ?_
      refine tr_p (y_eql rfl rfl) rfl rfl ?_
      refine tr_p (y_assign rfl) rfl rfl ?_
      refine tr_nil ?_
      refine tr_thenN ?_
      refine tr_ret ?_
      refine tr_blockR ?_
      refine tr_thenR ?_
      exact tr_ret1 rfl rfl ⟨_, rfl, H⟩
    · replace H := H.2 g18
      refine tr_seq ?_
      refine tr_region ?_
      refine tr_p (y_eql rfl rfl) rfl rfl ?_
      refine tr_p (y_assign rfl) rfl rfl ?_
      refine tr_nil ?_
      refine tr_thenN ?_
      refine tr_cond rfl (fun g24 => ?_) (fun g24 => ?_)
      · replace H := H.1 g24
        refine tr_seq ?_
        refine tr_region ?_
        refine tr_p (y_move rfl) rfl rfl ?_
        refine tr_p (y_fa (off := 1) Try.runUnderlying31 fo_31_1 rfl) rfl rfl ?_
        obtain ⟨y25, k26, H⟩ := H
        refine tr_h (y_ld Try.isAgg3 rfl) k26 rfl rfl ?_
        refine tr_p (y_move rfl) rfl rfl ?_
        refine tr_e (e_call Try.call23 rfl (F.epoch_Book_Join_ok H)) rfl rfl ?_
        rintro _ h27 ⟨r28, rfl, H⟩
        refine tr_p (y_eql rfl rfl) rfl rfl ?_
        refine tr_p (y_assign rfl) rfl rfl ?_
        refine tr_nil ?_
        refine tr_thenN ?_
        refine tr_ret ?_
        refine tr_blockR ?_
        refine tr_thenR ?_
        exact tr_ret1 rfl rfl ⟨_, rfl, H⟩
      · replace H := H.2 g24
        refine tr_seq ?_
        refine tr_region ?_
        refine tr_p (y_eql rfl rfl) rfl rfl ?_
        refine tr_p (y_assign rfl) rfl rfl ?_
        refine tr_nil ?_
        refine tr_thenN ?_
        refine tr_cond rfl (fun g29 => ?_) (fun g29 => ?_)
        · replace H := H.1 g29
          refine tr_seq ?_
          refine tr_region ?_
          refine tr_p (y_move rfl) rfl rfl ?_
          refine tr_p (y_fa (off := 1) Try.runUnderlying31 fo_31_1 rfl) rfl rfl ?_
          obtain ⟨y30, k31, H⟩ := H
          refine tr_h (y_ld Try.isAgg3 rfl) k31 rfl rfl ?_
          refine tr_p (y_move rfl) rfl rfl ?_
          refine tr_e (e_call Try.call24 rfl (F.epoch_Book_Release_ok H)) rfl rfl ?_
          rintro _ h32 ⟨r33, rfl, H⟩
          refine tr_p (y_eql rfl rfl) rfl rfl ?_
          refine tr_p (y_assign rfl) rfl rfl ?_
          refine tr_nil ?_
          refine tr_thenN ?_
          refine tr_ret ?_
          refine tr_blockR ?_
          refine tr_thenR ?_
          exact tr_ret1 rfl rfl ⟨_, rfl, H⟩
        · replace H := H.2 g29
          refine tr_seq ?_
          refine tr_region ?_
          refine tr_p (y_eql rfl rfl) rfl rfl ?_
          refine tr_p (y_assign rfl) rfl rfl ?_
          refine tr_nil ?_
          refine tr_thenN ?_
          refine tr_cond rfl (fun g34 => ?_) (fun g34 => ?_)
          · replace H := H.1 g34
            refine tr_seq ?_
            refine tr_region ?_
            refine tr_p (y_move rfl) rfl rfl ?_
            refine tr_p (y_fa (off := 1) Try.runUnderlying31 fo_31_1 rfl) rfl rfl ?_
            obtain ⟨y35, k36, H⟩ := H
            refine tr_h (y_ld Try.isAgg3 rfl) k36 rfl rfl ?_
            refine tr_e (e_call Try.call33 rfl (F.epoch_Book_Done_ok H)) rfl rfl ?_
            rintro _ h37 ⟨r38, rfl, H⟩
            refine tr_p (y_eql rfl rfl) rfl rfl ?_
            refine tr_p (y_assign rfl) rfl rfl ?_
            refine tr_nil ?_
            refine tr_thenN ?_
            refine tr_ret ?_
            refine tr_blockR ?_
            refine tr_thenR ?_
            exact tr_ret1 rfl rfl ⟨_, rfl, H⟩
          · replace H := H.2 g34
            refine tr_seq ?_
            refine tr_region ?_
            refine tr_p (y_eql rfl rfl) rfl rfl ?_
            refine tr_p (y_assign rfl) rfl rfl ?_
            refine tr_nil ?_
            refine tr_thenN ?_
            refine tr_cond rfl (fun g39 => ?_) (fun g39 => ?_)
            · replace H := H.1 g39
              refine tr_seq ?_
              refine tr_region ?_
              refine tr_p (y_move rfl) rfl rfl ?_
              refine tr_p (y_fa (off := 1) Try.runUnderlying31 fo_31_1 rfl) rfl rfl ?_
              obtain ⟨y40, k41, H⟩ := H
              refine tr_h (y_ld Try.isAgg3 rfl) k41 rfl rfl ?_
              refine tr_e (e_call Try.call34 rfl (F.epoch_Book_Drop_ok H)) rfl rfl ?_
              rintro _ h42 ⟨r43, rfl, H⟩
              refine tr_p (y_gtr rfl rfl) rfl rfl ?_
              refine tr_p (y_assign rfl) rfl rfl ?_
              refine tr_nil ?_
              refine tr_thenN ?_
              refine tr_ret ?_
              refine tr_blockR ?_
              refine tr_thenR ?_
              exact tr_ret1 rfl rfl ⟨_, rfl, H⟩
            · replace H := H.2 g39
              refine tr_seq ?_
              refine tr_region ?_
              refine tr_p (y_eql rfl rfl) rfl rfl ?_
              refine tr_p (y_assign rfl) rfl rfl ?_
              refine tr_nil ?_
              refine tr_thenN ?_
              refine tr_cond rfl (fun g44 => ?_) (fun g44 => ?_)
              · replace H := H.1 g44
                refine tr_seq ?_
                refine tr_region ?_
                refine tr_p (y_move rfl) rfl rfl ?_
                refine tr_e (e_call Try.call26 rfl (F.epoch_Book_Begin_ok H)) rfl rfl ?_
                rintro _ h45 ⟨r46, rfl, H⟩
                refine tr_p (y_eql rfl rfl) rfl rfl ?_
                refine tr_p (y_assign rfl) rfl rfl ?_
                refine tr_nil ?_
                refine tr_thenN ?_
                refine tr_ret ?_
                refine tr_blockR ?_
                refine tr_thenR ?_
                exact tr_ret1 rfl rfl ⟨_, rfl, H⟩
              · replace H := H.2 g44
                refine tr_seq ?_
                refine tr_region ?_
                refine tr_p (y_eql rfl rfl) rfl rfl ?_
                refine tr_p (y_assign rfl) rfl rfl ?_
                refine tr_nil ?_
                refine tr_thenN ?_
                refine tr_cond rfl (fun g47 => ?_) (fun g47 => ?_)
                · replace H := H.1 g47
                  refine tr_seq ?_
                  refine tr_region ?_
                  refine tr_p (y_move rfl) rfl rfl ?_
                  refine tr_e (e_call Try.call27 rfl (F.epoch_Book_End_ok H)) rfl rfl ?_
                  rintro _ h48 ⟨r49, r50, rfl, H⟩
                  refine tr_p (y_move rfl) rfl rfl ?_
                  refine tr_p (y_ext rfl rfl) rfl rfl ?_
                  refine tr_p (y_ext rfl rfl) rfl rfl ?_
                  refine tr_p (y_assign rfl) rfl rfl ?_
                  refine tr_p (y_assign rfl) rfl rfl ?_
                  refine tr_nil ?_
                  refine tr_thenN ?_
                  refine tr_seq ?_
                  refine tr_region ?_
                  refine tr_p (y_move rfl) rfl rfl ?_
                  refine tr_p (y_eql rfl rfl) rfl rfl ?_
                  refine tr_p (y_assign rfl) rfl rfl ?_
                  refine tr_nil ?_
                  refine tr_thenN ?_
                  refine tr_ret ?_
                  refine tr_blockR ?_
                  refine tr_thenR ?_
                  exact tr_ret1 rfl rfl ⟨_, rfl, H⟩
                · replace H := H.2 g47
                  refine tr_skip ?_
                  refine tr_blockN ?_
                  refine tr_thenN ?_
                  refine tr_seq ?_
                  refine tr_region ?_
                  refine tr_p (y_assign rfl) rfl rfl ?_
                  refine tr_nil ?_
                  refine tr_thenN ?_
                  refine tr_ret ?_
                  exact tr_ret1 rfl rfl ⟨_, rfl, H⟩

def F.spatelaw9_moved.j2 (Q : Bool → H → Prop) (C1 : (Option Nat) → Sl → Sl → Int → (Option Nat) → Int → H → Prop) (x0 : Option Nat) (x1 : Sl) (x2 : Sl) (x3 : Int) (x9 : Option Nat) (x10 : Int) (h : H) : Prop :=
  C1 x0 x1 x2 x3 x9 (IntKind.wrap .i64 (x10 + 1)) h
def F.spatelaw9_moved.j3 (Q : Bool → H → Prop) (C1 : (Option Nat) → Sl → Sl → Int → (Option Nat) → Int → H → Prop) (x0 : Option Nat) (x1 : Sl) (x2 : Sl) (x3 : Int) (x9 : Option Nat) (x10 : Int) (h : H) : Prop :=
  idxA x1 x10 1 fun a4 =>
  ldI .i64 h a4 fun y6 =>
  RunS PP (Instr.mapUpdate 28 (.map x9) (.int .i64 y6) (.int .i64 1)) h fun _ h8 =>
  F.spatelaw9_moved.j2 Q C1 x0 x1 x2 x3 x9 x10 h8
def F.spatelaw9_moved.j4 (Q : Bool → H → Prop) (C1 : (Option Nat) → Sl → Sl → Int → (Option Nat) → Int → H → Prop) (x0 : Option Nat) (x1 : Sl) (x2 : Sl) (x3 : Int) (x9 : Option Nat) (x10 : Int) (x42 : Bool) (h : H) : Prop :=
  (x42 = true →
  Q false h) ∧
  (x42 = false →
  F.spatelaw9_moved.j3 Q C1 x0 x1 x2 x3 x9 x10 h)
def F.spatelaw9_moved.j6 (Q : Bool → H → Prop) (C1 : (Option Nat) → Sl → Int → (Option Nat) → Int → H → Prop) (x0 : Option Nat) (x2 : Sl) (x3 : Int) (x9 : Option Nat) (x11 : Int) (h : H) : Prop :=
  C1 x0 x2 x3 x9 (IntKind.wrap .i64 (x11 + 1)) h
def F.spatelaw9_moved.j7 (Q : Bool → H → Prop) (C1 : (Option Nat) → Sl → Int → (Option Nat) → Int → H → Prop) (x0 : Option Nat) (x2 : Sl) (x3 : Int) (x9 : Option Nat) (x11 : Int) (h : H) : Prop :=
  idxA x2 x11 1 fun a33 =>
  ldI .i64 h a33 fun y35 =>
  RunS PP (Instr.mapUpdate 28 (.map x9) (.int .i64 y35) (.int .i64 2)) h fun _ h37 =>
  F.spatelaw9_moved.j6 Q C1 x0 x2 x3 x9 x11 h37
def F.spatelaw9_moved.j8 (Q : Bool → H → Prop) (C1 : (Option Nat) → Sl → Int → (Option Nat) → Int → H → Prop) (x0 : Option Nat) (x2 : Sl) (x3 : Int) (x9 : Option Nat) (x11 : Int) (x94 : Bool) (h : H) : Prop :=
  (x94 = true →
  Q false h) ∧
  (x94 = false →
  F.spatelaw9_moved.j7 Q C1 x0 x2 x3 x9 x11 h)
def F.spatelaw9_moved.j10 (Q : Bool → H → Prop) (C1 : (Option Nat) → Int → (Option Nat) → Int → H → Prop) (x0 : Option Nat) (x3 : Int) (x9 : Option Nat) (x12 : Int) (h : H) : Prop :=
  C1 x0 x3 x9 (IntKind.wrap .i64 (x12 + 1)) h
def F.spatelaw9_moved.j11 (Q : Bool → H → Prop) (C1 : (Option Nat) → Int → (Option Nat) → Int → H → Prop) (x0 : Option Nat) (x3 : Int) (x9 : Option Nat) (x12 : Int) (h : H) : Prop :=
  RunS PP (Instr.lookup 28 (.map x9) (.int .i64 x12) false) h fun u h90 => ∃ r91 : Int, u = (.int .i64 r91) ∧
  (((r91 != 0)) = true →
  RunS PP (Instr.lookup 28 (.map x9) (.int .i64 x12) false) h90 fun u h93 => ∃ r94 : Int, u = (.int .i64 r94) ∧
  RunS PP (Instr.mapUpdate 28 (.map x0) (.int .i64 x12) (.int .i64 r94)) h93 fun _ h95 =>
  F.spatelaw9_moved.j10 Q C1 x0 x3 x9 x12 h95) ∧
  (((r91 != 0)) = false →
  F.spatelaw9_moved.j10 Q C1 x0 x3 x9 x12 h90)
def F.spatelaw9_moved.j12 (Q : Bool → H → Prop) (C1 : (Option Nat) → Int → (Option Nat) → Int → H → Prop) (x0 : Option Nat) (x3 : Int) (x9 : Option Nat) (x12 : Int) (x114 : Bool) (h : H) : Prop :=
  (x114 = true →
  Q false h) ∧
  (x114 = false →
  F.spatelaw9_moved.j11 Q C1 x0 x3 x9 x12 h)
def F.spatelaw9_moved.l9 (Q : Bool → H → Prop) : Nat → (Option Nat) → Int → (Option Nat) → Int → H → Prop
  | 0, _, _, _, _, _ => False
  | q9 + 1, x0, x3, x9, x12, h =>
    ((decide (x12 ≤ x3)) = true →
    RunS PP (Instr.lookup 28 (.map x0) (.int .i64 x12) false) h fun u h97 => ∃ r98 : Int, u = (.int .i64 r98) ∧
    (((r98 != 3)) = true →
    RunS PP (Instr.lookup 28 (.map x9) (.int .i64 x12) false) h97 fun u h100 => ∃ r101 : Int, u = (.int .i64 r101) ∧
    F.spatelaw9_moved.j12 Q (F.spatelaw9_moved.l9 Q q9) x0 x3 x9 x12 ((r101 == 0)) h100) ∧
    (((r98 != 3)) = false →
    F.spatelaw9_moved.j12 Q (F.spatelaw9_moved.l9 Q q9) x0 x3 x9 x12 false h97)) ∧
    ((decide (x12 ≤ x3)) = false →
    Q true h)
def F.spatelaw9_moved.l5 (Q : Bool → H → Prop) : Nat → (Option Nat) → Sl → Int → (Option Nat) → Int → H → Prop
  | 0, _, _, _, _, _, _ => False
  | q5 + 1, x0, x2, x3, x9, x11, h =>
    ((decide (x11 < (x2.len : Int))) = true →
    ((decide (x11 > 0)) = true →
    idxA x2 x11 1 fun a40 =>
    ldI .i64 h a40 fun y42 =>
    idxA x2 (IntKind.wrap .i64 (x11 - 1)) 1 fun a44 =>
    ldI .i64 h a44 fun y46 =>
    ((decide (y42 ≤ y46)) = true →
    F.spatelaw9_moved.j8 Q (F.spatelaw9_moved.l5 Q q5) x0 x2 x3 x9 x11 true h) ∧
    ((decide (y42 ≤ y46)) = false →
    idxA x2 x11 1 fun a49 =>
    ldI .i64 h a49 fun y51 =>
    RunS PP (Instr.lookup 28 (.map x0) (.int .i64 y51) false) h fun u h53 => ∃ r54 : Int, u = (.int .i64 r54) ∧
    (((r54 == 3)) = true →
    F.spatelaw9_moved.j8 Q (F.spatelaw9_moved.l5 Q q5) x0 x2 x3 x9 x11 true h53) ∧
    (((r54 == 3)) = false →
    idxA x2 x11 1 fun a56 =>
    ldI .i64 h53 a56 fun y58 =>
    RunS PP (Instr.lookup 28 (.map x0) (.int .i64 y58) false) h53 fun u h60 => ∃ r61 : Int, u = (.int .i64 r61) ∧
    (((r61 == 0)) = true →
    F.spatelaw9_moved.j8 Q (F.spatelaw9_moved.l5 Q q5) x0 x2 x3 x9 x11 true h60) ∧
    (((r61 == 0)) = false →
    idxA x2 x11 1 fun a63 =>
    ldI .i64 h60 a63 fun y65 =>
    RunS PP (Instr.lookup 28 (.map x9) (.int .i64 y65) false) h60 fun u h67 => ∃ r68 : Int, u = (.int .i64 r68) ∧
    F.spatelaw9_moved.j8 Q (F.spatelaw9_moved.l5 Q q5) x0 x2 x3 x9 x11 ((r68 != 0)) h67)))) ∧
    ((decide (x11 > 0)) = false →
    idxA x2 x11 1 fun a69 =>
    ldI .i64 h a69 fun y71 =>
    RunS PP (Instr.lookup 28 (.map x0) (.int .i64 y71) false) h fun u h73 => ∃ r74 : Int, u = (.int .i64 r74) ∧
    (((r74 == 3)) = true →
    F.spatelaw9_moved.j8 Q (F.spatelaw9_moved.l5 Q q5) x0 x2 x3 x9 x11 true h73) ∧
    (((r74 == 3)) = false →
    idxA x2 x11 1 fun a76 =>
    ldI .i64 h73 a76 fun y78 =>
    RunS PP (Instr.lookup 28 (.map x0) (.int .i64 y78) false) h73 fun u h80 => ∃ r81 : Int, u = (.int .i64 r81) ∧
    (((r81 == 0)) = true →
    F.spatelaw9_moved.j8 Q (F.spatelaw9_moved.l5 Q q5) x0 x2 x3 x9 x11 true h80) ∧
    (((r81 == 0)) = false →
    idxA x2 x11 1 fun a83 =>
    ldI .i64 h80 a83 fun y85 =>
    RunS PP (Instr.lookup 28 (.map x9) (.int .i64 y85) false) h80 fun u h87 => ∃ r88 : Int, u = (.int .i64 r88) ∧
    F.spatelaw9_moved.j8 Q (F.spatelaw9_moved.l5 Q q5) x0 x2 x3 x9 x11 ((r88 != 0)) h87)))) ∧
    ((decide (x11 < (x2.len : Int))) = false →
    ∃ m, F.spatelaw9_moved.l9 Q m x0 x3 x9 1 h)
def F.spatelaw9_moved.l1 (Q : Bool → H → Prop) : Nat → (Option Nat) → Sl → Sl → Int → (Option Nat) → Int → H → Prop
  | 0, _, _, _, _, _, _, _ => False
  | q1 + 1, x0, x1, x2, x3, x9, x10, h =>
    ((decide (x10 < (x1.len : Int))) = true →
    ((decide (x10 > 0)) = true →
    idxA x1 x10 1 fun a11 =>
    ldI .i64 h a11 fun y13 =>
    idxA x1 (IntKind.wrap .i64 (x10 - 1)) 1 fun a15 =>
    ldI .i64 h a15 fun y17 =>
    ((decide (y13 ≤ y17)) = true →
    F.spatelaw9_moved.j4 Q (F.spatelaw9_moved.l1 Q q1) x0 x1 x2 x3 x9 x10 true h) ∧
    ((decide (y13 ≤ y17)) = false →
    idxA x1 x10 1 fun a20 =>
    ldI .i64 h a20 fun y22 =>
    RunS PP (Instr.lookup 28 (.map x0) (.int .i64 y22) false) h fun u h24 => ∃ r25 : Int, u = (.int .i64 r25) ∧
    F.spatelaw9_moved.j4 Q (F.spatelaw9_moved.l1 Q q1) x0 x1 x2 x3 x9 x10 ((r25 != 1)) h24)) ∧
    ((decide (x10 > 0)) = false →
    idxA x1 x10 1 fun a26 =>
    ldI .i64 h a26 fun y28 =>
    RunS PP (Instr.lookup 28 (.map x0) (.int .i64 y28) false) h fun u h30 => ∃ r31 : Int, u = (.int .i64 r31) ∧
    F.spatelaw9_moved.j4 Q (F.spatelaw9_moved.l1 Q q1) x0 x1 x2 x3 x9 x10 ((r31 != 1)) h30)) ∧
    ((decide (x10 < (x1.len : Int))) = false →
    ∃ m, F.spatelaw9_moved.l5 Q m x0 x2 x3 x9 0 h)
/-- spate/spatelaw9.moved -/
def F.spatelaw9_moved (p0 : Option Nat) (p1 : Sl) (p2 : Sl) (p3 : Int) (h : H) (Q : Bool → H → Prop) : Prop :=
  RunS PP (Instr.makeMap 28 none) h fun u h1 => ∃ m2 : Option Nat, u = (.map m2) ∧
  ∃ m, F.spatelaw9_moved.l1 Q m p0 p1 p2 p3 m2 0 h1
theorem F.spatelaw9_moved_ok {p0 : Option Nat} {p1 : Sl} {p2 : Sl} {p3 : Int} {h : H} {Q : Bool → H → Prop} (H : F.spatelaw9_moved p0 p1 p2 p3 h Q) : Fn PP 17 ([(.map p0), p1.enc, p2.enc, (.int .i64 p3)] : List Value).toArray h fun r h' => ∃ r0, r = (.bool r0) ∧ Q r0 h' := by
  unfold F.spatelaw9_moved at H
  refine fn_of Try.func17 Try.ntmps17 rfl rfl fun w0 => ?_
  refine tr_sub [(0, (.map p0)), (1, p1.enc), (2, p2.enc), (3, (.int .i64 p3))] ⟨rfl, rfl, rfl, rfl, trivial⟩ ?_
  refine tr_seq ?_
  refine tr_region ?_
  refine tr_p (y_assign rfl) rfl rfl ?_
  refine tr_nil ?_
  refine tr_thenN ?_
  refine tr_seq ?_
  refine tr_region ?_
  refine tr_e (f_mkN H) rfl rfl ?_
  rintro _ h1 ⟨m2, rfl, H⟩
  refine tr_p (y_assign rfl) rfl rfl ?_
  refine tr_nil ?_
  refine tr_thenN ?_
  refine tr_seq ?_
  refine tr_seq ?_
  refine tr_region ?_
  refine tr_p (y_assign rfl) rfl rfl ?_
  refine tr_nil ?_
  refine tr_thenN ?_
  refine tr_block ?_
  obtain ⟨m104, H⟩ := H
  refine tr_sub [(0, (.map p0)), (1, p1.enc), (2, p2.enc), (3, (.int .i64 p3)), (9, (.map m2)), (10, (.int .i64 0))] ⟨rfl, rfl, rfl, rfl, rfl, rfl, trivial⟩ ?_
  refine tr_loop_j (fun m L' h => ∃ (x0 : Option Nat) (x1 : Sl) (x2 : Sl) (x3 : Int) (x9 : Option Nat) (x10 : Int), L' = [(0, (.map x0)), (1, x1.enc), (2, x2.enc), (3, (.int .i64 x3)), (9, (.map x9)), (10, (.int .i64 x10))] ∧ F.spatelaw9_moved.l1 Q m x0 x1 x2 x3 x9 x10 h) ?_ ?_ m104 ⟨_, _, _, _, _, _, rfl, H⟩
  · rintro L' h ⟨_, _, _, _, _, _, _, H⟩; exact H
  · rintro q1 L' h ⟨x0, x1, x2, x3, x9, x10, rfl, H⟩
    unfold F.spatelaw9_moved.l1 at H
    refine tr_seq ?_
    refine tr_seq ?_
    refine tr_region ?_
    refine tr_p (y_move rfl) rfl rfl ?_
    refine tr_p (y_move rfl) rfl rfl ?_
    refine tr_p (y_len (ts := #[]) Try.runUnderlying29 (o := x1.ptr) (n := x1.len) (cap := x1.cap) rfl) rfl rfl ?_
    refine tr_p (y_lss rfl rfl) rfl rfl ?_
    refine tr_nil ?_
    refine tr_thenN ?_
    refine tr_cond rfl (fun g3 => ?_) (fun g3 => ?_)
    · replace H := H.1 g3
      refine tr_skip ?_
      refine tr_thenN ?_
      refine tr_seq_j (fun L' h => ∃ (x0 : Option Nat) (x1 : Sl) (x2 : Sl) (x3 : Int) (x9 : Option Nat) (x10 : Int), L' = [(0, (.map x0)), (1, x1.enc), (2, x2.enc), (3, (.int .i64 x3)), (9, (.map x9)), (10, (.int .i64 x10))] ∧ F.spatelaw9_moved.j2 Q (F.spatelaw9_moved.l1 Q q1) x0 x1 x2 x3 x9 x10 h) ?_ ?_
      · rintro L' h ⟨x0, x1, x2, x3, x9, x10, rfl, H⟩
        unfold F.spatelaw9_moved.j2 at H
        refine tr_region ?_
        refine tr_p (y_move rfl) rfl rfl ?_
        refine tr_p (y_add rfl rfl) rfl rfl ?_
        refine tr_p (y_assign rfl) rfl rfl ?_
        refine tr_nil ?_
        refine tr_thenN ?_
        exact tr_join [(0, (.map x0)), (1, x1.enc), (2, x2.enc), (3, (.int .i64 x3)), (9, (.map x9)), (10, (.int .i64 (IntKind.wrap .i64 (x10 + 1))))] ⟨rfl, rfl, rfl, rfl, rfl, rfl, trivial⟩ ⟨_, _, _, _, _, _, rfl, H⟩
      · refine tr_block ?_
        refine tr_seq_j (fun L' h => ∃ (x0 : Option Nat) (x1 : Sl) (x2 : Sl) (x3 : Int) (x9 : Option Nat) (x10 : Int), L' = [(0, (.map x0)), (1, x1.enc), (2, x2.enc), (3, (.int .i64 x3)), (9, (.map x9)), (10, (.int .i64 x10))] ∧ F.spatelaw9_moved.j3 Q (F.spatelaw9_moved.l1 Q q1) x0 x1 x2 x3 x9 x10 h) ?_ ?_
        · rintro L' h ⟨x0, x1, x2, x3, x9, x10, rfl, H⟩
          unfold F.spatelaw9_moved.j3 at H
          refine tr_region ?_
          refine tr_p (y_move rfl) rfl rfl ?_
          refine tr_p (y_move rfl) rfl rfl ?_
          refine tr_p (y_move rfl) rfl rfl ?_
          obtain ⟨a4, e5, H⟩ := H
          refine tr_p (f_idx (s := x1) Try.runUnderlying29 Try.sizeOf3 rfl rfl e5) rfl rfl ?_
          obtain ⟨y6, k7, H⟩ := H
          refine tr_h (y_ld Try.isAgg3 rfl) k7 rfl rfl ?_
          refine tr_e (f_mu rfl rfl rfl H) rfl rfl ?_
          rintro _ h8 ⟨rfl, H⟩
          refine tr_nil ?_
          refine tr_blockN ?_
          refine tr_thenN ?_
          exact tr_join [(0, (.map x0)), (1, x1.enc), (2, x2.enc), (3, (.int .i64 x3)), (9, (.map x9)), (10, (.int .i64 x10))] ⟨rfl, rfl, rfl, rfl, rfl, rfl, trivial⟩ ⟨_, _, _, _, _, _, rfl, H⟩
        · refine tr_seq_j (fun L' h => ∃ (x0 : Option Nat) (x1 : Sl) (x2 : Sl) (x3 : Int) (x9 : Option Nat) (x10 : Int) (x42 : Bool), L' = [(0, (.map x0)), (1, x1.enc), (2, x2.enc), (3, (.int .i64 x3)), (9, (.map x9)), (10, (.int .i64 x10)), (42, (.bool x42))] ∧ F.spatelaw9_moved.j4 Q (F.spatelaw9_moved.l1 Q q1) x0 x1 x2 x3 x9 x10 x42 h) ?_ ?_
          · rintro L' h ⟨x0, x1, x2, x3, x9, x10, x42, rfl, H⟩
            unfold F.spatelaw9_moved.j4 at H
            refine tr_cond rfl (fun g9 => ?_) (fun g9 => ?_)
            · replace H := H.1 g9
              refine tr_seq ?_
              refine tr_region ?_
              refine tr_p (y_assign rfl) rfl rfl ?_
              refine tr_nil ?_
              refine tr_thenN ?_
              refine tr_ret ?_
              refine tr_thenR ?_
              refine tr_blockR ?_
              refine tr_thenR ?_
              refine tr_thenR ?_
              refine tr_blockR ?_
              refine tr_thenR ?_
              exact tr_ret1 rfl rfl ⟨_, rfl, H⟩
            · replace H := H.2 g9
              refine tr_skip ?_
              refine tr_thenN ?_
              exact tr_join [(0, (.map x0)), (1, x1.enc), (2, x2.enc), (3, (.int .i64 x3)), (9, (.map x9)), (10, (.int .i64 x10))] ⟨rfl, rfl, rfl, rfl, rfl, rfl, trivial⟩ ⟨_, _, _, _, _, _, rfl, H⟩
          · refine tr_draw mixed [0, 1, 3, 7, 7, 31, 63, 7, 7, 263, 903, 1927, 4095, 8191, 16383, 32767, 32767, 32767, 229375, 491519, 1048575, 2097151, 4194303] (by kernel_rfl) ?_
            refine g_p 0 1 rfl (by kernel_rfl) (y_move rfl) rfl rfl ?_
            refine g_p 1 3 rfl (by kernel_rfl) (y_gtr rfl rfl) rfl rfl ?_
            refine g_p 2 7 rfl (by kernel_rfl) (y_move rfl) rfl rfl ?_
            refine g_split (t := 22) rfl (fun g10 => ?_) (fun g10 => ?_)
            · replace H := H.1 g10
              refine g_p 3 15 rfl (by kernel_rfl) (y_move rfl) rfl rfl ?_
              refine g_p 4 31 rfl (by kernel_rfl) (y_move rfl) rfl rfl ?_
              obtain ⟨a11, e12, H⟩ := H
              refine g_p 5 63 rfl (by kernel_rfl) (f_idx (s := x1) Try.runUnderlying29 Try.sizeOf3 rfl rfl e12) rfl rfl ?_
              obtain ⟨y13, k14, H⟩ := H
              refine g_h 6 127 rfl (by kernel_rfl) (y_ld Try.isAgg3 rfl) k14 rfl rfl ?_
              refine g_p 7 255 rfl (by kernel_rfl) (y_move rfl) rfl rfl ?_
              refine g_p 8 511 rfl (by kernel_rfl) (y_move rfl) rfl rfl ?_
              refine g_p 9 1023 rfl (by kernel_rfl) (y_sub rfl rfl) rfl rfl ?_
              obtain ⟨a15, e16, H⟩ := H
              refine g_p 10 2047 rfl (by kernel_rfl) (f_idx (s := x1) Try.runUnderlying29 Try.sizeOf3 rfl rfl e16) rfl rfl ?_
              obtain ⟨y17, k18, H⟩ := H
              refine g_h 11 4095 rfl (by kernel_rfl) (y_ld Try.isAgg3 rfl) k18 rfl rfl ?_
              refine g_p 12 8191 rfl (by kernel_rfl) (y_leq rfl rfl) rfl rfl ?_
              refine g_p 13 16383 rfl (by kernel_rfl) (y_pick_t rfl rfl) rfl rfl ?_
              refine g_p 14 32767 rfl (by kernel_rfl) (y_move rfl) rfl rfl ?_
              refine g_split (t := 34) rfl (fun g19 => ?_) (fun g19 => ?_)
              · replace H := H.1 g19
                refine g_s 15 65535 rfl (by kernel_rfl) rfl rfl ?_
                refine g_s 16 131071 rfl (by kernel_rfl) rfl rfl ?_
                refine g_s 17 262143 rfl (by kernel_rfl) rfl rfl ?_
                refine g_s 18 524287 rfl (by kernel_rfl) rfl rfl ?_
                refine g_s 19 1048575 rfl (by kernel_rfl) rfl rfl ?_
                refine g_s 20 2097151 rfl (by kernel_rfl) rfl rfl ?_
                refine g_s 21 4194303 rfl (by kernel_rfl) rfl rfl ?_
                refine g_p 22 8388607 rfl (by kernel_rfl) (y_pick_t rfl rfl) rfl rfl ?_
                refine g_d (by kernel_rfl) ?_
                refine tr_thenN ?_
                exact tr_join [(0, (.map x0)), (1, x1.enc), (2, x2.enc), (3, (.int .i64 x3)), (9, (.map x9)), (10, (.int .i64 x10)), (42, (.bool true))] ⟨rfl, rfl, rfl, rfl, rfl, rfl, rfl, trivial⟩ ⟨_, _, _, _, _, _, _, rfl, H⟩
              · replace H := H.2 g19
                refine g_p 15 65535 rfl (by kernel_rfl) (y_move rfl) rfl rfl ?_
                refine g_p 16 131071 rfl (by kernel_rfl) (y_move rfl) rfl rfl ?_
                refine g_p 17 262143 rfl (by kernel_rfl) (y_move rfl) rfl rfl ?_
                obtain ⟨a20, e21, H⟩ := H
                refine g_p 18 524287 rfl (by kernel_rfl) (f_idx (s := x1) Try.runUnderlying29 Try.sizeOf3 rfl rfl e21) rfl rfl ?_
                obtain ⟨y22, k23, H⟩ := H
                refine g_h 19 1048575 rfl (by kernel_rfl) (y_ld Try.isAgg3 rfl) k23 rfl rfl ?_
                refine g_e 20 2097151 [] (by kernel_rfl) rfl (by kernel_rfl) (f_lk rfl rfl H) rfl rfl ?_
                rintro _ h24 ⟨r25, rfl, H⟩
                refine ⟨trivial, ?_⟩
                refine g_p 21 4194303 rfl (by kernel_rfl) (y_neq rfl rfl) rfl rfl ?_
                refine g_p 22 8388607 rfl (by kernel_rfl) (y_pick_f rfl rfl) rfl rfl ?_
                refine g_d (by kernel_rfl) ?_
                refine tr_thenN ?_
                exact tr_join [(0, (.map x0)), (1, x1.enc), (2, x2.enc), (3, (.int .i64 x3)), (9, (.map x9)), (10, (.int .i64 x10)), (42, (.bool ((r25 != 1))))] ⟨rfl, rfl, rfl, rfl, rfl, rfl, rfl, trivial⟩ ⟨_, _, _, _, _, _, _, rfl, H⟩
            · replace H := H.2 g10
              refine g_s 3 15 rfl (by kernel_rfl) rfl rfl ?_
              refine g_s 4 31 rfl (by kernel_rfl) rfl rfl ?_
              refine g_s 5 63 rfl (by kernel_rfl) rfl rfl ?_
              refine g_s 6 127 rfl (by kernel_rfl) rfl rfl ?_
              refine g_s 7 255 rfl (by kernel_rfl) rfl rfl ?_
              refine g_s 8 511 rfl (by kernel_rfl) rfl rfl ?_
              refine g_s 9 1023 rfl (by kernel_rfl) rfl rfl ?_
              refine g_s 10 2047 rfl (by kernel_rfl) rfl rfl ?_
              refine g_s 11 4095 rfl (by kernel_rfl) rfl rfl ?_
              refine g_s 12 8191 rfl (by kernel_rfl) rfl rfl ?_
              refine g_p 13 16383 rfl (by kernel_rfl) (y_pick_f rfl rfl) rfl rfl ?_
              refine g_p 14 32767 rfl (by kernel_rfl) (y_move rfl) rfl rfl ?_
              refine g_p 15 65535 rfl (by kernel_rfl) (y_move rfl) rfl rfl ?_
              refine g_p 16 131071 rfl (by kernel_rfl) (y_move rfl) rfl rfl ?_
              refine g_p 17 262143 rfl (by kernel_rfl) (y_move rfl) rfl rfl ?_
              obtain ⟨a26, e27, H⟩ := H
              refine g_p 18 524287 rfl (by kernel_rfl) (f_idx (s := x1) Try.runUnderlying29 Try.sizeOf3 rfl rfl e27) rfl rfl ?_
              obtain ⟨y28, k29, H⟩ := H
              refine g_h 19 1048575 rfl (by kernel_rfl) (y_ld Try.isAgg3 rfl) k29 rfl rfl ?_
              refine g_e 20 2097151 [] (by kernel_rfl) rfl (by kernel_rfl) (f_lk rfl rfl H) rfl rfl ?_
              rintro _ h30 ⟨r31, rfl, H⟩
              refine ⟨trivial, ?_⟩
              refine g_p 21 4194303 rfl (by kernel_rfl) (y_neq rfl rfl) rfl rfl ?_
              refine g_p 22 8388607 rfl (by kernel_rfl) (y_pick_f rfl rfl) rfl rfl ?_
              refine g_d (by kernel_rfl) ?_
              refine tr_thenN ?_
              exact tr_join [(0, (.map x0)), (1, x1.enc), (2, x2.enc), (3, (.int .i64 x3)), (9, (.map x9)), (10, (.int .i64 x10)), (42, (.bool ((r31 != 1))))] ⟨rfl, rfl, rfl, rfl, rfl, rfl, rfl, trivial⟩ ⟨_, _, _, _, _, _, _, rfl, H⟩
    · replace H := H.2 g3
      refine tr_exit ?_
      refine tr_thenE ?_
      refine tr_thenE ?_
      refine tr_hit ?_
      refine tr_thenN ?_
      refine tr_seq ?_
      refine tr_seq ?_
      refine tr_region ?_
      refine tr_p (y_assign rfl) rfl rfl ?_
      refine tr_nil ?_
      refine tr_thenN ?_
      refine tr_block ?_
      obtain ⟨m103, H⟩ := H
      refine tr_sub [(0, (.map x0)), (2, x2.enc), (3, (.int .i64 x3)), (9, (.map x9)), (11, (.int .i64 0))] ⟨rfl, rfl, rfl, rfl, rfl, trivial⟩ ?_
      refine tr_loop_j (fun m L' h => ∃ (x0 : Option Nat) (x2 : Sl) (x3 : Int) (x9 : Option Nat) (x11 : Int), L' = [(0, (.map x0)), (2, x2.enc), (3, (.int .i64 x3)), (9, (.map x9)), (11, (.int .i64 x11))] ∧ F.spatelaw9_moved.l5 Q m x0 x2 x3 x9 x11 h) ?_ ?_ m103 ⟨_, _, _, _, _, rfl, H⟩
      · rintro L' h ⟨_, _, _, _, _, _, H⟩; exact H
      · rintro q5 L' h ⟨x0, x2, x3, x9, x11, rfl, H⟩
        unfold F.spatelaw9_moved.l5 at H
        refine tr_seq ?_
        refine tr_seq ?_
        refine tr_region ?_
        refine tr_p (y_move rfl) rfl rfl ?_
        refine tr_p (y_move rfl) rfl rfl ?_
        refine tr_p (y_len (ts := #[]) Try.runUnderlying29 (o := x2.ptr) (n := x2.len) (cap := x2.cap) rfl) rfl rfl ?_
        refine tr_p (y_lss rfl rfl) rfl rfl ?_
        refine tr_nil ?_
        refine tr_thenN ?_
        refine tr_cond rfl (fun g32 => ?_) (fun g32 => ?_)
        · replace H := H.1 g32
          refine tr_skip ?_
          refine tr_thenN ?_
          refine tr_seq_j (fun L' h => ∃ (x0 : Option Nat) (x2 : Sl) (x3 : Int) (x9 : Option Nat) (x11 : Int), L' = [(0, (.map x0)), (2, x2.enc), (3, (.int .i64 x3)), (9, (.map x9)), (11, (.int .i64 x11))] ∧ F.spatelaw9_moved.j6 Q (F.spatelaw9_moved.l5 Q q5) x0 x2 x3 x9 x11 h) ?_ ?_
          · rintro L' h ⟨x0, x2, x3, x9, x11, rfl, H⟩
            unfold F.spatelaw9_moved.j6 at H
            refine tr_region ?_
            refine tr_p (y_move rfl) rfl rfl ?_
            refine tr_p (y_add rfl rfl) rfl rfl ?_
            refine tr_p (y_assign rfl) rfl rfl ?_
            refine tr_nil ?_
            refine tr_thenN ?_
            exact tr_join [(0, (.map x0)), (2, x2.enc), (3, (.int .i64 x3)), (9, (.map x9)), (11, (.int .i64 (IntKind.wrap .i64 (x11 + 1))))] ⟨rfl, rfl, rfl, rfl, rfl, trivial⟩ ⟨_, _, _, _, _, rfl, H⟩
          · refine tr_block ?_
            refine tr_seq_j (fun L' h => ∃ (x0 : Option Nat) (x2 : Sl) (x3 : Int) (x9 : Option Nat) (x11 : Int), L' = [(0, (.map x0)), (2, x2.enc), (3, (.int .i64 x3)), (9, (.map x9)), (11, (.int .i64 x11))] ∧ F.spatelaw9_moved.j7 Q (F.spatelaw9_moved.l5 Q q5) x0 x2 x3 x9 x11 h) ?_ ?_
            · rintro L' h ⟨x0, x2, x3, x9, x11, rfl, H⟩
              unfold F.spatelaw9_moved.j7 at H
              refine tr_region ?_
              refine tr_p (y_move rfl) rfl rfl ?_
              refine tr_p (y_move rfl) rfl rfl ?_
              refine tr_p (y_move rfl) rfl rfl ?_
              obtain ⟨a33, e34, H⟩ := H
              refine tr_p (f_idx (s := x2) Try.runUnderlying29 Try.sizeOf3 rfl rfl e34) rfl rfl ?_
              obtain ⟨y35, k36, H⟩ := H
              refine tr_h (y_ld Try.isAgg3 rfl) k36 rfl rfl ?_
              refine tr_e (f_mu rfl rfl rfl H) rfl rfl ?_
              rintro _ h37 ⟨rfl, H⟩
              refine tr_nil ?_
              refine tr_blockN ?_
              refine tr_thenN ?_
              exact tr_join [(0, (.map x0)), (2, x2.enc), (3, (.int .i64 x3)), (9, (.map x9)), (11, (.int .i64 x11))] ⟨rfl, rfl, rfl, rfl, rfl, trivial⟩ ⟨_, _, _, _, _, rfl, H⟩
            · refine tr_seq_j (fun L' h => ∃ (x0 : Option Nat) (x2 : Sl) (x3 : Int) (x9 : Option Nat) (x11 : Int) (x94 : Bool), L' = [(0, (.map x0)), (2, x2.enc), (3, (.int .i64 x3)), (9, (.map x9)), (11, (.int .i64 x11)), (94, (.bool x94))] ∧ F.spatelaw9_moved.j8 Q (F.spatelaw9_moved.l5 Q q5) x0 x2 x3 x9 x11 x94 h) ?_ ?_
              · rintro L' h ⟨x0, x2, x3, x9, x11, x94, rfl, H⟩
                unfold F.spatelaw9_moved.j8 at H
                refine tr_cond rfl (fun g38 => ?_) (fun g38 => ?_)
                · replace H := H.1 g38
                  refine tr_seq ?_
                  refine tr_region ?_
                  refine tr_p (y_assign rfl) rfl rfl ?_
                  refine tr_nil ?_
                  refine tr_thenN ?_
                  refine tr_ret ?_
                  refine tr_thenR ?_
                  refine tr_blockR ?_
                  refine tr_thenR ?_
                  refine tr_thenR ?_
                  refine tr_blockR ?_
                  refine tr_thenR ?_
                  exact tr_ret1 rfl rfl ⟨_, rfl, H⟩
                · replace H := H.2 g38
                  refine tr_skip ?_
                  refine tr_thenN ?_
                  exact tr_join [(0, (.map x0)), (2, x2.enc), (3, (.int .i64 x3)), (9, (.map x9)), (11, (.int .i64 x11))] ⟨rfl, rfl, rfl, rfl, rfl, trivial⟩ ⟨_, _, _, _, _, rfl, H⟩
              · refine tr_draw mixed [0, 1, 3, 7, 7, 31, 63, 7, 7, 263, 903, 1927, 4095, 8191, 16383, 32767, 32767, 32767, 229375, 491519, 1048575, 2097151, 4194303, 8388607, 16777215, 16777215, 16777215, 117440511, 251658239, 536870911, 1073741823, 2147483647, 4294967295, 8589934591, 8589934591, 8589934591, 60129542143, 128849018879, 274877906943, 549755813887, 1099511627775] (by kernel_rfl) ?_
                refine g_p 0 1 rfl (by kernel_rfl) (y_move rfl) rfl rfl ?_
                refine g_p 1 3 rfl (by kernel_rfl) (y_gtr rfl rfl) rfl rfl ?_
                refine g_p 2 7 rfl (by kernel_rfl) (y_move rfl) rfl rfl ?_
                refine g_split (t := 56) rfl (fun g39 => ?_) (fun g39 => ?_)
                · replace H := H.1 g39
                  refine g_p 3 15 rfl (by kernel_rfl) (y_move rfl) rfl rfl ?_
                  refine g_p 4 31 rfl (by kernel_rfl) (y_move rfl) rfl rfl ?_
                  obtain ⟨a40, e41, H⟩ := H
                  refine g_p 5 63 rfl (by kernel_rfl) (f_idx (s := x2) Try.runUnderlying29 Try.sizeOf3 rfl rfl e41) rfl rfl ?_
                  obtain ⟨y42, k43, H⟩ := H
                  refine g_h 6 127 rfl (by kernel_rfl) (y_ld Try.isAgg3 rfl) k43 rfl rfl ?_
                  refine g_p 7 255 rfl (by kernel_rfl) (y_move rfl) rfl rfl ?_
                  refine g_p 8 511 rfl (by kernel_rfl) (y_move rfl) rfl rfl ?_
                  refine g_p 9 1023 rfl (by kernel_rfl) (y_sub rfl rfl) rfl rfl ?_
                  obtain ⟨a44, e45, H⟩ := H
                  refine g_p 10 2047 rfl (by kernel_rfl) (f_idx (s := x2) Try.runUnderlying29 Try.sizeOf3 rfl rfl e45) rfl rfl ?_
                  obtain ⟨y46, k47, H⟩ := H
                  refine g_h 11 4095 rfl (by kernel_rfl) (y_ld Try.isAgg3 rfl) k47 rfl rfl ?_
                  refine g_p 12 8191 rfl (by kernel_rfl) (y_leq rfl rfl) rfl rfl ?_
                  refine g_p 13 16383 rfl (by kernel_rfl) (y_pick_t rfl rfl) rfl rfl ?_
                  refine g_p 14 32767 rfl (by kernel_rfl) (y_move rfl) rfl rfl ?_
                  refine g_split (t := 68) rfl (fun g48 => ?_) (fun g48 => ?_)
                  · replace H := H.1 g48
                    refine g_s 15 65535 rfl (by kernel_rfl) rfl rfl ?_
                    refine g_s 16 131071 rfl (by kernel_rfl) rfl rfl ?_
                    refine g_s 17 262143 rfl (by kernel_rfl) rfl rfl ?_
                    refine g_s 18 524287 rfl (by kernel_rfl) rfl rfl ?_
                    refine g_s 19 1048575 rfl (by kernel_rfl) rfl rfl ?_
                    refine g_s 20 2097151 rfl (by kernel_rfl) rfl rfl ?_
                    refine g_s 21 4194303 rfl (by kernel_rfl) rfl rfl ?_
                    refine g_p 22 8388607 rfl (by kernel_rfl) (y_pick_t rfl rfl) rfl rfl ?_
                    refine g_p 23 16777215 rfl (by kernel_rfl) (y_move rfl) rfl rfl ?_
                    refine g_s 24 33554431 rfl (by kernel_rfl) rfl rfl ?_
                    refine g_s 25 67108863 rfl (by kernel_rfl) rfl rfl ?_
                    refine g_s 26 134217727 rfl (by kernel_rfl) rfl rfl ?_
                    refine g_s 27 268435455 rfl (by kernel_rfl) rfl rfl ?_
                    refine g_s 28 536870911 rfl (by kernel_rfl) rfl rfl ?_
                    refine g_s 29 1073741823 rfl (by kernel_rfl) rfl rfl ?_
                    refine g_s 30 2147483647 rfl (by kernel_rfl) rfl rfl ?_
                    refine g_p 31 4294967295 rfl (by kernel_rfl) (y_pick_t rfl rfl) rfl rfl ?_
                    refine g_p 32 8589934591 rfl (by kernel_rfl) (y_move rfl) rfl rfl ?_
                    refine g_s 33 17179869183 rfl (by kernel_rfl) rfl rfl ?_
                    refine g_s 34 34359738367 rfl (by kernel_rfl) rfl rfl ?_
                    refine g_s 35 68719476735 rfl (by kernel_rfl) rfl rfl ?_
                    refine g_s 36 137438953471 rfl (by kernel_rfl) rfl rfl ?_
                    refine g_s 37 274877906943 rfl (by kernel_rfl) rfl rfl ?_
                    refine g_s 38 549755813887 rfl (by kernel_rfl) rfl rfl ?_
                    refine g_s 39 1099511627775 rfl (by kernel_rfl) rfl rfl ?_
                    refine g_p 40 2199023255551 rfl (by kernel_rfl) (y_pick_t rfl rfl) rfl rfl ?_
                    refine g_d (by kernel_rfl) ?_
                    refine tr_thenN ?_
                    exact tr_join [(0, (.map x0)), (2, x2.enc), (3, (.int .i64 x3)), (9, (.map x9)), (11, (.int .i64 x11)), (94, (.bool true))] ⟨rfl, rfl, rfl, rfl, rfl, rfl, trivial⟩ ⟨_, _, _, _, _, _, rfl, H⟩
                  · replace H := H.2 g48
                    refine g_p 15 65535 rfl (by kernel_rfl) (y_move rfl) rfl rfl ?_
                    refine g_p 16 131071 rfl (by kernel_rfl) (y_move rfl) rfl rfl ?_
                    refine g_p 17 262143 rfl (by kernel_rfl) (y_move rfl) rfl rfl ?_
                    obtain ⟨a49, e50, H⟩ := H
                    refine g_p 18 524287 rfl (by kernel_rfl) (f_idx (s := x2) Try.runUnderlying29 Try.sizeOf3 rfl rfl e50) rfl rfl ?_
                    obtain ⟨y51, k52, H⟩ := H
                    refine g_h 19 1048575 rfl (by kernel_rfl) (y_ld Try.isAgg3 rfl) k52 rfl rfl ?_
                    refine g_e 20 2097151 [] (by kernel_rfl) rfl (by kernel_rfl) (f_lk rfl rfl H) rfl rfl ?_
                    rintro _ h53 ⟨r54, rfl, H⟩
                    refine ⟨trivial, ?_⟩
                    refine g_p 21 4194303 rfl (by kernel_rfl) (y_eql rfl rfl) rfl rfl ?_
                    refine g_p 22 8388607 rfl (by kernel_rfl) (y_pick_f rfl rfl) rfl rfl ?_
                    refine g_p 23 16777215 rfl (by kernel_rfl) (y_move rfl) rfl rfl ?_
                    refine g_split (t := 77) rfl (fun g55 => ?_) (fun g55 => ?_)
                    · replace H := H.1 g55
                      refine g_s 24 33554431 rfl (by kernel_rfl) rfl rfl ?_
                      refine g_s 25 67108863 rfl (by kernel_rfl) rfl rfl ?_
                      refine g_s 26 134217727 rfl (by kernel_rfl) rfl rfl ?_
                      refine g_s 27 268435455 rfl (by kernel_rfl) rfl rfl ?_
                      refine g_s 28 536870911 rfl (by kernel_rfl) rfl rfl ?_
                      refine g_s 29 1073741823 rfl (by kernel_rfl) rfl rfl ?_
                      refine g_s 30 2147483647 rfl (by kernel_rfl) rfl rfl ?_
                      refine g_p 31 4294967295 rfl (by kernel_rfl) (y_pick_t rfl rfl) rfl rfl ?_
                      refine g_p 32 8589934591 rfl (by kernel_rfl) (y_move rfl) rfl rfl ?_
                      refine g_s 33 17179869183 rfl (by kernel_rfl) rfl rfl ?_
                      refine g_s 34 34359738367 rfl (by kernel_rfl) rfl rfl ?_
                      refine g_s 35 68719476735 rfl (by kernel_rfl) rfl rfl ?_
                      refine g_s 36 137438953471 rfl (by kernel_rfl) rfl rfl ?_
                      refine g_s 37 274877906943 rfl (by kernel_rfl) rfl rfl ?_
                      refine g_s 38 549755813887 rfl (by kernel_rfl) rfl rfl ?_
                      refine g_s 39 1099511627775 rfl (by kernel_rfl) rfl rfl ?_
                      refine g_p 40 2199023255551 rfl (by kernel_rfl) (y_pick_t rfl rfl) rfl rfl ?_
                      refine g_d (by kernel_rfl) ?_
                      refine tr_thenN ?_
                      exact tr_join [(0, (.map x0)), (2, x2.enc), (3, (.int .i64 x3)), (9, (.map x9)), (11, (.int .i64 x11)), (94, (.bool true))] ⟨rfl, rfl, rfl, rfl, rfl, rfl, trivial⟩ ⟨_, _, _, _, _, _, rfl, H⟩
                    · replace H := H.2 g55
                      refine g_p 24 33554431 rfl (by kernel_rfl) (y_move rfl) rfl rfl ?_
                      refine g_p 25 67108863 rfl (by kernel_rfl) (y_move rfl) rfl rfl ?_
                      refine g_p 26 134217727 rfl (by kernel_rfl) (y_move rfl) rfl rfl ?_
                      obtain ⟨a56, e57, H⟩ := H
                      refine g_p 27 268435455 rfl (by kernel_rfl) (f_idx (s := x2) Try.runUnderlying29 Try.sizeOf3 rfl rfl e57) rfl rfl ?_
                      obtain ⟨y58, k59, H⟩ := H
                      refine g_h 28 536870911 rfl (by kernel_rfl) (y_ld Try.isAgg3 rfl) k59 rfl rfl ?_
                      refine g_e 29 1073741823 [] (by kernel_rfl) rfl (by kernel_rfl) (f_lk rfl rfl H) rfl rfl ?_
                      rintro _ h60 ⟨r61, rfl, H⟩
                      refine ⟨trivial, ?_⟩
                      refine g_p 30 2147483647 rfl (by kernel_rfl) (y_eql rfl rfl) rfl rfl ?_
                      refine g_p 31 4294967295 rfl (by kernel_rfl) (y_pick_f rfl rfl) rfl rfl ?_
                      refine g_p 32 8589934591 rfl (by kernel_rfl) (y_move rfl) rfl rfl ?_
                      refine g_split (t := 86) rfl (fun g62 => ?_) (fun g62 => ?_)
                      · replace H := H.1 g62
                        refine g_s 33 17179869183 rfl (by kernel_rfl) rfl rfl ?_
                        refine g_s 34 34359738367 rfl (by kernel_rfl) rfl rfl ?_
                        refine g_s 35 68719476735 rfl (by kernel_rfl) rfl rfl ?_
                        refine g_s 36 137438953471 rfl (by kernel_rfl) rfl rfl ?_
                        refine g_s 37 274877906943 rfl (by kernel_rfl) rfl rfl ?_
                        refine g_s 38 549755813887 rfl (by kernel_rfl) rfl rfl ?_
                        refine g_s 39 1099511627775 rfl (by kernel_rfl) rfl rfl ?_
                        refine g_p 40 2199023255551 rfl (by kernel_rfl) (y_pick_t rfl rfl) rfl rfl ?_
                        refine g_d (by kernel_rfl) ?_
                        refine tr_thenN ?_
                        exact tr_join [(0, (.map x0)), (2, x2.enc), (3, (.int .i64 x3)), (9, (.map x9)), (11, (.int .i64 x11)), (94, (.bool true))] ⟨rfl, rfl, rfl, rfl, rfl, rfl, trivial⟩ ⟨_, _, _, _, _, _, rfl, H⟩
                      · replace H := H.2 g62
                        refine g_p 33 17179869183 rfl (by kernel_rfl) (y_move rfl) rfl rfl ?_
                        refine g_p 34 34359738367 rfl (by kernel_rfl) (y_move rfl) rfl rfl ?_
                        refine g_p 35 68719476735 rfl (by kernel_rfl) (y_move rfl) rfl rfl ?_
                        obtain ⟨a63, e64, H⟩ := H
                        refine g_p 36 137438953471 rfl (by kernel_rfl) (f_idx (s := x2) Try.runUnderlying29 Try.sizeOf3 rfl rfl e64) rfl rfl ?_
                        obtain ⟨y65, k66, H⟩ := H
                        refine g_h 37 274877906943 rfl (by kernel_rfl) (y_ld Try.isAgg3 rfl) k66 rfl rfl ?_
                        refine g_e 38 549755813887 [] (by kernel_rfl) rfl (by kernel_rfl) (f_lk rfl rfl H) rfl rfl ?_
                        rintro _ h67 ⟨r68, rfl, H⟩
                        refine ⟨trivial, ?_⟩
                        refine g_p 39 1099511627775 rfl (by kernel_rfl) (y_neq rfl rfl) rfl rfl ?_
                        refine g_p 40 2199023255551 rfl (by kernel_rfl) (y_pick_f rfl rfl) rfl rfl ?_
                        refine g_d (by kernel_rfl) ?_
                        refine tr_thenN ?_
                        exact tr_join [(0, (.map x0)), (2, x2.enc), (3, (.int .i64 x3)), (9, (.map x9)), (11, (.int .i64 x11)), (94, (.bool ((r68 != 0))))] ⟨rfl, rfl, rfl, rfl, rfl, rfl, trivial⟩ ⟨_, _, _, _, _, _, rfl, H⟩
                · replace H := H.2 g39
                  refine g_s 3 15 rfl (by kernel_rfl) rfl rfl ?_
                  refine g_s 4 31 rfl (by kernel_rfl) rfl rfl ?_
                  refine g_s 5 63 rfl (by kernel_rfl) rfl rfl ?_
                  refine g_s 6 127 rfl (by kernel_rfl) rfl rfl ?_
                  refine g_s 7 255 rfl (by kernel_rfl) rfl rfl ?_
                  refine g_s 8 511 rfl (by kernel_rfl) rfl rfl ?_
                  refine g_s 9 1023 rfl (by kernel_rfl) rfl rfl ?_
                  refine g_s 10 2047 rfl (by kernel_rfl) rfl rfl ?_
                  refine g_s 11 4095 rfl (by kernel_rfl) rfl rfl ?_
                  refine g_s 12 8191 rfl (by kernel_rfl) rfl rfl ?_
                  refine g_p 13 16383 rfl (by kernel_rfl) (y_pick_f rfl rfl) rfl rfl ?_
                  refine g_p 14 32767 rfl (by kernel_rfl) (y_move rfl) rfl rfl ?_
                  refine g_p 15 65535 rfl (by kernel_rfl) (y_move rfl) rfl rfl ?_
                  refine g_p 16 131071 rfl (by kernel_rfl) (y_move rfl) rfl rfl ?_
                  refine g_p 17 262143 rfl (by kernel_rfl) (y_move rfl) rfl rfl ?_
                  obtain ⟨a69, e70, H⟩ := H
                  refine g_p 18 524287 rfl (by kernel_rfl) (f_idx (s := x2) Try.runUnderlying29 Try.sizeOf3 rfl rfl e70) rfl rfl ?_
                  obtain ⟨y71, k72, H⟩ := H
                  refine g_h 19 1048575 rfl (by kernel_rfl) (y_ld Try.isAgg3 rfl) k72 rfl rfl ?_
                  refine g_e 20 2097151 [] (by kernel_rfl) rfl (by kernel_rfl) (f_lk rfl rfl H) rfl rfl ?_
                  rintro _ h73 ⟨r74, rfl, H⟩
                  refine ⟨trivial, ?_⟩
                  refine g_p 21 4194303 rfl (by kernel_rfl) (y_eql rfl rfl) rfl rfl ?_
                  refine g_p 22 8388607 rfl (by kernel_rfl) (y_pick_f rfl rfl) rfl rfl ?_
                  refine g_p 23 16777215 rfl (by kernel_rfl) (y_move rfl) rfl rfl ?_
                  refine g_split (t := 77) rfl (fun g75 => ?_) (fun g75 => ?_)
                  · replace H := H.1 g75
                    refine g_s 24 33554431 rfl (by kernel_rfl) rfl rfl ?_
                    refine g_s 25 67108863 rfl (by kernel_rfl) rfl rfl ?_
                    refine g_s 26 134217727 rfl (by kernel_rfl) rfl rfl ?_
                    refine g_s 27 268435455 rfl (by kernel_rfl) rfl rfl ?_
                    refine g_s 28 536870911 rfl (by kernel_rfl) rfl rfl ?_
                    refine g_s 29 1073741823 rfl (by kernel_rfl) rfl rfl ?_
                    refine g_s 30 2147483647 rfl (by kernel_rfl) rfl rfl ?_
                    refine g_p 31 4294967295 rfl (by kernel_rfl) (y_pick_t rfl rfl) rfl rfl ?_
                    refine g_p 32 8589934591 rfl (by kernel_rfl) (y_move rfl) rfl rfl ?_
                    refine g_s 33 17179869183 rfl (by kernel_rfl) rfl rfl ?_
                    refine g_s 34 34359738367 rfl (by kernel_rfl) rfl rfl ?_
                    refine g_s 35 68719476735 rfl (by kernel_rfl) rfl rfl ?_
                    refine g_s 36 137438953471 rfl (by kernel_rfl) rfl rfl ?_
                    refine g_s 37 274877906943 rfl (by kernel_rfl) rfl rfl ?_
                    refine g_s 38 549755813887 rfl (by kernel_rfl) rfl rfl ?_
                    refine g_s 39 1099511627775 rfl (by kernel_rfl) rfl rfl ?_
                    refine g_p 40 2199023255551 rfl (by kernel_rfl) (y_pick_t rfl rfl) rfl rfl ?_
                    refine g_d (by kernel_rfl) ?_
                    refine tr_thenN ?_
                    exact tr_join [(0, (.map x0)), (2, x2.enc), (3, (.int .i64 x3)), (9, (.map x9)), (11, (.int .i64 x11)), (94, (.bool true))] ⟨rfl, rfl, rfl, rfl, rfl, rfl, trivial⟩ ⟨_, _, _, _, _, _, rfl, H⟩
                  · replace H := H.2 g75
                    refine g_p 24 33554431 rfl (by kernel_rfl) (y_move rfl) rfl rfl ?_
                    refine g_p 25 67108863 rfl (by kernel_rfl) (y_move rfl) rfl rfl ?_
                    refine g_p 26 134217727 rfl (by kernel_rfl) (y_move rfl) rfl rfl ?_
                    obtain ⟨a76, e77, H⟩ := H
                    refine g_p 27 268435455 rfl (by kernel_rfl) (f_idx (s := x2) Try.runUnderlying29 Try.sizeOf3 rfl rfl e77) rfl rfl ?_
                    obtain ⟨y78, k79, H⟩ := H
                    refine g_h 28 536870911 rfl (by kernel_rfl) (y_ld Try.isAgg3 rfl) k79 rfl rfl ?_
                    refine g_e 29 1073741823 [] (by kernel_rfl) rfl (by kernel_rfl) (f_lk rfl rfl H) rfl rfl ?_
                    rintro _ h80 ⟨r81, rfl, H⟩
                    refine ⟨trivial, ?_⟩
                    refine g_p 30 2147483647 rfl (by kernel_rfl) (y_eql rfl rfl) rfl rfl ?_
                    refine g_p 31 4294967295 rfl (by kernel_rfl) (y_pick_f rfl rfl) rfl rfl ?_
                    refine g_p 32 8589934591 rfl (by kernel_rfl) (y_move rfl) rfl rfl ?_
                    refine g_split (t := 86) rfl (fun g82 => ?_) (fun g82 => ?_)
                    · replace H := H.1 g82
                      refine g_s 33 17179869183 rfl (by kernel_rfl) rfl rfl ?_
                      refine g_s 34 34359738367 rfl (by kernel_rfl) rfl rfl ?_
                      refine g_s 35 68719476735 rfl (by kernel_rfl) rfl rfl ?_
                      refine g_s 36 137438953471 rfl (by kernel_rfl) rfl rfl ?_
                      refine g_s 37 274877906943 rfl (by kernel_rfl) rfl rfl ?_
                      refine g_s 38 549755813887 rfl (by kernel_rfl) rfl rfl ?_
                      refine g_s 39 1099511627775 rfl (by kernel_rfl) rfl rfl ?_
                      refine g_p 40 2199023255551 rfl (by kernel_rfl) (y_pick_t rfl rfl) rfl rfl ?_
                      refine g_d (by kernel_rfl) ?_
                      refine tr_thenN ?_
                      exact tr_join [(0, (.map x0)), (2, x2.enc), (3, (.int .i64 x3)), (9, (.map x9)), (11, (.int .i64 x11)), (94, (.bool true))] ⟨rfl, rfl, rfl, rfl, rfl, rfl, trivial⟩ ⟨_, _, _, _, _, _, rfl, H⟩
                    · replace H := H.2 g82
                      refine g_p 33 17179869183 rfl (by kernel_rfl) (y_move rfl) rfl rfl ?_
                      refine g_p 34 34359738367 rfl (by kernel_rfl) (y_move rfl) rfl rfl ?_
                      refine g_p 35 68719476735 rfl (by kernel_rfl) (y_move rfl) rfl rfl ?_
                      obtain ⟨a83, e84, H⟩ := H
                      refine g_p 36 137438953471 rfl (by kernel_rfl) (f_idx (s := x2) Try.runUnderlying29 Try.sizeOf3 rfl rfl e84) rfl rfl ?_
                      obtain ⟨y85, k86, H⟩ := H
                      refine g_h 37 274877906943 rfl (by kernel_rfl) (y_ld Try.isAgg3 rfl) k86 rfl rfl ?_
                      refine g_e 38 549755813887 [] (by kernel_rfl) rfl (by kernel_rfl) (f_lk rfl rfl H) rfl rfl ?_
                      rintro _ h87 ⟨r88, rfl, H⟩
                      refine ⟨trivial, ?_⟩
                      refine g_p 39 1099511627775 rfl (by kernel_rfl) (y_neq rfl rfl) rfl rfl ?_
                      refine g_p 40 2199023255551 rfl (by kernel_rfl) (y_pick_f rfl rfl) rfl rfl ?_
                      refine g_d (by kernel_rfl) ?_
                      refine tr_thenN ?_
                      exact tr_join [(0, (.map x0)), (2, x2.enc), (3, (.int .i64 x3)), (9, (.map x9)), (11, (.int .i64 x11)), (94, (.bool ((r88 != 0))))] ⟨rfl, rfl, rfl, rfl, rfl, rfl, trivial⟩ ⟨_, _, _, _, _, _, rfl, H⟩
        · replace H := H.2 g32
          refine tr_exit ?_
          refine tr_thenE ?_
          refine tr_thenE ?_
          refine tr_hit ?_
          refine tr_thenN ?_
          refine tr_seq ?_
          refine tr_seq ?_
          refine tr_region ?_
          refine tr_p (y_assign rfl) rfl rfl ?_
          refine tr_nil ?_
          refine tr_thenN ?_
          refine tr_block ?_
          obtain ⟨m102, H⟩ := H
          refine tr_sub [(0, (.map x0)), (3, (.int .i64 x3)), (9, (.map x9)), (12, (.int .i64 1))] ⟨rfl, rfl, rfl, rfl, trivial⟩ ?_
          refine tr_loop_j (fun m L' h => ∃ (x0 : Option Nat) (x3 : Int) (x9 : Option Nat) (x12 : Int), L' = [(0, (.map x0)), (3, (.int .i64 x3)), (9, (.map x9)), (12, (.int .i64 x12))] ∧ F.spatelaw9_moved.l9 Q m x0 x3 x9 x12 h) ?_ ?_ m102 ⟨_, _, _, _, rfl, H⟩
          · rintro L' h ⟨_, _, _, _, _, H⟩; exact H
          · rintro q9 L' h ⟨x0, x3, x9, x12, rfl, H⟩
            unfold F.spatelaw9_moved.l9 at H
            refine tr_seq ?_
            refine tr_seq ?_
            refine tr_region ?_
            refine tr_p (y_move rfl) rfl rfl ?_
            refine tr_p (y_move rfl) rfl rfl ?_
            refine tr_p (y_leq rfl rfl) rfl rfl ?_
            refine tr_nil ?_
            refine tr_thenN ?_
            refine tr_cond rfl (fun g89 => ?_) (fun g89 => ?_)
            · replace H := H.1 g89
              refine tr_skip ?_
              refine tr_thenN ?_
              refine tr_seq_j (fun L' h => ∃ (x0 : Option Nat) (x3 : Int) (x9 : Option Nat) (x12 : Int), L' = [(0, (.map x0)), (3, (.int .i64 x3)), (9, (.map x9)), (12, (.int .i64 x12))] ∧ F.spatelaw9_moved.j10 Q (F.spatelaw9_moved.l9 Q q9) x0 x3 x9 x12 h) ?_ ?_
              · rintro L' h ⟨x0, x3, x9, x12, rfl, H⟩
                unfold F.spatelaw9_moved.j10 at H
                refine tr_region ?_
                refine tr_p (y_move rfl) rfl rfl ?_
                refine tr_p (y_add rfl rfl) rfl rfl ?_
                refine tr_p (y_assign rfl) rfl rfl ?_
                refine tr_nil ?_
                refine tr_thenN ?_
                exact tr_join [(0, (.map x0)), (3, (.int .i64 x3)), (9, (.map x9)), (12, (.int .i64 (IntKind.wrap .i64 (x12 + 1))))] ⟨rfl, rfl, rfl, rfl, trivial⟩ ⟨_, _, _, _, rfl, H⟩
              · refine tr_block ?_
                refine tr_seq_j (fun L' h => ∃ (x0 : Option Nat) (x3 : Int) (x9 : Option Nat) (x12 : Int), L' = [(0, (.map x0)), (3, (.int .i64 x3)), (9, (.map x9)), (12, (.int .i64 x12))] ∧ F.spatelaw9_moved.j11 Q (F.spatelaw9_moved.l9 Q q9) x0 x3 x9 x12 h) ?_ ?_
                · rintro L' h ⟨x0, x3, x9, x12, rfl, H⟩
                  unfold F.spatelaw9_moved.j11 at H
                  refine tr_seq ?_
                  refine tr_region ?_
                  refine tr_p (y_move rfl) rfl rfl ?_
                  refine tr_p (y_move rfl) rfl rfl ?_
                  refine tr_e (f_lk rfl rfl H) rfl rfl ?_
                  rintro _ h90 ⟨r91, rfl, H⟩
                  refine tr_p (y_neq rfl rfl) rfl rfl ?_
                  refine tr_nil ?_
                  refine tr_thenN ?_
                  refine tr_cond rfl (fun g92 => ?_) (fun g92 => ?_)
                  · replace H := H.1 g92
                    refine tr_region ?_
                    refine tr_p (y_move rfl) rfl rfl ?_
                    refine tr_p (y_move rfl) rfl rfl ?_
                    refine tr_p (y_move rfl) rfl rfl ?_
                    refine tr_p (y_move rfl) rfl rfl ?_
                    refine tr_e (f_lk rfl rfl H) rfl rfl ?_
                    rintro _ h93 ⟨r94, rfl, H⟩
                    refine tr_e (f_mu rfl rfl rfl H) rfl rfl ?_
                    rintro _ h95 ⟨rfl, H⟩
                    refine tr_nil ?_
                    refine tr_blockN ?_
                    refine tr_thenN ?_
                    exact tr_join [(0, (.map x0)), (3, (.int .i64 x3)), (9, (.map x9)), (12, (.int .i64 x12))] ⟨rfl, rfl, rfl, rfl, trivial⟩ ⟨_, _, _, _, rfl, H⟩
                  · replace H := H.2 g92
                    refine tr_skip ?_
                    refine tr_blockN ?_
                    refine tr_thenN ?_
                    exact tr_join [(0, (.map x0)), (3, (.int .i64 x3)), (9, (.map x9)), (12, (.int .i64 x12))] ⟨rfl, rfl, rfl, rfl, trivial⟩ ⟨_, _, _, _, rfl, H⟩
                · refine tr_seq_j (fun L' h => ∃ (x0 : Option Nat) (x3 : Int) (x9 : Option Nat) (x12 : Int) (x114 : Bool), L' = [(0, (.map x0)), (3, (.int .i64 x3)), (9, (.map x9)), (12, (.int .i64 x12)), (114, (.bool x114))] ∧ F.spatelaw9_moved.j12 Q (F.spatelaw9_moved.l9 Q q9) x0 x3 x9 x12 x114 h) ?_ ?_
                  · rintro L' h ⟨x0, x3, x9, x12, x114, rfl, H⟩
                    unfold F.spatelaw9_moved.j12 at H
                    refine tr_cond rfl (fun g96 => ?_) (fun g96 => ?_)
                    · replace H := H.1 g96
                      refine tr_seq ?_
                      refine tr_region ?_
                      refine tr_p (y_assign rfl) rfl rfl ?_
                      refine tr_nil ?_
                      refine tr_thenN ?_
                      refine tr_ret ?_
                      refine tr_thenR ?_
                      refine tr_blockR ?_
                      refine tr_thenR ?_
                      refine tr_thenR ?_
                      refine tr_blockR ?_
                      refine tr_thenR ?_
                      exact tr_ret1 rfl rfl ⟨_, rfl, H⟩
                    · replace H := H.2 g96
                      refine tr_skip ?_
                      refine tr_thenN ?_
                      exact tr_join [(0, (.map x0)), (3, (.int .i64 x3)), (9, (.map x9)), (12, (.int .i64 x12))] ⟨rfl, rfl, rfl, rfl, trivial⟩ ⟨_, _, _, _, rfl, H⟩
                  · refine tr_region ?_
                    refine tr_p (y_move rfl) rfl rfl ?_
                    refine tr_p (y_move rfl) rfl rfl ?_
                    refine tr_e (f_lk rfl rfl H) rfl rfl ?_
                    rintro _ h97 ⟨r98, rfl, H⟩
                    refine tr_p (y_neq rfl rfl) rfl rfl ?_
                    refine tr_p (y_move rfl) rfl rfl ?_
                    refine tr_split (t := 109) rfl (fun g99 => ?_) (fun g99 => ?_)
                    · replace H := H.1 g99
                      refine tr_p (y_move rfl) rfl rfl ?_
                      refine tr_p (y_move rfl) rfl rfl ?_
                      refine tr_e (f_lk rfl rfl H) rfl rfl ?_
                      rintro _ h100 ⟨r101, rfl, H⟩
                      refine tr_p (y_eql rfl rfl) rfl rfl ?_
                      refine tr_p (y_pick_t rfl rfl) rfl rfl ?_
                      refine tr_nil ?_
                      refine tr_thenN ?_
                      exact tr_join [(0, (.map x0)), (3, (.int .i64 x3)), (9, (.map x9)), (12, (.int .i64 x12)), (114, (.bool ((r101 == 0))))] ⟨rfl, rfl, rfl, rfl, rfl, trivial⟩ ⟨_, _, _, _, _, rfl, H⟩
                    · replace H := H.2 g99
                      refine tr_s rfl rfl ?_
                      refine tr_s rfl rfl ?_
                      refine tr_s rfl rfl ?_
                      refine tr_s rfl rfl ?_
                      refine tr_p (y_pick_f rfl rfl) rfl rfl ?_
                      refine tr_nil ?_
                      refine tr_thenN ?_
                      exact tr_join [(0, (.map x0)), (3, (.int .i64 x3)), (9, (.map x9)), (12, (.int .i64 x12)), (114, (.bool false))] ⟨rfl, rfl, rfl, rfl, rfl, trivial⟩ ⟨_, _, _, _, _, rfl, H⟩
            · replace H := H.2 g89
              refine tr_exit ?_
              refine tr_thenE ?_
              refine tr_thenE ?_
              refine tr_hit ?_
              refine tr_thenN ?_
              refine tr_seq ?_
              refine tr_region ?_
              refine tr_p (y_assign rfl) rfl rfl ?_
              refine tr_nil ?_
              refine tr_thenN ?_
              refine tr_ret ?_
              exact tr_ret1 rfl rfl ⟨_, rfl, H⟩

def F.spatelaw9_ints.l1 (Q : Bool → H → Prop) : Nat → Sl → Sl → Int → H → Prop
  | 0, _, _, _, _ => False
  | q1 + 1, x0, x1, x5, h =>
    ((decide (x5 < (x0.len : Int))) = true →
    idxA x0 x5 1 fun a3 =>
    ldI .i64 h a3 fun y5 =>
    idxA x1 x5 1 fun a7 =>
    ldI .i64 h a7 fun y9 =>
    (((y5 != y9)) = true →
    Q false h) ∧
    (((y5 != y9)) = false →
    (F.spatelaw9_ints.l1 Q q1) x0 x1 (IntKind.wrap .i64 (x5 + 1)) h)) ∧
    ((decide (x5 < (x0.len : Int))) = false →
    Q true h)
/-- spate/spatelaw9.ints -/
def F.spatelaw9_ints (p0 : Sl) (p1 : Sl) (h : H) (Q : Bool → H → Prop) : Prop :=
  ((((p0.len : Int) != (p1.len : Int))) = true →
  Q false h) ∧
  ((((p0.len : Int) != (p1.len : Int))) = false →
  ∃ m, F.spatelaw9_ints.l1 Q m p0 p1 0 h)
theorem F.spatelaw9_ints_ok {p0 : Sl} {p1 : Sl} {h : H} {Q : Bool → H → Prop} (H : F.spatelaw9_ints p0 p1 h Q) : Fn PP 14 ([p0.enc, p1.enc] : List Value).toArray h fun r h' => ∃ r0, r = (.bool r0) ∧ Q r0 h' := by
  unfold F.spatelaw9_ints at H
  refine fn_of Try.func14 Try.ntmps14 rfl rfl fun w0 => ?_
  refine tr_sub [(0, p0.enc), (1, p1.enc)] ⟨rfl, rfl, trivial⟩ ?_
  refine tr_seq ?_
  refine tr_region ?_
  refine tr_p (y_assign rfl) rfl rfl ?_
  refine tr_nil ?_
  refine tr_thenN ?_
  refine tr_seq ?_
  refine tr_seq ?_
  refine tr_region ?_
  refine tr_p (y_move rfl) rfl rfl ?_
  refine tr_p (y_len (ts := #[]) Try.runUnderlying29 (o := p0.ptr) (n := p0.len) (cap := p0.cap) rfl) rfl rfl ?_
  refine tr_p (y_move rfl) rfl rfl ?_
  refine tr_p (y_len (ts := #[]) Try.runUnderlying29 (o := p1.ptr) (n := p1.len) (cap := p1.cap) rfl) rfl rfl ?_
  refine tr_p (y_neq rfl rfl) rfl rfl ?_
  refine tr_nil ?_
  refine tr_thenN ?_
  refine tr_cond rfl (fun g1 => ?_) (fun g1 => ?_)
  · replace H := H.1 g1
    refine tr_seq ?_
    refine tr_region ?_
    refine tr_p (y_assign rfl) rfl rfl ?_
    refine tr_nil ?_
    refine tr_thenN ?_
    refine tr_ret ?_
    refine tr_thenR ?_
    exact tr_ret1 rfl rfl ⟨_, rfl, H⟩
  · replace H := H.2 g1
    refine tr_skip ?_
    refine tr_thenN ?_
    refine tr_seq ?_
    refine tr_seq ?_
    refine tr_region ?_
    refine tr_p (y_assign rfl) rfl rfl ?_
    refine tr_nil ?_
    refine tr_thenN ?_
    refine tr_block ?_
    obtain ⟨m12, H⟩ := H
    refine tr_sub [(0, p0.enc), (1, p1.enc), (5, (.int .i64 0))] ⟨rfl, rfl, rfl, trivial⟩ ?_
    refine tr_loop_j (fun m L' h => ∃ (x0 : Sl) (x1 : Sl) (x5 : Int), L' = [(0, x0.enc), (1, x1.enc), (5, (.int .i64 x5))] ∧ F.spatelaw9_ints.l1 Q m x0 x1 x5 h) ?_ ?_ m12 ⟨_, _, _, rfl, H⟩
    · rintro L' h ⟨_, _, _, _, H⟩; exact H
    · rintro q1 L' h ⟨x0, x1, x5, rfl, H⟩
      unfold F.spatelaw9_ints.l1 at H
      refine tr_seq ?_
      refine tr_seq ?_
      refine tr_region ?_
      refine tr_p (y_move rfl) rfl rfl ?_
      refine tr_p (y_move rfl) rfl rfl ?_
      refine tr_p (y_len (ts := #[]) Try.runUnderlying29 (o := x0.ptr) (n := x0.len) (cap := x0.cap) rfl) rfl rfl ?_
      refine tr_p (y_lss rfl rfl) rfl rfl ?_
      refine tr_nil ?_
      refine tr_thenN ?_
      refine tr_cond rfl (fun g2 => ?_) (fun g2 => ?_)
      · replace H := H.1 g2
        refine tr_skip ?_
        refine tr_thenN ?_
        refine tr_seq ?_
        refine tr_block ?_
        refine tr_seq ?_
        refine tr_draw mixed [0, 0, 3, 7, 0, 0, 48, 112, 255] (by kernel_rfl) ?_
        refine g_p 0 1 rfl (by kernel_rfl) (y_move rfl) rfl rfl ?_
        refine g_p 1 3 rfl (by kernel_rfl) (y_move rfl) rfl rfl ?_
        obtain ⟨a3, e4, H⟩ := H
        refine g_p 2 7 rfl (by kernel_rfl) (f_idx (s := x0) Try.runUnderlying29 Try.sizeOf3 rfl rfl e4) rfl rfl ?_
        obtain ⟨y5, k6, H⟩ := H
        refine g_h 3 15 rfl (by kernel_rfl) (y_ld Try.isAgg3 rfl) k6 rfl rfl ?_
        refine g_p 4 31 rfl (by kernel_rfl) (y_move rfl) rfl rfl ?_
        refine g_p 5 63 rfl (by kernel_rfl) (y_move rfl) rfl rfl ?_
        obtain ⟨a7, e8, H⟩ := H
        refine g_p 6 127 rfl (by kernel_rfl) (f_idx (s := x1) Try.runUnderlying29 Try.sizeOf3 rfl rfl e8) rfl rfl ?_
        obtain ⟨y9, k10, H⟩ := H
        refine g_h 7 255 rfl (by kernel_rfl) (y_ld Try.isAgg3 rfl) k10 rfl rfl ?_
        refine g_p 8 511 rfl (by kernel_rfl) (y_neq rfl rfl) rfl rfl ?_
        refine g_d (by kernel_rfl) ?_
        refine tr_thenN ?_
        refine tr_cond rfl (fun g11 => ?_) (fun g11 => ?_)
        · replace H := H.1 g11
          refine tr_seq ?_
          refine tr_region ?_
          refine tr_p (y_assign rfl) rfl rfl ?_
          refine tr_nil ?_
          refine tr_thenN ?_
          refine tr_ret ?_
          refine tr_blockR ?_
          refine tr_thenR ?_
          refine tr_thenR ?_
          refine tr_blockR ?_
          refine tr_thenR ?_
          exact tr_ret1 rfl rfl ⟨_, rfl, H⟩
        · replace H := H.2 g11
          refine tr_skip ?_
          refine tr_blockN ?_
          refine tr_thenN ?_
          refine tr_region ?_
          refine tr_p (y_move rfl) rfl rfl ?_
          refine tr_p (y_add rfl rfl) rfl rfl ?_
          refine tr_p (y_assign rfl) rfl rfl ?_
          refine tr_nil ?_
          refine tr_thenN ?_
          exact tr_join [(0, x0.enc), (1, x1.enc), (5, (.int .i64 (IntKind.wrap .i64 (x5 + 1))))] ⟨rfl, rfl, rfl, trivial⟩ ⟨_, _, _, rfl, H⟩
      · replace H := H.2 g2
        refine tr_exit ?_
        refine tr_thenE ?_
        refine tr_thenE ?_
        refine tr_hit ?_
        refine tr_thenN ?_
        refine tr_seq ?_
        refine tr_region ?_
        refine tr_p (y_assign rfl) rfl rfl ?_
        refine tr_nil ?_
        refine tr_thenN ?_
        refine tr_ret ?_
        exact tr_ret1 rfl rfl ⟨_, rfl, H⟩

end Go.Proofs.Ytgcmojbajjajgaa.V
