/- Printed by a program of this session (gen.py): Go functions as Lean functions over the heap, and that the Go code does what they say; no condition. -/
import Derived.Test.YtgcmojbajjajgaaGreatGlh
namespace Go.Proofs.YtgcmojbajjajgaaGreat.V
open Go
set_option linter.unusedVariables false
set_option maxRecDepth 100000
def F.epoch_New.l2 (Q : (Option Addr) → Int → H → Prop) : Nat → Addr → Int → H → Prop
  | 0, _, _, _ => False
  | q2 + 1, x4, x16, h =>
    ((decide (x16 < 65)) = true →
    RunS PP (Instr.makeMap 57 none) h fun u h6 => ∃ m7 : Option Nat, u = (.map m7) ∧
    (0 ≤ (x16 : Int) ∧ x16 < 65) ∧
    stH h6 (((x4.add 4).add ((x16 : Int).toNat * 2)).add 0) [(.map m7)] fun h9 =>
    (F.epoch_New.l2 Q q2) x4 (IntKind.wrap .i64 (x16 + 1)) h9) ∧
    ((decide (x16 < 65)) = false →
    Q (some x4) 0 h)
def F.epoch_New.j1 (Q : (Option Addr) → Int → H → Prop) (x0 : Int) (h : H) : Prop :=
  RunS PP (Instr.makeMap 49 none) h fun u h1 => ∃ m2 : Option Nat, u = (.map m2) ∧
  new h1 ((⟨(⟨(⟨⟩ : S_sync_noCopy), (⟨0, 0⟩ : S_sync_Mutex)⟩ : S_sync_Mutex_55), x0, 1, (List.replicate 65 (⟨none, 0⟩ : S_epoch_owner)), m2, false⟩ : S_epoch_Book).cells.toArray) ty_62 fun a4 h3 =>
  ∃ m, F.epoch_New.l2 Q m a4 0 h3
def F.epoch_New.j3 (Q : (Option Addr) → Int → H → Prop) (x0 : Int) (x11 : Bool) (h : H) : Prop :=
  (x11 = true →
  Q none 1 h) ∧
  (x11 = false →
  F.epoch_New.j1 Q x0 h)
/-- spate/epoch.New -/
def F.epoch_New (p0 : Int) (h : H) (Q : (Option Addr) → Int → H → Prop) : Prop :=
  ((decide (p0 < 1)) = true →
  F.epoch_New.j3 Q p0 true h) ∧
  ((decide (p0 < 1)) = false →
  F.epoch_New.j3 Q p0 (decide (p0 > 64)) h)
theorem F.epoch_New_ok {p0 : Int} {h : H} {Q : (Option Addr) → Int → H → Prop} (H : F.epoch_New p0 h Q) : Fn PP 5 ([(.int .i64 p0)] : List Value).toArray h fun r h' => ∃ r0 r1, r = .tuple #[(.pointer r0), (.int .i64 r1)] ∧ Q r0 r1 h' := by
  unfold F.epoch_New at H
  refine fn_of Tryz.func5 Tryz.ntmps5 rfl rfl fun w0 => ?_
  refine tr_sub [(0, (.int .i64 p0))] ⟨rfl, trivial⟩ ?_
  refine tr_seq ?_
  refine tr_region ?_
  refine tr_p (y_assign rfl) rfl rfl ?_
  refine tr_p (y_assign rfl) rfl rfl ?_
  refine tr_nil ?_
  refine tr_thenN ?_
  refine tr_seq_j (fun L' h => ∃ (x0 : Int), L' = [(0, (.int .i64 x0))] ∧ F.epoch_New.j1 Q x0 h) ?_ ?_
  · rintro L' h ⟨x0, rfl, H⟩
    unfold F.epoch_New.j1 at H
    refine tr_seq ?_
    refine tr_region ?_
    refine tr_p (y_move rfl) rfl rfl ?_
    refine tr_e (f_mkN H) rfl rfl ?_
    rintro _ h1 ⟨m2, rfl, H⟩
    refine tr_p (f_build rfl (bd_62_1_2_4 x0 1 m2)) rfl rfl ?_
    refine tr_e (f_box (cs := (⟨(⟨(⟨⟩ : S_sync_noCopy), (⟨0, 0⟩ : S_sync_Mutex)⟩ : S_sync_Mutex_55), x0, 1, (List.replicate 65 (⟨none, 0⟩ : S_epoch_owner)), m2, false⟩ : S_epoch_Book).cells.toArray) rfl rfl H) rfl rfl ?_
    rintro _ h3 ⟨a4, rfl, H⟩
    refine tr_p (y_assign rfl) rfl rfl ?_
    refine tr_nil ?_
    refine tr_thenN ?_
    refine tr_seq ?_
    refine tr_seq ?_
    refine tr_region ?_
    refine tr_p (y_move rfl) rfl rfl ?_
    refine tr_nil ?_
    refine tr_thenN ?_
    refine tr_block ?_
    obtain ⟨m10, H⟩ := H
    refine tr_sub [(4, (.pointer (some a4))), (16, (.int .i64 0))] ⟨rfl, rfl, trivial⟩ ?_
    refine tr_loop_j (fun m L' h => ∃ (x4 : Addr) (x16 : Int), L' = [(4, (.pointer (some x4))), (16, (.int .i64 x16))] ∧ F.epoch_New.l2 Q m x4 x16 h) ?_ ?_ m10 ⟨_, _, rfl, H⟩
    · rintro L' h ⟨_, _, _, H⟩; exact H
    · rintro q2 L' h ⟨x4, x16, rfl, H⟩
      unfold F.epoch_New.l2 at H
      refine tr_seq ?_
      refine tr_region ?_
      refine tr_p (y_lss rfl rfl) rfl rfl ?_
      refine tr_nil ?_
      refine tr_thenN ?_
      refine tr_seq ?_
      refine tr_cond rfl (fun g5 => ?_) (fun g5 => ?_)
      · replace H := H.1 g5
        refine tr_skip ?_
        refine tr_thenN ?_
        refine tr_seq ?_
        refine tr_block ?_
        refine tr_seq ?_
        refine tr_region ?_
        refine tr_p (y_move rfl) rfl rfl ?_
        refine tr_p (y_assign rfl) rfl rfl ?_
        refine tr_nil ?_
        refine tr_thenN ?_
        refine tr_region ?_
        refine tr_p (y_move rfl) rfl rfl ?_
        refine tr_p (y_move rfl) rfl rfl ?_
        refine tr_e (f_mkN H) rfl rfl ?_
        rintro _ h6 ⟨m7, rfl, H⟩
        refine tr_p (y_nil rfl) rfl rfl ?_
        refine tr_p (y_fa (off := 4) Tryz.runUnderlying62 fo_62_3 rfl) rfl rfl ?_
        obtain ⟨e8, H⟩ := H
        refine tr_p (f_idxArr Tryz.runUnderlying60 Tryz.sizeOf59 rfl rfl e8) rfl rfl ?_
        refine tr_p (y_fa (off := 0) Tryz.runUnderlying59 fo_59_0 rfl) rfl rfl ?_
        refine tr_e (f_store (vs := [(.map m7)]) Tryz.sizeOf57 rfl rfl rfl rfl (one1 rfl) H) rfl rfl ?_
        rintro _ h9 ⟨rfl, H⟩
        refine tr_nil ?_
        refine tr_blockN ?_
        refine tr_thenN ?_
        refine tr_region ?_
        refine tr_p (y_add rfl rfl) rfl rfl ?_
        refine tr_p (y_move rfl) rfl rfl ?_
        refine tr_nil ?_
        refine tr_thenN ?_
        exact tr_join [(4, (.pointer (some x4))), (16, (.int .i64 (IntKind.wrap .i64 (x16 + 1))))] ⟨rfl, rfl, trivial⟩ ⟨_, _, rfl, H⟩
      · replace H := H.2 g5
        refine tr_exit ?_
        refine tr_thenE ?_
        refine tr_thenE ?_
        refine tr_hit ?_
        refine tr_thenN ?_
        refine tr_seq ?_
        refine tr_region ?_
        refine tr_p (y_move rfl) rfl rfl ?_
        refine tr_p (y_assign rfl) rfl rfl ?_
        refine tr_p (y_assign rfl) rfl rfl ?_
        refine tr_nil ?_
        refine tr_thenN ?_
        refine tr_ret ?_
        exact tr_ret2 rfl rfl rfl ⟨_, _, rfl, H⟩
  · refine tr_seq_j (fun L' h => ∃ (x0 : Int) (x11 : Bool), L' = [(0, (.int .i64 x0)), (11, (.bool x11))] ∧ F.epoch_New.j3 Q x0 x11 h) ?_ ?_
    · rintro L' h ⟨x0, x11, rfl, H⟩
      unfold F.epoch_New.j3 at H
      refine tr_cond rfl (fun g11 => ?_) (fun g11 => ?_)
      · replace H := H.1 g11
        refine tr_seq ?_
        refine tr_region ?_
        refine tr_p (y_assign rfl) rfl rfl ?_
        refine tr_p (y_assign rfl) rfl rfl ?_
        refine tr_nil ?_
        refine tr_thenN ?_
        refine tr_ret ?_
        refine tr_thenR ?_
        exact tr_ret2 rfl rfl rfl ⟨_, _, rfl, H⟩
      · replace H := H.2 g11
        refine tr_skip ?_
        refine tr_thenN ?_
        exact tr_join [(0, (.int .i64 x0))] ⟨rfl, trivial⟩ ⟨_, rfl, H⟩
    · refine tr_region ?_
      refine tr_p (y_move rfl) rfl rfl ?_
      refine tr_p (y_lss rfl rfl) rfl rfl ?_
      refine tr_p (y_move rfl) rfl rfl ?_
      refine tr_split (t := 8) rfl (fun g12 => ?_) (fun g12 => ?_)
      · replace H := H.1 g12
        refine tr_s rfl rfl ?_
        refine tr_s rfl rfl ?_
        refine tr_p (y_pick_t rfl rfl) rfl rfl ?_
        refine tr_nil ?_
        refine tr_thenN ?_
        exact tr_join [(0, (.int .i64 p0)), (11, (.bool true))] ⟨rfl, rfl, trivial⟩ ⟨_, _, rfl, H⟩
      · replace H := H.2 g12
        refine tr_p (y_move rfl) rfl rfl ?_
        refine tr_p (y_gtr rfl rfl) rfl rfl ?_
        refine tr_p (y_pick_f rfl rfl) rfl rfl ?_
        refine tr_nil ?_
        refine tr_thenN ?_
        exact tr_join [(0, (.int .i64 p0)), (11, (.bool (decide (p0 > 64))))] ⟨rfl, rfl, trivial⟩ ⟨_, _, rfl, H⟩

/-- (*internal/sync.Mutex).Lock -/
def F.internal_sync_Mutex_Lock (p0 : Option Addr) (h : H) (Q : H → Prop) : Prop :=
  nn p0 fun a1 =>
  casI .i32 h (a1.add 0) 0 1 fun r4 h3 =>
  (r4 = true →
  nn p0 fun a7 =>
  hasC h3 a7 ∧
  Q h3) ∧
  (r4 = false →
  False)
theorem F.internal_sync_Mutex_Lock_ok {p0 : Option Addr} {h : H} {Q : H → Prop} (H : F.internal_sync_Mutex_Lock p0 h Q) : Fn PP 64 ([(.pointer p0)] : List Value).toArray h fun r h' => r = .tuple #[] ∧ Q  h' := by
  unfold F.internal_sync_Mutex_Lock at H
  refine fn_of Tryz.func64 Tryz.ntmps64 rfl rfl fun w0 => ?_
  refine tr_sub [(0, (.pointer p0))] ⟨rfl, trivial⟩ ?_
  refine tr_seq ?_
  refine tr_region ?_
  refine tr_p (y_still (still_72) rfl) rfl rfl ?_
  refine tr_nil ?_
  refine tr_thenN ?_
  refine tr_seq ?_
  refine tr_seq ?_
  refine tr_region ?_
  refine tr_p (y_move rfl) rfl rfl ?_
  obtain ⟨a1, e2, H⟩ := H
  refine tr_p (f_nn rfl e2) rfl rfl ?_
  refine tr_p (y_fa (off := 0) Tryz.runUnderlying54 fo_54_0 rfl) rfl rfl ?_
  refine tr_e (f_cas cas_73 rfl H) rfl rfl ?_
  rintro _ h3 ⟨r4, rfl, H⟩
  refine tr_nil ?_
  refine tr_thenN ?_
  refine tr_cond rfl (fun g5 => ?_) (fun g5 => ?_)
  · replace H := H.1 g5
    refine tr_seq ?_
    refine tr_cond_t rfl ?_
    refine tr_seq ?_
    refine tr_region ?_
    refine tr_p (y_still (still_74) rfl) rfl rfl ?_
    refine tr_nil ?_
    refine tr_thenN ?_
    refine tr_region ?_
    refine tr_p (y_move rfl) rfl rfl ?_
    obtain ⟨a7, e8, H⟩ := H
    obtain ⟨k6, H⟩ := H
    refine tr_h (y_upt Tryz.underlying97 Tryz.underlying101 (by kernel_rfl) rfl e8) k6 rfl rfl ?_
    refine tr_p (y_still (still_75 a7) rfl) rfl rfl ?_
    refine tr_nil ?_
    refine tr_thenN ?_
    refine tr_ret ?_
    refine tr_thenR ?_
    exact tr_ret0 rfl ⟨rfl, H⟩
  · replace H := H.2 g5
    refine tr_skip ?_
    refine tr_thenN ?_
    refine tr_region ?_
    refine tr_p (y_move rfl) rfl rfl ?_
    exact H.elim

/-- (*sync.Mutex).Lock -/
def F.sync_Mutex_Lock (p0 : Option Addr) (h : H) (Q : H → Prop) : Prop :=
  nn p0 fun a1 =>
  F.internal_sync_Mutex_Lock (some (a1.add 0)) h fun h3 =>
  Q h3
theorem F.sync_Mutex_Lock_ok {p0 : Option Addr} {h : H} {Q : H → Prop} (H : F.sync_Mutex_Lock p0 h Q) : Fn PP 50 ([(.pointer p0)] : List Value).toArray h fun r h' => r = .tuple #[] ∧ Q  h' := by
  unfold F.sync_Mutex_Lock at H
  refine fn_of Tryz.func50 Tryz.ntmps50 rfl rfl fun w0 => ?_
  refine tr_sub [(0, (.pointer p0))] ⟨rfl, trivial⟩ ?_
  refine tr_region ?_
  refine tr_p (y_move rfl) rfl rfl ?_
  obtain ⟨a1, e2, H⟩ := H
  refine tr_p (f_nn rfl e2) rfl rfl ?_
  refine tr_p (y_fa (off := 0) Tryz.runUnderlying56 fo_56_1 rfl) rfl rfl ?_
  refine tr_e (e_call Tryz.call64 rfl (F.internal_sync_Mutex_Lock_ok H)) rfl rfl ?_
  rintro _ h3 ⟨rfl, H⟩
  refine tr_nil ?_
  exact tr_end0 rfl ⟨rfl, H⟩

def F.internal_sync_Mutex_Unlock.j1 (Q : H → Prop) (x0 : Option Addr) (h : H) : Prop :=
  nn x0 fun a1 =>
  addI .i32 h (a1.add 0) (-1) fun r4 h3 =>
  (((r4 != 0)) = true →
  False) ∧
  (((r4 != 0)) = false →
  Q h3)
/-- (*internal/sync.Mutex).Unlock -/
def F.internal_sync_Mutex_Unlock (p0 : Option Addr) (h : H) (Q : H → Prop) : Prop :=
  nn p0 fun a7 =>
  ldI .i32 h (a7.add 0) fun y9 =>
  nn p0 fun a12 =>
  hasC h a12 ∧
  F.internal_sync_Mutex_Unlock.j1 Q p0 h
theorem F.internal_sync_Mutex_Unlock_ok {p0 : Option Addr} {h : H} {Q : H → Prop} (H : F.internal_sync_Mutex_Unlock p0 h Q) : Fn PP 65 ([(.pointer p0)] : List Value).toArray h fun r h' => r = .tuple #[] ∧ Q  h' := by
  unfold F.internal_sync_Mutex_Unlock at H
  refine fn_of Tryz.func65 Tryz.ntmps65 rfl rfl fun w0 => ?_
  refine tr_sub [(0, (.pointer p0))] ⟨rfl, trivial⟩ ?_
  refine tr_seq_j (fun L' h => ∃ (x0 : Option Addr), L' = [(0, (.pointer x0))] ∧ F.internal_sync_Mutex_Unlock.j1 Q x0 h) ?_ ?_
  · rintro L' h ⟨x0, rfl, H⟩
    unfold F.internal_sync_Mutex_Unlock.j1 at H
    refine tr_seq ?_
    refine tr_region ?_
    refine tr_p (y_move rfl) rfl rfl ?_
    obtain ⟨a1, e2, H⟩ := H
    refine tr_p (f_nn rfl e2) rfl rfl ?_
    refine tr_p (y_fa (off := 0) Tryz.runUnderlying54 fo_54_0 rfl) rfl rfl ?_
    refine tr_e (f_addI add_78 rfl H) rfl rfl ?_
    rintro _ h3 ⟨r4, rfl, H⟩
    refine tr_p (y_assign rfl) rfl rfl ?_
    refine tr_nil ?_
    refine tr_thenN ?_
    refine tr_seq ?_
    refine tr_seq ?_
    refine tr_region ?_
    refine tr_p (y_move rfl) rfl rfl ?_
    refine tr_p (y_neq rfl rfl) rfl rfl ?_
    refine tr_nil ?_
    refine tr_thenN ?_
    refine tr_cond rfl (fun g5 => ?_) (fun g5 => ?_)
    · replace H := H.1 g5
      refine tr_region ?_
      refine tr_p (y_move rfl) rfl rfl ?_
      refine tr_p (y_move rfl) rfl rfl ?_
      exact H.elim
    · replace H := H.2 g5
      refine tr_skip ?_
      refine tr_thenN ?_
      refine tr_region ?_
      refine tr_p (y_still (still_74) rfl) rfl rfl ?_
      refine tr_nil ?_
      exact tr_end0 rfl ⟨rfl, H⟩
  · refine tr_cond_t rfl ?_
    refine tr_seq ?_
    refine tr_region ?_
    refine tr_p (y_move rfl) rfl rfl ?_
    obtain ⟨a7, e8, H⟩ := H
    refine tr_p (f_nn rfl e8) rfl rfl ?_
    refine tr_p (y_fa (off := 0) Tryz.runUnderlying54 fo_54_0 rfl) rfl rfl ?_
    obtain ⟨y9, k10, H⟩ := H
    refine tr_h (y_ld Tryz.isAgg21 rfl) k10 rfl rfl ?_
    refine tr_nil ?_
    refine tr_thenN ?_
    refine tr_seq ?_
    refine tr_region ?_
    refine tr_p (y_move rfl) rfl rfl ?_
    obtain ⟨a12, e13, H⟩ := H
    obtain ⟨k11, H⟩ := H
    refine tr_h (y_upt Tryz.underlying97 Tryz.underlying101 (by kernel_rfl) rfl e13) k11 rfl rfl ?_
    refine tr_p (y_still (still_77 a12) rfl) rfl rfl ?_
    refine tr_nil ?_
    refine tr_thenN ?_
    refine tr_region ?_
    refine tr_p (y_still (still_72) rfl) rfl rfl ?_
    refine tr_nil ?_
    refine tr_thenN ?_
    exact tr_join [(0, (.pointer p0))] ⟨rfl, trivial⟩ ⟨_, rfl, H⟩

/-- (*sync.Mutex).Unlock -/
def F.sync_Mutex_Unlock (p0 : Option Addr) (h : H) (Q : H → Prop) : Prop :=
  nn p0 fun a1 =>
  F.internal_sync_Mutex_Unlock (some (a1.add 0)) h fun h3 =>
  Q h3
theorem F.sync_Mutex_Unlock_ok {p0 : Option Addr} {h : H} {Q : H → Prop} (H : F.sync_Mutex_Unlock p0 h Q) : Fn PP 51 ([(.pointer p0)] : List Value).toArray h fun r h' => r = .tuple #[] ∧ Q  h' := by
  unfold F.sync_Mutex_Unlock at H
  refine fn_of Tryz.func51 Tryz.ntmps51 rfl rfl fun w0 => ?_
  refine tr_sub [(0, (.pointer p0))] ⟨rfl, trivial⟩ ?_
  refine tr_region ?_
  refine tr_p (y_move rfl) rfl rfl ?_
  obtain ⟨a1, e2, H⟩ := H
  refine tr_p (f_nn rfl e2) rfl rfl ?_
  refine tr_p (y_fa (off := 0) Tryz.runUnderlying56 fo_56_1 rfl) rfl rfl ?_
  refine tr_e (e_call Tryz.call65 rfl (F.internal_sync_Mutex_Unlock_ok H)) rfl rfl ?_
  rintro _ h3 ⟨rfl, H⟩
  refine tr_nil ?_
  exact tr_end0 rfl ⟨rfl, H⟩
theorem F.sync_Mutex_Unlock_dok {p0 : Option Addr} {h : H} {Q : H → Prop} (H : F.sync_Mutex_Unlock p0 h Q) : DFn PP 51 ([(.pointer p0)] : List Value).toArray h fun r h' => r = .tuple #[] ∧ Q  h' := by
  unfold F.sync_Mutex_Unlock at H
  refine dfn_of Tryz.func51 Tryz.ntmps51 rfl rfl fun w0 => ?_
  refine tr_sub [(0, (.pointer p0))] ⟨rfl, trivial⟩ ?_
  refine tr_region ?_
  refine tr_p (y_move rfl) rfl rfl ?_
  obtain ⟨a1, e2, H⟩ := H
  refine tr_p (f_nn rfl e2) rfl rfl ?_
  refine tr_p (y_fa (off := 0) Tryz.runUnderlying56 fo_56_1 rfl) rfl rfl ?_
  refine tr_e (e_call Tryz.call65 rfl (F.internal_sync_Mutex_Unlock_ok H)) rfl rfl ?_
  rintro _ h3 ⟨rfl, H⟩
  refine tr_nil ?_
  exact tr_end0 rfl ⟨rfl, H⟩

/-- (*spate/epoch.Book).guard -/
def F.epoch_Book_guard (p0 : Option Addr) (h : H) (Q : Value → H → Prop) : Prop :=
  nn p0 fun a1 =>
  F.sync_Mutex_Lock (some (a1.add 0)) h fun h3 =>
  nn p0 fun a4 =>
  Q (.func (.func 51) #[(.pointer (some (a4.add 0)))] #[]) h3
theorem F.epoch_Book_guard_ok {p0 : Option Addr} {h : H} {Q : Value → H → Prop} (H : F.epoch_Book_guard p0 h Q) : Fn PP 21 ([(.pointer p0)] : List Value).toArray h fun r h' => ∃ r0, r = r0 ∧ Q r0 h' := by
  unfold F.epoch_Book_guard at H
  refine fn_of Tryz.func21 Tryz.ntmps21 rfl rfl fun w0 => ?_
  refine tr_sub [(0, (.pointer p0))] ⟨rfl, trivial⟩ ?_
  refine tr_seq ?_
  refine tr_region ?_
  refine tr_p (y_assign rfl) rfl rfl ?_
  refine tr_nil ?_
  refine tr_thenN ?_
  refine tr_seq ?_
  refine tr_region ?_
  refine tr_p (y_move rfl) rfl rfl ?_
  obtain ⟨a1, e2, H⟩ := H
  refine tr_p (f_nn rfl e2) rfl rfl ?_
  refine tr_p (y_fa (off := 0) Tryz.runUnderlying62 fo_62_0 rfl) rfl rfl ?_
  refine tr_e (e_call Tryz.call50 rfl (F.sync_Mutex_Lock_ok H)) rfl rfl ?_
  rintro _ h3 ⟨rfl, H⟩
  refine tr_nil ?_
  refine tr_thenN ?_
  refine tr_seq ?_
  refine tr_region ?_
  refine tr_p (y_move rfl) rfl rfl ?_
  obtain ⟨a4, e5, H⟩ := H
  refine tr_p (f_nn rfl e5) rfl rfl ?_
  refine tr_p (y_fa (off := 0) Tryz.runUnderlying62 fo_62_0 rfl) rfl rfl ?_
  refine tr_p (y_fn rfl rfl) rfl rfl ?_
  refine tr_p (y_assign rfl) rfl rfl ?_
  refine tr_nil ?_
  refine tr_thenN ?_
  refine tr_ret ?_
  exact tr_ret1 rfl rfl ⟨_, rfl, H⟩

/-- spate/epoch.is -/
def F.epoch_is (p0 : Int) (h : H) (Q : Bool → H → Prop) : Prop :=
  ((decide (p0 ≥ 1)) = true →
  Q (decide (p0 ≤ 64)) h) ∧
  ((decide (p0 ≥ 1)) = false →
  Q false h)
theorem F.epoch_is_ok {p0 : Int} {h : H} {Q : Bool → H → Prop} (H : F.epoch_is p0 h Q) : Fn PP 39 ([(.int .i64 p0)] : List Value).toArray h fun r h' => ∃ r0, r = (.bool r0) ∧ Q r0 h' := by
  unfold F.epoch_is at H
  refine fn_of Tryz.func39 Tryz.ntmps39 rfl rfl fun w0 => ?_
  refine tr_sub [(0, (.int .i64 p0))] ⟨rfl, trivial⟩ ?_
  refine tr_seq ?_
  refine tr_region ?_
  refine tr_p (y_assign rfl) rfl rfl ?_
  refine tr_nil ?_
  refine tr_thenN ?_
  refine tr_seq ?_
  refine tr_region ?_
  refine tr_p (y_move rfl) rfl rfl ?_
  refine tr_p (y_geq rfl rfl) rfl rfl ?_
  refine tr_p (y_move rfl) rfl rfl ?_
  refine tr_split (t := 5) rfl (fun g1 => ?_) (fun g1 => ?_)
  · replace H := H.1 g1
    refine tr_p (y_move rfl) rfl rfl ?_
    refine tr_p (y_leq rfl rfl) rfl rfl ?_
    refine tr_p (y_pick_t rfl rfl) rfl rfl ?_
    refine tr_p (y_assign rfl) rfl rfl ?_
    refine tr_nil ?_
    refine tr_thenN ?_
    refine tr_ret ?_
    exact tr_ret1 rfl rfl ⟨_, rfl, H⟩
  · replace H := H.2 g1
    refine tr_s rfl rfl ?_
    refine tr_s rfl rfl ?_
    refine tr_p (y_pick_f rfl rfl) rfl rfl ?_
    refine tr_p (y_assign rfl) rfl rfl ?_
    refine tr_nil ?_
    refine tr_thenN ?_
    refine tr_ret ?_
    exact tr_ret1 rfl rfl ⟨_, rfl, H⟩

/-- (*spate/epoch.Book).Seal -/
def F.epoch_Book_Seal (p0 : Option Addr) (p1 : Int) (h : H) (Q : Int → Int → H → Prop) : Prop :=
  F.epoch_Book_guard p0 h fun r2 h1 =>
  fnV r2 fun f_1 fi_1 ca_1 =>
  F.epoch_is p1 h1 fun r5 h4 =>
  ((!r5) = true →
  dcall PP f_1 ((fi_1 ++ ([] : List Value).toArray) ++ ca_1) h4 fun h7 =>
  Q 0 1 h7) ∧
  ((!r5) = false →
  nn p0 fun a8 =>
  (0 ≤ (p1 : Int) ∧ p1 < 65) ∧
  ldM h4 (((a8.add 4).add ((p1 : Int).toNat * 2)).add 0) fun y11 =>
  nn p0 fun a13 =>
  ldI .i64 h4 (a13.add 2) fun y15 =>
  RunS PP (Builtin.len_ #[57] 3 #[(.map y11)]) h4 fun u h17 => ∃ s18 : Int, u = (.int .i64 s18) ∧
  cellH h17 (a13.add 2) = some (.int .i64 y15) ∧
  (((s18 == y15)) = true →
  dcall PP f_1 ((fi_1 ++ ([] : List Value).toArray) ++ ca_1) h17 fun h21 =>
  Q 0 34 h21) ∧
  (((s18 == y15)) = false →
  nn p0 fun a22 =>
  ldI .i64 h17 (a22.add 3) fun y24 =>
  (((y24 == 1099511627776)) = true →
  dcall PP f_1 ((fi_1 ++ ([] : List Value).toArray) ++ ca_1) h17 fun h27 =>
  Q 0 2 h27) ∧
  (((y24 == 1099511627776)) = false →
  nn p0 fun a28 =>
  (0 ≤ (p1 : Int) ∧ p1 < 65) ∧
  ldM h17 (((a28.add 4).add ((p1 : Int).toNat * 2)).add 0) fun y31 =>
  nn p0 fun a33 =>
  ldI .i64 h17 (a33.add 3) fun y35 =>
  RunS PP (Instr.mapUpdate 57 (.map y31) (.int .i64 y35) (.agg (⟨⟩ : S_sync_noCopy).cells.toArray)) h17 fun _ h37 =>
  nn p0 fun a38 =>
  ldI .i64 h37 (a38.add 3) fun y40 =>
  nn p0 fun a42 =>
  stH h37 (a42.add 3) [(.int .i64 (IntKind.wrap .i64 (y40 + 1)))] fun h44 =>
  nn p0 fun a45 =>
  ldI .i64 h44 (a45.add 3) fun y47 =>
  dcall PP f_1 ((fi_1 ++ ([] : List Value).toArray) ++ ca_1) h44 fun h49 =>
  Q (IntKind.wrap .i64 (y47 - 1)) 0 h49)))
theorem F.epoch_Book_Seal_ok {p0 : Option Addr} {p1 : Int} {h : H} {Q : Int → Int → H → Prop} (H : F.epoch_Book_Seal p0 p1 h Q) : Fn PP 12 ([(.pointer p0), (.int .i64 p1)] : List Value).toArray h fun r h' => ∃ r0 r1, r = .tuple #[(.int .i64 r0), (.int .i64 r1)] ∧ Q r0 r1 h' := by
  unfold F.epoch_Book_Seal at H
  refine fn_ofM Tryz.func12 Tryz.ntmps12 rfl rfl fun w0 => ?_
  refine tr_sub [(0, (.pointer p0)), (1, (.int .i64 p1))] ⟨rfl, rfl, trivial⟩ ?_
  refine tr_seq ?_
  refine tr_region ?_
  refine tr_p (y_assign rfl) rfl rfl ?_
  refine tr_p (y_assign rfl) rfl rfl ?_
  refine tr_nil ?_
  refine tr_thenN ?_
  refine tr_seq ?_
  refine tr_region ?_
  refine tr_p (y_move rfl) rfl rfl ?_
  refine tr_e (e_call Tryz.call21 rfl (F.epoch_Book_guard_ok H)) rfl rfl ?_
  rintro r2 h1 ⟨_, rfl, H⟩
  obtain ⟨f_1, fi_1, ca_1, e3, H⟩ := H
  subst e3
  refine tr_defer rfl rfl rfl ?_
  refine tr_nil ?_
  refine tr_thenN ?_
  refine tr_seq ?_
  refine tr_block ?_
  refine tr_seq ?_
  refine tr_region ?_
  refine tr_p (y_move rfl) rfl rfl ?_
  refine tr_e (e_call Tryz.call39 rfl (F.epoch_is_ok H)) rfl rfl ?_
  rintro _ h4 ⟨r5, rfl, H⟩
  refine tr_p (y_not rfl) rfl rfl ?_
  refine tr_p (y_assign rfl) rfl rfl ?_
  refine tr_nil ?_
  refine tr_thenN ?_
  refine tr_cond rfl (fun g6 => ?_) (fun g6 => ?_)
  · replace H := H.1 g6
    refine tr_seq ?_
    refine tr_region ?_
    refine tr_p (y_assign rfl) rfl rfl ?_
    refine tr_p (y_assign rfl) rfl rfl ?_
    refine tr_nil ?_
    refine tr_thenN ?_
    refine tr_ret ?_
    refine tr_blockR ?_
    refine tr_thenR ?_
    refine tr_dcall H fun h7 H => ?_
    refine tr_pm0 ?_
    exact tr_ret2 rfl rfl rfl ⟨_, _, rfl, H⟩
  · replace H := H.2 g6
    refine tr_seq ?_
    refine tr_draw mixed [0, 0, 1, 5, 15, 31, 63, 127, 0, 256, 768, 1792, 4095, 8191] (by kernel_rfl) ?_
    refine g_p 0 1 rfl (by kernel_rfl) (y_move rfl) rfl rfl ?_
    refine g_p 1 3 rfl (by kernel_rfl) (y_move rfl) rfl rfl ?_
    obtain ⟨a8, e9, H⟩ := H
    refine g_p 2 7 rfl (by kernel_rfl) (f_nn rfl e9) rfl rfl ?_
    refine g_p 3 15 rfl (by kernel_rfl) (y_fa (off := 4) Tryz.runUnderlying62 fo_62_3 rfl) rfl rfl ?_
    obtain ⟨e10, H⟩ := H
    refine g_p 4 31 rfl (by kernel_rfl) (f_idxArr Tryz.runUnderlying60 Tryz.sizeOf59 rfl rfl e10) rfl rfl ?_
    refine g_p 5 63 rfl (by kernel_rfl) (y_fa (off := 0) Tryz.runUnderlying59 fo_59_0 rfl) rfl rfl ?_
    obtain ⟨y11, k12, H⟩ := H
    refine g_h 6 127 rfl (by kernel_rfl) (y_ld Tryz.isAgg57 rfl) k12 rfl rfl ?_
    refine g_p 8 383 rfl (by kernel_rfl) (y_move rfl) rfl rfl ?_
    obtain ⟨a13, e14, H⟩ := H
    refine g_p 9 895 rfl (by kernel_rfl) (f_nn rfl e14) rfl rfl ?_
    refine g_p 10 1919 rfl (by kernel_rfl) (y_fa (off := 2) Tryz.runUnderlying62 fo_62_1 rfl) rfl rfl ?_
    obtain ⟨y15, k16, H⟩ := H
    refine g_h 11 3967 rfl (by kernel_rfl) (y_ld Tryz.isAgg3 rfl) k16 rfl rfl ?_
    refine g_e 7 4095 [(11, fun h => cellH h (a13.add 2) = some (.int .i64 y15))] (by kernel_rfl) rfl (by kernel_rfl) (f_lenM rfl H) rfl rfl ?_
    rintro _ h17 ⟨s18, rfl, H⟩
    obtain ⟨k19, H⟩ := H
    refine ⟨And.intro k19 trivial, ?_⟩
    refine g_p 12 8191 rfl (by kernel_rfl) (y_eql rfl rfl) rfl rfl ?_
    refine g_p 13 16383 rfl (by kernel_rfl) (y_assign rfl) rfl rfl ?_
    refine g_d (by kernel_rfl) ?_
    refine tr_thenN ?_
    refine tr_cond rfl (fun g20 => ?_) (fun g20 => ?_)
    · replace H := H.1 g20
      refine tr_seq ?_
      refine tr_region ?_
      refine tr_p (y_assign rfl) rfl rfl ?_
      refine tr_p (y_assign rfl) rfl rfl ?_
      refine tr_nil ?_
      refine tr_thenN ?_
      refine tr_ret ?_
      refine tr_blockR ?_
      refine tr_thenR ?_
      refine tr_dcall H fun h21 H => ?_
      refine tr_pm0 ?_
      exact tr_ret2 rfl rfl rfl ⟨_, _, rfl, H⟩
    · replace H := H.2 g20
      refine tr_seq ?_
      refine tr_region ?_
      refine tr_p (y_move rfl) rfl rfl ?_
      obtain ⟨a22, e23, H⟩ := H
      refine tr_p (f_nn rfl e23) rfl rfl ?_
      refine tr_p (y_fa (off := 3) Tryz.runUnderlying62 fo_62_2 rfl) rfl rfl ?_
      obtain ⟨y24, k25, H⟩ := H
      refine tr_h (y_ld Tryz.isAgg3 rfl) k25 rfl rfl ?_
      refine tr_p (y_eql rfl rfl) rfl rfl ?_
      refine tr_p (y_assign rfl) rfl rfl ?_
      refine tr_nil ?_
      refine tr_thenN ?_
      refine tr_cond rfl (fun g26 => ?_) (fun g26 => ?_)
      · replace H := H.1 g26
        refine tr_seq ?_
        refine tr_region ?_
        refine tr_p (y_assign rfl) rfl rfl ?_
        refine tr_p (y_assign rfl) rfl rfl ?_
        refine tr_nil ?_
        refine tr_thenN ?_
        refine tr_ret ?_
        refine tr_blockR ?_
        refine tr_thenR ?_
        refine tr_dcall H fun h27 H => ?_
        refine tr_pm0 ?_
        exact tr_ret2 rfl rfl rfl ⟨_, _, rfl, H⟩
      · replace H := H.2 g26
        refine tr_skip ?_
        refine tr_blockN ?_
        refine tr_thenN ?_
        refine tr_seq ?_
        refine tr_draw mixed [0, 0, 1, 5, 15, 31, 63, 0, 128, 384, 896, 0, 4095] (by kernel_rfl) ?_
        refine g_p 0 1 rfl (by kernel_rfl) (y_move rfl) rfl rfl ?_
        refine g_p 1 3 rfl (by kernel_rfl) (y_move rfl) rfl rfl ?_
        obtain ⟨a28, e29, H⟩ := H
        refine g_p 2 7 rfl (by kernel_rfl) (f_nn rfl e29) rfl rfl ?_
        refine g_p 3 15 rfl (by kernel_rfl) (y_fa (off := 4) Tryz.runUnderlying62 fo_62_3 rfl) rfl rfl ?_
        obtain ⟨e30, H⟩ := H
        refine g_p 4 31 rfl (by kernel_rfl) (f_idxArr Tryz.runUnderlying60 Tryz.sizeOf59 rfl rfl e30) rfl rfl ?_
        refine g_p 5 63 rfl (by kernel_rfl) (y_fa (off := 0) Tryz.runUnderlying59 fo_59_0 rfl) rfl rfl ?_
        obtain ⟨y31, k32, H⟩ := H
        refine g_h 6 127 rfl (by kernel_rfl) (y_ld Tryz.isAgg57 rfl) k32 rfl rfl ?_
        refine g_p 7 255 rfl (by kernel_rfl) (y_move rfl) rfl rfl ?_
        obtain ⟨a33, e34, H⟩ := H
        refine g_p 8 511 rfl (by kernel_rfl) (f_nn rfl e34) rfl rfl ?_
        refine g_p 9 1023 rfl (by kernel_rfl) (y_fa (off := 3) Tryz.runUnderlying62 fo_62_2 rfl) rfl rfl ?_
        obtain ⟨y35, k36, H⟩ := H
        refine g_h 10 2047 rfl (by kernel_rfl) (y_ld Tryz.isAgg3 rfl) k36 rfl rfl ?_
        refine g_p 11 4095 rfl (by kernel_rfl) (f_build rfl (bd_50_ )) rfl rfl ?_
        refine g_e 12 8191 [] (by kernel_rfl) rfl (by kernel_rfl) (f_mu rfl rfl rfl H) rfl rfl ?_
        rintro _ h37 ⟨rfl, H⟩
        refine ⟨trivial, ?_⟩
        refine g_d (by kernel_rfl) ?_
        refine tr_thenN ?_
        refine tr_seq ?_
        refine tr_region ?_
        refine tr_p (y_move rfl) rfl rfl ?_
        obtain ⟨a38, e39, H⟩ := H
        refine tr_p (f_nn rfl e39) rfl rfl ?_
        refine tr_p (y_fa (off := 3) Tryz.runUnderlying62 fo_62_2 rfl) rfl rfl ?_
        obtain ⟨y40, k41, H⟩ := H
        refine tr_h (y_ld Tryz.isAgg3 rfl) k41 rfl rfl ?_
        refine tr_p (y_add rfl rfl) rfl rfl ?_
        obtain ⟨a42, e43, H⟩ := H
        refine tr_p (f_nn rfl e43) rfl rfl ?_
        refine tr_p (y_fa (off := 3) Tryz.runUnderlying62 fo_62_2 rfl) rfl rfl ?_
        refine tr_e (f_store (vs := [(.int .i64 (IntKind.wrap .i64 (y40 + 1)))]) Tryz.sizeOf3 rfl rfl rfl rfl (one1 rfl) H) rfl rfl ?_
        rintro _ h44 ⟨rfl, H⟩
        refine tr_nil ?_
        refine tr_thenN ?_
        refine tr_seq ?_
        refine tr_region ?_
        refine tr_p (y_move rfl) rfl rfl ?_
        obtain ⟨a45, e46, H⟩ := H
        refine tr_p (f_nn rfl e46) rfl rfl ?_
        refine tr_p (y_fa (off := 3) Tryz.runUnderlying62 fo_62_2 rfl) rfl rfl ?_
        obtain ⟨y47, k48, H⟩ := H
        refine tr_h (y_ld Tryz.isAgg3 rfl) k48 rfl rfl ?_
        refine tr_p (y_sub rfl rfl) rfl rfl ?_
        refine tr_p (y_assign rfl) rfl rfl ?_
        refine tr_p (y_assign rfl) rfl rfl ?_
        refine tr_nil ?_
        refine tr_thenN ?_
        refine tr_ret ?_
        refine tr_dcall H fun h49 H => ?_
        refine tr_pm0 ?_
        exact tr_ret2 rfl rfl rfl ⟨_, _, rfl, H⟩

def F.maps_DeleteFunc_map_int_int_int_int.l1 (Q : H → Prop) : Nat → (Option Nat) → Value → Addr → H → Prop
  | 0, _, _, _, _ => False
  | q1 + 1, x0, x1, x7, h =>
    RunS PP (Instr.next (.pointer (some x7)) false 0) h fun u h3 => ∃ (b4 : Bool) (t5 : Array Value), u = (.tuple (#[.bool b4] ++ t5)) ∧
    (b4 = true →
    RunS PP (Instr.entry (.pointer (some x7))) h3 fun u h7 => ∃ (r8 : Int) (r9 : Int), u = (.tuple #[(.int .i64 r8), (.int .i64 r9)]) ∧
    CV PP x1 [(.int .i64 r8), (.int .i64 r9)] h7 fun u h10 => ∃ (r11 : Bool), u = (.bool r11) ∧
    (r11 = true →
    RunS PP (Builtin.delete_ #[49, 3] 0 #[(.map x0), (.int .i64 r8)]) h10 fun u h13 => u = (.tuple #[]) ∧
    (F.maps_DeleteFunc_map_int_int_int_int.l1 Q q1) x0 x1 x7 h13) ∧
    (r11 = false →
    (F.maps_DeleteFunc_map_int_int_int_int.l1 Q q1) x0 x1 x7 h10)) ∧
    (b4 = false →
    Q h3)
/-- maps.DeleteFunc[map[int]int,int,int] -/
def F.maps_DeleteFunc_map_int_int_int_int (p0 : Option Nat) (p1 : Value) (h : H) (Q : H → Prop) : Prop :=
  RunS PP (Instr.range 49 (.map p0)) h fun u h1 => ∃ a2 : Addr, u = (.pointer (some a2)) ∧
  ∃ m, F.maps_DeleteFunc_map_int_int_int_int.l1 Q m p0 p1 a2 h1
theorem F.maps_DeleteFunc_map_int_int_int_int_ok {p0 : Option Nat} {p1 : Value} {h : H} {Q : H → Prop} (H : F.maps_DeleteFunc_map_int_int_int_int p0 p1 h Q) : Fn PP 48 ([(.map p0), p1] : List Value).toArray h fun r h' => r = .tuple #[] ∧ Q  h' := by
  unfold F.maps_DeleteFunc_map_int_int_int_int at H
  refine fn_of Tryz.func48 Tryz.ntmps48 rfl rfl fun w0 => ?_
  refine tr_sub [(0, (.map p0)), (1, p1)] ⟨rfl, rfl, trivial⟩ ?_
  refine tr_seq ?_
  refine tr_region ?_
  refine tr_p (y_move rfl) rfl rfl ?_
  refine tr_e (f_rg rfl H) rfl rfl ?_
  rintro _ h1 ⟨a2, rfl, H⟩
  refine tr_nil ?_
  refine tr_thenN ?_
  refine tr_block ?_
  obtain ⟨m15, H⟩ := H
  refine tr_sub [(0, (.map p0)), (1, p1), (7, (.pointer (some a2)))] ⟨rfl, rfl, rfl, trivial⟩ ?_
  refine tr_loop_j (fun m L' h => ∃ (x0 : Option Nat) (x1 : Value) (x7 : Addr), L' = [(0, (.map x0)), (1, x1), (7, (.pointer (some x7)))] ∧ F.maps_DeleteFunc_map_int_int_int_int.l1 Q m x0 x1 x7 h) ?_ ?_ m15 ⟨_, _, _, rfl, H⟩
  · rintro L' h ⟨_, _, _, _, H⟩; exact H
  · rintro q1 L' h ⟨x0, x1, x7, rfl, H⟩
    unfold F.maps_DeleteFunc_map_int_int_int_int.l1 at H
    refine tr_seq ?_
    refine tr_region ?_
    refine tr_e (f_nx rfl H) rfl rfl ?_
    rintro _ h3 ⟨b4, t5, rfl, H⟩
    refine tr_p (y_ext0 (t := t5) rfl) rfl rfl ?_
    refine tr_nil ?_
    refine tr_thenN ?_
    refine tr_seq ?_
    refine tr_cond rfl (fun g6 => ?_) (fun g6 => ?_)
    · replace H := H.1 g6
      refine tr_skip ?_
      refine tr_thenN ?_
      refine tr_block ?_
      refine tr_seq ?_
      refine tr_region ?_
      refine tr_e (f_en rfl H) rfl rfl ?_
      rintro _ h7 ⟨r8, r9, rfl, H⟩
      refine tr_p (y_ext rfl rfl) rfl rfl ?_
      refine tr_p (y_ext rfl rfl) rfl rfl ?_
      refine tr_p (y_assign rfl) rfl rfl ?_
      refine tr_p (y_assign rfl) rfl rfl ?_
      refine tr_nil ?_
      refine tr_thenN ?_
      refine tr_seq ?_
      refine tr_region ?_
      refine tr_p (y_move rfl) rfl rfl ?_
      refine tr_p (y_move rfl) rfl rfl ?_
      refine tr_p (y_move rfl) rfl rfl ?_
      refine tr_e (e_callD rfl rfl H) rfl rfl ?_
      rintro _ h10 ⟨r11, rfl, H⟩
      refine tr_nil ?_
      refine tr_thenN ?_
      refine tr_cond rfl (fun g12 => ?_) (fun g12 => ?_)
      · replace H := H.1 g12
        refine tr_region ?_
        refine tr_p (y_move rfl) rfl rfl ?_
        refine tr_p (y_move rfl) rfl rfl ?_
        refine tr_e (f_del rfl H) rfl rfl ?_
        rintro _ h13 ⟨rfl, H⟩
        refine tr_nil ?_
        refine tr_blockN ?_
        refine tr_thenN ?_
        exact tr_join [(0, (.map x0)), (1, x1), (7, (.pointer (some x7)))] ⟨rfl, rfl, rfl, trivial⟩ ⟨_, _, _, rfl, H⟩
      · replace H := H.2 g12
        refine tr_skip ?_
        refine tr_blockN ?_
        refine tr_thenN ?_
        exact tr_join [(0, (.map x0)), (1, x1), (7, (.pointer (some x7)))] ⟨rfl, rfl, rfl, trivial⟩ ⟨_, _, _, rfl, H⟩
    · replace H := H.2 g6
      refine tr_exit ?_
      refine tr_thenE ?_
      refine tr_thenE ?_
      refine tr_hit ?_
      exact tr_end0 rfl ⟨rfl, H⟩

/-- (*spate/epoch.Book).End$1 -/
def F.epoch_Book_End_1 (p0 : Int) (p1 : Int) (h : H) (Q : Bool → H → Prop) : Prop :=
  Q ((p1 == 1)) h
theorem F.epoch_Book_End_1_ok {p0 : Int} {p1 : Int} {h : H} {Q : Bool → H → Prop} (H : F.epoch_Book_End_1 p0 p1 h Q) : Fn PP 49 ([(.int .i64 p0), (.int .i64 p1)] : List Value).toArray h fun r h' => ∃ r0, r = (.bool r0) ∧ Q r0 h' := by
  unfold F.epoch_Book_End_1 at H
  refine fn_of Tryz.func49 Tryz.ntmps49 rfl rfl fun w0 => ?_
  refine tr_sub [(0, (.int .i64 p0)), (1, (.int .i64 p1))] ⟨rfl, rfl, trivial⟩ ?_
  refine tr_seq ?_
  refine tr_region ?_
  refine tr_p (y_assign rfl) rfl rfl ?_
  refine tr_nil ?_
  refine tr_thenN ?_
  refine tr_seq ?_
  refine tr_region ?_
  refine tr_p (y_move rfl) rfl rfl ?_
  refine tr_p (y_eql rfl rfl) rfl rfl ?_
  refine tr_p (y_assign rfl) rfl rfl ?_
  refine tr_nil ?_
  refine tr_thenN ?_
  refine tr_ret ?_
  exact tr_ret1 rfl rfl ⟨_, rfl, H⟩

/-- (*spate/epoch.Book).End -/
def F.epoch_Book_End (p0 : Option Addr) (h : H) (Q : Int → Int → H → Prop) : Prop :=
  F.epoch_Book_guard p0 h fun r2 h1 =>
  fnV r2 fun f_1 fi_1 ca_1 =>
  nn p0 fun a4 =>
  ldB h1 (a4.add 135) fun y6 =>
  ((!y6) = true →
  dcall PP f_1 ((fi_1 ++ ([] : List Value).toArray) ++ ca_1) h1 fun h9 =>
  Q 0 44 h9) ∧
  ((!y6) = false →
  nn p0 fun a10 =>
  stH h1 (a10.add 135) [(.bool false)] fun h12 =>
  nn p0 fun a13 =>
  ldM h12 (a13.add 134) fun y15 =>
  RunS PP (Builtin.len_ #[49] 3 #[(.map y15)]) h12 fun u h17 => ∃ s18 : Int, u = (.int .i64 s18) ∧
  nn p0 fun a19 =>
  ldM h17 (a19.add 134) fun y21 =>
  F.maps_DeleteFunc_map_int_int_int_int y21 (.func (.func 49) #[] #[]) h17 fun h23 =>
  nn p0 fun a24 =>
  ldM h23 (a24.add 134) fun y26 =>
  RunS PP (Builtin.len_ #[49] 3 #[(.map y26)]) h23 fun u h28 => ∃ s29 : Int, u = (.int .i64 s29) ∧
  dcall PP f_1 ((fi_1 ++ ([] : List Value).toArray) ++ ca_1) h28 fun h30 =>
  Q (IntKind.wrap .i64 (s18 - s29)) 0 h30)
theorem F.epoch_Book_End_ok {p0 : Option Addr} {h : H} {Q : Int → Int → H → Prop} (H : F.epoch_Book_End p0 h Q) : Fn PP 19 ([(.pointer p0)] : List Value).toArray h fun r h' => ∃ r0 r1, r = .tuple #[(.int .i64 r0), (.int .i64 r1)] ∧ Q r0 r1 h' := by
  unfold F.epoch_Book_End at H
  refine fn_ofM Tryz.func19 Tryz.ntmps19 rfl rfl fun w0 => ?_
  refine tr_sub [(0, (.pointer p0))] ⟨rfl, trivial⟩ ?_
  refine tr_seq ?_
  refine tr_region ?_
  refine tr_p (y_assign rfl) rfl rfl ?_
  refine tr_p (y_assign rfl) rfl rfl ?_
  refine tr_nil ?_
  refine tr_thenN ?_
  refine tr_seq ?_
  refine tr_region ?_
  refine tr_p (y_move rfl) rfl rfl ?_
  refine tr_e (e_call Tryz.call21 rfl (F.epoch_Book_guard_ok H)) rfl rfl ?_
  rintro r2 h1 ⟨_, rfl, H⟩
  obtain ⟨f_1, fi_1, ca_1, e3, H⟩ := H
  subst e3
  refine tr_defer rfl rfl rfl ?_
  refine tr_nil ?_
  refine tr_thenN ?_
  refine tr_seq ?_
  refine tr_seq ?_
  refine tr_region ?_
  refine tr_p (y_move rfl) rfl rfl ?_
  obtain ⟨a4, e5, H⟩ := H
  refine tr_p (f_nn rfl e5) rfl rfl ?_
  refine tr_p (y_fa (off := 135) Tryz.runUnderlying62 fo_62_5 rfl) rfl rfl ?_
  obtain ⟨y6, k7, H⟩ := H
  refine tr_h (y_ld Tryz.isAgg4 rfl) k7 rfl rfl ?_
  refine tr_p (y_not rfl) rfl rfl ?_
  refine tr_nil ?_
  refine tr_thenN ?_
  refine tr_cond rfl (fun g8 => ?_) (fun g8 => ?_)
  · replace H := H.1 g8
    refine tr_seq ?_
    refine tr_region ?_
    refine tr_p (y_assign rfl) rfl rfl ?_
    refine tr_p (y_assign rfl) rfl rfl ?_
    refine tr_nil ?_
    refine tr_thenN ?_
    refine tr_ret ?_
    refine tr_thenR ?_
    refine tr_dcall H fun h9 H => ?_
    refine tr_pm0 ?_
    exact tr_ret2 rfl rfl rfl ⟨_, _, rfl, H⟩
  · replace H := H.2 g8
    refine tr_skip ?_
    refine tr_thenN ?_
    refine tr_seq ?_
    refine tr_region ?_
    refine tr_p (y_move rfl) rfl rfl ?_
    obtain ⟨a10, e11, H⟩ := H
    refine tr_p (f_nn rfl e11) rfl rfl ?_
    refine tr_p (y_fa (off := 135) Tryz.runUnderlying62 fo_62_5 rfl) rfl rfl ?_
    refine tr_e (f_store (vs := [(.bool false)]) Tryz.sizeOf4 rfl rfl rfl rfl (one1 rfl) H) rfl rfl ?_
    rintro _ h12 ⟨rfl, H⟩
    refine tr_nil ?_
    refine tr_thenN ?_
    refine tr_seq ?_
    refine tr_region ?_
    refine tr_p (y_move rfl) rfl rfl ?_
    obtain ⟨a13, e14, H⟩ := H
    refine tr_p (f_nn rfl e14) rfl rfl ?_
    refine tr_p (y_fa (off := 134) Tryz.runUnderlying62 fo_62_4 rfl) rfl rfl ?_
    obtain ⟨y15, k16, H⟩ := H
    refine tr_h (y_ld Tryz.isAgg49 rfl) k16 rfl rfl ?_
    refine tr_e (f_lenM rfl H) rfl rfl ?_
    rintro _ h17 ⟨s18, rfl, H⟩
    refine tr_p (y_assign rfl) rfl rfl ?_
    refine tr_nil ?_
    refine tr_thenN ?_
    refine tr_seq ?_
    refine tr_region ?_
    refine tr_p (y_move rfl) rfl rfl ?_
    obtain ⟨a19, e20, H⟩ := H
    refine tr_p (f_nn rfl e20) rfl rfl ?_
    refine tr_p (y_fa (off := 134) Tryz.runUnderlying62 fo_62_4 rfl) rfl rfl ?_
    obtain ⟨y21, k22, H⟩ := H
    refine tr_h (y_ld Tryz.isAgg49 rfl) k22 rfl rfl ?_
    refine tr_e (e_call Tryz.call48 rfl (F.maps_DeleteFunc_map_int_int_int_int_ok H)) rfl rfl ?_
    rintro _ h23 ⟨rfl, H⟩
    refine tr_nil ?_
    refine tr_thenN ?_
    refine tr_seq ?_
    refine tr_region ?_
    refine tr_p (y_move rfl) rfl rfl ?_
    refine tr_p (y_move rfl) rfl rfl ?_
    obtain ⟨a24, e25, H⟩ := H
    refine tr_p (f_nn rfl e25) rfl rfl ?_
    refine tr_p (y_fa (off := 134) Tryz.runUnderlying62 fo_62_4 rfl) rfl rfl ?_
    obtain ⟨y26, k27, H⟩ := H
    refine tr_h (y_ld Tryz.isAgg49 rfl) k27 rfl rfl ?_
    refine tr_e (f_lenM rfl H) rfl rfl ?_
    rintro _ h28 ⟨s29, rfl, H⟩
    refine tr_p (y_sub rfl rfl) rfl rfl ?_
    refine tr_p (y_assign rfl) rfl rfl ?_
    refine tr_p (y_assign rfl) rfl rfl ?_
    refine tr_nil ?_
    refine tr_thenN ?_
    refine tr_ret ?_
    refine tr_dcall H fun h30 H => ?_
    refine tr_pm0 ?_
    exact tr_ret2 rfl rfl rfl ⟨_, _, rfl, H⟩

def F.maps_Copy_map_int_struct_map_int_struct_int_struct.l1 (Q : H → Prop) : Nat → (Option Nat) → Addr → H → Prop
  | 0, _, _, _ => False
  | q1 + 1, x0, x7, h =>
    RunS PP (Instr.next (.pointer (some x7)) false 0) h fun u h3 => ∃ (b4 : Bool) (t5 : Array Value), u = (.tuple (#[.bool b4] ++ t5)) ∧
    (b4 = true →
    RunS PP (Instr.entry (.pointer (some x7))) h3 fun u h7 => ∃ (r8 : Int) (r9 : S_sync_noCopy), u = (.tuple #[(.int .i64 r8), (.agg r9.cells.toArray)]) ∧
    new h7 (((⟨⟩ : S_sync_noCopy) : S_sync_noCopy).cells.toArray) ty_50 fun a11 h10 =>
    stH h10 a11 r9.cells fun h12 =>
    ld_S_sync_noCopy h12 a11 fun y13 =>
    RunS PP (Instr.mapUpdate 57 (.map x0) (.int .i64 r8) (.agg y13.cells.toArray)) h12 fun _ h15 =>
    (F.maps_Copy_map_int_struct_map_int_struct_int_struct.l1 Q q1) x0 x7 h15) ∧
    (b4 = false →
    Q h3)
/-- maps.Copy[map[int]struct{},map[int]struct{},int,struct{}] -/
def F.maps_Copy_map_int_struct_map_int_struct_int_struct (p0 : Option Nat) (p1 : Option Nat) (h : H) (Q : H → Prop) : Prop :=
  RunS PP (Instr.range 57 (.map p1)) h fun u h1 => ∃ a2 : Addr, u = (.pointer (some a2)) ∧
  ∃ m, F.maps_Copy_map_int_struct_map_int_struct_int_struct.l1 Q m p0 a2 h1
theorem F.maps_Copy_map_int_struct_map_int_struct_int_struct_ok {p0 : Option Nat} {p1 : Option Nat} {h : H} {Q : H → Prop} (H : F.maps_Copy_map_int_struct_map_int_struct_int_struct p0 p1 h Q) : Fn PP 61 ([(.map p0), (.map p1)] : List Value).toArray h fun r h' => r = .tuple #[] ∧ Q  h' := by
  unfold F.maps_Copy_map_int_struct_map_int_struct_int_struct at H
  refine fn_of Tryz.func61 Tryz.ntmps61 rfl rfl fun w0 => ?_
  refine tr_sub [(0, (.map p0)), (1, (.map p1))] ⟨rfl, rfl, trivial⟩ ?_
  refine tr_seq ?_
  refine tr_region ?_
  refine tr_p (y_move rfl) rfl rfl ?_
  refine tr_e (f_rg rfl H) rfl rfl ?_
  rintro _ h1 ⟨a2, rfl, H⟩
  refine tr_nil ?_
  refine tr_thenN ?_
  refine tr_block ?_
  obtain ⟨m16, H⟩ := H
  refine tr_sub [(0, (.map p0)), (7, (.pointer (some a2)))] ⟨rfl, rfl, trivial⟩ ?_
  refine tr_loop_j (fun m L' h => ∃ (x0 : Option Nat) (x7 : Addr), L' = [(0, (.map x0)), (7, (.pointer (some x7)))] ∧ F.maps_Copy_map_int_struct_map_int_struct_int_struct.l1 Q m x0 x7 h) ?_ ?_ m16 ⟨_, _, rfl, H⟩
  · rintro L' h ⟨_, _, _, H⟩; exact H
  · rintro q1 L' h ⟨x0, x7, rfl, H⟩
    unfold F.maps_Copy_map_int_struct_map_int_struct_int_struct.l1 at H
    refine tr_seq ?_
    refine tr_region ?_
    refine tr_e (f_nx rfl H) rfl rfl ?_
    rintro _ h3 ⟨b4, t5, rfl, H⟩
    refine tr_p (y_ext0 (t := t5) rfl) rfl rfl ?_
    refine tr_nil ?_
    refine tr_thenN ?_
    refine tr_seq ?_
    refine tr_cond rfl (fun g6 => ?_) (fun g6 => ?_)
    · replace H := H.1 g6
      refine tr_skip ?_
      refine tr_thenN ?_
      refine tr_block ?_
      refine tr_seq ?_
      refine tr_region ?_
      refine tr_e (f_en rfl H) rfl rfl ?_
      rintro _ h7 ⟨r8, r9, rfl, H⟩
      refine tr_p (y_ext rfl rfl) rfl rfl ?_
      refine tr_p (y_ext rfl rfl) rfl rfl ?_
      refine tr_e (f_alloc (cs := ((⟨⟩ : S_sync_noCopy) : S_sync_noCopy).cells.toArray) Tryz.zeroValue50 rfl H) rfl rfl ?_
      rintro _ h10 ⟨a11, rfl, H⟩
      refine tr_p (y_assign rfl) rfl rfl ?_
      refine tr_e (f_store (vs := r9.cells) Tryz.sizeOf50 rfl rfl cellsOfStruct rfl (by intro v hv; exact ones_S_sync_noCopy _ v hv) H) rfl rfl ?_
      rintro _ h12 ⟨rfl, H⟩
      refine tr_nil ?_
      refine tr_thenN ?_
      refine tr_region ?_
      refine tr_p (y_move rfl) rfl rfl ?_
      refine tr_p (y_move rfl) rfl rfl ?_
      obtain ⟨y13, k14, H⟩ := H
      refine tr_h (y_ldS Tryz.isAgg50 Tryz.sizeOf50 rfl rfl) k14 rfl rfl ?_
      refine tr_e (f_mu rfl rfl rfl H) rfl rfl ?_
      rintro _ h15 ⟨rfl, H⟩
      refine tr_nil ?_
      refine tr_blockN ?_
      refine tr_thenN ?_
      exact tr_join [(0, (.map x0)), (7, (.pointer (some x7)))] ⟨rfl, rfl, trivial⟩ ⟨_, _, rfl, H⟩
    · replace H := H.2 g6
      refine tr_exit ?_
      refine tr_thenE ?_
      refine tr_thenE ?_
      refine tr_hit ?_
      exact tr_end0 rfl ⟨rfl, H⟩

def F.maps_Keys_map_int_struct_int_struct_1.l1 (Q : H → Prop) : Nat → Value → Addr → H → Prop
  | 0, _, _, _ => False
  | q1 + 1, x0, x5, h =>
    RunS PP (Instr.next (.pointer (some x5)) false 0) h fun u h5 => ∃ (b6 : Bool) (t7 : Array Value), u = (.tuple (#[.bool b6] ++ t7)) ∧
    (b6 = true →
    RunS PP (Instr.entry (.pointer (some x5))) h5 fun u h9 => ∃ (r10 : Int) (r11 : S_sync_noCopy), u = (.tuple #[(.int .i64 r10), (.agg r11.cells.toArray)]) ∧
    CV PP x0 [(.int .i64 r10)] h9 fun u h12 => ∃ (r13 : Bool), u = (.bool r13) ∧
    ((!r13) = true →
    Q h12) ∧
    ((!r13) = false →
    (F.maps_Keys_map_int_struct_int_struct_1.l1 Q q1) x0 x5 h12)) ∧
    (b6 = false →
    Q h5)
/-- maps.Keys[map[int]struct{},int,struct{}]$1 -/
def F.maps_Keys_map_int_struct_int_struct_1 (p0 : Value) (p1 : Addr) (h : H) (Q : H → Prop) : Prop :=
  ldM h p1 fun y1 =>
  RunS PP (Instr.range 57 (.map y1)) h fun u h3 => ∃ a4 : Addr, u = (.pointer (some a4)) ∧
  ∃ m, F.maps_Keys_map_int_struct_int_struct_1.l1 Q m p0 a4 h3
theorem F.maps_Keys_map_int_struct_int_struct_1_ok {p0 : Value} {p1 : Addr} {h : H} {Q : H → Prop} (H : F.maps_Keys_map_int_struct_int_struct_1 p0 p1 h Q) : Fn PP 67 ([p0, (.pointer (some p1))] : List Value).toArray h fun r h' => r = .tuple #[] ∧ Q  h' := by
  unfold F.maps_Keys_map_int_struct_int_struct_1 at H
  refine fn_of Tryz.func67 Tryz.ntmps67 rfl rfl fun w0 => ?_
  refine tr_sub [(0, p0), (1, (.pointer (some p1)))] ⟨rfl, rfl, trivial⟩ ?_
  refine tr_seq ?_
  refine tr_region ?_
  obtain ⟨y1, k2, H⟩ := H
  refine tr_h (y_ld Tryz.isAgg57 rfl) k2 rfl rfl ?_
  refine tr_e (f_rg rfl H) rfl rfl ?_
  rintro _ h3 ⟨a4, rfl, H⟩
  refine tr_nil ?_
  refine tr_thenN ?_
  refine tr_block ?_
  obtain ⟨m15, H⟩ := H
  refine tr_sub [(0, p0), (5, (.pointer (some a4)))] ⟨rfl, rfl, trivial⟩ ?_
  refine tr_loop_j (fun m L' h => ∃ (x0 : Value) (x5 : Addr), L' = [(0, x0), (5, (.pointer (some x5)))] ∧ F.maps_Keys_map_int_struct_int_struct_1.l1 Q m x0 x5 h) ?_ ?_ m15 ⟨_, _, rfl, H⟩
  · rintro L' h ⟨_, _, _, H⟩; exact H
  · rintro q1 L' h ⟨x0, x5, rfl, H⟩
    unfold F.maps_Keys_map_int_struct_int_struct_1.l1 at H
    refine tr_seq ?_
    refine tr_region ?_
    refine tr_e (f_nx rfl H) rfl rfl ?_
    rintro _ h5 ⟨b6, t7, rfl, H⟩
    refine tr_p (y_ext0 (t := t7) rfl) rfl rfl ?_
    refine tr_nil ?_
    refine tr_thenN ?_
    refine tr_seq ?_
    refine tr_cond rfl (fun g8 => ?_) (fun g8 => ?_)
    · replace H := H.1 g8
      refine tr_skip ?_
      refine tr_thenN ?_
      refine tr_block ?_
      refine tr_seq ?_
      refine tr_region ?_
      refine tr_e (f_en rfl H) rfl rfl ?_
      rintro _ h9 ⟨r10, r11, rfl, H⟩
      refine tr_p (y_ext rfl rfl) rfl rfl ?_
      refine tr_p (y_assign rfl) rfl rfl ?_
      refine tr_nil ?_
      refine tr_thenN ?_
      refine tr_seq ?_
      refine tr_region ?_
      refine tr_p (y_move rfl) rfl rfl ?_
      refine tr_p (y_move rfl) rfl rfl ?_
      refine tr_e (e_callD rfl rfl H) rfl rfl ?_
      rintro _ h12 ⟨r13, rfl, H⟩
      refine tr_p (y_not rfl) rfl rfl ?_
      refine tr_nil ?_
      refine tr_thenN ?_
      refine tr_cond rfl (fun g14 => ?_) (fun g14 => ?_)
      · replace H := H.1 g14
        refine tr_ret ?_
        refine tr_blockR ?_
        refine tr_thenR ?_
        refine tr_blockR ?_
        exact tr_ret0 rfl ⟨rfl, H⟩
      · replace H := H.2 g14
        refine tr_skip ?_
        refine tr_blockN ?_
        refine tr_thenN ?_
        exact tr_join [(0, x0), (5, (.pointer (some x5)))] ⟨rfl, rfl, trivial⟩ ⟨_, _, rfl, H⟩
    · replace H := H.2 g8
      refine tr_exit ?_
      refine tr_thenE ?_
      refine tr_thenE ?_
      refine tr_hit ?_
      exact tr_end0 rfl ⟨rfl, H⟩

/-- maps.Keys[map[int]struct{},int,struct{}] -/
def F.maps_Keys_map_int_struct_int_struct (p0 : Option Nat) (h : H) (Q : Value → H → Prop) : Prop :=
  new h #[(.map p0)] ty_57 fun a2 h1 =>
  Q (.func (.func 67) #[] #[(.pointer (some a2))]) h1
theorem F.maps_Keys_map_int_struct_int_struct_ok {p0 : Option Nat} {h : H} {Q : Value → H → Prop} (H : F.maps_Keys_map_int_struct_int_struct p0 h Q) : Fn PP 57 ([(.map p0)] : List Value).toArray h fun r h' => ∃ r0, r = r0 ∧ Q r0 h' := by
  unfold F.maps_Keys_map_int_struct_int_struct at H
  refine fn_of Tryz.func57 Tryz.ntmps57 rfl rfl fun w0 => ?_
  refine tr_sub [(0, (.map p0))] ⟨rfl, trivial⟩ ?_
  refine tr_seq ?_
  refine tr_region ?_
  refine tr_e (f_box (cs := #[(.map p0)]) rfl rfl H) rfl rfl ?_
  rintro _ h1 ⟨a2, rfl, H⟩
  refine tr_p (y_assign rfl) rfl rfl ?_
  refine tr_nil ?_
  refine tr_thenN ?_
  refine tr_seq ?_
  refine tr_region ?_
  refine tr_p (y_fn rfl rfl) rfl rfl ?_
  refine tr_p (y_assign rfl) rfl rfl ?_
  refine tr_nil ?_
  refine tr_thenN ?_
  refine tr_ret ?_
  exact tr_ret1 rfl rfl ⟨_, rfl, H⟩

/-- slices.AppendSeq[[]int,int] -/
def F.slices_AppendSeq_Slint_int (p0 : Sl) (p1 : Value) (h : H) (Q : Sl → H → Prop) : Prop :=
  new h #[p0.enc] ty_38 fun a2 h1 =>
  rng PP p1 h1 [] (fun bg1 l1 args h K1 J1 => ∃ (y1_7 : Int), args = [(.int .i64 y1_7)] ∧
    bg1 h fun h3 =>
    ldL h3 a2 fun y4 =>
    newL h3 #[(.int .i64 y1_7)] ty_3 1 fun s7 h6 =>
    runL PP (Builtin.append_ #[38, 38] 38 #[y4.enc, s7.enc]) h6 fun s9 h8 =>
    stH h8 a2 [s9.enc] fun h10 =>
    K1 h10) (fun h11 =>
    ldL h11 a2 fun y12 =>
    shuts (h1.size :: ([] : List Nat)) h11 fun h14 =>
    Q y12 h14) (fun jj h15 =>
    True)
theorem F.slices_AppendSeq_Slint_int_ok {p0 : Sl} {p1 : Value} {h : H} {Q : Sl → H → Prop} (H : F.slices_AppendSeq_Slint_int p0 p1 h Q) : Fn PP 66 ([p0.enc, p1] : List Value).toArray h fun r h' => ∃ r0, r = r0.enc ∧ Q r0 h' := by
  unfold F.slices_AppendSeq_Slint_int at H
  refine fn_ofM Tryz.func66 Tryz.ntmps66 rfl rfl fun w0 => ?_
  refine tr_sub [(0, p0.enc), (1, p1)] ⟨rfl, rfl, trivial⟩ ?_
  refine tr_seq ?_
  refine tr_region ?_
  refine tr_e (f_box (cs := #[p0.enc]) rfl rfl H) rfl rfl ?_
  rintro _ h1 ⟨a2, rfl, H⟩
  refine tr_p (y_assign rfl) rfl rfl ?_
  refine tr_nil ?_
  refine tr_thenN ?_
  refine tr_seq ?_
  refine tr_seq ?_
  refine tr_region ?_
  refine tr_p (y_move rfl) rfl rfl ?_
  refine tr_nil ?_
  refine tr_thenN ?_
  refine tr_block ?_
  refine tr_range rfl (by kernel_rfl) H ?_ ?_ ?_
  · intro bg1 l1 args h K1 J1 w1 hbg1 H
    obtain ⟨y1_7, rfl, H⟩ := H
    refine ⟨rfl, ?_⟩
    refine tr_sub [(0, p0.enc), (1, p1), (2, (.pointer (some a2))), (4, (⟨none, 0, 0⟩ : Sl).enc), (6, p1), (7, (.int .i64 y1_7))] ⟨rfl, rfl, rfl, rfl, rfl, rfl, trivial⟩ ?_
    refine tr_region ?_
    refine tr_p (y_assign rfl) rfl rfl ?_
    refine tr_nil ?_
    refine tr_thenN ?_
    refine tr_bgn hbg1 H fun h3 H => ?_
    refine tr_block ?_
    refine tr_region ?_
    obtain ⟨y4, k5, H⟩ := H
    refine tr_h (y_ld Tryz.isAgg38 rfl) k5 rfl rfl ?_
    refine tr_p (y_move rfl) rfl rfl ?_
    refine tr_e (f_buildL (cs := #[(.int .i64 y1_7)]) rfl rfl (bl_38_1_0 y1_7) H) rfl rfl ?_
    rintro _ h6 ⟨s7, rfl, H⟩
    refine tr_e (f_app rfl H) rfl rfl ?_
    rintro _ h8 ⟨s9, rfl, H⟩
    refine tr_e (f_store (vs := [s9.enc]) Tryz.sizeOf38 rfl rfl rfl rfl (one1 rfl) H) rfl rfl ?_
    rintro _ h10 ⟨rfl, H⟩
    refine tr_nil ?_
    refine tr_blockN ?_
    exact tr_rN H
  · intro h11 H
    refine tr_blockN ?_
    refine tr_thenN ?_
    refine tr_seq ?_
    refine tr_region ?_
    obtain ⟨y12, k13, H⟩ := H
    refine tr_h (y_ld Tryz.isAgg38 rfl) k13 rfl rfl ?_
    refine tr_p (y_assign rfl) rfl rfl ?_
    refine tr_nil ?_
    refine tr_thenN ?_
    refine tr_ret ?_
    refine tr_shut (h1.size :: ([] : List Nat)) rfl H fun h14 H => ?_
    exact tr_ret1 rfl rfl ⟨_, rfl, H⟩
  · intro jj c h15 hjc H
    simp at hjc

/-- slices.Collect[int] -/
def F.slices_Collect_int (p0 : Value) (h : H) (Q : Sl → H → Prop) : Prop :=
  F.slices_AppendSeq_Slint_int (⟨none, 0, 0⟩ : Sl) p0 h fun r2 h1 =>
  Q r2 h1
theorem F.slices_Collect_int_ok {p0 : Value} {h : H} {Q : Sl → H → Prop} (H : F.slices_Collect_int p0 h Q) : Fn PP 56 ([p0] : List Value).toArray h fun r h' => ∃ r0, r = r0.enc ∧ Q r0 h' := by
  unfold F.slices_Collect_int at H
  refine fn_of Tryz.func56 Tryz.ntmps56 rfl rfl fun w0 => ?_
  refine tr_sub [(0, p0)] ⟨rfl, trivial⟩ ?_
  refine tr_seq ?_
  refine tr_region ?_
  refine tr_p (y_assign rfl) rfl rfl ?_
  refine tr_nil ?_
  refine tr_thenN ?_
  refine tr_seq ?_
  refine tr_region ?_
  refine tr_p (y_move rfl) rfl rfl ?_
  refine tr_e (e_call Tryz.call66 rfl (F.slices_AppendSeq_Slint_int_ok H)) rfl rfl ?_
  rintro _ h1 ⟨r2, rfl, H⟩
  refine tr_p (y_assign rfl) rfl rfl ?_
  refine tr_nil ?_
  refine tr_thenN ?_
  refine tr_ret ?_
  exact tr_ret1 rfl rfl ⟨_, rfl, H⟩

/-- slices.Sorted[int] -/
def F.slices_Sorted_int (p0 : Value) (h : H) (Q : Sl → H → Prop) : Prop :=
  F.slices_Collect_int p0 h fun r2 h1 =>
  Fn PP 62 [r2.enc].toArray h1 fun u h3 => u = (.tuple #[]) ∧
  Q r2 h3
theorem F.slices_Sorted_int_ok {p0 : Value} {h : H} {Q : Sl → H → Prop} (H : F.slices_Sorted_int p0 h Q) : Fn PP 46 ([p0] : List Value).toArray h fun r h' => ∃ r0, r = r0.enc ∧ Q r0 h' := by
  unfold F.slices_Sorted_int at H
  refine fn_of Tryz.func46 Tryz.ntmps46 rfl rfl fun w0 => ?_
  refine tr_sub [(0, p0)] ⟨rfl, trivial⟩ ?_
  refine tr_seq ?_
  refine tr_region ?_
  refine tr_p (y_assign rfl) rfl rfl ?_
  refine tr_nil ?_
  refine tr_thenN ?_
  refine tr_seq ?_
  refine tr_region ?_
  refine tr_p (y_move rfl) rfl rfl ?_
  refine tr_e (e_call Tryz.call56 rfl (F.slices_Collect_int_ok H)) rfl rfl ?_
  rintro _ h1 ⟨r2, rfl, H⟩
  refine tr_p (y_assign rfl) rfl rfl ?_
  refine tr_nil ?_
  refine tr_thenN ?_
  refine tr_seq ?_
  refine tr_region ?_
  refine tr_p (y_move rfl) rfl rfl ?_
  refine tr_e (e_call Tryz.call62 rfl H) rfl rfl ?_
  rintro _ h3 ⟨rfl, H⟩
  refine tr_nil ?_
  refine tr_thenN ?_
  refine tr_seq ?_
  refine tr_region ?_
  refine tr_p (y_move rfl) rfl rfl ?_
  refine tr_p (y_assign rfl) rfl rfl ?_
  refine tr_nil ?_
  refine tr_thenN ?_
  refine tr_ret ?_
  exact tr_ret1 rfl rfl ⟨_, rfl, H⟩

def F.epoch_Book_all.l1 (Q : Sl → H → Prop) : Nat → (Option Nat) → (List S_epoch_owner) → Int → H → Prop
  | 0, _, _, _, _ => False
  | q1 + 1, x3, x10, x11, h =>
    ((decide (x11 < 65)) = true →
    idxV x10 65 x11 fun z10 =>
    new h (((⟨none, 0⟩ : S_epoch_owner) : S_epoch_owner).cells.toArray) ty_59 fun a13 h12 =>
    stH h12 a13 z10.cells fun h14 =>
    ldM h14 (a13.add 0) fun y15 =>
    F.maps_Copy_map_int_struct_map_int_struct_int_struct x3 y15 h14 fun h17 =>
    ldI .i64 h17 (a13.add 1) fun y18 =>
    (((y18 != 0)) = true →
    ldI .i64 h17 (a13.add 1) fun y21 =>
    RunS PP (Instr.mapUpdate 57 (.map x3) (.int .i64 y21) (.agg (⟨⟩ : S_sync_noCopy).cells.toArray)) h17 fun _ h23 =>
    (F.epoch_Book_all.l1 Q q1) x3 x10 (IntKind.wrap .i64 (x11 + 1)) h23) ∧
    (((y18 != 0)) = false →
    (F.epoch_Book_all.l1 Q q1) x3 x10 (IntKind.wrap .i64 (x11 + 1)) h17)) ∧
    ((decide (x11 < 65)) = false →
    F.maps_Keys_map_int_struct_int_struct x3 h fun r25 h24 =>
    F.slices_Sorted_int r25 h24 fun r27 h26 =>
    Q r27 h26)
/-- (*spate/epoch.Book).all -/
def F.epoch_Book_all (p0 : Option Addr) (h : H) (Q : Sl → H → Prop) : Prop :=
  RunS PP (Instr.makeMap 57 none) h fun u h1 => ∃ m2 : Option Nat, u = (.map m2) ∧
  nn p0 fun a3 =>
  ldA S_epoch_owner.cells 65 130 h1 (a3.add 4) fun y5 =>
  ∃ m, F.epoch_Book_all.l1 Q m m2 y5 0 h1
theorem F.epoch_Book_all_ok {p0 : Option Addr} {h : H} {Q : Sl → H → Prop} (H : F.epoch_Book_all p0 h Q) : Fn PP 45 ([(.pointer p0)] : List Value).toArray h fun r h' => ∃ r0, r = r0.enc ∧ Q r0 h' := by
  unfold F.epoch_Book_all at H
  refine fn_of Tryz.func45 Tryz.ntmps45 rfl rfl fun w0 => ?_
  refine tr_sub [(0, (.pointer p0))] ⟨rfl, trivial⟩ ?_
  refine tr_seq ?_
  refine tr_region ?_
  refine tr_p (y_assign rfl) rfl rfl ?_
  refine tr_nil ?_
  refine tr_thenN ?_
  refine tr_seq ?_
  refine tr_region ?_
  refine tr_e (f_mkN H) rfl rfl ?_
  rintro _ h1 ⟨m2, rfl, H⟩
  refine tr_p (y_assign rfl) rfl rfl ?_
  refine tr_nil ?_
  refine tr_thenN ?_
  refine tr_seq ?_
  refine tr_seq ?_
  refine tr_region ?_
  refine tr_p (y_move rfl) rfl rfl ?_
  obtain ⟨a3, e4, H⟩ := H
  refine tr_p (f_nn rfl e4) rfl rfl ?_
  refine tr_p (y_fa (off := 4) Tryz.runUnderlying62 fo_62_3 rfl) rfl rfl ?_
  obtain ⟨y5, e7, e8, k6, H⟩ := H
  refine tr_h (y_ldS Tryz.isAgg60 Tryz.sizeOf60 e7 rfl) k6 rfl rfl ?_
  refine tr_p (y_move rfl) rfl rfl ?_
  refine tr_nil ?_
  refine tr_thenN ?_
  refine tr_block ?_
  obtain ⟨m28, H⟩ := H
  refine tr_sub [(3, (.map m2)), (10, (.agg (y5.flatMap S_epoch_owner.cells).toArray)), (11, (.int .i64 0))] ⟨rfl, rfl, rfl, trivial⟩ ?_
  refine tr_loop_j (fun m L' h => ∃ (x3 : Option Nat) (x10 : List S_epoch_owner) (x11 : Int), L' = [(3, (.map x3)), (10, (.agg (x10.flatMap S_epoch_owner.cells).toArray)), (11, (.int .i64 x11))] ∧ F.epoch_Book_all.l1 Q m x3 x10 x11 h) ?_ ?_ m28 ⟨_, _, _, rfl, H⟩
  · rintro L' h ⟨_, _, _, _, H⟩; exact H
  · rintro q1 L' h ⟨x3, x10, x11, rfl, H⟩
    unfold F.epoch_Book_all.l1 at H
    refine tr_seq ?_
    refine tr_region ?_
    refine tr_p (y_lss rfl rfl) rfl rfl ?_
    refine tr_nil ?_
    refine tr_thenN ?_
    refine tr_seq ?_
    refine tr_cond rfl (fun g9 => ?_) (fun g9 => ?_)
    · replace H := H.1 g9
      refine tr_skip ?_
      refine tr_thenN ?_
      refine tr_seq ?_
      refine tr_block ?_
      refine tr_seq ?_
      refine tr_region ?_
      obtain ⟨z10, e11, H⟩ := H
      refine tr_p (f_idxVS (f := S_epoch_owner.cells) (M := x10) Tryz.runUnderlying60 Tryz.isAgg59 Tryz.sizeOf59 (fun _ => rfl) rfl rfl e11) rfl rfl ?_
      refine tr_e (f_alloc (cs := ((⟨none, 0⟩ : S_epoch_owner) : S_epoch_owner).cells.toArray) Tryz.zeroValue59 rfl H) rfl rfl ?_
      rintro _ h12 ⟨a13, rfl, H⟩
      refine tr_e (f_store (vs := z10.cells) Tryz.sizeOf59 rfl rfl cellsOfStruct rfl (by intro v hv; exact ones_S_epoch_owner _ v hv) H) rfl rfl ?_
      rintro _ h14 ⟨rfl, H⟩
      refine tr_nil ?_
      refine tr_thenN ?_
      refine tr_seq ?_
      refine tr_region ?_
      refine tr_p (y_move rfl) rfl rfl ?_
      refine tr_p (y_fa (off := 0) Tryz.runUnderlying59 fo_59_0 rfl) rfl rfl ?_
      obtain ⟨y15, k16, H⟩ := H
      refine tr_h (y_ld Tryz.isAgg57 rfl) k16 rfl rfl ?_
      refine tr_e (e_call Tryz.call61 rfl (F.maps_Copy_map_int_struct_map_int_struct_int_struct_ok H)) rfl rfl ?_
      rintro _ h17 ⟨rfl, H⟩
      refine tr_nil ?_
      refine tr_thenN ?_
      refine tr_seq ?_
      refine tr_region ?_
      refine tr_p (y_fa (off := 1) Tryz.runUnderlying59 fo_59_1 rfl) rfl rfl ?_
      obtain ⟨y18, k19, H⟩ := H
      refine tr_h (y_ld Tryz.isAgg3 rfl) k19 rfl rfl ?_
      refine tr_p (y_neq rfl rfl) rfl rfl ?_
      refine tr_nil ?_
      refine tr_thenN ?_
      refine tr_cond rfl (fun g20 => ?_) (fun g20 => ?_)
      · replace H := H.1 g20
        refine tr_region ?_
        refine tr_p (y_move rfl) rfl rfl ?_
        refine tr_p (y_fa (off := 1) Tryz.runUnderlying59 fo_59_1 rfl) rfl rfl ?_
        obtain ⟨y21, k22, H⟩ := H
        refine tr_h (y_ld Tryz.isAgg3 rfl) k22 rfl rfl ?_
        refine tr_p (f_build rfl (bd_50_ )) rfl rfl ?_
        refine tr_e (f_mu rfl rfl rfl H) rfl rfl ?_
        rintro _ h23 ⟨rfl, H⟩
        refine tr_nil ?_
        refine tr_blockN ?_
        refine tr_thenN ?_
        refine tr_region ?_
        refine tr_p (y_add rfl rfl) rfl rfl ?_
        refine tr_p (y_move rfl) rfl rfl ?_
        refine tr_nil ?_
        refine tr_thenN ?_
        exact tr_join [(3, (.map x3)), (10, (.agg (x10.flatMap S_epoch_owner.cells).toArray)), (11, (.int .i64 (IntKind.wrap .i64 (x11 + 1))))] ⟨rfl, rfl, rfl, trivial⟩ ⟨_, _, _, rfl, H⟩
      · replace H := H.2 g20
        refine tr_skip ?_
        refine tr_blockN ?_
        refine tr_thenN ?_
        refine tr_region ?_
        refine tr_p (y_add rfl rfl) rfl rfl ?_
        refine tr_p (y_move rfl) rfl rfl ?_
        refine tr_nil ?_
        refine tr_thenN ?_
        exact tr_join [(3, (.map x3)), (10, (.agg (x10.flatMap S_epoch_owner.cells).toArray)), (11, (.int .i64 (IntKind.wrap .i64 (x11 + 1))))] ⟨rfl, rfl, rfl, trivial⟩ ⟨_, _, _, rfl, H⟩
    · replace H := H.2 g9
      refine tr_exit ?_
      refine tr_thenE ?_
      refine tr_thenE ?_
      refine tr_hit ?_
      refine tr_thenN ?_
      refine tr_seq ?_
      refine tr_region ?_
      refine tr_p (y_move rfl) rfl rfl ?_
      refine tr_e (e_call Tryz.call57 rfl (F.maps_Keys_map_int_struct_int_struct_ok H)) rfl rfl ?_
      rintro r25 h24 ⟨_, rfl, H⟩
      refine tr_e (e_call Tryz.call46 rfl (F.slices_Sorted_int_ok H)) rfl rfl ?_
      rintro _ h26 ⟨r27, rfl, H⟩
      refine tr_p (y_assign rfl) rfl rfl ?_
      refine tr_nil ?_
      refine tr_thenN ?_
      refine tr_ret ?_
      exact tr_ret1 rfl rfl ⟨_, rfl, H⟩

/-- (*spate/epoch.Book).Live -/
def F.epoch_Book_Live (p0 : Option Addr) (h : H) (Q : Int → H → Prop) : Prop :=
  F.epoch_Book_guard p0 h fun r2 h1 =>
  fnV r2 fun f_1 fi_1 ca_1 =>
  nn p0 fun a4 =>
  ldM h1 (a4.add 134) fun y6 =>
  F.epoch_Book_all p0 h1 fun r9 h8 =>
  cellH h8 (a4.add 134) = some (.map y6) ∧
  RunS PP (Builtin.len_ #[49] 3 #[(.map y6)]) h8 fun u h11 => ∃ s12 : Int, u = (.int .i64 s12) ∧
  dcall PP f_1 ((fi_1 ++ ([] : List Value).toArray) ++ ca_1) h11 fun h13 =>
  Q (IntKind.wrap .i64 ((r9.len : Int) + s12)) h13
theorem F.epoch_Book_Live_ok {p0 : Option Addr} {h : H} {Q : Int → H → Prop} (H : F.epoch_Book_Live p0 h Q) : Fn PP 15 ([(.pointer p0)] : List Value).toArray h fun r h' => ∃ r0, r = (.int .i64 r0) ∧ Q r0 h' := by
  unfold F.epoch_Book_Live at H
  refine fn_ofM Tryz.func15 Tryz.ntmps15 rfl rfl fun w0 => ?_
  refine tr_sub [(0, (.pointer p0))] ⟨rfl, trivial⟩ ?_
  refine tr_seq ?_
  refine tr_region ?_
  refine tr_p (y_assign rfl) rfl rfl ?_
  refine tr_nil ?_
  refine tr_thenN ?_
  refine tr_seq ?_
  refine tr_region ?_
  refine tr_p (y_move rfl) rfl rfl ?_
  refine tr_e (e_call Tryz.call21 rfl (F.epoch_Book_guard_ok H)) rfl rfl ?_
  rintro r2 h1 ⟨_, rfl, H⟩
  obtain ⟨f_1, fi_1, ca_1, e3, H⟩ := H
  subst e3
  refine tr_defer rfl rfl rfl ?_
  refine tr_nil ?_
  refine tr_thenN ?_
  refine tr_seq ?_
  refine tr_draw mixed [0, 1, 3, 0, 8, 24, 56, 123, 255, 511] (by kernel_rfl) ?_
  refine g_p 0 1 rfl (by kernel_rfl) (y_move rfl) rfl rfl ?_
  refine g_p 3 9 rfl (by kernel_rfl) (y_move rfl) rfl rfl ?_
  obtain ⟨a4, e5, H⟩ := H
  refine g_p 4 25 rfl (by kernel_rfl) (f_nn rfl e5) rfl rfl ?_
  refine g_p 5 57 rfl (by kernel_rfl) (y_fa (off := 134) Tryz.runUnderlying62 fo_62_4 rfl) rfl rfl ?_
  obtain ⟨y6, k7, H⟩ := H
  refine g_h 6 121 rfl (by kernel_rfl) (y_ld Tryz.isAgg49 rfl) k7 rfl rfl ?_
  refine g_e 1 123 [(6, fun h => cellH h (a4.add 134) = some (.map y6))] (by kernel_rfl) rfl (by kernel_rfl) (e_call Tryz.call45 rfl (F.epoch_Book_all_ok H)) rfl rfl ?_
  rintro _ h8 ⟨r9, rfl, H⟩
  obtain ⟨k10, H⟩ := H
  refine ⟨And.intro k10 trivial, ?_⟩
  refine g_p 2 127 rfl (by kernel_rfl) (y_len (ts := #[]) Tryz.runUnderlying38 (o := r9.ptr) (n := r9.len) (cap := r9.cap) rfl) rfl rfl ?_
  refine g_e 7 255 [] (by kernel_rfl) rfl (by kernel_rfl) (f_lenM rfl H) rfl rfl ?_
  rintro _ h11 ⟨s12, rfl, H⟩
  refine ⟨trivial, ?_⟩
  refine g_p 8 511 rfl (by kernel_rfl) (y_add rfl rfl) rfl rfl ?_
  refine g_p 9 1023 rfl (by kernel_rfl) (y_assign rfl) rfl rfl ?_
  refine g_d (by kernel_rfl) ?_
  refine tr_thenN ?_
  refine tr_ret ?_
  refine tr_dcall H fun h13 H => ?_
  refine tr_pm0 ?_
  exact tr_ret1 rfl rfl ⟨_, rfl, H⟩

/-- (*spate/epoch.Book).Now -/
def F.epoch_Book_Now (p0 : Option Addr) (h : H) (Q : Int → H → Prop) : Prop :=
  F.epoch_Book_guard p0 h fun r2 h1 =>
  fnV r2 fun f_1 fi_1 ca_1 =>
  nn p0 fun a4 =>
  ldI .i64 h1 (a4.add 3) fun y6 =>
  dcall PP f_1 ((fi_1 ++ ([] : List Value).toArray) ++ ca_1) h1 fun h8 =>
  Q y6 h8
theorem F.epoch_Book_Now_ok {p0 : Option Addr} {h : H} {Q : Int → H → Prop} (H : F.epoch_Book_Now p0 h Q) : Fn PP 20 ([(.pointer p0)] : List Value).toArray h fun r h' => ∃ r0, r = (.int .i64 r0) ∧ Q r0 h' := by
  unfold F.epoch_Book_Now at H
  refine fn_ofM Tryz.func20 Tryz.ntmps20 rfl rfl fun w0 => ?_
  refine tr_sub [(0, (.pointer p0))] ⟨rfl, trivial⟩ ?_
  refine tr_seq ?_
  refine tr_region ?_
  refine tr_p (y_assign rfl) rfl rfl ?_
  refine tr_nil ?_
  refine tr_thenN ?_
  refine tr_seq ?_
  refine tr_region ?_
  refine tr_p (y_move rfl) rfl rfl ?_
  refine tr_e (e_call Tryz.call21 rfl (F.epoch_Book_guard_ok H)) rfl rfl ?_
  rintro r2 h1 ⟨_, rfl, H⟩
  obtain ⟨f_1, fi_1, ca_1, e3, H⟩ := H
  subst e3
  refine tr_defer rfl rfl rfl ?_
  refine tr_nil ?_
  refine tr_thenN ?_
  refine tr_seq ?_
  refine tr_region ?_
  refine tr_p (y_move rfl) rfl rfl ?_
  obtain ⟨a4, e5, H⟩ := H
  refine tr_p (f_nn rfl e5) rfl rfl ?_
  refine tr_p (y_fa (off := 3) Tryz.runUnderlying62 fo_62_2 rfl) rfl rfl ?_
  obtain ⟨y6, k7, H⟩ := H
  refine tr_h (y_ld Tryz.isAgg3 rfl) k7 rfl rfl ?_
  refine tr_p (y_assign rfl) rfl rfl ?_
  refine tr_nil ?_
  refine tr_thenN ?_
  refine tr_ret ?_
  refine tr_dcall H fun h8 H => ?_
  refine tr_pm0 ?_
  exact tr_ret1 rfl rfl ⟨_, rfl, H⟩

/-- (*spate/epoch.Book).has -/
def F.epoch_Book_has (p0 : Option Addr) (p1 : Int) (p2 : Int) (h : H) (Q : Bool → H → Prop) : Prop :=
  nn p0 fun a1 =>
  (0 ≤ (p1 : Int) ∧ p1 < 65) ∧
  ldM h (((a1.add 4).add ((p1 : Int).toNat * 2)).add 0) fun y4 =>
  RunS PP (Instr.lookup 57 (.map y4) (.int .i64 p2) true) h fun u h6 => ∃ (r7 : S_sync_noCopy) (r8 : Bool), u = (.tuple #[(.agg r7.cells.toArray), (.bool r8)]) ∧
  new h6 (((⟨⟩ : S_sync_noCopy) : S_sync_noCopy).cells.toArray) ty_50 fun a10 h9 =>
  stH h9 a10 r7.cells fun h11 =>
  Q r8 h11
theorem F.epoch_Book_has_ok {p0 : Option Addr} {p1 : Int} {p2 : Int} {h : H} {Q : Bool → H → Prop} (H : F.epoch_Book_has p0 p1 p2 h Q) : Fn PP 40 ([(.pointer p0), (.int .i64 p1), (.int .i64 p2)] : List Value).toArray h fun r h' => ∃ r0, r = (.bool r0) ∧ Q r0 h' := by
  unfold F.epoch_Book_has at H
  refine fn_of Tryz.func40 Tryz.ntmps40 rfl rfl fun w0 => ?_
  refine tr_sub [(0, (.pointer p0)), (1, (.int .i64 p1)), (2, (.int .i64 p2))] ⟨rfl, rfl, rfl, trivial⟩ ?_
  refine tr_seq ?_
  refine tr_region ?_
  refine tr_p (y_assign rfl) rfl rfl ?_
  refine tr_nil ?_
  refine tr_thenN ?_
  refine tr_seq ?_
  refine tr_region ?_
  refine tr_p (y_move rfl) rfl rfl ?_
  refine tr_p (y_move rfl) rfl rfl ?_
  obtain ⟨a1, e2, H⟩ := H
  refine tr_p (f_nn rfl e2) rfl rfl ?_
  refine tr_p (y_fa (off := 4) Tryz.runUnderlying62 fo_62_3 rfl) rfl rfl ?_
  obtain ⟨e3, H⟩ := H
  refine tr_p (f_idxArr Tryz.runUnderlying60 Tryz.sizeOf59 rfl rfl e3) rfl rfl ?_
  refine tr_p (y_fa (off := 0) Tryz.runUnderlying59 fo_59_0 rfl) rfl rfl ?_
  obtain ⟨y4, k5, H⟩ := H
  refine tr_h (y_ld Tryz.isAgg57 rfl) k5 rfl rfl ?_
  refine tr_p (y_move rfl) rfl rfl ?_
  refine tr_e (f_lk rfl rfl H) rfl rfl ?_
  rintro _ h6 ⟨r7, r8, rfl, H⟩
  refine tr_p (y_move rfl) rfl rfl ?_
  refine tr_p (y_ext rfl rfl) rfl rfl ?_
  refine tr_p (y_ext rfl rfl) rfl rfl ?_
  refine tr_e (f_alloc (cs := ((⟨⟩ : S_sync_noCopy) : S_sync_noCopy).cells.toArray) Tryz.zeroValue50 rfl H) rfl rfl ?_
  rintro _ h9 ⟨a10, rfl, H⟩
  refine tr_e (f_store (vs := r7.cells) Tryz.sizeOf50 rfl rfl cellsOfStruct rfl (by intro v hv; exact ones_S_sync_noCopy _ v hv) H) rfl rfl ?_
  rintro _ h11 ⟨rfl, H⟩
  refine tr_p (y_assign rfl) rfl rfl ?_
  refine tr_nil ?_
  refine tr_thenN ?_
  refine tr_seq ?_
  refine tr_region ?_
  refine tr_p (y_move rfl) rfl rfl ?_
  refine tr_p (y_assign rfl) rfl rfl ?_
  refine tr_nil ?_
  refine tr_thenN ?_
  refine tr_ret ?_
  exact tr_ret1 rfl rfl ⟨_, rfl, H⟩

/-- (*spate/epoch.Book).pinned$1 -/
def F.epoch_Book_pinned_1 (p0 : S_epoch_owner) (p1 : Addr) (h : H) (Q : Bool → H → Prop) : Prop :=
  new h p0.cells.toArray ty_59 fun a2 h1 =>
  ldM h1 (a2.add 0) fun y3 =>
  ldI .i64 h1 p1 fun y5 =>
  RunS PP (Instr.lookup 57 (.map y3) (.int .i64 y5) true) h1 fun u h7 => ∃ (r8 : S_sync_noCopy) (r9 : Bool), u = (.tuple #[(.agg r8.cells.toArray), (.bool r9)]) ∧
  new h7 (((⟨⟩ : S_sync_noCopy) : S_sync_noCopy).cells.toArray) ty_50 fun a11 h10 =>
  stH h10 a11 r8.cells fun h12 =>
  Q r9 h12
theorem F.epoch_Book_pinned_1_ok {p0 : S_epoch_owner} {p1 : Addr} {h : H} {Q : Bool → H → Prop} (H : F.epoch_Book_pinned_1 p0 p1 h Q) : Fn PP 59 ([(.agg p0.cells.toArray), (.pointer (some p1))] : List Value).toArray h fun r h' => ∃ r0, r = (.bool r0) ∧ Q r0 h' := by
  unfold F.epoch_Book_pinned_1 at H
  refine fn_of Tryz.func59 Tryz.ntmps59 rfl rfl fun w0 => ?_
  refine tr_sub [(0, (.agg p0.cells.toArray)), (1, (.pointer (some p1)))] ⟨rfl, rfl, trivial⟩ ?_
  refine tr_seq ?_
  refine tr_region ?_
  refine tr_e (f_box (cs := p0.cells.toArray) rfl rfl H) rfl rfl ?_
  rintro _ h1 ⟨a2, rfl, H⟩
  refine tr_p (y_assign rfl) rfl rfl ?_
  refine tr_nil ?_
  refine tr_thenN ?_
  refine tr_seq ?_
  refine tr_region ?_
  refine tr_p (y_fa (off := 0) Tryz.runUnderlying59 fo_59_0 rfl) rfl rfl ?_
  obtain ⟨y3, k4, H⟩ := H
  refine tr_h (y_ld Tryz.isAgg57 rfl) k4 rfl rfl ?_
  obtain ⟨y5, k6, H⟩ := H
  refine tr_h (y_ld Tryz.isAgg3 rfl) k6 rfl rfl ?_
  refine tr_e (f_lk rfl rfl H) rfl rfl ?_
  rintro _ h7 ⟨r8, r9, rfl, H⟩
  refine tr_p (y_move rfl) rfl rfl ?_
  refine tr_p (y_ext rfl rfl) rfl rfl ?_
  refine tr_p (y_ext rfl rfl) rfl rfl ?_
  refine tr_e (f_alloc (cs := ((⟨⟩ : S_sync_noCopy) : S_sync_noCopy).cells.toArray) Tryz.zeroValue50 rfl H) rfl rfl ?_
  rintro _ h10 ⟨a11, rfl, H⟩
  refine tr_e (f_store (vs := r8.cells) Tryz.sizeOf50 rfl rfl cellsOfStruct rfl (by intro v hv; exact ones_S_sync_noCopy _ v hv) H) rfl rfl ?_
  rintro _ h12 ⟨rfl, H⟩
  refine tr_p (y_assign rfl) rfl rfl ?_
  refine tr_nil ?_
  refine tr_thenN ?_
  refine tr_seq ?_
  refine tr_region ?_
  refine tr_p (y_move rfl) rfl rfl ?_
  refine tr_p (y_assign rfl) rfl rfl ?_
  refine tr_nil ?_
  refine tr_thenN ?_
  refine tr_ret ?_
  exact tr_ret1 rfl rfl ⟨_, rfl, H⟩

def F.slices_IndexFunc_Slepoch_owner_epoch_owner.l1 (Q : Int → H → Prop) : Nat → Sl → Value → Int → Int → H → Prop
  | 0, _, _, _, _, _ => False
  | q1 + 1, x0, x1, x7, x8, h =>
    ((decide (x8 < x7)) = true →
    idxA x0 x8 2 fun a2 =>
    ld_S_epoch_owner h a2 fun y4 =>
    CV PP x1 [(.agg y4.cells.toArray)] h fun u h6 => ∃ (r7 : Bool), u = (.bool r7) ∧
    (r7 = true →
    Q x8 h6) ∧
    (r7 = false →
    (F.slices_IndexFunc_Slepoch_owner_epoch_owner.l1 Q q1) x0 x1 x7 (IntKind.wrap .i64 (x8 + 1)) h6)) ∧
    ((decide (x8 < x7)) = false →
    Q (-1) h)
/-- slices.IndexFunc[[]spate/epoch.owner,spate/epoch.owner] -/
def F.slices_IndexFunc_Slepoch_owner_epoch_owner (p0 : Sl) (p1 : Value) (h : H) (Q : Int → H → Prop) : Prop :=
  ∃ m, F.slices_IndexFunc_Slepoch_owner_epoch_owner.l1 Q m p0 p1 (p0.len : Int) 0 h
theorem F.slices_IndexFunc_Slepoch_owner_epoch_owner_ok {p0 : Sl} {p1 : Value} {h : H} {Q : Int → H → Prop} (H : F.slices_IndexFunc_Slepoch_owner_epoch_owner p0 p1 h Q) : Fn PP 68 ([p0.enc, p1] : List Value).toArray h fun r h' => ∃ r0, r = (.int .i64 r0) ∧ Q r0 h' := by
  unfold F.slices_IndexFunc_Slepoch_owner_epoch_owner at H
  refine fn_of Tryz.func68 Tryz.ntmps68 rfl rfl fun w0 => ?_
  refine tr_sub [(0, p0.enc), (1, p1)] ⟨rfl, rfl, trivial⟩ ?_
  refine tr_seq ?_
  refine tr_region ?_
  refine tr_p (y_assign rfl) rfl rfl ?_
  refine tr_nil ?_
  refine tr_thenN ?_
  refine tr_seq ?_
  refine tr_seq ?_
  refine tr_region ?_
  refine tr_p (y_move rfl) rfl rfl ?_
  refine tr_p (y_len (ts := #[]) Tryz.runUnderlying87 (o := p0.ptr) (n := p0.len) (cap := p0.cap) rfl) rfl rfl ?_
  refine tr_p (y_move rfl) rfl rfl ?_
  refine tr_nil ?_
  refine tr_thenN ?_
  refine tr_block ?_
  obtain ⟨m9, H⟩ := H
  refine tr_sub [(0, p0.enc), (1, p1), (7, (.int .i64 (p0.len : Int))), (8, (.int .i64 0))] ⟨rfl, rfl, rfl, rfl, trivial⟩ ?_
  refine tr_loop_j (fun m L' h => ∃ (x0 : Sl) (x1 : Value) (x7 : Int) (x8 : Int), L' = [(0, x0.enc), (1, x1), (7, (.int .i64 x7)), (8, (.int .i64 x8))] ∧ F.slices_IndexFunc_Slepoch_owner_epoch_owner.l1 Q m x0 x1 x7 x8 h) ?_ ?_ m9 ⟨_, _, _, _, rfl, H⟩
  · rintro L' h ⟨_, _, _, _, _, H⟩; exact H
  · rintro q1 L' h ⟨x0, x1, x7, x8, rfl, H⟩
    unfold F.slices_IndexFunc_Slepoch_owner_epoch_owner.l1 at H
    refine tr_seq ?_
    refine tr_region ?_
    refine tr_p (y_lss rfl rfl) rfl rfl ?_
    refine tr_nil ?_
    refine tr_thenN ?_
    refine tr_seq ?_
    refine tr_cond rfl (fun g1 => ?_) (fun g1 => ?_)
    · replace H := H.1 g1
      refine tr_skip ?_
      refine tr_thenN ?_
      refine tr_seq ?_
      refine tr_block ?_
      refine tr_seq ?_
      refine tr_region ?_
      refine tr_p (y_move rfl) rfl rfl ?_
      refine tr_p (y_assign rfl) rfl rfl ?_
      refine tr_nil ?_
      refine tr_thenN ?_
      refine tr_seq ?_
      refine tr_region ?_
      refine tr_p (y_move rfl) rfl rfl ?_
      refine tr_p (y_move rfl) rfl rfl ?_
      refine tr_p (y_move rfl) rfl rfl ?_
      obtain ⟨a2, e3, H⟩ := H
      refine tr_p (f_idx (s := x0) Tryz.runUnderlying87 Tryz.sizeOf59 rfl rfl e3) rfl rfl ?_
      obtain ⟨y4, k5, H⟩ := H
      refine tr_h (y_ldS Tryz.isAgg59 Tryz.sizeOf59 rfl rfl) k5 rfl rfl ?_
      refine tr_e (e_callD rfl rfl H) rfl rfl ?_
      rintro _ h6 ⟨r7, rfl, H⟩
      refine tr_nil ?_
      refine tr_thenN ?_
      refine tr_cond rfl (fun g8 => ?_) (fun g8 => ?_)
      · replace H := H.1 g8
        refine tr_seq ?_
        refine tr_region ?_
        refine tr_p (y_move rfl) rfl rfl ?_
        refine tr_p (y_assign rfl) rfl rfl ?_
        refine tr_nil ?_
        refine tr_thenN ?_
        refine tr_ret ?_
        refine tr_blockR ?_
        refine tr_thenR ?_
        refine tr_thenR ?_
        refine tr_blockR ?_
        refine tr_thenR ?_
        exact tr_ret1 rfl rfl ⟨_, rfl, H⟩
      · replace H := H.2 g8
        refine tr_skip ?_
        refine tr_blockN ?_
        refine tr_thenN ?_
        refine tr_region ?_
        refine tr_p (y_add rfl rfl) rfl rfl ?_
        refine tr_p (y_move rfl) rfl rfl ?_
        refine tr_nil ?_
        refine tr_thenN ?_
        exact tr_join [(0, x0.enc), (1, x1), (7, (.int .i64 x7)), (8, (.int .i64 (IntKind.wrap .i64 (x8 + 1))))] ⟨rfl, rfl, rfl, rfl, trivial⟩ ⟨_, _, _, _, rfl, H⟩
    · replace H := H.2 g1
      refine tr_exit ?_
      refine tr_thenE ?_
      refine tr_thenE ?_
      refine tr_hit ?_
      refine tr_thenN ?_
      refine tr_seq ?_
      refine tr_region ?_
      refine tr_p (y_assign rfl) rfl rfl ?_
      refine tr_nil ?_
      refine tr_thenN ?_
      refine tr_ret ?_
      exact tr_ret1 rfl rfl ⟨_, rfl, H⟩

/-- slices.ContainsFunc[[]spate/epoch.owner,spate/epoch.owner] -/
def F.slices_ContainsFunc_Slepoch_owner_epoch_owner (p0 : Sl) (p1 : Value) (h : H) (Q : Bool → H → Prop) : Prop :=
  F.slices_IndexFunc_Slepoch_owner_epoch_owner p0 p1 h fun r2 h1 =>
  Q (decide (r2 ≥ 0)) h1
theorem F.slices_ContainsFunc_Slepoch_owner_epoch_owner_ok {p0 : Sl} {p1 : Value} {h : H} {Q : Bool → H → Prop} (H : F.slices_ContainsFunc_Slepoch_owner_epoch_owner p0 p1 h Q) : Fn PP 58 ([p0.enc, p1] : List Value).toArray h fun r h' => ∃ r0, r = (.bool r0) ∧ Q r0 h' := by
  unfold F.slices_ContainsFunc_Slepoch_owner_epoch_owner at H
  refine fn_of Tryz.func58 Tryz.ntmps58 rfl rfl fun w0 => ?_
  refine tr_sub [(0, p0.enc), (1, p1)] ⟨rfl, rfl, trivial⟩ ?_
  refine tr_seq ?_
  refine tr_region ?_
  refine tr_p (y_assign rfl) rfl rfl ?_
  refine tr_nil ?_
  refine tr_thenN ?_
  refine tr_seq ?_
  refine tr_region ?_
  refine tr_p (y_move rfl) rfl rfl ?_
  refine tr_p (y_move rfl) rfl rfl ?_
  refine tr_e (e_call Tryz.call68 rfl (F.slices_IndexFunc_Slepoch_owner_epoch_owner_ok H)) rfl rfl ?_
  rintro _ h1 ⟨r2, rfl, H⟩
  refine tr_p (y_geq rfl rfl) rfl rfl ?_
  refine tr_p (y_assign rfl) rfl rfl ?_
  refine tr_nil ?_
  refine tr_thenN ?_
  refine tr_ret ?_
  exact tr_ret1 rfl rfl ⟨_, rfl, H⟩

/-- (*spate/epoch.Book).pinned -/
def F.epoch_Book_pinned (p0 : Option Addr) (p1 : Int) (h : H) (Q : Bool → H → Prop) : Prop :=
  new h #[(.int .i64 p1)] ty_3 fun a2 h1 =>
  nn p0 fun a3 =>
  F.slices_ContainsFunc_Slepoch_owner_epoch_owner (⟨some (a3.add 4), 65, 65⟩ : Sl) (.func (.func 59) #[] #[(.pointer (some a2))]) h1 fun r6 h5 =>
  Q r6 h5
theorem F.epoch_Book_pinned_ok {p0 : Option Addr} {p1 : Int} {h : H} {Q : Bool → H → Prop} (H : F.epoch_Book_pinned p0 p1 h Q) : Fn PP 43 ([(.pointer p0), (.int .i64 p1)] : List Value).toArray h fun r h' => ∃ r0, r = (.bool r0) ∧ Q r0 h' := by
  unfold F.epoch_Book_pinned at H
  refine fn_of Tryz.func43 Tryz.ntmps43 rfl rfl fun w0 => ?_
  refine tr_sub [(0, (.pointer p0)), (1, (.int .i64 p1))] ⟨rfl, rfl, trivial⟩ ?_
  refine tr_seq ?_
  refine tr_region ?_
  refine tr_e (f_box (cs := #[(.int .i64 p1)]) rfl rfl H) rfl rfl ?_
  rintro _ h1 ⟨a2, rfl, H⟩
  refine tr_p (y_assign rfl) rfl rfl ?_
  refine tr_nil ?_
  refine tr_thenN ?_
  refine tr_seq ?_
  refine tr_region ?_
  refine tr_p (y_move rfl) rfl rfl ?_
  obtain ⟨a3, e4, H⟩ := H
  refine tr_p (f_nn rfl e4) rfl rfl ?_
  refine tr_p (y_fa (off := 4) Tryz.runUnderlying62 fo_62_3 rfl) rfl rfl ?_
  refine tr_p (f_sliceArr Tryz.runUnderlying60 Tryz.sizeOf59 rfl) rfl rfl ?_
  refine tr_p (y_fn rfl rfl) rfl rfl ?_
  refine tr_e (e_call Tryz.call58 rfl (F.slices_ContainsFunc_Slepoch_owner_epoch_owner_ok H)) rfl rfl ?_
  rintro _ h5 ⟨r6, rfl, H⟩
  refine tr_p (y_assign rfl) rfl rfl ?_
  refine tr_nil ?_
  refine tr_thenN ?_
  refine tr_ret ?_
  exact tr_ret1 rfl rfl ⟨_, rfl, H⟩

/-- (*spate/epoch.Book).held$1 -/
def F.epoch_Book_held_1 (p0 : S_epoch_owner) (p1 : Addr) (h : H) (Q : Bool → H → Prop) : Prop :=
  new h p0.cells.toArray ty_59 fun a2 h1 =>
  ldI .i64 h1 (a2.add 1) fun y3 =>
  ldI .i64 h1 p1 fun y5 =>
  Q ((y3 == y5)) h1
theorem F.epoch_Book_held_1_ok {p0 : S_epoch_owner} {p1 : Addr} {h : H} {Q : Bool → H → Prop} (H : F.epoch_Book_held_1 p0 p1 h Q) : Fn PP 69 ([(.agg p0.cells.toArray), (.pointer (some p1))] : List Value).toArray h fun r h' => ∃ r0, r = (.bool r0) ∧ Q r0 h' := by
  unfold F.epoch_Book_held_1 at H
  refine fn_of Tryz.func69 Tryz.ntmps69 rfl rfl fun w0 => ?_
  refine tr_sub [(0, (.agg p0.cells.toArray)), (1, (.pointer (some p1)))] ⟨rfl, rfl, trivial⟩ ?_
  refine tr_seq ?_
  refine tr_region ?_
  refine tr_e (f_box (cs := p0.cells.toArray) rfl rfl H) rfl rfl ?_
  rintro _ h1 ⟨a2, rfl, H⟩
  refine tr_p (y_assign rfl) rfl rfl ?_
  refine tr_nil ?_
  refine tr_thenN ?_
  refine tr_seq ?_
  refine tr_region ?_
  refine tr_p (y_fa (off := 1) Tryz.runUnderlying59 fo_59_1 rfl) rfl rfl ?_
  obtain ⟨y3, k4, H⟩ := H
  refine tr_h (y_ld Tryz.isAgg3 rfl) k4 rfl rfl ?_
  obtain ⟨y5, k6, H⟩ := H
  refine tr_h (y_ld Tryz.isAgg3 rfl) k6 rfl rfl ?_
  refine tr_p (y_eql rfl rfl) rfl rfl ?_
  refine tr_p (y_assign rfl) rfl rfl ?_
  refine tr_nil ?_
  refine tr_thenN ?_
  refine tr_ret ?_
  exact tr_ret1 rfl rfl ⟨_, rfl, H⟩

/-- (*spate/epoch.Book).held -/
def F.epoch_Book_held (p0 : Option Addr) (p1 : Int) (h : H) (Q : Bool → H → Prop) : Prop :=
  new h #[(.int .i64 p1)] ty_3 fun a2 h1 =>
  ldI .i64 h1 a2 fun y3 =>
  F.epoch_Book_pinned p0 y3 h1 fun r6 h5 =>
  (r6 = true →
  Q true h5) ∧
  (r6 = false →
  nn p0 fun a8 =>
  F.slices_ContainsFunc_Slepoch_owner_epoch_owner (⟨some (a8.add 4), 65, 65⟩ : Sl) (.func (.func 69) #[] #[(.pointer (some a2))]) h5 fun r11 h10 =>
  Q r11 h10)
theorem F.epoch_Book_held_ok {p0 : Option Addr} {p1 : Int} {h : H} {Q : Bool → H → Prop} (H : F.epoch_Book_held p0 p1 h Q) : Fn PP 60 ([(.pointer p0), (.int .i64 p1)] : List Value).toArray h fun r h' => ∃ r0, r = (.bool r0) ∧ Q r0 h' := by
  unfold F.epoch_Book_held at H
  refine fn_of Tryz.func60 Tryz.ntmps60 rfl rfl fun w0 => ?_
  refine tr_sub [(0, (.pointer p0)), (1, (.int .i64 p1))] ⟨rfl, rfl, trivial⟩ ?_
  refine tr_seq ?_
  refine tr_region ?_
  refine tr_e (f_box (cs := #[(.int .i64 p1)]) rfl rfl H) rfl rfl ?_
  rintro _ h1 ⟨a2, rfl, H⟩
  refine tr_p (y_assign rfl) rfl rfl ?_
  refine tr_nil ?_
  refine tr_thenN ?_
  refine tr_seq ?_
  refine tr_region ?_
  refine tr_p (y_move rfl) rfl rfl ?_
  obtain ⟨y3, k4, H⟩ := H
  refine tr_h (y_ld Tryz.isAgg3 rfl) k4 rfl rfl ?_
  refine tr_e (e_call Tryz.call43 rfl (F.epoch_Book_pinned_ok H)) rfl rfl ?_
  rintro _ h5 ⟨r6, rfl, H⟩
  refine tr_p (y_move rfl) rfl rfl ?_
  refine tr_split (t := 8) rfl (fun g7 => ?_) (fun g7 => ?_)
  · replace H := H.1 g7
    refine tr_s rfl rfl ?_
    refine tr_s rfl rfl ?_
    refine tr_s rfl rfl ?_
    refine tr_s rfl rfl ?_
    refine tr_s rfl rfl ?_
    refine tr_s rfl rfl ?_
    refine tr_p (y_pick_t rfl rfl) rfl rfl ?_
    refine tr_p (y_assign rfl) rfl rfl ?_
    refine tr_nil ?_
    refine tr_thenN ?_
    refine tr_ret ?_
    exact tr_ret1 rfl rfl ⟨_, rfl, H⟩
  · replace H := H.2 g7
    refine tr_p (y_move rfl) rfl rfl ?_
    obtain ⟨a8, e9, H⟩ := H
    refine tr_p (f_nn rfl e9) rfl rfl ?_
    refine tr_p (y_fa (off := 4) Tryz.runUnderlying62 fo_62_3 rfl) rfl rfl ?_
    refine tr_p (f_sliceArr Tryz.runUnderlying60 Tryz.sizeOf59 rfl) rfl rfl ?_
    refine tr_p (y_fn rfl rfl) rfl rfl ?_
    refine tr_e (e_call Tryz.call58 rfl (F.slices_ContainsFunc_Slepoch_owner_epoch_owner_ok H)) rfl rfl ?_
    rintro _ h10 ⟨r11, rfl, H⟩
    refine tr_p (y_pick_f rfl rfl) rfl rfl ?_
    refine tr_p (y_assign rfl) rfl rfl ?_
    refine tr_nil ?_
    refine tr_thenN ?_
    refine tr_ret ?_
    exact tr_ret1 rfl rfl ⟨_, rfl, H⟩

/-- (*spate/epoch.Book).let -/
def F.epoch_Book_let (p0 : Option Addr) (p1 : Int) (h : H) (Q : H → Prop) : Prop :=
  F.epoch_Book_held p0 p1 h fun r2 h1 =>
  ((!r2) = true →
  nn p0 fun a4 =>
  ldM h1 (a4.add 134) fun y6 =>
  RunS PP (Instr.mapUpdate 49 (.map y6) (.int .i64 p1) (.int .i64 0)) h1 fun _ h8 =>
  Q h8) ∧
  ((!r2) = false →
  Q h1)
theorem F.epoch_Book_let_ok {p0 : Option Addr} {p1 : Int} {h : H} {Q : H → Prop} (H : F.epoch_Book_let p0 p1 h Q) : Fn PP 44 ([(.pointer p0), (.int .i64 p1)] : List Value).toArray h fun r h' => r = .tuple #[] ∧ Q  h' := by
  unfold F.epoch_Book_let at H
  refine fn_of Tryz.func44 Tryz.ntmps44 rfl rfl fun w0 => ?_
  refine tr_sub [(0, (.pointer p0)), (1, (.int .i64 p1))] ⟨rfl, rfl, trivial⟩ ?_
  refine tr_seq ?_
  refine tr_region ?_
  refine tr_p (y_move rfl) rfl rfl ?_
  refine tr_p (y_move rfl) rfl rfl ?_
  refine tr_e (e_call Tryz.call60 rfl (F.epoch_Book_held_ok H)) rfl rfl ?_
  rintro _ h1 ⟨r2, rfl, H⟩
  refine tr_p (y_not rfl) rfl rfl ?_
  refine tr_nil ?_
  refine tr_thenN ?_
  refine tr_cond rfl (fun g3 => ?_) (fun g3 => ?_)
  · replace H := H.1 g3
    refine tr_region ?_
    refine tr_p (y_move rfl) rfl rfl ?_
    obtain ⟨a4, e5, H⟩ := H
    refine tr_p (f_nn rfl e5) rfl rfl ?_
    refine tr_p (y_fa (off := 134) Tryz.runUnderlying62 fo_62_4 rfl) rfl rfl ?_
    obtain ⟨y6, k7, H⟩ := H
    refine tr_h (y_ld Tryz.isAgg49 rfl) k7 rfl rfl ?_
    refine tr_p (y_move rfl) rfl rfl ?_
    refine tr_e (f_mu rfl rfl rfl H) rfl rfl ?_
    rintro _ h8 ⟨rfl, H⟩
    refine tr_nil ?_
    exact tr_end0 rfl ⟨rfl, H⟩
  · replace H := H.2 g3
    refine tr_skip ?_
    exact tr_end0 rfl ⟨rfl, H⟩

/-- (*spate/epoch.Book).Release -/
def F.epoch_Book_Release (p0 : Option Addr) (p1 : Int) (p2 : Int) (h : H) (Q : Int → H → Prop) : Prop :=
  F.epoch_Book_guard p0 h fun r2 h1 =>
  fnV r2 fun f_1 fi_1 ca_1 =>
  F.epoch_is p1 h1 fun r5 h4 =>
  ((!r5) = true →
  dcall PP f_1 ((fi_1 ++ ([] : List Value).toArray) ++ ca_1) h4 fun h7 =>
  Q 1 h7) ∧
  ((!r5) = false →
  F.epoch_Book_has p0 p1 p2 h4 fun r9 h8 =>
  ((!r9) = true →
  dcall PP f_1 ((fi_1 ++ ([] : List Value).toArray) ++ ca_1) h8 fun h11 =>
  Q 33 h11) ∧
  ((!r9) = false →
  nn p0 fun a12 =>
  (0 ≤ (p1 : Int) ∧ p1 < 65) ∧
  ldM h8 (((a12.add 4).add ((p1 : Int).toNat * 2)).add 0) fun y15 =>
  RunS PP (Builtin.delete_ #[57, 3] 0 #[(.map y15), (.int .i64 p2)]) h8 fun u h17 => u = (.tuple #[]) ∧
  F.epoch_Book_let p0 p2 h17 fun h19 =>
  dcall PP f_1 ((fi_1 ++ ([] : List Value).toArray) ++ ca_1) h19 fun h20 =>
  Q 0 h20))
theorem F.epoch_Book_Release_ok {p0 : Option Addr} {p1 : Int} {p2 : Int} {h : H} {Q : Int → H → Prop} (H : F.epoch_Book_Release p0 p1 p2 h Q) : Fn PP 14 ([(.pointer p0), (.int .i64 p1), (.int .i64 p2)] : List Value).toArray h fun r h' => ∃ r0, r = (.int .i64 r0) ∧ Q r0 h' := by
  unfold F.epoch_Book_Release at H
  refine fn_ofM Tryz.func14 Tryz.ntmps14 rfl rfl fun w0 => ?_
  refine tr_sub [(0, (.pointer p0)), (1, (.int .i64 p1)), (2, (.int .i64 p2))] ⟨rfl, rfl, rfl, trivial⟩ ?_
  refine tr_seq ?_
  refine tr_region ?_
  refine tr_p (y_assign rfl) rfl rfl ?_
  refine tr_nil ?_
  refine tr_thenN ?_
  refine tr_seq ?_
  refine tr_region ?_
  refine tr_p (y_move rfl) rfl rfl ?_
  refine tr_e (e_call Tryz.call21 rfl (F.epoch_Book_guard_ok H)) rfl rfl ?_
  rintro r2 h1 ⟨_, rfl, H⟩
  obtain ⟨f_1, fi_1, ca_1, e3, H⟩ := H
  subst e3
  refine tr_defer rfl rfl rfl ?_
  refine tr_nil ?_
  refine tr_thenN ?_
  refine tr_seq ?_
  refine tr_block ?_
  refine tr_seq ?_
  refine tr_region ?_
  refine tr_p (y_move rfl) rfl rfl ?_
  refine tr_e (e_call Tryz.call39 rfl (F.epoch_is_ok H)) rfl rfl ?_
  rintro _ h4 ⟨r5, rfl, H⟩
  refine tr_p (y_not rfl) rfl rfl ?_
  refine tr_p (y_assign rfl) rfl rfl ?_
  refine tr_nil ?_
  refine tr_thenN ?_
  refine tr_cond rfl (fun g6 => ?_) (fun g6 => ?_)
  · replace H := H.1 g6
    refine tr_seq ?_
    refine tr_region ?_
    refine tr_p (y_assign rfl) rfl rfl ?_
    refine tr_nil ?_
    refine tr_thenN ?_
    refine tr_ret ?_
    refine tr_blockR ?_
    refine tr_thenR ?_
    refine tr_dcall H fun h7 H => ?_
    refine tr_pm0 ?_
    exact tr_ret1 rfl rfl ⟨_, rfl, H⟩
  · replace H := H.2 g6
    refine tr_seq ?_
    refine tr_region ?_
    refine tr_p (y_move rfl) rfl rfl ?_
    refine tr_p (y_move rfl) rfl rfl ?_
    refine tr_p (y_move rfl) rfl rfl ?_
    refine tr_e (e_call Tryz.call40 rfl (F.epoch_Book_has_ok H)) rfl rfl ?_
    rintro _ h8 ⟨r9, rfl, H⟩
    refine tr_p (y_not rfl) rfl rfl ?_
    refine tr_p (y_assign rfl) rfl rfl ?_
    refine tr_nil ?_
    refine tr_thenN ?_
    refine tr_cond rfl (fun g10 => ?_) (fun g10 => ?_)
    · replace H := H.1 g10
      refine tr_seq ?_
      refine tr_region ?_
      refine tr_p (y_assign rfl) rfl rfl ?_
      refine tr_nil ?_
      refine tr_thenN ?_
      refine tr_ret ?_
      refine tr_blockR ?_
      refine tr_thenR ?_
      refine tr_dcall H fun h11 H => ?_
      refine tr_pm0 ?_
      exact tr_ret1 rfl rfl ⟨_, rfl, H⟩
    · replace H := H.2 g10
      refine tr_skip ?_
      refine tr_blockN ?_
      refine tr_thenN ?_
      refine tr_seq ?_
      refine tr_region ?_
      refine tr_p (y_move rfl) rfl rfl ?_
      refine tr_p (y_move rfl) rfl rfl ?_
      obtain ⟨a12, e13, H⟩ := H
      refine tr_p (f_nn rfl e13) rfl rfl ?_
      refine tr_p (y_fa (off := 4) Tryz.runUnderlying62 fo_62_3 rfl) rfl rfl ?_
      obtain ⟨e14, H⟩ := H
      refine tr_p (f_idxArr Tryz.runUnderlying60 Tryz.sizeOf59 rfl rfl e14) rfl rfl ?_
      refine tr_p (y_fa (off := 0) Tryz.runUnderlying59 fo_59_0 rfl) rfl rfl ?_
      obtain ⟨y15, k16, H⟩ := H
      refine tr_h (y_ld Tryz.isAgg57 rfl) k16 rfl rfl ?_
      refine tr_p (y_move rfl) rfl rfl ?_
      refine tr_e (f_del rfl H) rfl rfl ?_
      rintro _ h17 ⟨rfl, H⟩
      refine tr_nil ?_
      refine tr_thenN ?_
      refine tr_seq ?_
      refine tr_region ?_
      refine tr_p (y_move rfl) rfl rfl ?_
      refine tr_p (y_move rfl) rfl rfl ?_
      refine tr_e (e_call Tryz.call44 rfl (F.epoch_Book_let_ok H)) rfl rfl ?_
      rintro _ h19 ⟨rfl, H⟩
      refine tr_nil ?_
      refine tr_thenN ?_
      refine tr_seq ?_
      refine tr_region ?_
      refine tr_p (y_assign rfl) rfl rfl ?_
      refine tr_nil ?_
      refine tr_thenN ?_
      refine tr_ret ?_
      refine tr_dcall H fun h20 H => ?_
      refine tr_pm0 ?_
      exact tr_ret1 rfl rfl ⟨_, rfl, H⟩

/-- (*spate/epoch.Book).Held -/
def F.epoch_Book_Held (p0 : Option Addr) (h : H) (Q : Sl → H → Prop) : Prop :=
  F.epoch_Book_guard p0 h fun r2 h1 =>
  fnV r2 fun f_1 fi_1 ca_1 =>
  F.epoch_Book_all p0 h1 fun r5 h4 =>
  dcall PP f_1 ((fi_1 ++ ([] : List Value).toArray) ++ ca_1) h4 fun h6 =>
  Q r5 h6
theorem F.epoch_Book_Held_ok {p0 : Option Addr} {h : H} {Q : Sl → H → Prop} (H : F.epoch_Book_Held p0 h Q) : Fn PP 17 ([(.pointer p0)] : List Value).toArray h fun r h' => ∃ r0, r = r0.enc ∧ Q r0 h' := by
  unfold F.epoch_Book_Held at H
  refine fn_ofM Tryz.func17 Tryz.ntmps17 rfl rfl fun w0 => ?_
  refine tr_sub [(0, (.pointer p0))] ⟨rfl, trivial⟩ ?_
  refine tr_seq ?_
  refine tr_region ?_
  refine tr_p (y_assign rfl) rfl rfl ?_
  refine tr_nil ?_
  refine tr_thenN ?_
  refine tr_seq ?_
  refine tr_region ?_
  refine tr_p (y_move rfl) rfl rfl ?_
  refine tr_e (e_call Tryz.call21 rfl (F.epoch_Book_guard_ok H)) rfl rfl ?_
  rintro r2 h1 ⟨_, rfl, H⟩
  obtain ⟨f_1, fi_1, ca_1, e3, H⟩ := H
  subst e3
  refine tr_defer rfl rfl rfl ?_
  refine tr_nil ?_
  refine tr_thenN ?_
  refine tr_seq ?_
  refine tr_region ?_
  refine tr_p (y_move rfl) rfl rfl ?_
  refine tr_e (e_call Tryz.call45 rfl (F.epoch_Book_all_ok H)) rfl rfl ?_
  rintro _ h4 ⟨r5, rfl, H⟩
  refine tr_p (y_assign rfl) rfl rfl ?_
  refine tr_nil ?_
  refine tr_thenN ?_
  refine tr_ret ?_
  refine tr_dcall H fun h6 H => ?_
  refine tr_pm0 ?_
  exact tr_ret1 rfl rfl ⟨_, rfl, H⟩

def F.maps_Keys_map_int_int_int_int_1.l1 (Q : H → Prop) : Nat → Value → Addr → H → Prop
  | 0, _, _, _ => False
  | q1 + 1, x0, x5, h =>
    RunS PP (Instr.next (.pointer (some x5)) false 0) h fun u h5 => ∃ (b6 : Bool) (t7 : Array Value), u = (.tuple (#[.bool b6] ++ t7)) ∧
    (b6 = true →
    RunS PP (Instr.entry (.pointer (some x5))) h5 fun u h9 => ∃ (r10 : Int) (r11 : Int), u = (.tuple #[(.int .i64 r10), (.int .i64 r11)]) ∧
    CV PP x0 [(.int .i64 r10)] h9 fun u h12 => ∃ (r13 : Bool), u = (.bool r13) ∧
    ((!r13) = true →
    Q h12) ∧
    ((!r13) = false →
    (F.maps_Keys_map_int_int_int_int_1.l1 Q q1) x0 x5 h12)) ∧
    (b6 = false →
    Q h5)
/-- maps.Keys[map[int]int,int,int]$1 -/
def F.maps_Keys_map_int_int_int_int_1 (p0 : Value) (p1 : Addr) (h : H) (Q : H → Prop) : Prop :=
  ldM h p1 fun y1 =>
  RunS PP (Instr.range 49 (.map y1)) h fun u h3 => ∃ a4 : Addr, u = (.pointer (some a4)) ∧
  ∃ m, F.maps_Keys_map_int_int_int_int_1.l1 Q m p0 a4 h3
theorem F.maps_Keys_map_int_int_int_int_1_ok {p0 : Value} {p1 : Addr} {h : H} {Q : H → Prop} (H : F.maps_Keys_map_int_int_int_int_1 p0 p1 h Q) : Fn PP 63 ([p0, (.pointer (some p1))] : List Value).toArray h fun r h' => r = .tuple #[] ∧ Q  h' := by
  unfold F.maps_Keys_map_int_int_int_int_1 at H
  refine fn_of Tryz.func63 Tryz.ntmps63 rfl rfl fun w0 => ?_
  refine tr_sub [(0, p0), (1, (.pointer (some p1)))] ⟨rfl, rfl, trivial⟩ ?_
  refine tr_seq ?_
  refine tr_region ?_
  obtain ⟨y1, k2, H⟩ := H
  refine tr_h (y_ld Tryz.isAgg49 rfl) k2 rfl rfl ?_
  refine tr_e (f_rg rfl H) rfl rfl ?_
  rintro _ h3 ⟨a4, rfl, H⟩
  refine tr_nil ?_
  refine tr_thenN ?_
  refine tr_block ?_
  obtain ⟨m15, H⟩ := H
  refine tr_sub [(0, p0), (5, (.pointer (some a4)))] ⟨rfl, rfl, trivial⟩ ?_
  refine tr_loop_j (fun m L' h => ∃ (x0 : Value) (x5 : Addr), L' = [(0, x0), (5, (.pointer (some x5)))] ∧ F.maps_Keys_map_int_int_int_int_1.l1 Q m x0 x5 h) ?_ ?_ m15 ⟨_, _, rfl, H⟩
  · rintro L' h ⟨_, _, _, H⟩; exact H
  · rintro q1 L' h ⟨x0, x5, rfl, H⟩
    unfold F.maps_Keys_map_int_int_int_int_1.l1 at H
    refine tr_seq ?_
    refine tr_region ?_
    refine tr_e (f_nx rfl H) rfl rfl ?_
    rintro _ h5 ⟨b6, t7, rfl, H⟩
    refine tr_p (y_ext0 (t := t7) rfl) rfl rfl ?_
    refine tr_nil ?_
    refine tr_thenN ?_
    refine tr_seq ?_
    refine tr_cond rfl (fun g8 => ?_) (fun g8 => ?_)
    · replace H := H.1 g8
      refine tr_skip ?_
      refine tr_thenN ?_
      refine tr_block ?_
      refine tr_seq ?_
      refine tr_region ?_
      refine tr_e (f_en rfl H) rfl rfl ?_
      rintro _ h9 ⟨r10, r11, rfl, H⟩
      refine tr_p (y_ext rfl rfl) rfl rfl ?_
      refine tr_p (y_assign rfl) rfl rfl ?_
      refine tr_nil ?_
      refine tr_thenN ?_
      refine tr_seq ?_
      refine tr_region ?_
      refine tr_p (y_move rfl) rfl rfl ?_
      refine tr_p (y_move rfl) rfl rfl ?_
      refine tr_e (e_callD rfl rfl H) rfl rfl ?_
      rintro _ h12 ⟨r13, rfl, H⟩
      refine tr_p (y_not rfl) rfl rfl ?_
      refine tr_nil ?_
      refine tr_thenN ?_
      refine tr_cond rfl (fun g14 => ?_) (fun g14 => ?_)
      · replace H := H.1 g14
        refine tr_ret ?_
        refine tr_blockR ?_
        refine tr_thenR ?_
        refine tr_blockR ?_
        exact tr_ret0 rfl ⟨rfl, H⟩
      · replace H := H.2 g14
        refine tr_skip ?_
        refine tr_blockN ?_
        refine tr_thenN ?_
        exact tr_join [(0, x0), (5, (.pointer (some x5)))] ⟨rfl, rfl, trivial⟩ ⟨_, _, rfl, H⟩
    · replace H := H.2 g8
      refine tr_exit ?_
      refine tr_thenE ?_
      refine tr_thenE ?_
      refine tr_hit ?_
      exact tr_end0 rfl ⟨rfl, H⟩

/-- maps.Keys[map[int]int,int,int] -/
def F.maps_Keys_map_int_int_int_int (p0 : Option Nat) (h : H) (Q : Value → H → Prop) : Prop :=
  new h #[(.map p0)] ty_49 fun a2 h1 =>
  Q (.func (.func 63) #[] #[(.pointer (some a2))]) h1
theorem F.maps_Keys_map_int_int_int_int_ok {p0 : Option Nat} {h : H} {Q : Value → H → Prop} (H : F.maps_Keys_map_int_int_int_int p0 h Q) : Fn PP 47 ([(.map p0)] : List Value).toArray h fun r h' => ∃ r0, r = r0 ∧ Q r0 h' := by
  unfold F.maps_Keys_map_int_int_int_int at H
  refine fn_of Tryz.func47 Tryz.ntmps47 rfl rfl fun w0 => ?_
  refine tr_sub [(0, (.map p0))] ⟨rfl, trivial⟩ ?_
  refine tr_seq ?_
  refine tr_region ?_
  refine tr_e (f_box (cs := #[(.map p0)]) rfl rfl H) rfl rfl ?_
  rintro _ h1 ⟨a2, rfl, H⟩
  refine tr_p (y_assign rfl) rfl rfl ?_
  refine tr_nil ?_
  refine tr_thenN ?_
  refine tr_seq ?_
  refine tr_region ?_
  refine tr_p (y_fn rfl rfl) rfl rfl ?_
  refine tr_p (y_assign rfl) rfl rfl ?_
  refine tr_nil ?_
  refine tr_thenN ?_
  refine tr_ret ?_
  exact tr_ret1 rfl rfl ⟨_, rfl, H⟩

/-- (*spate/epoch.Book).Dying -/
def F.epoch_Book_Dying (p0 : Option Addr) (h : H) (Q : Sl → H → Prop) : Prop :=
  F.epoch_Book_guard p0 h fun r2 h1 =>
  fnV r2 fun f_1 fi_1 ca_1 =>
  nn p0 fun a4 =>
  ldM h1 (a4.add 134) fun y6 =>
  F.maps_Keys_map_int_int_int_int y6 h1 fun r9 h8 =>
  F.slices_Sorted_int r9 h8 fun r11 h10 =>
  dcall PP f_1 ((fi_1 ++ ([] : List Value).toArray) ++ ca_1) h10 fun h12 =>
  Q r11 h12
theorem F.epoch_Book_Dying_ok {p0 : Option Addr} {h : H} {Q : Sl → H → Prop} (H : F.epoch_Book_Dying p0 h Q) : Fn PP 16 ([(.pointer p0)] : List Value).toArray h fun r h' => ∃ r0, r = r0.enc ∧ Q r0 h' := by
  unfold F.epoch_Book_Dying at H
  refine fn_ofM Tryz.func16 Tryz.ntmps16 rfl rfl fun w0 => ?_
  refine tr_sub [(0, (.pointer p0))] ⟨rfl, trivial⟩ ?_
  refine tr_seq ?_
  refine tr_region ?_
  refine tr_p (y_assign rfl) rfl rfl ?_
  refine tr_nil ?_
  refine tr_thenN ?_
  refine tr_seq ?_
  refine tr_region ?_
  refine tr_p (y_move rfl) rfl rfl ?_
  refine tr_e (e_call Tryz.call21 rfl (F.epoch_Book_guard_ok H)) rfl rfl ?_
  rintro r2 h1 ⟨_, rfl, H⟩
  obtain ⟨f_1, fi_1, ca_1, e3, H⟩ := H
  subst e3
  refine tr_defer rfl rfl rfl ?_
  refine tr_nil ?_
  refine tr_thenN ?_
  refine tr_seq ?_
  refine tr_region ?_
  refine tr_p (y_move rfl) rfl rfl ?_
  obtain ⟨a4, e5, H⟩ := H
  refine tr_p (f_nn rfl e5) rfl rfl ?_
  refine tr_p (y_fa (off := 134) Tryz.runUnderlying62 fo_62_4 rfl) rfl rfl ?_
  obtain ⟨y6, k7, H⟩ := H
  refine tr_h (y_ld Tryz.isAgg49 rfl) k7 rfl rfl ?_
  refine tr_e (e_call Tryz.call47 rfl (F.maps_Keys_map_int_int_int_int_ok H)) rfl rfl ?_
  rintro r9 h8 ⟨_, rfl, H⟩
  refine tr_e (e_call Tryz.call46 rfl (F.slices_Sorted_int_ok H)) rfl rfl ?_
  rintro _ h10 ⟨r11, rfl, H⟩
  refine tr_p (y_assign rfl) rfl rfl ?_
  refine tr_nil ?_
  refine tr_thenN ?_
  refine tr_ret ?_
  refine tr_dcall H fun h12 H => ?_
  refine tr_pm0 ?_
  exact tr_ret1 rfl rfl ⟨_, rfl, H⟩

/-- (*spate/epoch.Book).Join -/
def F.epoch_Book_Join (p0 : Option Addr) (p1 : Int) (p2 : Int) (h : H) (Q : Int → H → Prop) : Prop :=
  F.epoch_Book_guard p0 h fun r2 h1 =>
  fnV r2 fun f_1 fi_1 ca_1 =>
  F.epoch_is p1 h1 fun r5 h4 =>
  ((!r5) = true →
  dcall PP f_1 ((fi_1 ++ ([] : List Value).toArray) ++ ca_1) h4 fun h7 =>
  Q 1 h7) ∧
  ((!r5) = false →
  F.epoch_Book_pinned p0 p2 h4 fun r9 h8 =>
  ((!r9) = true →
  dcall PP f_1 ((fi_1 ++ ([] : List Value).toArray) ++ ca_1) h8 fun h11 =>
  Q 33 h11) ∧
  ((!r9) = false →
  F.epoch_Book_has p0 p1 p2 h8 fun r13 h12 =>
  (r13 = true →
  dcall PP f_1 ((fi_1 ++ ([] : List Value).toArray) ++ ca_1) h12 fun h15 =>
  Q 0 h15) ∧
  (r13 = false →
  nn p0 fun a16 =>
  (0 ≤ (p1 : Int) ∧ p1 < 65) ∧
  ldM h12 (((a16.add 4).add ((p1 : Int).toNat * 2)).add 0) fun y19 =>
  nn p0 fun a21 =>
  ldI .i64 h12 (a21.add 2) fun y23 =>
  RunS PP (Builtin.len_ #[57] 3 #[(.map y19)]) h12 fun u h25 => ∃ s26 : Int, u = (.int .i64 s26) ∧
  cellH h25 (a21.add 2) = some (.int .i64 y23) ∧
  (((s26 == y23)) = true →
  dcall PP f_1 ((fi_1 ++ ([] : List Value).toArray) ++ ca_1) h25 fun h29 =>
  Q 34 h29) ∧
  (((s26 == y23)) = false →
  nn p0 fun a30 =>
  (0 ≤ (p1 : Int) ∧ p1 < 65) ∧
  ldM h25 (((a30.add 4).add ((p1 : Int).toNat * 2)).add 0) fun y33 =>
  RunS PP (Instr.mapUpdate 57 (.map y33) (.int .i64 p2) (.agg (⟨⟩ : S_sync_noCopy).cells.toArray)) h25 fun _ h35 =>
  dcall PP f_1 ((fi_1 ++ ([] : List Value).toArray) ++ ca_1) h35 fun h36 =>
  Q 0 h36))))
theorem F.epoch_Book_Join_ok {p0 : Option Addr} {p1 : Int} {p2 : Int} {h : H} {Q : Int → H → Prop} (H : F.epoch_Book_Join p0 p1 p2 h Q) : Fn PP 13 ([(.pointer p0), (.int .i64 p1), (.int .i64 p2)] : List Value).toArray h fun r h' => ∃ r0, r = (.int .i64 r0) ∧ Q r0 h' := by
  unfold F.epoch_Book_Join at H
  refine fn_ofM Tryz.func13 Tryz.ntmps13 rfl rfl fun w0 => ?_
  refine tr_sub [(0, (.pointer p0)), (1, (.int .i64 p1)), (2, (.int .i64 p2))] ⟨rfl, rfl, rfl, trivial⟩ ?_
  refine tr_seq ?_
  refine tr_region ?_
  refine tr_p (y_assign rfl) rfl rfl ?_
  refine tr_nil ?_
  refine tr_thenN ?_
  refine tr_seq ?_
  refine tr_region ?_
  refine tr_p (y_move rfl) rfl rfl ?_
  refine tr_e (e_call Tryz.call21 rfl (F.epoch_Book_guard_ok H)) rfl rfl ?_
  rintro r2 h1 ⟨_, rfl, H⟩
  obtain ⟨f_1, fi_1, ca_1, e3, H⟩ := H
  subst e3
  refine tr_defer rfl rfl rfl ?_
  refine tr_nil ?_
  refine tr_thenN ?_
  refine tr_seq ?_
  refine tr_block ?_
  refine tr_seq ?_
  refine tr_region ?_
  refine tr_p (y_move rfl) rfl rfl ?_
  refine tr_e (e_call Tryz.call39 rfl (F.epoch_is_ok H)) rfl rfl ?_
  rintro _ h4 ⟨r5, rfl, H⟩
  refine tr_p (y_not rfl) rfl rfl ?_
  refine tr_p (y_assign rfl) rfl rfl ?_
  refine tr_nil ?_
  refine tr_thenN ?_
  refine tr_cond rfl (fun g6 => ?_) (fun g6 => ?_)
  · replace H := H.1 g6
    refine tr_seq ?_
    refine tr_region ?_
    refine tr_p (y_assign rfl) rfl rfl ?_
    refine tr_nil ?_
    refine tr_thenN ?_
    refine tr_ret ?_
    refine tr_blockR ?_
    refine tr_thenR ?_
    refine tr_dcall H fun h7 H => ?_
    refine tr_pm0 ?_
    exact tr_ret1 rfl rfl ⟨_, rfl, H⟩
  · replace H := H.2 g6
    refine tr_seq ?_
    refine tr_region ?_
    refine tr_p (y_move rfl) rfl rfl ?_
    refine tr_p (y_move rfl) rfl rfl ?_
    refine tr_e (e_call Tryz.call43 rfl (F.epoch_Book_pinned_ok H)) rfl rfl ?_
    rintro _ h8 ⟨r9, rfl, H⟩
    refine tr_p (y_not rfl) rfl rfl ?_
    refine tr_p (y_assign rfl) rfl rfl ?_
    refine tr_nil ?_
    refine tr_thenN ?_
    refine tr_cond rfl (fun g10 => ?_) (fun g10 => ?_)
    · replace H := H.1 g10
      refine tr_seq ?_
      refine tr_region ?_
      refine tr_p (y_assign rfl) rfl rfl ?_
      refine tr_nil ?_
      refine tr_thenN ?_
      refine tr_ret ?_
      refine tr_blockR ?_
      refine tr_thenR ?_
      refine tr_dcall H fun h11 H => ?_
      refine tr_pm0 ?_
      exact tr_ret1 rfl rfl ⟨_, rfl, H⟩
    · replace H := H.2 g10
      refine tr_seq ?_
      refine tr_region ?_
      refine tr_p (y_move rfl) rfl rfl ?_
      refine tr_p (y_move rfl) rfl rfl ?_
      refine tr_p (y_move rfl) rfl rfl ?_
      refine tr_e (e_call Tryz.call40 rfl (F.epoch_Book_has_ok H)) rfl rfl ?_
      rintro _ h12 ⟨r13, rfl, H⟩
      refine tr_p (y_assign rfl) rfl rfl ?_
      refine tr_nil ?_
      refine tr_thenN ?_
      refine tr_cond rfl (fun g14 => ?_) (fun g14 => ?_)
      · replace H := H.1 g14
        refine tr_seq ?_
        refine tr_region ?_
        refine tr_p (y_assign rfl) rfl rfl ?_
        refine tr_nil ?_
        refine tr_thenN ?_
        refine tr_ret ?_
        refine tr_blockR ?_
        refine tr_thenR ?_
        refine tr_dcall H fun h15 H => ?_
        refine tr_pm0 ?_
        exact tr_ret1 rfl rfl ⟨_, rfl, H⟩
      · replace H := H.2 g14
        refine tr_seq ?_
        refine tr_draw mixed [0, 0, 1, 5, 15, 31, 63, 127, 0, 256, 768, 1792, 4095, 8191] (by kernel_rfl) ?_
        refine g_p 0 1 rfl (by kernel_rfl) (y_move rfl) rfl rfl ?_
        refine g_p 1 3 rfl (by kernel_rfl) (y_move rfl) rfl rfl ?_
        obtain ⟨a16, e17, H⟩ := H
        refine g_p 2 7 rfl (by kernel_rfl) (f_nn rfl e17) rfl rfl ?_
        refine g_p 3 15 rfl (by kernel_rfl) (y_fa (off := 4) Tryz.runUnderlying62 fo_62_3 rfl) rfl rfl ?_
        obtain ⟨e18, H⟩ := H
        refine g_p 4 31 rfl (by kernel_rfl) (f_idxArr Tryz.runUnderlying60 Tryz.sizeOf59 rfl rfl e18) rfl rfl ?_
        refine g_p 5 63 rfl (by kernel_rfl) (y_fa (off := 0) Tryz.runUnderlying59 fo_59_0 rfl) rfl rfl ?_
        obtain ⟨y19, k20, H⟩ := H
        refine g_h 6 127 rfl (by kernel_rfl) (y_ld Tryz.isAgg57 rfl) k20 rfl rfl ?_
        refine g_p 8 383 rfl (by kernel_rfl) (y_move rfl) rfl rfl ?_
        obtain ⟨a21, e22, H⟩ := H
        refine g_p 9 895 rfl (by kernel_rfl) (f_nn rfl e22) rfl rfl ?_
        refine g_p 10 1919 rfl (by kernel_rfl) (y_fa (off := 2) Tryz.runUnderlying62 fo_62_1 rfl) rfl rfl ?_
        obtain ⟨y23, k24, H⟩ := H
        refine g_h 11 3967 rfl (by kernel_rfl) (y_ld Tryz.isAgg3 rfl) k24 rfl rfl ?_
        refine g_e 7 4095 [(11, fun h => cellH h (a21.add 2) = some (.int .i64 y23))] (by kernel_rfl) rfl (by kernel_rfl) (f_lenM rfl H) rfl rfl ?_
        rintro _ h25 ⟨s26, rfl, H⟩
        obtain ⟨k27, H⟩ := H
        refine ⟨And.intro k27 trivial, ?_⟩
        refine g_p 12 8191 rfl (by kernel_rfl) (y_eql rfl rfl) rfl rfl ?_
        refine g_p 13 16383 rfl (by kernel_rfl) (y_assign rfl) rfl rfl ?_
        refine g_d (by kernel_rfl) ?_
        refine tr_thenN ?_
        refine tr_cond rfl (fun g28 => ?_) (fun g28 => ?_)
        · replace H := H.1 g28
          refine tr_seq ?_
          refine tr_region ?_
          refine tr_p (y_assign rfl) rfl rfl ?_
          refine tr_nil ?_
          refine tr_thenN ?_
          refine tr_ret ?_
          refine tr_blockR ?_
          refine tr_thenR ?_
          refine tr_dcall H fun h29 H => ?_
          refine tr_pm0 ?_
          exact tr_ret1 rfl rfl ⟨_, rfl, H⟩
        · replace H := H.2 g28
          refine tr_skip ?_
          refine tr_blockN ?_
          refine tr_thenN ?_
          refine tr_seq ?_
          refine tr_region ?_
          refine tr_p (y_move rfl) rfl rfl ?_
          refine tr_p (y_move rfl) rfl rfl ?_
          obtain ⟨a30, e31, H⟩ := H
          refine tr_p (f_nn rfl e31) rfl rfl ?_
          refine tr_p (y_fa (off := 4) Tryz.runUnderlying62 fo_62_3 rfl) rfl rfl ?_
          obtain ⟨e32, H⟩ := H
          refine tr_p (f_idxArr Tryz.runUnderlying60 Tryz.sizeOf59 rfl rfl e32) rfl rfl ?_
          refine tr_p (y_fa (off := 0) Tryz.runUnderlying59 fo_59_0 rfl) rfl rfl ?_
          obtain ⟨y33, k34, H⟩ := H
          refine tr_h (y_ld Tryz.isAgg57 rfl) k34 rfl rfl ?_
          refine tr_p (y_move rfl) rfl rfl ?_
          refine tr_p (f_build rfl (bd_50_ )) rfl rfl ?_
          refine tr_e (f_mu rfl rfl rfl H) rfl rfl ?_
          rintro _ h35 ⟨rfl, H⟩
          refine tr_nil ?_
          refine tr_thenN ?_
          refine tr_seq ?_
          refine tr_region ?_
          refine tr_p (y_assign rfl) rfl rfl ?_
          refine tr_nil ?_
          refine tr_thenN ?_
          refine tr_ret ?_
          refine tr_dcall H fun h36 H => ?_
          refine tr_pm0 ?_
          exact tr_ret1 rfl rfl ⟨_, rfl, H⟩

def F.epoch_Book_Begin.l1 (Q : Int → H → Prop) (f_1 : FuncId) (fi_1 ca_1 : Array Value) : Nat → (Option Addr) → Addr → H → Prop
  | 0, _, _, _ => False
  | q1 + 1, x0, x17, h =>
    RunS PP (Instr.next (.pointer (some x17)) false 0) h fun u h19 => ∃ (b20 : Bool) (t21 : Array Value), u = (.tuple (#[.bool b20] ++ t21)) ∧
    (b20 = true →
    RunS PP (Instr.entry (.pointer (some x17))) h19 fun u h23 => ∃ (r24 : Int) (r25 : Int), u = (.tuple #[(.int .i64 r24), (.int .i64 r25)]) ∧
    nn x0 fun a26 =>
    ldM h23 (a26.add 134) fun y28 =>
    RunS PP (Instr.mapUpdate 49 (.map y28) (.int .i64 r24) (.int .i64 1)) h23 fun _ h30 =>
    (F.epoch_Book_Begin.l1 Q f_1 fi_1 ca_1 q1) x0 x17 h30) ∧
    (b20 = false →
    dcall PP f_1 ((fi_1 ++ ([] : List Value).toArray) ++ ca_1) h19 fun h31 =>
    Q 0 h31)
/-- (*spate/epoch.Book).Begin -/
def F.epoch_Book_Begin (p0 : Option Addr) (h : H) (Q : Int → H → Prop) : Prop :=
  F.epoch_Book_guard p0 h fun r2 h1 =>
  fnV r2 fun f_1 fi_1 ca_1 =>
  nn p0 fun a4 =>
  ldB h1 (a4.add 135) fun y6 =>
  (y6 = true →
  dcall PP f_1 ((fi_1 ++ ([] : List Value).toArray) ++ ca_1) h1 fun h9 =>
  Q 43 h9) ∧
  (y6 = false →
  nn p0 fun a10 =>
  stH h1 (a10.add 135) [(.bool true)] fun h12 =>
  nn p0 fun a13 =>
  ldM h12 (a13.add 134) fun y15 =>
  RunS PP (Instr.range 49 (.map y15)) h12 fun u h17 => ∃ a18 : Addr, u = (.pointer (some a18)) ∧
  ∃ m, F.epoch_Book_Begin.l1 Q f_1 fi_1 ca_1 m p0 a18 h17)
theorem F.epoch_Book_Begin_ok {p0 : Option Addr} {h : H} {Q : Int → H → Prop} (H : F.epoch_Book_Begin p0 h Q) : Fn PP 18 ([(.pointer p0)] : List Value).toArray h fun r h' => ∃ r0, r = (.int .i64 r0) ∧ Q r0 h' := by
  unfold F.epoch_Book_Begin at H
  refine fn_ofM Tryz.func18 Tryz.ntmps18 rfl rfl fun w0 => ?_
  refine tr_sub [(0, (.pointer p0))] ⟨rfl, trivial⟩ ?_
  refine tr_seq ?_
  refine tr_region ?_
  refine tr_p (y_assign rfl) rfl rfl ?_
  refine tr_nil ?_
  refine tr_thenN ?_
  refine tr_seq ?_
  refine tr_region ?_
  refine tr_p (y_move rfl) rfl rfl ?_
  refine tr_e (e_call Tryz.call21 rfl (F.epoch_Book_guard_ok H)) rfl rfl ?_
  rintro r2 h1 ⟨_, rfl, H⟩
  obtain ⟨f_1, fi_1, ca_1, e3, H⟩ := H
  subst e3
  refine tr_defer rfl rfl rfl ?_
  refine tr_nil ?_
  refine tr_thenN ?_
  refine tr_seq ?_
  refine tr_seq ?_
  refine tr_region ?_
  refine tr_p (y_move rfl) rfl rfl ?_
  obtain ⟨a4, e5, H⟩ := H
  refine tr_p (f_nn rfl e5) rfl rfl ?_
  refine tr_p (y_fa (off := 135) Tryz.runUnderlying62 fo_62_5 rfl) rfl rfl ?_
  obtain ⟨y6, k7, H⟩ := H
  refine tr_h (y_ld Tryz.isAgg4 rfl) k7 rfl rfl ?_
  refine tr_nil ?_
  refine tr_thenN ?_
  refine tr_cond rfl (fun g8 => ?_) (fun g8 => ?_)
  · replace H := H.1 g8
    refine tr_seq ?_
    refine tr_region ?_
    refine tr_p (y_assign rfl) rfl rfl ?_
    refine tr_nil ?_
    refine tr_thenN ?_
    refine tr_ret ?_
    refine tr_thenR ?_
    refine tr_dcall H fun h9 H => ?_
    refine tr_pm0 ?_
    exact tr_ret1 rfl rfl ⟨_, rfl, H⟩
  · replace H := H.2 g8
    refine tr_skip ?_
    refine tr_thenN ?_
    refine tr_seq ?_
    refine tr_region ?_
    refine tr_p (y_move rfl) rfl rfl ?_
    obtain ⟨a10, e11, H⟩ := H
    refine tr_p (f_nn rfl e11) rfl rfl ?_
    refine tr_p (y_fa (off := 135) Tryz.runUnderlying62 fo_62_5 rfl) rfl rfl ?_
    refine tr_e (f_store (vs := [(.bool true)]) Tryz.sizeOf4 rfl rfl rfl rfl (one1 rfl) H) rfl rfl ?_
    rintro _ h12 ⟨rfl, H⟩
    refine tr_nil ?_
    refine tr_thenN ?_
    refine tr_seq ?_
    refine tr_seq ?_
    refine tr_region ?_
    refine tr_p (y_move rfl) rfl rfl ?_
    obtain ⟨a13, e14, H⟩ := H
    refine tr_p (f_nn rfl e14) rfl rfl ?_
    refine tr_p (y_fa (off := 134) Tryz.runUnderlying62 fo_62_4 rfl) rfl rfl ?_
    obtain ⟨y15, k16, H⟩ := H
    refine tr_h (y_ld Tryz.isAgg49 rfl) k16 rfl rfl ?_
    refine tr_e (f_rg rfl H) rfl rfl ?_
    rintro _ h17 ⟨a18, rfl, H⟩
    refine tr_nil ?_
    refine tr_thenN ?_
    refine tr_block ?_
    obtain ⟨m32, H⟩ := H
    refine tr_sub [(0, (.pointer p0)), (17, (.pointer (some a18)))] ⟨rfl, rfl, trivial⟩ ?_
    refine tr_loop_j (fun m L' h => ∃ (x0 : Option Addr) (x17 : Addr), L' = [(0, (.pointer x0)), (17, (.pointer (some x17)))] ∧ F.epoch_Book_Begin.l1 Q f_1 fi_1 ca_1 m x0 x17 h) ?_ ?_ m32 ⟨_, _, rfl, H⟩
    · rintro L' h ⟨_, _, _, H⟩; exact H
    · rintro q1 L' h ⟨x0, x17, rfl, H⟩
      unfold F.epoch_Book_Begin.l1 at H
      refine tr_seq ?_
      refine tr_region ?_
      refine tr_e (f_nx rfl H) rfl rfl ?_
      rintro _ h19 ⟨b20, t21, rfl, H⟩
      refine tr_p (y_ext0 (t := t21) rfl) rfl rfl ?_
      refine tr_nil ?_
      refine tr_thenN ?_
      refine tr_seq ?_
      refine tr_cond rfl (fun g22 => ?_) (fun g22 => ?_)
      · replace H := H.1 g22
        refine tr_skip ?_
        refine tr_thenN ?_
        refine tr_block ?_
        refine tr_seq ?_
        refine tr_region ?_
        refine tr_e (f_en rfl H) rfl rfl ?_
        rintro _ h23 ⟨r24, r25, rfl, H⟩
        refine tr_p (y_ext rfl rfl) rfl rfl ?_
        refine tr_p (y_assign rfl) rfl rfl ?_
        refine tr_nil ?_
        refine tr_thenN ?_
        refine tr_region ?_
        refine tr_p (y_move rfl) rfl rfl ?_
        obtain ⟨a26, e27, H⟩ := H
        refine tr_p (f_nn rfl e27) rfl rfl ?_
        refine tr_p (y_fa (off := 134) Tryz.runUnderlying62 fo_62_4 rfl) rfl rfl ?_
        obtain ⟨y28, k29, H⟩ := H
        refine tr_h (y_ld Tryz.isAgg49 rfl) k29 rfl rfl ?_
        refine tr_p (y_move rfl) rfl rfl ?_
        refine tr_e (f_mu rfl rfl rfl H) rfl rfl ?_
        rintro _ h30 ⟨rfl, H⟩
        refine tr_nil ?_
        refine tr_blockN ?_
        refine tr_thenN ?_
        exact tr_join [(0, (.pointer x0)), (17, (.pointer (some x17)))] ⟨rfl, rfl, trivial⟩ ⟨_, _, rfl, H⟩
      · replace H := H.2 g22
        refine tr_exit ?_
        refine tr_thenE ?_
        refine tr_thenE ?_
        refine tr_hit ?_
        refine tr_thenN ?_
        refine tr_seq ?_
        refine tr_region ?_
        refine tr_p (y_assign rfl) rfl rfl ?_
        refine tr_nil ?_
        refine tr_thenN ?_
        refine tr_ret ?_
        refine tr_dcall H fun h31 H => ?_
        refine tr_pm0 ?_
        exact tr_ret1 rfl rfl ⟨_, rfl, H⟩

/-- (*spate/epoch.Book).Holds -/
def F.epoch_Book_Holds (p0 : Option Addr) (p1 : Int) (p2 : Int) (h : H) (Q : Bool → H → Prop) : Prop :=
  F.epoch_Book_guard p0 h fun r2 h1 =>
  fnV r2 fun f_1 fi_1 ca_1 =>
  F.epoch_is p1 h1 fun r5 h4 =>
  (r5 = true →
  F.epoch_Book_has p0 p1 p2 h4 fun r8 h7 =>
  dcall PP f_1 ((fi_1 ++ ([] : List Value).toArray) ++ ca_1) h7 fun h9 =>
  Q r8 h9) ∧
  (r5 = false →
  dcall PP f_1 ((fi_1 ++ ([] : List Value).toArray) ++ ca_1) h4 fun h10 =>
  Q false h10)
theorem F.epoch_Book_Holds_ok {p0 : Option Addr} {p1 : Int} {p2 : Int} {h : H} {Q : Bool → H → Prop} (H : F.epoch_Book_Holds p0 p1 p2 h Q) : Fn PP 10 ([(.pointer p0), (.int .i64 p1), (.int .i64 p2)] : List Value).toArray h fun r h' => ∃ r0, r = (.bool r0) ∧ Q r0 h' := by
  unfold F.epoch_Book_Holds at H
  refine fn_ofM Tryz.func10 Tryz.ntmps10 rfl rfl fun w0 => ?_
  refine tr_sub [(0, (.pointer p0)), (1, (.int .i64 p1)), (2, (.int .i64 p2))] ⟨rfl, rfl, rfl, trivial⟩ ?_
  refine tr_seq ?_
  refine tr_region ?_
  refine tr_p (y_assign rfl) rfl rfl ?_
  refine tr_nil ?_
  refine tr_thenN ?_
  refine tr_seq ?_
  refine tr_region ?_
  refine tr_p (y_move rfl) rfl rfl ?_
  refine tr_e (e_call Tryz.call21 rfl (F.epoch_Book_guard_ok H)) rfl rfl ?_
  rintro r2 h1 ⟨_, rfl, H⟩
  obtain ⟨f_1, fi_1, ca_1, e3, H⟩ := H
  subst e3
  refine tr_defer rfl rfl rfl ?_
  refine tr_nil ?_
  refine tr_thenN ?_
  refine tr_seq ?_
  refine tr_region ?_
  refine tr_p (y_move rfl) rfl rfl ?_
  refine tr_e (e_call Tryz.call39 rfl (F.epoch_is_ok H)) rfl rfl ?_
  rintro _ h4 ⟨r5, rfl, H⟩
  refine tr_p (y_move rfl) rfl rfl ?_
  refine tr_split (t := 11) rfl (fun g6 => ?_) (fun g6 => ?_)
  · replace H := H.1 g6
    refine tr_p (y_move rfl) rfl rfl ?_
    refine tr_p (y_move rfl) rfl rfl ?_
    refine tr_p (y_move rfl) rfl rfl ?_
    refine tr_e (e_call Tryz.call40 rfl (F.epoch_Book_has_ok H)) rfl rfl ?_
    rintro _ h7 ⟨r8, rfl, H⟩
    refine tr_p (y_pick_t rfl rfl) rfl rfl ?_
    refine tr_p (y_assign rfl) rfl rfl ?_
    refine tr_nil ?_
    refine tr_thenN ?_
    refine tr_ret ?_
    refine tr_dcall H fun h9 H => ?_
    refine tr_pm0 ?_
    exact tr_ret1 rfl rfl ⟨_, rfl, H⟩
  · replace H := H.2 g6
    refine tr_s rfl rfl ?_
    refine tr_s rfl rfl ?_
    refine tr_s rfl rfl ?_
    refine tr_s rfl rfl ?_
    refine tr_p (y_pick_f rfl rfl) rfl rfl ?_
    refine tr_p (y_assign rfl) rfl rfl ?_
    refine tr_nil ?_
    refine tr_thenN ?_
    refine tr_ret ?_
    refine tr_dcall H fun h10 H => ?_
    refine tr_pm0 ?_
    exact tr_ret1 rfl rfl ⟨_, rfl, H⟩

def F.spatelaw9_known.j3 (Q : Bool → H → Prop) (x1 : Option Addr) (x6 : Bool) (h : H) : Prop :=
  F.epoch_Book_End x1 h fun r11 r12 h10 =>
  (x6 = true →
  (((r11 == 1)) = true →
  (((r12 == 0)) = true →
  F.epoch_Book_Live x1 h10 fun r17 h16 =>
  (((r17 == 0)) = true →
  F.epoch_Book_Now x1 h16 fun r20 h19 =>
  Q ((r20 == 2)) h19) ∧
  (((r17 == 0)) = false →
  Q false h16)) ∧
  (((r12 == 0)) = false →
  Q false h10)) ∧
  (((r11 == 1)) = false →
  Q false h10)) ∧
  (x6 = false →
  Q false h10)
def F.spatelaw9_known.j2 (Q : Bool → H → Prop) (x1 : Option Addr) (x6 : Bool) (h : H) : Prop :=
  (x6 = true →
  F.epoch_Book_Release x1 2 1 h fun r23 h22 =>
  (((r23 == 0)) = true →
  F.epoch_Book_Held x1 h22 fun r26 h25 =>
  ((((r26.len : Int) == 0)) = true →
  F.epoch_Book_Dying x1 h25 fun r29 h28 =>
  ((((r29.len : Int) == 1)) = true →
  F.epoch_Book_Join x1 1 1 h28 fun r32 h31 =>
  (((r32 == 33)) = true →
  F.epoch_Book_Begin x1 h31 fun r35 h34 =>
  F.spatelaw9_known.j3 Q x1 ((r35 == 0)) h34) ∧
  (((r32 == 33)) = false →
  F.spatelaw9_known.j3 Q x1 false h31)) ∧
  ((((r29.len : Int) == 1)) = false →
  F.spatelaw9_known.j3 Q x1 false h28)) ∧
  ((((r26.len : Int) == 0)) = false →
  F.spatelaw9_known.j3 Q x1 false h25)) ∧
  (((r23 == 0)) = false →
  F.spatelaw9_known.j3 Q x1 false h22)) ∧
  (x6 = false →
  F.spatelaw9_known.j3 Q x1 false h)
def F.spatelaw9_known.j1 (Q : Bool → H → Prop) (x1 : Option Addr) (h : H) : Prop :=
  F.epoch_Book_Seal x1 1 h fun r8 r9 h7 =>
  (((r8 == 1)) = true →
  (((r9 == 0)) = true →
  F.epoch_Book_Join x1 2 1 h7 fun r39 h38 =>
  (((r39 == 0)) = true →
  F.epoch_Book_Release x1 1 1 h38 fun r42 h41 =>
  (((r42 == 0)) = true →
  F.epoch_Book_Holds x1 2 1 h41 fun r45 h44 =>
  (r45 = true →
  F.epoch_Book_Live x1 h44 fun r48 h47 =>
  (((r48 == 1)) = true →
  F.epoch_Book_Dying x1 h47 fun r51 h50 =>
  F.spatelaw9_known.j2 Q x1 (((r51.len : Int) == 0)) h50) ∧
  (((r48 == 1)) = false →
  F.spatelaw9_known.j2 Q x1 false h47)) ∧
  (r45 = false →
  F.spatelaw9_known.j2 Q x1 false h44)) ∧
  (((r42 == 0)) = false →
  F.spatelaw9_known.j2 Q x1 false h41)) ∧
  (((r39 == 0)) = false →
  F.spatelaw9_known.j2 Q x1 false h38)) ∧
  (((r9 == 0)) = false →
  F.spatelaw9_known.j2 Q x1 false h7)) ∧
  (((r8 == 1)) = false →
  F.spatelaw9_known.j2 Q x1 false h7)
def F.spatelaw9_known.j4 (Q : Bool → H → Prop) (x1 : Option Addr) (x30 : Bool) (h : H) : Prop :=
  (x30 = true →
  Q false h) ∧
  (x30 = false →
  F.spatelaw9_known.j1 Q x1 h)
/-- spate/spatelaw9.known -/
def F.spatelaw9_known  (h : H) (Q : Bool → H → Prop) : Prop :=
  F.epoch_New 2 h fun r2 r3 h1 =>
  F.epoch_New 0 h1 fun r5 r6 h4 =>
  (((r3 != 0)) = true →
  F.spatelaw9_known.j4 Q r2 true h4) ∧
  (((r3 != 0)) = false →
  (r2.isNone = true →
  F.spatelaw9_known.j4 Q r2 true h4) ∧
  (r2.isNone = false →
  ((!r5.isNone) = true →
  F.spatelaw9_known.j4 Q r2 true h4) ∧
  ((!r5.isNone) = false →
  F.spatelaw9_known.j4 Q r2 ((r6 != 1)) h4)))
theorem F.spatelaw9_known_ok  {h : H} {Q : Bool → H → Prop} (H : F.spatelaw9_known  h Q) : Fn PP 4 ([] : List Value).toArray h fun r h' => ∃ r0, r = (.bool r0) ∧ Q r0 h' := by
  unfold F.spatelaw9_known at H
  refine fn_of Tryz.func4 Tryz.ntmps4 rfl rfl fun w0 => ?_
  refine tr_sub [] trivial ?_
  refine tr_seq ?_
  refine tr_region ?_
  refine tr_p (y_assign rfl) rfl rfl ?_
  refine tr_nil ?_
  refine tr_thenN ?_
  refine tr_seq ?_
  refine tr_region ?_
  refine tr_e (e_call Tryz.call5 rfl (F.epoch_New_ok H)) rfl rfl ?_
  rintro _ h1 ⟨r2, r3, rfl, H⟩
  refine tr_p (y_move rfl) rfl rfl ?_
  refine tr_p (y_ext rfl rfl) rfl rfl ?_
  refine tr_p (y_ext rfl rfl) rfl rfl ?_
  refine tr_p (y_assign rfl) rfl rfl ?_
  refine tr_p (y_assign rfl) rfl rfl ?_
  refine tr_nil ?_
  refine tr_thenN ?_
  refine tr_seq ?_
  refine tr_region ?_
  refine tr_e (e_call Tryz.call5 rfl (F.epoch_New_ok H)) rfl rfl ?_
  rintro _ h4 ⟨r5, r6, rfl, H⟩
  refine tr_p (y_move rfl) rfl rfl ?_
  refine tr_p (y_ext rfl rfl) rfl rfl ?_
  refine tr_p (y_ext rfl rfl) rfl rfl ?_
  refine tr_p (y_assign rfl) rfl rfl ?_
  refine tr_p (y_assign rfl) rfl rfl ?_
  refine tr_nil ?_
  refine tr_thenN ?_
  refine tr_seq_j (fun L' h => ∃ (x1 : Option Addr), L' = [(1, (.pointer x1))] ∧ F.spatelaw9_known.j1 Q x1 h) ?_ ?_
  · rintro L' h ⟨x1, rfl, H⟩
    unfold F.spatelaw9_known.j1 at H
    refine tr_seq ?_
    refine tr_region ?_
    refine tr_p (y_move rfl) rfl rfl ?_
    refine tr_e (e_call Tryz.call12 rfl (F.epoch_Book_Seal_ok H)) rfl rfl ?_
    rintro _ h7 ⟨r8, r9, rfl, H⟩
    refine tr_p (y_move rfl) rfl rfl ?_
    refine tr_p (y_ext rfl rfl) rfl rfl ?_
    refine tr_p (y_ext rfl rfl) rfl rfl ?_
    refine tr_p (y_assign rfl) rfl rfl ?_
    refine tr_p (y_assign rfl) rfl rfl ?_
    refine tr_nil ?_
    refine tr_thenN ?_
    refine tr_seq_j (fun L' h => ∃ (x1 : Option Addr) (x6 : Bool), L' = [(1, (.pointer x1)), (6, (.bool x6))] ∧ F.spatelaw9_known.j2 Q x1 x6 h) ?_ ?_
    · rintro L' h ⟨x1, x6, rfl, H⟩
      unfold F.spatelaw9_known.j2 at H
      refine tr_seq_j (fun L' h => ∃ (x1 : Option Addr) (x6 : Bool), L' = [(1, (.pointer x1)), (6, (.bool x6))] ∧ F.spatelaw9_known.j3 Q x1 x6 h) ?_ ?_
      · rintro L' h ⟨x1, x6, rfl, H⟩
        unfold F.spatelaw9_known.j3 at H
        refine tr_seq ?_
        refine tr_region ?_
        refine tr_p (y_move rfl) rfl rfl ?_
        refine tr_e (e_call Tryz.call19 rfl (F.epoch_Book_End_ok H)) rfl rfl ?_
        rintro _ h10 ⟨r11, r12, rfl, H⟩
        refine tr_p (y_move rfl) rfl rfl ?_
        refine tr_p (y_ext rfl rfl) rfl rfl ?_
        refine tr_p (y_ext rfl rfl) rfl rfl ?_
        refine tr_p (y_assign rfl) rfl rfl ?_
        refine tr_p (y_assign rfl) rfl rfl ?_
        refine tr_nil ?_
        refine tr_thenN ?_
        refine tr_seq ?_
        refine tr_region ?_
        refine tr_p (y_move rfl) rfl rfl ?_
        refine tr_p (y_move rfl) rfl rfl ?_
        refine tr_split (t := 101) rfl (fun g13 => ?_) (fun g13 => ?_)
        · replace H := H.1 g13
          refine tr_p (y_move rfl) rfl rfl ?_
          refine tr_p (y_eql rfl rfl) rfl rfl ?_
          refine tr_p (y_pick_t rfl rfl) rfl rfl ?_
          refine tr_p (y_move rfl) rfl rfl ?_
          refine tr_split (t := 105) rfl (fun g14 => ?_) (fun g14 => ?_)
          · replace H := H.1 g14
            refine tr_p (y_move rfl) rfl rfl ?_
            refine tr_p (y_eql rfl rfl) rfl rfl ?_
            refine tr_p (y_pick_t rfl rfl) rfl rfl ?_
            refine tr_p (y_move rfl) rfl rfl ?_
            refine tr_split (t := 109) rfl (fun g15 => ?_) (fun g15 => ?_)
            · replace H := H.1 g15
              refine tr_p (y_move rfl) rfl rfl ?_
              refine tr_e (e_call Tryz.call15 rfl (F.epoch_Book_Live_ok H)) rfl rfl ?_
              rintro _ h16 ⟨r17, rfl, H⟩
              refine tr_p (y_eql rfl rfl) rfl rfl ?_
              refine tr_p (y_pick_t rfl rfl) rfl rfl ?_
              refine tr_p (y_move rfl) rfl rfl ?_
              refine tr_split (t := 114) rfl (fun g18 => ?_) (fun g18 => ?_)
              · replace H := H.1 g18
                refine tr_p (y_move rfl) rfl rfl ?_
                refine tr_e (e_call Tryz.call20 rfl (F.epoch_Book_Now_ok H)) rfl rfl ?_
                rintro _ h19 ⟨r20, rfl, H⟩
                refine tr_p (y_eql rfl rfl) rfl rfl ?_
                refine tr_p (y_pick_t rfl rfl) rfl rfl ?_
                refine tr_p (y_assign rfl) rfl rfl ?_
                refine tr_nil ?_
                refine tr_thenN ?_
                refine tr_ret ?_
                exact tr_ret1 rfl rfl ⟨_, rfl, H⟩
              · replace H := H.2 g18
                refine tr_s rfl rfl ?_
                refine tr_s rfl rfl ?_
                refine tr_s rfl rfl ?_
                refine tr_p (y_pick_f rfl rfl) rfl rfl ?_
                refine tr_p (y_assign rfl) rfl rfl ?_
                refine tr_nil ?_
                refine tr_thenN ?_
                refine tr_ret ?_
                exact tr_ret1 rfl rfl ⟨_, rfl, H⟩
            · replace H := H.2 g15
              refine tr_s rfl rfl ?_
              refine tr_s rfl rfl ?_
              refine tr_s rfl rfl ?_
              refine tr_p (y_pick_f rfl rfl) rfl rfl ?_
              refine tr_p (y_move rfl) rfl rfl ?_
              refine tr_s rfl rfl ?_
              refine tr_s rfl rfl ?_
              refine tr_s rfl rfl ?_
              refine tr_p (y_pick_f rfl rfl) rfl rfl ?_
              refine tr_p (y_assign rfl) rfl rfl ?_
              refine tr_nil ?_
              refine tr_thenN ?_
              refine tr_ret ?_
              exact tr_ret1 rfl rfl ⟨_, rfl, H⟩
          · replace H := H.2 g14
            refine tr_s rfl rfl ?_
            refine tr_s rfl rfl ?_
            refine tr_p (y_pick_f rfl rfl) rfl rfl ?_
            refine tr_p (y_move rfl) rfl rfl ?_
            refine tr_s rfl rfl ?_
            refine tr_s rfl rfl ?_
            refine tr_s rfl rfl ?_
            refine tr_p (y_pick_f rfl rfl) rfl rfl ?_
            refine tr_p (y_move rfl) rfl rfl ?_
            refine tr_s rfl rfl ?_
            refine tr_s rfl rfl ?_
            refine tr_s rfl rfl ?_
            refine tr_p (y_pick_f rfl rfl) rfl rfl ?_
            refine tr_p (y_assign rfl) rfl rfl ?_
            refine tr_nil ?_
            refine tr_thenN ?_
            refine tr_ret ?_
            exact tr_ret1 rfl rfl ⟨_, rfl, H⟩
        · replace H := H.2 g13
          refine tr_s rfl rfl ?_
          refine tr_s rfl rfl ?_
          refine tr_p (y_pick_f rfl rfl) rfl rfl ?_
          refine tr_p (y_move rfl) rfl rfl ?_
          refine tr_s rfl rfl ?_
          refine tr_s rfl rfl ?_
          refine tr_p (y_pick_f rfl rfl) rfl rfl ?_
          refine tr_p (y_move rfl) rfl rfl ?_
          refine tr_s rfl rfl ?_
          refine tr_s rfl rfl ?_
          refine tr_s rfl rfl ?_
          refine tr_p (y_pick_f rfl rfl) rfl rfl ?_
          refine tr_p (y_move rfl) rfl rfl ?_
          refine tr_s rfl rfl ?_
          refine tr_s rfl rfl ?_
          refine tr_s rfl rfl ?_
          refine tr_p (y_pick_f rfl rfl) rfl rfl ?_
          refine tr_p (y_assign rfl) rfl rfl ?_
          refine tr_nil ?_
          refine tr_thenN ?_
          refine tr_ret ?_
          exact tr_ret1 rfl rfl ⟨_, rfl, H⟩
      · refine tr_region ?_
        refine tr_p (y_move rfl) rfl rfl ?_
        refine tr_p (y_move rfl) rfl rfl ?_
        refine tr_split (t := 68) rfl (fun g21 => ?_) (fun g21 => ?_)
        · replace H := H.1 g21
          refine tr_p (y_move rfl) rfl rfl ?_
          refine tr_e (e_call Tryz.call14 rfl (F.epoch_Book_Release_ok H)) rfl rfl ?_
          rintro _ h22 ⟨r23, rfl, H⟩
          refine tr_p (y_eql rfl rfl) rfl rfl ?_
          refine tr_p (y_pick_t rfl rfl) rfl rfl ?_
          refine tr_p (y_move rfl) rfl rfl ?_
          refine tr_split (t := 73) rfl (fun g24 => ?_) (fun g24 => ?_)
          · replace H := H.1 g24
            refine tr_p (y_move rfl) rfl rfl ?_
            refine tr_e (e_call Tryz.call17 rfl (F.epoch_Book_Held_ok H)) rfl rfl ?_
            rintro _ h25 ⟨r26, rfl, H⟩
            refine tr_p (y_len (ts := #[]) Tryz.runUnderlying38 (o := r26.ptr) (n := r26.len) (cap := r26.cap) rfl) rfl rfl ?_
            refine tr_p (y_eql rfl rfl) rfl rfl ?_
            refine tr_p (y_pick_t rfl rfl) rfl rfl ?_
            refine tr_p (y_move rfl) rfl rfl ?_
            refine tr_split (t := 79) rfl (fun g27 => ?_) (fun g27 => ?_)
            · replace H := H.1 g27
              refine tr_p (y_move rfl) rfl rfl ?_
              refine tr_e (e_call Tryz.call16 rfl (F.epoch_Book_Dying_ok H)) rfl rfl ?_
              rintro _ h28 ⟨r29, rfl, H⟩
              refine tr_p (y_len (ts := #[]) Tryz.runUnderlying38 (o := r29.ptr) (n := r29.len) (cap := r29.cap) rfl) rfl rfl ?_
              refine tr_p (y_eql rfl rfl) rfl rfl ?_
              refine tr_p (y_pick_t rfl rfl) rfl rfl ?_
              refine tr_p (y_move rfl) rfl rfl ?_
              refine tr_split (t := 85) rfl (fun g30 => ?_) (fun g30 => ?_)
              · replace H := H.1 g30
                refine tr_p (y_move rfl) rfl rfl ?_
                refine tr_e (e_call Tryz.call13 rfl (F.epoch_Book_Join_ok H)) rfl rfl ?_
                rintro _ h31 ⟨r32, rfl, H⟩
                refine tr_p (y_eql rfl rfl) rfl rfl ?_
                refine tr_p (y_pick_t rfl rfl) rfl rfl ?_
                refine tr_p (y_move rfl) rfl rfl ?_
                refine tr_split (t := 90) rfl (fun g33 => ?_) (fun g33 => ?_)
                · replace H := H.1 g33
                  refine tr_p (y_move rfl) rfl rfl ?_
                  refine tr_e (e_call Tryz.call18 rfl (F.epoch_Book_Begin_ok H)) rfl rfl ?_
                  rintro _ h34 ⟨r35, rfl, H⟩
                  refine tr_p (y_eql rfl rfl) rfl rfl ?_
                  refine tr_p (y_pick_t rfl rfl) rfl rfl ?_
                  refine tr_p (y_assign rfl) rfl rfl ?_
                  refine tr_nil ?_
                  refine tr_thenN ?_
                  exact tr_join [(1, (.pointer x1)), (6, (.bool ((r35 == 0))))] ⟨rfl, rfl, trivial⟩ ⟨_, _, rfl, H⟩
                · replace H := H.2 g33
                  refine tr_s rfl rfl ?_
                  refine tr_s rfl rfl ?_
                  refine tr_s rfl rfl ?_
                  refine tr_p (y_pick_f rfl rfl) rfl rfl ?_
                  refine tr_p (y_assign rfl) rfl rfl ?_
                  refine tr_nil ?_
                  refine tr_thenN ?_
                  exact tr_join [(1, (.pointer x1)), (6, (.bool false))] ⟨rfl, rfl, trivial⟩ ⟨_, _, rfl, H⟩
              · replace H := H.2 g30
                refine tr_s rfl rfl ?_
                refine tr_s rfl rfl ?_
                refine tr_s rfl rfl ?_
                refine tr_p (y_pick_f rfl rfl) rfl rfl ?_
                refine tr_p (y_move rfl) rfl rfl ?_
                refine tr_s rfl rfl ?_
                refine tr_s rfl rfl ?_
                refine tr_s rfl rfl ?_
                refine tr_p (y_pick_f rfl rfl) rfl rfl ?_
                refine tr_p (y_assign rfl) rfl rfl ?_
                refine tr_nil ?_
                refine tr_thenN ?_
                exact tr_join [(1, (.pointer x1)), (6, (.bool false))] ⟨rfl, rfl, trivial⟩ ⟨_, _, rfl, H⟩
            · replace H := H.2 g27
              refine tr_s rfl rfl ?_
              refine tr_s rfl rfl ?_
              refine tr_s rfl rfl ?_
              refine tr_s rfl rfl ?_
              refine tr_p (y_pick_f rfl rfl) rfl rfl ?_
              refine tr_p (y_move rfl) rfl rfl ?_
              refine tr_s rfl rfl ?_
              refine tr_s rfl rfl ?_
              refine tr_s rfl rfl ?_
              refine tr_p (y_pick_f rfl rfl) rfl rfl ?_
              refine tr_p (y_move rfl) rfl rfl ?_
              refine tr_s rfl rfl ?_
              refine tr_s rfl rfl ?_
              refine tr_s rfl rfl ?_
              refine tr_p (y_pick_f rfl rfl) rfl rfl ?_
              refine tr_p (y_assign rfl) rfl rfl ?_
              refine tr_nil ?_
              refine tr_thenN ?_
              exact tr_join [(1, (.pointer x1)), (6, (.bool false))] ⟨rfl, rfl, trivial⟩ ⟨_, _, rfl, H⟩
          · replace H := H.2 g24
            refine tr_s rfl rfl ?_
            refine tr_s rfl rfl ?_
            refine tr_s rfl rfl ?_
            refine tr_s rfl rfl ?_
            refine tr_p (y_pick_f rfl rfl) rfl rfl ?_
            refine tr_p (y_move rfl) rfl rfl ?_
            refine tr_s rfl rfl ?_
            refine tr_s rfl rfl ?_
            refine tr_s rfl rfl ?_
            refine tr_s rfl rfl ?_
            refine tr_p (y_pick_f rfl rfl) rfl rfl ?_
            refine tr_p (y_move rfl) rfl rfl ?_
            refine tr_s rfl rfl ?_
            refine tr_s rfl rfl ?_
            refine tr_s rfl rfl ?_
            refine tr_p (y_pick_f rfl rfl) rfl rfl ?_
            refine tr_p (y_move rfl) rfl rfl ?_
            refine tr_s rfl rfl ?_
            refine tr_s rfl rfl ?_
            refine tr_s rfl rfl ?_
            refine tr_p (y_pick_f rfl rfl) rfl rfl ?_
            refine tr_p (y_assign rfl) rfl rfl ?_
            refine tr_nil ?_
            refine tr_thenN ?_
            exact tr_join [(1, (.pointer x1)), (6, (.bool false))] ⟨rfl, rfl, trivial⟩ ⟨_, _, rfl, H⟩
        · replace H := H.2 g21
          refine tr_s rfl rfl ?_
          refine tr_s rfl rfl ?_
          refine tr_s rfl rfl ?_
          refine tr_p (y_pick_f rfl rfl) rfl rfl ?_
          refine tr_p (y_move rfl) rfl rfl ?_
          refine tr_s rfl rfl ?_
          refine tr_s rfl rfl ?_
          refine tr_s rfl rfl ?_
          refine tr_s rfl rfl ?_
          refine tr_p (y_pick_f rfl rfl) rfl rfl ?_
          refine tr_p (y_move rfl) rfl rfl ?_
          refine tr_s rfl rfl ?_
          refine tr_s rfl rfl ?_
          refine tr_s rfl rfl ?_
          refine tr_s rfl rfl ?_
          refine tr_p (y_pick_f rfl rfl) rfl rfl ?_
          refine tr_p (y_move rfl) rfl rfl ?_
          refine tr_s rfl rfl ?_
          refine tr_s rfl rfl ?_
          refine tr_s rfl rfl ?_
          refine tr_p (y_pick_f rfl rfl) rfl rfl ?_
          refine tr_p (y_move rfl) rfl rfl ?_
          refine tr_s rfl rfl ?_
          refine tr_s rfl rfl ?_
          refine tr_s rfl rfl ?_
          refine tr_p (y_pick_f rfl rfl) rfl rfl ?_
          refine tr_p (y_assign rfl) rfl rfl ?_
          refine tr_nil ?_
          refine tr_thenN ?_
          exact tr_join [(1, (.pointer x1)), (6, (.bool false))] ⟨rfl, rfl, trivial⟩ ⟨_, _, rfl, H⟩
    · refine tr_region ?_
      refine tr_p (y_move rfl) rfl rfl ?_
      refine tr_p (y_eql rfl rfl) rfl rfl ?_
      refine tr_p (y_move rfl) rfl rfl ?_
      refine tr_split (t := 38) rfl (fun g36 => ?_) (fun g36 => ?_)
      · replace H := H.1 g36
        refine tr_p (y_move rfl) rfl rfl ?_
        refine tr_p (y_eql rfl rfl) rfl rfl ?_
        refine tr_p (y_pick_t rfl rfl) rfl rfl ?_
        refine tr_p (y_move rfl) rfl rfl ?_
        refine tr_split (t := 42) rfl (fun g37 => ?_) (fun g37 => ?_)
        · replace H := H.1 g37
          refine tr_p (y_move rfl) rfl rfl ?_
          refine tr_e (e_call Tryz.call13 rfl (F.epoch_Book_Join_ok H)) rfl rfl ?_
          rintro _ h38 ⟨r39, rfl, H⟩
          refine tr_p (y_eql rfl rfl) rfl rfl ?_
          refine tr_p (y_pick_t rfl rfl) rfl rfl ?_
          refine tr_p (y_move rfl) rfl rfl ?_
          refine tr_split (t := 47) rfl (fun g40 => ?_) (fun g40 => ?_)
          · replace H := H.1 g40
            refine tr_p (y_move rfl) rfl rfl ?_
            refine tr_e (e_call Tryz.call14 rfl (F.epoch_Book_Release_ok H)) rfl rfl ?_
            rintro _ h41 ⟨r42, rfl, H⟩
            refine tr_p (y_eql rfl rfl) rfl rfl ?_
            refine tr_p (y_pick_t rfl rfl) rfl rfl ?_
            refine tr_p (y_move rfl) rfl rfl ?_
            refine tr_split (t := 52) rfl (fun g43 => ?_) (fun g43 => ?_)
            · replace H := H.1 g43
              refine tr_p (y_move rfl) rfl rfl ?_
              refine tr_e (e_call Tryz.call10 rfl (F.epoch_Book_Holds_ok H)) rfl rfl ?_
              rintro _ h44 ⟨r45, rfl, H⟩
              refine tr_p (y_pick_t rfl rfl) rfl rfl ?_
              refine tr_p (y_move rfl) rfl rfl ?_
              refine tr_split (t := 56) rfl (fun g46 => ?_) (fun g46 => ?_)
              · replace H := H.1 g46
                refine tr_p (y_move rfl) rfl rfl ?_
                refine tr_e (e_call Tryz.call15 rfl (F.epoch_Book_Live_ok H)) rfl rfl ?_
                rintro _ h47 ⟨r48, rfl, H⟩
                refine tr_p (y_eql rfl rfl) rfl rfl ?_
                refine tr_p (y_pick_t rfl rfl) rfl rfl ?_
                refine tr_p (y_move rfl) rfl rfl ?_
                refine tr_split (t := 61) rfl (fun g49 => ?_) (fun g49 => ?_)
                · replace H := H.1 g49
                  refine tr_p (y_move rfl) rfl rfl ?_
                  refine tr_e (e_call Tryz.call16 rfl (F.epoch_Book_Dying_ok H)) rfl rfl ?_
                  rintro _ h50 ⟨r51, rfl, H⟩
                  refine tr_p (y_len (ts := #[]) Tryz.runUnderlying38 (o := r51.ptr) (n := r51.len) (cap := r51.cap) rfl) rfl rfl ?_
                  refine tr_p (y_eql rfl rfl) rfl rfl ?_
                  refine tr_p (y_pick_t rfl rfl) rfl rfl ?_
                  refine tr_p (y_assign rfl) rfl rfl ?_
                  refine tr_nil ?_
                  refine tr_thenN ?_
                  exact tr_join [(1, (.pointer x1)), (6, (.bool (((r51.len : Int) == 0))))] ⟨rfl, rfl, trivial⟩ ⟨_, _, rfl, H⟩
                · replace H := H.2 g49
                  refine tr_s rfl rfl ?_
                  refine tr_s rfl rfl ?_
                  refine tr_s rfl rfl ?_
                  refine tr_s rfl rfl ?_
                  refine tr_p (y_pick_f rfl rfl) rfl rfl ?_
                  refine tr_p (y_assign rfl) rfl rfl ?_
                  refine tr_nil ?_
                  refine tr_thenN ?_
                  exact tr_join [(1, (.pointer x1)), (6, (.bool false))] ⟨rfl, rfl, trivial⟩ ⟨_, _, rfl, H⟩
              · replace H := H.2 g46
                refine tr_s rfl rfl ?_
                refine tr_s rfl rfl ?_
                refine tr_s rfl rfl ?_
                refine tr_p (y_pick_f rfl rfl) rfl rfl ?_
                refine tr_p (y_move rfl) rfl rfl ?_
                refine tr_s rfl rfl ?_
                refine tr_s rfl rfl ?_
                refine tr_s rfl rfl ?_
                refine tr_s rfl rfl ?_
                refine tr_p (y_pick_f rfl rfl) rfl rfl ?_
                refine tr_p (y_assign rfl) rfl rfl ?_
                refine tr_nil ?_
                refine tr_thenN ?_
                exact tr_join [(1, (.pointer x1)), (6, (.bool false))] ⟨rfl, rfl, trivial⟩ ⟨_, _, rfl, H⟩
            · replace H := H.2 g43
              refine tr_s rfl rfl ?_
              refine tr_s rfl rfl ?_
              refine tr_p (y_pick_f rfl rfl) rfl rfl ?_
              refine tr_p (y_move rfl) rfl rfl ?_
              refine tr_s rfl rfl ?_
              refine tr_s rfl rfl ?_
              refine tr_s rfl rfl ?_
              refine tr_p (y_pick_f rfl rfl) rfl rfl ?_
              refine tr_p (y_move rfl) rfl rfl ?_
              refine tr_s rfl rfl ?_
              refine tr_s rfl rfl ?_
              refine tr_s rfl rfl ?_
              refine tr_s rfl rfl ?_
              refine tr_p (y_pick_f rfl rfl) rfl rfl ?_
              refine tr_p (y_assign rfl) rfl rfl ?_
              refine tr_nil ?_
              refine tr_thenN ?_
              exact tr_join [(1, (.pointer x1)), (6, (.bool false))] ⟨rfl, rfl, trivial⟩ ⟨_, _, rfl, H⟩
          · replace H := H.2 g40
            refine tr_s rfl rfl ?_
            refine tr_s rfl rfl ?_
            refine tr_s rfl rfl ?_
            refine tr_p (y_pick_f rfl rfl) rfl rfl ?_
            refine tr_p (y_move rfl) rfl rfl ?_
            refine tr_s rfl rfl ?_
            refine tr_s rfl rfl ?_
            refine tr_p (y_pick_f rfl rfl) rfl rfl ?_
            refine tr_p (y_move rfl) rfl rfl ?_
            refine tr_s rfl rfl ?_
            refine tr_s rfl rfl ?_
            refine tr_s rfl rfl ?_
            refine tr_p (y_pick_f rfl rfl) rfl rfl ?_
            refine tr_p (y_move rfl) rfl rfl ?_
            refine tr_s rfl rfl ?_
            refine tr_s rfl rfl ?_
            refine tr_s rfl rfl ?_
            refine tr_s rfl rfl ?_
            refine tr_p (y_pick_f rfl rfl) rfl rfl ?_
            refine tr_p (y_assign rfl) rfl rfl ?_
            refine tr_nil ?_
            refine tr_thenN ?_
            exact tr_join [(1, (.pointer x1)), (6, (.bool false))] ⟨rfl, rfl, trivial⟩ ⟨_, _, rfl, H⟩
        · replace H := H.2 g37
          refine tr_s rfl rfl ?_
          refine tr_s rfl rfl ?_
          refine tr_s rfl rfl ?_
          refine tr_p (y_pick_f rfl rfl) rfl rfl ?_
          refine tr_p (y_move rfl) rfl rfl ?_
          refine tr_s rfl rfl ?_
          refine tr_s rfl rfl ?_
          refine tr_s rfl rfl ?_
          refine tr_p (y_pick_f rfl rfl) rfl rfl ?_
          refine tr_p (y_move rfl) rfl rfl ?_
          refine tr_s rfl rfl ?_
          refine tr_s rfl rfl ?_
          refine tr_p (y_pick_f rfl rfl) rfl rfl ?_
          refine tr_p (y_move rfl) rfl rfl ?_
          refine tr_s rfl rfl ?_
          refine tr_s rfl rfl ?_
          refine tr_s rfl rfl ?_
          refine tr_p (y_pick_f rfl rfl) rfl rfl ?_
          refine tr_p (y_move rfl) rfl rfl ?_
          refine tr_s rfl rfl ?_
          refine tr_s rfl rfl ?_
          refine tr_s rfl rfl ?_
          refine tr_s rfl rfl ?_
          refine tr_p (y_pick_f rfl rfl) rfl rfl ?_
          refine tr_p (y_assign rfl) rfl rfl ?_
          refine tr_nil ?_
          refine tr_thenN ?_
          exact tr_join [(1, (.pointer x1)), (6, (.bool false))] ⟨rfl, rfl, trivial⟩ ⟨_, _, rfl, H⟩
      · replace H := H.2 g36
        refine tr_s rfl rfl ?_
        refine tr_s rfl rfl ?_
        refine tr_p (y_pick_f rfl rfl) rfl rfl ?_
        refine tr_p (y_move rfl) rfl rfl ?_
        refine tr_s rfl rfl ?_
        refine tr_s rfl rfl ?_
        refine tr_s rfl rfl ?_
        refine tr_p (y_pick_f rfl rfl) rfl rfl ?_
        refine tr_p (y_move rfl) rfl rfl ?_
        refine tr_s rfl rfl ?_
        refine tr_s rfl rfl ?_
        refine tr_s rfl rfl ?_
        refine tr_p (y_pick_f rfl rfl) rfl rfl ?_
        refine tr_p (y_move rfl) rfl rfl ?_
        refine tr_s rfl rfl ?_
        refine tr_s rfl rfl ?_
        refine tr_p (y_pick_f rfl rfl) rfl rfl ?_
        refine tr_p (y_move rfl) rfl rfl ?_
        refine tr_s rfl rfl ?_
        refine tr_s rfl rfl ?_
        refine tr_s rfl rfl ?_
        refine tr_p (y_pick_f rfl rfl) rfl rfl ?_
        refine tr_p (y_move rfl) rfl rfl ?_
        refine tr_s rfl rfl ?_
        refine tr_s rfl rfl ?_
        refine tr_s rfl rfl ?_
        refine tr_s rfl rfl ?_
        refine tr_p (y_pick_f rfl rfl) rfl rfl ?_
        refine tr_p (y_assign rfl) rfl rfl ?_
        refine tr_nil ?_
        refine tr_thenN ?_
        exact tr_join [(1, (.pointer x1)), (6, (.bool false))] ⟨rfl, rfl, trivial⟩ ⟨_, _, rfl, H⟩
  · refine tr_seq_j (fun L' h => ∃ (x1 : Option Addr) (x30 : Bool), L' = [(1, (.pointer x1)), (30, (.bool x30))] ∧ F.spatelaw9_known.j4 Q x1 x30 h) ?_ ?_
    · rintro L' h ⟨x1, x30, rfl, H⟩
      unfold F.spatelaw9_known.j4 at H
      refine tr_cond rfl (fun g52 => ?_) (fun g52 => ?_)
      · replace H := H.1 g52
        refine tr_seq ?_
        refine tr_region ?_
        refine tr_p (y_assign rfl) rfl rfl ?_
        refine tr_nil ?_
        refine tr_thenN ?_
        refine tr_ret ?_
        refine tr_thenR ?_
        exact tr_ret1 rfl rfl ⟨_, rfl, H⟩
      · replace H := H.2 g52
        refine tr_skip ?_
        refine tr_thenN ?_
        exact tr_join [(1, (.pointer x1))] ⟨rfl, trivial⟩ ⟨_, rfl, H⟩
    · refine tr_region ?_
      refine tr_p (y_move rfl) rfl rfl ?_
      refine tr_p (y_neq rfl rfl) rfl rfl ?_
      refine tr_p (y_move rfl) rfl rfl ?_
      refine tr_split (t := 19) rfl (fun g53 => ?_) (fun g53 => ?_)
      · replace H := H.1 g53
        refine tr_s rfl rfl ?_
        refine tr_s rfl rfl ?_
        refine tr_p (y_pick_t rfl rfl) rfl rfl ?_
        refine tr_p (y_move rfl) rfl rfl ?_
        refine tr_s rfl rfl ?_
        refine tr_s rfl rfl ?_
        refine tr_p (y_pick_t rfl rfl) rfl rfl ?_
        refine tr_p (y_move rfl) rfl rfl ?_
        refine tr_s rfl rfl ?_
        refine tr_s rfl rfl ?_
        refine tr_p (y_pick_t rfl rfl) rfl rfl ?_
        refine tr_nil ?_
        refine tr_thenN ?_
        exact tr_join [(1, (.pointer r2)), (30, (.bool true))] ⟨rfl, rfl, trivial⟩ ⟨_, _, rfl, H⟩
      · replace H := H.2 g53
        refine tr_p (y_move rfl) rfl rfl ?_
        refine tr_p (y_pnil_eql Tryz.runUnderlying24 rfl rfl) rfl rfl ?_
        refine tr_p (y_pick_f rfl rfl) rfl rfl ?_
        refine tr_p (y_move rfl) rfl rfl ?_
        refine tr_split (t := 23) rfl (fun g54 => ?_) (fun g54 => ?_)
        · replace H := H.1 g54
          refine tr_s rfl rfl ?_
          refine tr_s rfl rfl ?_
          refine tr_p (y_pick_t rfl rfl) rfl rfl ?_
          refine tr_p (y_move rfl) rfl rfl ?_
          refine tr_s rfl rfl ?_
          refine tr_s rfl rfl ?_
          refine tr_p (y_pick_t rfl rfl) rfl rfl ?_
          refine tr_nil ?_
          refine tr_thenN ?_
          exact tr_join [(1, (.pointer r2)), (30, (.bool true))] ⟨rfl, rfl, trivial⟩ ⟨_, _, rfl, H⟩
        · replace H := H.2 g54
          refine tr_p (y_move rfl) rfl rfl ?_
          refine tr_p (y_pnil_neq Tryz.runUnderlying24 rfl rfl) rfl rfl ?_
          refine tr_p (y_pick_f rfl rfl) rfl rfl ?_
          refine tr_p (y_move rfl) rfl rfl ?_
          refine tr_split (t := 27) rfl (fun g55 => ?_) (fun g55 => ?_)
          · replace H := H.1 g55
            refine tr_s rfl rfl ?_
            refine tr_s rfl rfl ?_
            refine tr_p (y_pick_t rfl rfl) rfl rfl ?_
            refine tr_nil ?_
            refine tr_thenN ?_
            exact tr_join [(1, (.pointer r2)), (30, (.bool true))] ⟨rfl, rfl, trivial⟩ ⟨_, _, rfl, H⟩
          · replace H := H.2 g55
            refine tr_p (y_move rfl) rfl rfl ?_
            refine tr_p (y_neq rfl rfl) rfl rfl ?_
            refine tr_p (y_pick_f rfl rfl) rfl rfl ?_
            refine tr_nil ?_
            refine tr_thenN ?_
            exact tr_join [(1, (.pointer r2)), (30, (.bool ((r6 != 1))))] ⟨rfl, rfl, trivial⟩ ⟨_, _, rfl, H⟩

def F.spateref9_New.j1 (Q : (Option Addr) → Int → H → Prop) (x0 : Int) (h : H) : Prop :=
  (runL PP (Instr.makeSlice 37 (.int .i64 65) (.int .i64 65)) h fun s2 h1 =>
  runL PP (Instr.makeSlice 38 (.int .i64 65) (.int .i64 65)) h1 fun s4 h3 =>
  new h3 ((⟨x0, 1, s2, s4, (⟨none, 0, 0⟩ : Sl), (⟨none, 0, 0⟩ : Sl), false⟩ : S_spateref9_Book).cells.toArray) ty_40 fun a6 h5 =>
  Q (some a6) 0 h5) ∧
  (runL PP (Instr.makeSlice 38 (.int .i64 65) (.int .i64 65)) h fun s8 h7 =>
  runL PP (Instr.makeSlice 37 (.int .i64 65) (.int .i64 65)) h7 fun s10 h9 =>
  new h9 ((⟨x0, 1, s10, s8, (⟨none, 0, 0⟩ : Sl), (⟨none, 0, 0⟩ : Sl), false⟩ : S_spateref9_Book).cells.toArray) ty_40 fun a12 h11 =>
  Q (some a12) 0 h11)
def F.spateref9_New.j2 (Q : (Option Addr) → Int → H → Prop) (x0 : Int) (x9 : Bool) (h : H) : Prop :=
  (x9 = true →
  Q none 1 h) ∧
  (x9 = false →
  F.spateref9_New.j1 Q x0 h)
/-- spate/spateref9.New -/
def F.spateref9_New (p0 : Int) (h : H) (Q : (Option Addr) → Int → H → Prop) : Prop :=
  ((decide (p0 < 1)) = true →
  F.spateref9_New.j2 Q p0 true h) ∧
  ((decide (p0 < 1)) = false →
  F.spateref9_New.j2 Q p0 (decide (p0 > 64)) h)
theorem F.spateref9_New_ok {p0 : Int} {h : H} {Q : (Option Addr) → Int → H → Prop} (H : F.spateref9_New p0 h Q) : Fn PP 6 ([(.int .i64 p0)] : List Value).toArray h fun r h' => ∃ r0 r1, r = .tuple #[(.pointer r0), (.int .i64 r1)] ∧ Q r0 r1 h' := by
  unfold F.spateref9_New at H
  refine fn_of Tryz.func6 Tryz.ntmps6 rfl rfl fun w0 => ?_
  refine tr_sub [(0, (.int .i64 p0))] ⟨rfl, trivial⟩ ?_
  refine tr_seq ?_
  refine tr_region ?_
  refine tr_p (y_assign rfl) rfl rfl ?_
  refine tr_p (y_assign rfl) rfl rfl ?_
  refine tr_nil ?_
  refine tr_thenN ?_
  refine tr_seq_j (fun L' h => ∃ (x0 : Int), L' = [(0, (.int .i64 x0))] ∧ F.spateref9_New.j1 Q x0 h) ?_ ?_
  · rintro L' h ⟨x0, rfl, H⟩
    unfold F.spateref9_New.j1 at H
    refine tr_seq ?_
    refine tr_draw mixed [0, 0, 0, 7, 15, 31, 63] (by kernel_rfl) ?_
    refine g_p 0 1 rfl (by kernel_rfl) (y_move rfl) rfl rfl ?_
    refine g_e2 1 3 2 5 [] [] (by kernel_rfl) (by kernel_rfl) (by kernel_rfl) (by kernel_rfl) (by kernel_rfl) rfl rfl rfl rfl rfl rfl ?_ ?_
    · replace H := H.1
      refine ⟨_, (f_make rfl rfl H), ?_⟩
      rintro _ h1 ⟨s2, rfl, H⟩
      refine ⟨trivial, ?_⟩
      refine g_e 2 7 [] (by kernel_rfl) rfl (by kernel_rfl) (f_make rfl rfl H) rfl rfl ?_
      rintro _ h3 ⟨s4, rfl, H⟩
      refine ⟨trivial, ?_⟩
      refine g_p 3 15 rfl (by kernel_rfl) (f_build rfl (bd_40_0_1_2_3 x0 1 s2 s4)) rfl rfl ?_
      refine g_e 4 31 [] (by kernel_rfl) rfl (by kernel_rfl) (f_box (cs := (⟨x0, 1, s2, s4, (⟨none, 0, 0⟩ : Sl), (⟨none, 0, 0⟩ : Sl), false⟩ : S_spateref9_Book).cells.toArray) rfl rfl H) rfl rfl ?_
      rintro _ h5 ⟨a6, rfl, H⟩
      refine ⟨trivial, ?_⟩
      refine g_p 5 63 rfl (by kernel_rfl) (y_assign rfl) rfl rfl ?_
      refine g_p 6 127 rfl (by kernel_rfl) (y_assign rfl) rfl rfl ?_
      refine g_d (by kernel_rfl) ?_
      refine tr_thenN ?_
      refine tr_ret ?_
      exact tr_ret2 rfl rfl rfl ⟨_, _, rfl, H⟩
    · replace H := H.2
      refine ⟨_, (f_make rfl rfl H), ?_⟩
      rintro _ h7 ⟨s8, rfl, H⟩
      refine ⟨trivial, ?_⟩
      refine g_e 1 7 [] (by kernel_rfl) rfl (by kernel_rfl) (f_make rfl rfl H) rfl rfl ?_
      rintro _ h9 ⟨s10, rfl, H⟩
      refine ⟨trivial, ?_⟩
      refine g_p 3 15 rfl (by kernel_rfl) (f_build rfl (bd_40_0_1_2_3 x0 1 s10 s8)) rfl rfl ?_
      refine g_e 4 31 [] (by kernel_rfl) rfl (by kernel_rfl) (f_box (cs := (⟨x0, 1, s10, s8, (⟨none, 0, 0⟩ : Sl), (⟨none, 0, 0⟩ : Sl), false⟩ : S_spateref9_Book).cells.toArray) rfl rfl H) rfl rfl ?_
      rintro _ h11 ⟨a12, rfl, H⟩
      refine ⟨trivial, ?_⟩
      refine g_p 5 63 rfl (by kernel_rfl) (y_assign rfl) rfl rfl ?_
      refine g_p 6 127 rfl (by kernel_rfl) (y_assign rfl) rfl rfl ?_
      refine g_d (by kernel_rfl) ?_
      refine tr_thenN ?_
      refine tr_ret ?_
      exact tr_ret2 rfl rfl rfl ⟨_, _, rfl, H⟩
  · refine tr_seq_j (fun L' h => ∃ (x0 : Int) (x9 : Bool), L' = [(0, (.int .i64 x0)), (9, (.bool x9))] ∧ F.spateref9_New.j2 Q x0 x9 h) ?_ ?_
    · rintro L' h ⟨x0, x9, rfl, H⟩
      unfold F.spateref9_New.j2 at H
      refine tr_cond rfl (fun g13 => ?_) (fun g13 => ?_)
      · replace H := H.1 g13
        refine tr_seq ?_
        refine tr_region ?_
        refine tr_p (y_assign rfl) rfl rfl ?_
        refine tr_p (y_assign rfl) rfl rfl ?_
        refine tr_nil ?_
        refine tr_thenN ?_
        refine tr_ret ?_
        refine tr_thenR ?_
        exact tr_ret2 rfl rfl rfl ⟨_, _, rfl, H⟩
      · replace H := H.2 g13
        refine tr_skip ?_
        refine tr_thenN ?_
        exact tr_join [(0, (.int .i64 x0))] ⟨rfl, trivial⟩ ⟨_, rfl, H⟩
    · refine tr_region ?_
      refine tr_p (y_move rfl) rfl rfl ?_
      refine tr_p (y_lss rfl rfl) rfl rfl ?_
      refine tr_p (y_move rfl) rfl rfl ?_
      refine tr_split (t := 6) rfl (fun g14 => ?_) (fun g14 => ?_)
      · replace H := H.1 g14
        refine tr_s rfl rfl ?_
        refine tr_s rfl rfl ?_
        refine tr_p (y_pick_t rfl rfl) rfl rfl ?_
        refine tr_nil ?_
        refine tr_thenN ?_
        exact tr_join [(0, (.int .i64 p0)), (9, (.bool true))] ⟨rfl, rfl, trivial⟩ ⟨_, _, rfl, H⟩
      · replace H := H.2 g14
        refine tr_p (y_move rfl) rfl rfl ?_
        refine tr_p (y_gtr rfl rfl) rfl rfl ?_
        refine tr_p (y_pick_f rfl rfl) rfl rfl ?_
        refine tr_nil ?_
        refine tr_thenN ?_
        exact tr_join [(0, (.int .i64 p0)), (9, (.bool (decide (p0 > 64))))] ⟨rfl, rfl, trivial⟩ ⟨_, _, rfl, H⟩

/-- spate/spatelaw9.of -/
def F.spatelaw9_of (p0 : S_spatelaw9_Step) (p1 : Int) (h : H) (Q : Int → H → Prop) : Prop :=
  new h p0.cells.toArray ty_32 fun a2 h1 =>
  ldB h1 (a2.add 3) fun y3 =>
  (y3 = true →
  ldI .i64 h1 (a2.add 2) fun y6 =>
  Q (IntKind.wrap .i64 (p1 - y6)) h1) ∧
  (y3 = false →
  ldI .i64 h1 (a2.add 2) fun y8 =>
  Q y8 h1)
theorem F.spatelaw9_of_ok {p0 : S_spatelaw9_Step} {p1 : Int} {h : H} {Q : Int → H → Prop} (H : F.spatelaw9_of p0 p1 h Q) : Fn PP 24 ([(.agg p0.cells.toArray), (.int .i64 p1)] : List Value).toArray h fun r h' => ∃ r0, r = (.int .i64 r0) ∧ Q r0 h' := by
  unfold F.spatelaw9_of at H
  refine fn_of Tryz.func24 Tryz.ntmps24 rfl rfl fun w0 => ?_
  refine tr_sub [(0, (.agg p0.cells.toArray)), (1, (.int .i64 p1))] ⟨rfl, rfl, trivial⟩ ?_
  refine tr_seq ?_
  refine tr_region ?_
  refine tr_e (f_box (cs := p0.cells.toArray) rfl rfl H) rfl rfl ?_
  rintro _ h1 ⟨a2, rfl, H⟩
  refine tr_p (y_assign rfl) rfl rfl ?_
  refine tr_nil ?_
  refine tr_thenN ?_
  refine tr_seq ?_
  refine tr_seq ?_
  refine tr_region ?_
  refine tr_p (y_fa (off := 3) Tryz.runUnderlying32 fo_32_3 rfl) rfl rfl ?_
  obtain ⟨y3, k4, H⟩ := H
  refine tr_h (y_ld Tryz.isAgg4 rfl) k4 rfl rfl ?_
  refine tr_nil ?_
  refine tr_thenN ?_
  refine tr_cond rfl (fun g5 => ?_) (fun g5 => ?_)
  · replace H := H.1 g5
    refine tr_seq ?_
    refine tr_region ?_
    refine tr_p (y_move rfl) rfl rfl ?_
    refine tr_p (y_fa (off := 2) Tryz.runUnderlying32 fo_32_2 rfl) rfl rfl ?_
    obtain ⟨y6, k7, H⟩ := H
    refine tr_h (y_ld Tryz.isAgg3 rfl) k7 rfl rfl ?_
    refine tr_p (y_sub rfl rfl) rfl rfl ?_
    refine tr_p (y_assign rfl) rfl rfl ?_
    refine tr_nil ?_
    refine tr_thenN ?_
    refine tr_ret ?_
    refine tr_thenR ?_
    exact tr_ret1 rfl rfl ⟨_, rfl, H⟩
  · replace H := H.2 g5
    refine tr_skip ?_
    refine tr_thenN ?_
    refine tr_seq ?_
    refine tr_region ?_
    refine tr_p (y_fa (off := 2) Tryz.runUnderlying32 fo_32_2 rfl) rfl rfl ?_
    obtain ⟨y8, k9, H⟩ := H
    refine tr_h (y_ld Tryz.isAgg3 rfl) k9 rfl rfl ?_
    refine tr_p (y_assign rfl) rfl rfl ?_
    refine tr_nil ?_
    refine tr_thenN ?_
    refine tr_ret ?_
    exact tr_ret1 rfl rfl ⟨_, rfl, H⟩

/-- spate/spateref9.owner -/
def F.spateref9_owner (p0 : Int) (h : H) (Q : Bool → H → Prop) : Prop :=
  ((decide (p0 ≥ 1)) = true →
  Q (decide (p0 ≤ 64)) h) ∧
  ((decide (p0 ≥ 1)) = false →
  Q false h)
theorem F.spateref9_owner_ok {p0 : Int} {h : H} {Q : Bool → H → Prop} (H : F.spateref9_owner p0 h Q) : Fn PP 41 ([(.int .i64 p0)] : List Value).toArray h fun r h' => ∃ r0, r = (.bool r0) ∧ Q r0 h' := by
  unfold F.spateref9_owner at H
  refine fn_of Tryz.func41 Tryz.ntmps41 rfl rfl fun w0 => ?_
  refine tr_sub [(0, (.int .i64 p0))] ⟨rfl, trivial⟩ ?_
  refine tr_seq ?_
  refine tr_region ?_
  refine tr_p (y_assign rfl) rfl rfl ?_
  refine tr_nil ?_
  refine tr_thenN ?_
  refine tr_seq ?_
  refine tr_region ?_
  refine tr_p (y_move rfl) rfl rfl ?_
  refine tr_p (y_geq rfl rfl) rfl rfl ?_
  refine tr_p (y_move rfl) rfl rfl ?_
  refine tr_split (t := 5) rfl (fun g1 => ?_) (fun g1 => ?_)
  · replace H := H.1 g1
    refine tr_p (y_move rfl) rfl rfl ?_
    refine tr_p (y_leq rfl rfl) rfl rfl ?_
    refine tr_p (y_pick_t rfl rfl) rfl rfl ?_
    refine tr_p (y_assign rfl) rfl rfl ?_
    refine tr_nil ?_
    refine tr_thenN ?_
    refine tr_ret ?_
    exact tr_ret1 rfl rfl ⟨_, rfl, H⟩
  · replace H := H.2 g1
    refine tr_s rfl rfl ?_
    refine tr_s rfl rfl ?_
    refine tr_p (y_pick_f rfl rfl) rfl rfl ?_
    refine tr_p (y_assign rfl) rfl rfl ?_
    refine tr_nil ?_
    refine tr_thenN ?_
    refine tr_ret ?_
    exact tr_ret1 rfl rfl ⟨_, rfl, H⟩

def F.spateref9_With.j2 (Q : Sl → H → Prop) (C1 : Sl → Int → Sl → Bool → Int → H → Prop) (x0 : Sl) (x1 : Int) (x5 : Sl) (x6 : Bool) (x7 : Int) (h : H) : Prop :=
  C1 x0 x1 x5 x6 (IntKind.wrap .i64 (x7 + 1)) h
def F.spateref9_With.j4 (Q : Sl → H → Prop) (C1 : Sl → Int → Sl → Bool → Int → H → Prop) (x0 : Sl) (x1 : Int) (x5 : Sl) (x6 : Bool) (x7 : Int) (h : H) : Prop :=
  idxA x0 x7 1 fun a2 =>
  ldI .i64 h a2 fun y4 =>
  newL h #[(.int .i64 y4)] ty_3 1 fun s7 h6 =>
  runL PP (Builtin.append_ #[38, 38] 38 #[x5.enc, s7.enc]) h6 fun s9 h8 =>
  F.spateref9_With.j2 Q C1 x0 x1 s9 x6 x7 h8
def F.spateref9_With.j3 (Q : Sl → H → Prop) (C1 : Sl → Int → Sl → Bool → Int → H → Prop) (x0 : Sl) (x1 : Int) (x5 : Sl) (x6 : Bool) (x7 : Int) (h : H) : Prop :=
  idxA x0 x7 1 fun a10 =>
  ldI .i64 h a10 fun y12 =>
  (((y12 == x1)) = true →
  F.spateref9_With.j4 Q C1 x0 x1 x5 true x7 h) ∧
  (((y12 == x1)) = false →
  F.spateref9_With.j4 Q C1 x0 x1 x5 x6 x7 h)
def F.spateref9_With.j5 (Q : Sl → H → Prop) (C1 : Sl → Int → Sl → Bool → Int → H → Prop) (x0 : Sl) (x1 : Int) (x5 : Sl) (x6 : Bool) (x7 : Int) (x23 : Bool) (h : H) : Prop :=
  (x23 = true →
  newL h #[(.int .i64 x1)] ty_3 1 fun s17 h16 =>
  runL PP (Builtin.append_ #[38, 38] 38 #[x5.enc, s17.enc]) h16 fun s19 h18 =>
  F.spateref9_With.j3 Q C1 x0 x1 s19 true x7 h18) ∧
  (x23 = false →
  F.spateref9_With.j3 Q C1 x0 x1 x5 x6 x7 h)
def F.spateref9_With.j6 (Q : Sl → H → Prop) (x5 : Sl) (h : H) : Prop :=
  Q x5 h
def F.spateref9_With.l1 (Q : Sl → H → Prop) : Nat → Sl → Int → Sl → Bool → Int → H → Prop
  | 0, _, _, _, _, _, _ => False
  | q1 + 1, x0, x1, x5, x6, x7, h =>
    ((decide (x7 < (x0.len : Int))) = true →
    ((!x6) = true →
    idxA x0 x7 1 fun a21 =>
    ldI .i64 h a21 fun y23 =>
    F.spateref9_With.j5 Q (F.spateref9_With.l1 Q q1) x0 x1 x5 x6 x7 (decide (y23 > x1)) h) ∧
    ((!x6) = false →
    F.spateref9_With.j5 Q (F.spateref9_With.l1 Q q1) x0 x1 x5 x6 x7 false h)) ∧
    ((decide (x7 < (x0.len : Int))) = false →
    ((!x6) = true →
    newL h #[(.int .i64 x1)] ty_3 1 fun s27 h26 =>
    runL PP (Builtin.append_ #[38, 38] 38 #[x5.enc, s27.enc]) h26 fun s29 h28 =>
    F.spateref9_With.j6 Q s29 h28) ∧
    ((!x6) = false →
    F.spateref9_With.j6 Q x5 h))
/-- spate/spateref9.With -/
def F.spateref9_With (p0 : Sl) (p1 : Int) (h : H) (Q : Sl → H → Prop) : Prop :=
  ∃ m, F.spateref9_With.l1 Q m p0 p1 (⟨none, 0, 0⟩ : Sl) false 0 h
theorem F.spateref9_With_ok {p0 : Sl} {p1 : Int} {h : H} {Q : Sl → H → Prop} (H : F.spateref9_With p0 p1 h Q) : Fn PP 53 ([p0.enc, (.int .i64 p1)] : List Value).toArray h fun r h' => ∃ r0, r = r0.enc ∧ Q r0 h' := by
  unfold F.spateref9_With at H
  refine fn_of Tryz.func53 Tryz.ntmps53 rfl rfl fun w0 => ?_
  refine tr_sub [(0, p0.enc), (1, (.int .i64 p1))] ⟨rfl, rfl, trivial⟩ ?_
  refine tr_seq ?_
  refine tr_region ?_
  refine tr_p (y_assign rfl) rfl rfl ?_
  refine tr_nil ?_
  refine tr_thenN ?_
  refine tr_seq ?_
  refine tr_region ?_
  refine tr_p (y_assign rfl) rfl rfl ?_
  refine tr_nil ?_
  refine tr_thenN ?_
  refine tr_seq ?_
  refine tr_region ?_
  refine tr_p (y_assign rfl) rfl rfl ?_
  refine tr_nil ?_
  refine tr_thenN ?_
  refine tr_seq ?_
  refine tr_seq ?_
  refine tr_region ?_
  refine tr_p (y_assign rfl) rfl rfl ?_
  refine tr_nil ?_
  refine tr_thenN ?_
  refine tr_block ?_
  obtain ⟨m30, H⟩ := H
  refine tr_sub [(0, p0.enc), (1, (.int .i64 p1)), (5, (⟨none, 0, 0⟩ : Sl).enc), (6, (.bool false)), (7, (.int .i64 0))] ⟨rfl, rfl, rfl, rfl, rfl, trivial⟩ ?_
  refine tr_loop_j (fun m L' h => ∃ (x0 : Sl) (x1 : Int) (x5 : Sl) (x6 : Bool) (x7 : Int), L' = [(0, x0.enc), (1, (.int .i64 x1)), (5, x5.enc), (6, (.bool x6)), (7, (.int .i64 x7))] ∧ F.spateref9_With.l1 Q m x0 x1 x5 x6 x7 h) ?_ ?_ m30 ⟨_, _, _, _, _, rfl, H⟩
  · rintro L' h ⟨_, _, _, _, _, _, H⟩; exact H
  · rintro q1 L' h ⟨x0, x1, x5, x6, x7, rfl, H⟩
    unfold F.spateref9_With.l1 at H
    refine tr_seq ?_
    refine tr_seq ?_
    refine tr_region ?_
    refine tr_p (y_move rfl) rfl rfl ?_
    refine tr_p (y_move rfl) rfl rfl ?_
    refine tr_p (y_len (ts := #[]) Tryz.runUnderlying38 (o := x0.ptr) (n := x0.len) (cap := x0.cap) rfl) rfl rfl ?_
    refine tr_p (y_lss rfl rfl) rfl rfl ?_
    refine tr_nil ?_
    refine tr_thenN ?_
    refine tr_cond rfl (fun g1 => ?_) (fun g1 => ?_)
    · replace H := H.1 g1
      refine tr_skip ?_
      refine tr_thenN ?_
      refine tr_seq_j (fun L' h => ∃ (x0 : Sl) (x1 : Int) (x5 : Sl) (x6 : Bool) (x7 : Int), L' = [(0, x0.enc), (1, (.int .i64 x1)), (5, x5.enc), (6, (.bool x6)), (7, (.int .i64 x7))] ∧ F.spateref9_With.j2 Q (F.spateref9_With.l1 Q q1) x0 x1 x5 x6 x7 h) ?_ ?_
      · rintro L' h ⟨x0, x1, x5, x6, x7, rfl, H⟩
        unfold F.spateref9_With.j2 at H
        refine tr_region ?_
        refine tr_p (y_move rfl) rfl rfl ?_
        refine tr_p (y_add rfl rfl) rfl rfl ?_
        refine tr_p (y_assign rfl) rfl rfl ?_
        refine tr_nil ?_
        refine tr_thenN ?_
        exact tr_join [(0, x0.enc), (1, (.int .i64 x1)), (5, x5.enc), (6, (.bool x6)), (7, (.int .i64 (IntKind.wrap .i64 (x7 + 1))))] ⟨rfl, rfl, rfl, rfl, rfl, trivial⟩ ⟨_, _, _, _, _, rfl, H⟩
      · refine tr_block ?_
        refine tr_seq_j (fun L' h => ∃ (x0 : Sl) (x1 : Int) (x5 : Sl) (x6 : Bool) (x7 : Int), L' = [(0, x0.enc), (1, (.int .i64 x1)), (5, x5.enc), (6, (.bool x6)), (7, (.int .i64 x7))] ∧ F.spateref9_With.j3 Q (F.spateref9_With.l1 Q q1) x0 x1 x5 x6 x7 h) ?_ ?_
        · rintro L' h ⟨x0, x1, x5, x6, x7, rfl, H⟩
          unfold F.spateref9_With.j3 at H
          refine tr_seq_j (fun L' h => ∃ (x0 : Sl) (x1 : Int) (x5 : Sl) (x6 : Bool) (x7 : Int), L' = [(0, x0.enc), (1, (.int .i64 x1)), (5, x5.enc), (6, (.bool x6)), (7, (.int .i64 x7))] ∧ F.spateref9_With.j4 Q (F.spateref9_With.l1 Q q1) x0 x1 x5 x6 x7 h) ?_ ?_
          · rintro L' h ⟨x0, x1, x5, x6, x7, rfl, H⟩
            unfold F.spateref9_With.j4 at H
            refine tr_region ?_
            refine tr_p (y_move rfl) rfl rfl ?_
            refine tr_p (y_move rfl) rfl rfl ?_
            refine tr_p (y_move rfl) rfl rfl ?_
            obtain ⟨a2, e3, H⟩ := H
            refine tr_p (f_idx (s := x0) Tryz.runUnderlying38 Tryz.sizeOf3 rfl rfl e3) rfl rfl ?_
            obtain ⟨y4, k5, H⟩ := H
            refine tr_h (y_ld Tryz.isAgg3 rfl) k5 rfl rfl ?_
            refine tr_e (f_buildL (cs := #[(.int .i64 y4)]) rfl rfl (bl_38_1_0 y4) H) rfl rfl ?_
            rintro _ h6 ⟨s7, rfl, H⟩
            refine tr_e (f_app rfl H) rfl rfl ?_
            rintro _ h8 ⟨s9, rfl, H⟩
            refine tr_p (y_assign rfl) rfl rfl ?_
            refine tr_nil ?_
            refine tr_blockN ?_
            refine tr_thenN ?_
            exact tr_join [(0, x0.enc), (1, (.int .i64 x1)), (5, s9.enc), (6, (.bool x6)), (7, (.int .i64 x7))] ⟨rfl, rfl, rfl, rfl, rfl, trivial⟩ ⟨_, _, _, _, _, rfl, H⟩
          · refine tr_seq ?_
            refine tr_region ?_
            refine tr_p (y_move rfl) rfl rfl ?_
            refine tr_p (y_move rfl) rfl rfl ?_
            obtain ⟨a10, e11, H⟩ := H
            refine tr_p (f_idx (s := x0) Tryz.runUnderlying38 Tryz.sizeOf3 rfl rfl e11) rfl rfl ?_
            obtain ⟨y12, k13, H⟩ := H
            refine tr_h (y_ld Tryz.isAgg3 rfl) k13 rfl rfl ?_
            refine tr_p (y_move rfl) rfl rfl ?_
            refine tr_p (y_eql rfl rfl) rfl rfl ?_
            refine tr_nil ?_
            refine tr_thenN ?_
            refine tr_cond rfl (fun g14 => ?_) (fun g14 => ?_)
            · replace H := H.1 g14
              refine tr_region ?_
              refine tr_p (y_assign rfl) rfl rfl ?_
              refine tr_nil ?_
              refine tr_thenN ?_
              exact tr_join [(0, x0.enc), (1, (.int .i64 x1)), (5, x5.enc), (6, (.bool true)), (7, (.int .i64 x7))] ⟨rfl, rfl, rfl, rfl, rfl, trivial⟩ ⟨_, _, _, _, _, rfl, H⟩
            · replace H := H.2 g14
              refine tr_skip ?_
              refine tr_thenN ?_
              exact tr_join [(0, x0.enc), (1, (.int .i64 x1)), (5, x5.enc), (6, (.bool x6)), (7, (.int .i64 x7))] ⟨rfl, rfl, rfl, rfl, rfl, trivial⟩ ⟨_, _, _, _, _, rfl, H⟩
        · refine tr_seq_j (fun L' h => ∃ (x0 : Sl) (x1 : Int) (x5 : Sl) (x6 : Bool) (x7 : Int) (x23 : Bool), L' = [(0, x0.enc), (1, (.int .i64 x1)), (5, x5.enc), (6, (.bool x6)), (7, (.int .i64 x7)), (23, (.bool x23))] ∧ F.spateref9_With.j5 Q (F.spateref9_With.l1 Q q1) x0 x1 x5 x6 x7 x23 h) ?_ ?_
          · rintro L' h ⟨x0, x1, x5, x6, x7, x23, rfl, H⟩
            unfold F.spateref9_With.j5 at H
            refine tr_cond rfl (fun g15 => ?_) (fun g15 => ?_)
            · replace H := H.1 g15
              refine tr_seq ?_
              refine tr_region ?_
              refine tr_p (y_move rfl) rfl rfl ?_
              refine tr_p (y_move rfl) rfl rfl ?_
              refine tr_e (f_buildL (cs := #[(.int .i64 x1)]) rfl rfl (bl_38_1_0 x1) H) rfl rfl ?_
              rintro _ h16 ⟨s17, rfl, H⟩
              refine tr_e (f_app rfl H) rfl rfl ?_
              rintro _ h18 ⟨s19, rfl, H⟩
              refine tr_p (y_assign rfl) rfl rfl ?_
              refine tr_nil ?_
              refine tr_thenN ?_
              refine tr_region ?_
              refine tr_p (y_assign rfl) rfl rfl ?_
              refine tr_nil ?_
              refine tr_thenN ?_
              exact tr_join [(0, x0.enc), (1, (.int .i64 x1)), (5, s19.enc), (6, (.bool true)), (7, (.int .i64 x7))] ⟨rfl, rfl, rfl, rfl, rfl, trivial⟩ ⟨_, _, _, _, _, rfl, H⟩
            · replace H := H.2 g15
              refine tr_skip ?_
              refine tr_thenN ?_
              exact tr_join [(0, x0.enc), (1, (.int .i64 x1)), (5, x5.enc), (6, (.bool x6)), (7, (.int .i64 x7))] ⟨rfl, rfl, rfl, rfl, rfl, trivial⟩ ⟨_, _, _, _, _, rfl, H⟩
          · refine tr_region ?_
            refine tr_p (y_move rfl) rfl rfl ?_
            refine tr_p (y_not rfl) rfl rfl ?_
            refine tr_p (y_move rfl) rfl rfl ?_
            refine tr_split (t := 16) rfl (fun g20 => ?_) (fun g20 => ?_)
            · replace H := H.1 g20
              refine tr_p (y_move rfl) rfl rfl ?_
              refine tr_p (y_move rfl) rfl rfl ?_
              obtain ⟨a21, e22, H⟩ := H
              refine tr_p (f_idx (s := x0) Tryz.runUnderlying38 Tryz.sizeOf3 rfl rfl e22) rfl rfl ?_
              obtain ⟨y23, k24, H⟩ := H
              refine tr_h (y_ld Tryz.isAgg3 rfl) k24 rfl rfl ?_
              refine tr_p (y_move rfl) rfl rfl ?_
              refine tr_p (y_gtr rfl rfl) rfl rfl ?_
              refine tr_p (y_pick_t rfl rfl) rfl rfl ?_
              refine tr_nil ?_
              refine tr_thenN ?_
              exact tr_join [(0, x0.enc), (1, (.int .i64 x1)), (5, x5.enc), (6, (.bool x6)), (7, (.int .i64 x7)), (23, (.bool (decide (y23 > x1))))] ⟨rfl, rfl, rfl, rfl, rfl, rfl, trivial⟩ ⟨_, _, _, _, _, _, rfl, H⟩
            · replace H := H.2 g20
              refine tr_s rfl rfl ?_
              refine tr_s rfl rfl ?_
              refine tr_s rfl rfl ?_
              refine tr_s rfl rfl ?_
              refine tr_s rfl rfl ?_
              refine tr_s rfl rfl ?_
              refine tr_p (y_pick_f rfl rfl) rfl rfl ?_
              refine tr_nil ?_
              refine tr_thenN ?_
              exact tr_join [(0, x0.enc), (1, (.int .i64 x1)), (5, x5.enc), (6, (.bool x6)), (7, (.int .i64 x7)), (23, (.bool false))] ⟨rfl, rfl, rfl, rfl, rfl, rfl, trivial⟩ ⟨_, _, _, _, _, _, rfl, H⟩
    · replace H := H.2 g1
      refine tr_exit ?_
      refine tr_thenE ?_
      refine tr_thenE ?_
      refine tr_hit ?_
      refine tr_thenN ?_
      refine tr_seq_j (fun L' h => ∃ (x5 : Sl), L' = [(5, x5.enc)] ∧ F.spateref9_With.j6 Q x5 h) ?_ ?_
      · rintro L' h ⟨x5, rfl, H⟩
        unfold F.spateref9_With.j6 at H
        refine tr_seq ?_
        refine tr_region ?_
        refine tr_p (y_move rfl) rfl rfl ?_
        refine tr_p (y_assign rfl) rfl rfl ?_
        refine tr_nil ?_
        refine tr_thenN ?_
        refine tr_ret ?_
        exact tr_ret1 rfl rfl ⟨_, rfl, H⟩
      · refine tr_seq ?_
        refine tr_region ?_
        refine tr_p (y_move rfl) rfl rfl ?_
        refine tr_p (y_not rfl) rfl rfl ?_
        refine tr_nil ?_
        refine tr_thenN ?_
        refine tr_cond rfl (fun g25 => ?_) (fun g25 => ?_)
        · replace H := H.1 g25
          refine tr_region ?_
          refine tr_p (y_move rfl) rfl rfl ?_
          refine tr_p (y_move rfl) rfl rfl ?_
          refine tr_e (f_buildL (cs := #[(.int .i64 x1)]) rfl rfl (bl_38_1_0 x1) H) rfl rfl ?_
          rintro _ h26 ⟨s27, rfl, H⟩
          refine tr_e (f_app rfl H) rfl rfl ?_
          rintro _ h28 ⟨s29, rfl, H⟩
          refine tr_p (y_assign rfl) rfl rfl ?_
          refine tr_nil ?_
          refine tr_thenN ?_
          exact tr_join [(5, s29.enc)] ⟨rfl, trivial⟩ ⟨_, rfl, H⟩
        · replace H := H.2 g25
          refine tr_skip ?_
          refine tr_thenN ?_
          exact tr_join [(5, x5.enc)] ⟨rfl, trivial⟩ ⟨_, rfl, H⟩

/-- (*spate/spateref9.Book).Seal -/
def F.spateref9_Book_Seal (p0 : Option Addr) (p1 : Int) (h : H) (Q : Int → Int → H → Prop) : Prop :=
  F.spateref9_owner p1 h fun r2 h1 =>
  ((!r2) = true →
  Q 0 1 h1) ∧
  ((!r2) = false →
  nn p0 fun a4 =>
  ldL h1 (a4.add 2) fun y6 =>
  idxA y6 p1 1 fun a8 =>
  ldL h1 a8 fun y10 =>
  nn p0 fun a12 =>
  ldI .i64 h1 (a12.add 0) fun y14 =>
  ((decide ((y10.len : Int) ≥ y14)) = true →
  Q 0 34 h1) ∧
  ((decide ((y10.len : Int) ≥ y14)) = false →
  nn p0 fun a17 =>
  ldI .i64 h1 (a17.add 1) fun y19 =>
  ((decide (y19 ≥ 1099511627776)) = true →
  Q 0 2 h1) ∧
  ((decide (y19 ≥ 1099511627776)) = false →
  nn p0 fun a22 =>
  ldI .i64 h1 (a22.add 1) fun y24 =>
  nn p0 fun a26 =>
  ldL h1 (a26.add 2) fun y28 =>
  nn p0 fun a30 =>
  ldL h1 (a30.add 2) fun y32 =>
  idxA y32 p1 1 fun a34 =>
  ldL h1 a34 fun y36 =>
  F.spateref9_With y36 y24 h1 fun r39 h38 =>
  cellH h38 (a26.add 2) = some y28.enc ∧
  idxA y28 p1 1 fun a41 =>
  stH h38 a41 [r39.enc] fun h43 =>
  nn p0 fun a44 =>
  ldI .i64 h43 (a44.add 1) fun y46 =>
  nn p0 fun a48 =>
  stH h43 (a48.add 1) [(.int .i64 (IntKind.wrap .i64 (y46 + 1)))] fun h50 =>
  Q y24 0 h50)))
theorem F.spateref9_Book_Seal_ok {p0 : Option Addr} {p1 : Int} {h : H} {Q : Int → Int → H → Prop} (H : F.spateref9_Book_Seal p0 p1 h Q) : Fn PP 25 ([(.pointer p0), (.int .i64 p1)] : List Value).toArray h fun r h' => ∃ r0 r1, r = .tuple #[(.int .i64 r0), (.int .i64 r1)] ∧ Q r0 r1 h' := by
  unfold F.spateref9_Book_Seal at H
  refine fn_of Tryz.func25 Tryz.ntmps25 rfl rfl fun w0 => ?_
  refine tr_sub [(0, (.pointer p0)), (1, (.int .i64 p1))] ⟨rfl, rfl, trivial⟩ ?_
  refine tr_seq ?_
  refine tr_region ?_
  refine tr_p (y_assign rfl) rfl rfl ?_
  refine tr_p (y_assign rfl) rfl rfl ?_
  refine tr_nil ?_
  refine tr_thenN ?_
  refine tr_seq ?_
  refine tr_seq ?_
  refine tr_region ?_
  refine tr_p (y_move rfl) rfl rfl ?_
  refine tr_e (e_call Tryz.call41 rfl (F.spateref9_owner_ok H)) rfl rfl ?_
  rintro _ h1 ⟨r2, rfl, H⟩
  refine tr_p (y_not rfl) rfl rfl ?_
  refine tr_nil ?_
  refine tr_thenN ?_
  refine tr_cond rfl (fun g3 => ?_) (fun g3 => ?_)
  · replace H := H.1 g3
    refine tr_seq ?_
    refine tr_region ?_
    refine tr_p (y_assign rfl) rfl rfl ?_
    refine tr_p (y_assign rfl) rfl rfl ?_
    refine tr_nil ?_
    refine tr_thenN ?_
    refine tr_ret ?_
    refine tr_thenR ?_
    exact tr_ret2 rfl rfl rfl ⟨_, _, rfl, H⟩
  · replace H := H.2 g3
    refine tr_skip ?_
    refine tr_thenN ?_
    refine tr_seq ?_
    refine tr_seq ?_
    refine tr_draw mixed [0, 1, 3, 7, 0, 31, 63, 127, 0, 256, 768, 1792, 4095] (by kernel_rfl) ?_
    refine g_p 0 1 rfl (by kernel_rfl) (y_move rfl) rfl rfl ?_
    obtain ⟨a4, e5, H⟩ := H
    refine g_p 1 3 rfl (by kernel_rfl) (f_nn rfl e5) rfl rfl ?_
    refine g_p 2 7 rfl (by kernel_rfl) (y_fa (off := 2) Tryz.runUnderlying40 fo_40_2 rfl) rfl rfl ?_
    obtain ⟨y6, k7, H⟩ := H
    refine g_h 3 15 rfl (by kernel_rfl) (y_ld Tryz.isAgg37 rfl) k7 rfl rfl ?_
    refine g_p 4 31 rfl (by kernel_rfl) (y_move rfl) rfl rfl ?_
    obtain ⟨a8, e9, H⟩ := H
    refine g_p 5 63 rfl (by kernel_rfl) (f_idx (s := y6) Tryz.runUnderlying37 Tryz.sizeOf38 rfl rfl e9) rfl rfl ?_
    obtain ⟨y10, k11, H⟩ := H
    refine g_h 6 127 rfl (by kernel_rfl) (y_ld Tryz.isAgg38 rfl) k11 rfl rfl ?_
    refine g_p 7 255 rfl (by kernel_rfl) (y_len (ts := #[]) Tryz.runUnderlying38 (o := y10.ptr) (n := y10.len) (cap := y10.cap) rfl) rfl rfl ?_
    refine g_p 8 511 rfl (by kernel_rfl) (y_move rfl) rfl rfl ?_
    obtain ⟨a12, e13, H⟩ := H
    refine g_p 9 1023 rfl (by kernel_rfl) (f_nn rfl e13) rfl rfl ?_
    refine g_p 10 2047 rfl (by kernel_rfl) (y_fa (off := 0) Tryz.runUnderlying40 fo_40_0 rfl) rfl rfl ?_
    obtain ⟨y14, k15, H⟩ := H
    refine g_h 11 4095 rfl (by kernel_rfl) (y_ld Tryz.isAgg3 rfl) k15 rfl rfl ?_
    refine g_p 12 8191 rfl (by kernel_rfl) (y_geq rfl rfl) rfl rfl ?_
    refine g_d (by kernel_rfl) ?_
    refine tr_thenN ?_
    refine tr_cond rfl (fun g16 => ?_) (fun g16 => ?_)
    · replace H := H.1 g16
      refine tr_seq ?_
      refine tr_region ?_
      refine tr_p (y_assign rfl) rfl rfl ?_
      refine tr_p (y_assign rfl) rfl rfl ?_
      refine tr_nil ?_
      refine tr_thenN ?_
      refine tr_ret ?_
      refine tr_thenR ?_
      exact tr_ret2 rfl rfl rfl ⟨_, _, rfl, H⟩
    · replace H := H.2 g16
      refine tr_skip ?_
      refine tr_thenN ?_
      refine tr_seq ?_
      refine tr_seq ?_
      refine tr_region ?_
      refine tr_p (y_move rfl) rfl rfl ?_
      obtain ⟨a17, e18, H⟩ := H
      refine tr_p (f_nn rfl e18) rfl rfl ?_
      refine tr_p (y_fa (off := 1) Tryz.runUnderlying40 fo_40_1 rfl) rfl rfl ?_
      obtain ⟨y19, k20, H⟩ := H
      refine tr_h (y_ld Tryz.isAgg3 rfl) k20 rfl rfl ?_
      refine tr_p (y_geq rfl rfl) rfl rfl ?_
      refine tr_nil ?_
      refine tr_thenN ?_
      refine tr_cond rfl (fun g21 => ?_) (fun g21 => ?_)
      · replace H := H.1 g21
        refine tr_seq ?_
        refine tr_region ?_
        refine tr_p (y_assign rfl) rfl rfl ?_
        refine tr_p (y_assign rfl) rfl rfl ?_
        refine tr_nil ?_
        refine tr_thenN ?_
        refine tr_ret ?_
        refine tr_thenR ?_
        exact tr_ret2 rfl rfl rfl ⟨_, _, rfl, H⟩
      · replace H := H.2 g21
        refine tr_skip ?_
        refine tr_thenN ?_
        refine tr_seq ?_
        refine tr_region ?_
        refine tr_p (y_move rfl) rfl rfl ?_
        obtain ⟨a22, e23, H⟩ := H
        refine tr_p (f_nn rfl e23) rfl rfl ?_
        refine tr_p (y_fa (off := 1) Tryz.runUnderlying40 fo_40_1 rfl) rfl rfl ?_
        obtain ⟨y24, k25, H⟩ := H
        refine tr_h (y_ld Tryz.isAgg3 rfl) k25 rfl rfl ?_
        refine tr_p (y_assign rfl) rfl rfl ?_
        refine tr_nil ?_
        refine tr_thenN ?_
        refine tr_seq ?_
        refine tr_draw mixed [0, 1, 3, 7, 0, 0, 32, 96, 224, 0, 992, 2016, 0, 8160, 16383, 32767] (by kernel_rfl) ?_
        refine g_p 0 1 rfl (by kernel_rfl) (y_move rfl) rfl rfl ?_
        obtain ⟨a26, e27, H⟩ := H
        refine g_p 1 3 rfl (by kernel_rfl) (f_nn rfl e27) rfl rfl ?_
        refine g_p 2 7 rfl (by kernel_rfl) (y_fa (off := 2) Tryz.runUnderlying40 fo_40_2 rfl) rfl rfl ?_
        obtain ⟨y28, k29, H⟩ := H
        refine g_h 3 15 rfl (by kernel_rfl) (y_ld Tryz.isAgg37 rfl) k29 rfl rfl ?_
        refine g_p 4 31 rfl (by kernel_rfl) (y_move rfl) rfl rfl ?_
        refine g_p 5 63 rfl (by kernel_rfl) (y_move rfl) rfl rfl ?_
        obtain ⟨a30, e31, H⟩ := H
        refine g_p 6 127 rfl (by kernel_rfl) (f_nn rfl e31) rfl rfl ?_
        refine g_p 7 255 rfl (by kernel_rfl) (y_fa (off := 2) Tryz.runUnderlying40 fo_40_2 rfl) rfl rfl ?_
        obtain ⟨y32, k33, H⟩ := H
        refine g_h 8 511 rfl (by kernel_rfl) (y_ld Tryz.isAgg37 rfl) k33 rfl rfl ?_
        refine g_p 9 1023 rfl (by kernel_rfl) (y_move rfl) rfl rfl ?_
        obtain ⟨a34, e35, H⟩ := H
        refine g_p 10 2047 rfl (by kernel_rfl) (f_idx (s := y32) Tryz.runUnderlying37 Tryz.sizeOf38 rfl rfl e35) rfl rfl ?_
        obtain ⟨y36, k37, H⟩ := H
        refine g_h 11 4095 rfl (by kernel_rfl) (y_ld Tryz.isAgg38 rfl) k37 rfl rfl ?_
        refine g_p 12 8191 rfl (by kernel_rfl) (y_move rfl) rfl rfl ?_
        refine g_e 13 16383 [(3, fun h => cellH h (a26.add 2) = some y28.enc)] (by kernel_rfl) rfl (by kernel_rfl) (e_call Tryz.call53 rfl (F.spateref9_With_ok H)) rfl rfl ?_
        rintro _ h38 ⟨r39, rfl, H⟩
        obtain ⟨k40, H⟩ := H
        refine ⟨And.intro k40 trivial, ?_⟩
        obtain ⟨a41, e42, H⟩ := H
        refine g_p 14 32767 rfl (by kernel_rfl) (f_idx (s := y28) Tryz.runUnderlying37 Tryz.sizeOf38 rfl rfl e42) rfl rfl ?_
        refine g_e 15 65535 [] (by kernel_rfl) rfl (by kernel_rfl) (f_store (vs := [r39.enc]) Tryz.sizeOf38 rfl rfl rfl rfl (one1 rfl) H) rfl rfl ?_
        rintro _ h43 ⟨rfl, H⟩
        refine ⟨trivial, ?_⟩
        refine g_d (by kernel_rfl) ?_
        refine tr_thenN ?_
        refine tr_seq ?_
        refine tr_region ?_
        refine tr_p (y_move rfl) rfl rfl ?_
        obtain ⟨a44, e45, H⟩ := H
        refine tr_p (f_nn rfl e45) rfl rfl ?_
        refine tr_p (y_fa (off := 1) Tryz.runUnderlying40 fo_40_1 rfl) rfl rfl ?_
        obtain ⟨y46, k47, H⟩ := H
        refine tr_h (y_ld Tryz.isAgg3 rfl) k47 rfl rfl ?_
        refine tr_p (y_add rfl rfl) rfl rfl ?_
        obtain ⟨a48, e49, H⟩ := H
        refine tr_p (f_nn rfl e49) rfl rfl ?_
        refine tr_p (y_fa (off := 1) Tryz.runUnderlying40 fo_40_1 rfl) rfl rfl ?_
        refine tr_e (f_store (vs := [(.int .i64 (IntKind.wrap .i64 (y46 + 1)))]) Tryz.sizeOf3 rfl rfl rfl rfl (one1 rfl) H) rfl rfl ?_
        rintro _ h50 ⟨rfl, H⟩
        refine tr_nil ?_
        refine tr_thenN ?_
        refine tr_seq ?_
        refine tr_region ?_
        refine tr_p (y_move rfl) rfl rfl ?_
        refine tr_p (y_assign rfl) rfl rfl ?_
        refine tr_p (y_assign rfl) rfl rfl ?_
        refine tr_nil ?_
        refine tr_thenN ?_
        refine tr_ret ?_
        exact tr_ret2 rfl rfl rfl ⟨_, _, rfl, H⟩

/-- (*spate/epoch.Book).Inner -/
def F.epoch_Book_Inner (p0 : Option Addr) (p1 : Int) (h : H) (Q : Int → Int → H → Prop) : Prop :=
  F.epoch_Book_guard p0 h fun r2 h1 =>
  fnV r2 fun f_1 fi_1 ca_1 =>
  F.epoch_is p1 h1 fun r5 h4 =>
  ((!r5) = true →
  dcall PP f_1 ((fi_1 ++ ([] : List Value).toArray) ++ ca_1) h4 fun h7 =>
  Q 0 1 h7) ∧
  ((!r5) = false →
  nn p0 fun a8 =>
  (0 ≤ (p1 : Int) ∧ p1 < 65) ∧
  ldI .i64 h4 (((a8.add 4).add ((p1 : Int).toNat * 2)).add 1) fun y11 =>
  (((y11 != 0)) = true →
  dcall PP f_1 ((fi_1 ++ ([] : List Value).toArray) ++ ca_1) h4 fun h14 =>
  Q 0 43 h14) ∧
  (((y11 != 0)) = false →
  nn p0 fun a15 =>
  ldI .i64 h4 (a15.add 3) fun y17 =>
  (((y17 == 1099511627776)) = true →
  dcall PP f_1 ((fi_1 ++ ([] : List Value).toArray) ++ ca_1) h4 fun h20 =>
  Q 0 2 h20) ∧
  (((y17 == 1099511627776)) = false →
  nn p0 fun a21 =>
  ldI .i64 h4 (a21.add 3) fun y23 =>
  nn p0 fun a25 =>
  (0 ≤ (p1 : Int) ∧ p1 < 65) ∧
  stH h4 (((a25.add 4).add ((p1 : Int).toNat * 2)).add 1) [(.int .i64 y23)] fun h28 =>
  nn p0 fun a29 =>
  ldI .i64 h28 (a29.add 3) fun y31 =>
  nn p0 fun a33 =>
  stH h28 (a33.add 3) [(.int .i64 (IntKind.wrap .i64 (y31 + 1)))] fun h35 =>
  nn p0 fun a36 =>
  ldI .i64 h35 (a36.add 3) fun y38 =>
  dcall PP f_1 ((fi_1 ++ ([] : List Value).toArray) ++ ca_1) h35 fun h40 =>
  Q (IntKind.wrap .i64 (y38 - 1)) 0 h40)))
theorem F.epoch_Book_Inner_ok {p0 : Option Addr} {p1 : Int} {h : H} {Q : Int → Int → H → Prop} (H : F.epoch_Book_Inner p0 p1 h Q) : Fn PP 26 ([(.pointer p0), (.int .i64 p1)] : List Value).toArray h fun r h' => ∃ r0 r1, r = .tuple #[(.int .i64 r0), (.int .i64 r1)] ∧ Q r0 r1 h' := by
  unfold F.epoch_Book_Inner at H
  refine fn_ofM Tryz.func26 Tryz.ntmps26 rfl rfl fun w0 => ?_
  refine tr_sub [(0, (.pointer p0)), (1, (.int .i64 p1))] ⟨rfl, rfl, trivial⟩ ?_
  refine tr_seq ?_
  refine tr_region ?_
  refine tr_p (y_assign rfl) rfl rfl ?_
  refine tr_p (y_assign rfl) rfl rfl ?_
  refine tr_nil ?_
  refine tr_thenN ?_
  refine tr_seq ?_
  refine tr_region ?_
  refine tr_p (y_move rfl) rfl rfl ?_
  refine tr_e (e_call Tryz.call21 rfl (F.epoch_Book_guard_ok H)) rfl rfl ?_
  rintro r2 h1 ⟨_, rfl, H⟩
  obtain ⟨f_1, fi_1, ca_1, e3, H⟩ := H
  subst e3
  refine tr_defer rfl rfl rfl ?_
  refine tr_nil ?_
  refine tr_thenN ?_
  refine tr_seq ?_
  refine tr_block ?_
  refine tr_seq ?_
  refine tr_region ?_
  refine tr_p (y_move rfl) rfl rfl ?_
  refine tr_e (e_call Tryz.call39 rfl (F.epoch_is_ok H)) rfl rfl ?_
  rintro _ h4 ⟨r5, rfl, H⟩
  refine tr_p (y_not rfl) rfl rfl ?_
  refine tr_p (y_assign rfl) rfl rfl ?_
  refine tr_nil ?_
  refine tr_thenN ?_
  refine tr_cond rfl (fun g6 => ?_) (fun g6 => ?_)
  · replace H := H.1 g6
    refine tr_seq ?_
    refine tr_region ?_
    refine tr_p (y_assign rfl) rfl rfl ?_
    refine tr_p (y_assign rfl) rfl rfl ?_
    refine tr_nil ?_
    refine tr_thenN ?_
    refine tr_ret ?_
    refine tr_blockR ?_
    refine tr_thenR ?_
    refine tr_dcall H fun h7 H => ?_
    refine tr_pm0 ?_
    exact tr_ret2 rfl rfl rfl ⟨_, _, rfl, H⟩
  · replace H := H.2 g6
    refine tr_seq ?_
    refine tr_region ?_
    refine tr_p (y_move rfl) rfl rfl ?_
    refine tr_p (y_move rfl) rfl rfl ?_
    obtain ⟨a8, e9, H⟩ := H
    refine tr_p (f_nn rfl e9) rfl rfl ?_
    refine tr_p (y_fa (off := 4) Tryz.runUnderlying62 fo_62_3 rfl) rfl rfl ?_
    obtain ⟨e10, H⟩ := H
    refine tr_p (f_idxArr Tryz.runUnderlying60 Tryz.sizeOf59 rfl rfl e10) rfl rfl ?_
    refine tr_p (y_fa (off := 1) Tryz.runUnderlying59 fo_59_1 rfl) rfl rfl ?_
    obtain ⟨y11, k12, H⟩ := H
    refine tr_h (y_ld Tryz.isAgg3 rfl) k12 rfl rfl ?_
    refine tr_p (y_neq rfl rfl) rfl rfl ?_
    refine tr_p (y_assign rfl) rfl rfl ?_
    refine tr_nil ?_
    refine tr_thenN ?_
    refine tr_cond rfl (fun g13 => ?_) (fun g13 => ?_)
    · replace H := H.1 g13
      refine tr_seq ?_
      refine tr_region ?_
      refine tr_p (y_assign rfl) rfl rfl ?_
      refine tr_p (y_assign rfl) rfl rfl ?_
      refine tr_nil ?_
      refine tr_thenN ?_
      refine tr_ret ?_
      refine tr_blockR ?_
      refine tr_thenR ?_
      refine tr_dcall H fun h14 H => ?_
      refine tr_pm0 ?_
      exact tr_ret2 rfl rfl rfl ⟨_, _, rfl, H⟩
    · replace H := H.2 g13
      refine tr_seq ?_
      refine tr_region ?_
      refine tr_p (y_move rfl) rfl rfl ?_
      obtain ⟨a15, e16, H⟩ := H
      refine tr_p (f_nn rfl e16) rfl rfl ?_
      refine tr_p (y_fa (off := 3) Tryz.runUnderlying62 fo_62_2 rfl) rfl rfl ?_
      obtain ⟨y17, k18, H⟩ := H
      refine tr_h (y_ld Tryz.isAgg3 rfl) k18 rfl rfl ?_
      refine tr_p (y_eql rfl rfl) rfl rfl ?_
      refine tr_p (y_assign rfl) rfl rfl ?_
      refine tr_nil ?_
      refine tr_thenN ?_
      refine tr_cond rfl (fun g19 => ?_) (fun g19 => ?_)
      · replace H := H.1 g19
        refine tr_seq ?_
        refine tr_region ?_
        refine tr_p (y_assign rfl) rfl rfl ?_
        refine tr_p (y_assign rfl) rfl rfl ?_
        refine tr_nil ?_
        refine tr_thenN ?_
        refine tr_ret ?_
        refine tr_blockR ?_
        refine tr_thenR ?_
        refine tr_dcall H fun h20 H => ?_
        refine tr_pm0 ?_
        exact tr_ret2 rfl rfl rfl ⟨_, _, rfl, H⟩
      · replace H := H.2 g19
        refine tr_skip ?_
        refine tr_blockN ?_
        refine tr_thenN ?_
        refine tr_seq ?_
        refine tr_draw mixed [0, 0, 0, 4, 12, 28, 1, 65, 255, 511, 1023] (by kernel_rfl) ?_
        refine g_p 0 1 rfl (by kernel_rfl) (y_move rfl) rfl rfl ?_
        refine g_p 1 3 rfl (by kernel_rfl) (y_move rfl) rfl rfl ?_
        refine g_p 2 7 rfl (by kernel_rfl) (y_move rfl) rfl rfl ?_
        obtain ⟨a21, e22, H⟩ := H
        refine g_p 3 15 rfl (by kernel_rfl) (f_nn rfl e22) rfl rfl ?_
        refine g_p 4 31 rfl (by kernel_rfl) (y_fa (off := 3) Tryz.runUnderlying62 fo_62_2 rfl) rfl rfl ?_
        obtain ⟨y23, k24, H⟩ := H
        refine g_h 5 63 rfl (by kernel_rfl) (y_ld Tryz.isAgg3 rfl) k24 rfl rfl ?_
        obtain ⟨a25, e26, H⟩ := H
        refine g_p 6 127 rfl (by kernel_rfl) (f_nn rfl e26) rfl rfl ?_
        refine g_p 7 255 rfl (by kernel_rfl) (y_fa (off := 4) Tryz.runUnderlying62 fo_62_3 rfl) rfl rfl ?_
        obtain ⟨e27, H⟩ := H
        refine g_p 8 511 rfl (by kernel_rfl) (f_idxArr Tryz.runUnderlying60 Tryz.sizeOf59 rfl rfl e27) rfl rfl ?_
        refine g_p 9 1023 rfl (by kernel_rfl) (y_fa (off := 1) Tryz.runUnderlying59 fo_59_1 rfl) rfl rfl ?_
        refine g_e 10 2047 [] (by kernel_rfl) rfl (by kernel_rfl) (f_store (vs := [(.int .i64 y23)]) Tryz.sizeOf3 rfl rfl rfl rfl (one1 rfl) H) rfl rfl ?_
        rintro _ h28 ⟨rfl, H⟩
        refine ⟨trivial, ?_⟩
        refine g_d (by kernel_rfl) ?_
        refine tr_thenN ?_
        refine tr_seq ?_
        refine tr_region ?_
        refine tr_p (y_move rfl) rfl rfl ?_
        obtain ⟨a29, e30, H⟩ := H
        refine tr_p (f_nn rfl e30) rfl rfl ?_
        refine tr_p (y_fa (off := 3) Tryz.runUnderlying62 fo_62_2 rfl) rfl rfl ?_
        obtain ⟨y31, k32, H⟩ := H
        refine tr_h (y_ld Tryz.isAgg3 rfl) k32 rfl rfl ?_
        refine tr_p (y_add rfl rfl) rfl rfl ?_
        obtain ⟨a33, e34, H⟩ := H
        refine tr_p (f_nn rfl e34) rfl rfl ?_
        refine tr_p (y_fa (off := 3) Tryz.runUnderlying62 fo_62_2 rfl) rfl rfl ?_
        refine tr_e (f_store (vs := [(.int .i64 (IntKind.wrap .i64 (y31 + 1)))]) Tryz.sizeOf3 rfl rfl rfl rfl (one1 rfl) H) rfl rfl ?_
        rintro _ h35 ⟨rfl, H⟩
        refine tr_nil ?_
        refine tr_thenN ?_
        refine tr_seq ?_
        refine tr_region ?_
        refine tr_p (y_move rfl) rfl rfl ?_
        obtain ⟨a36, e37, H⟩ := H
        refine tr_p (f_nn rfl e37) rfl rfl ?_
        refine tr_p (y_fa (off := 3) Tryz.runUnderlying62 fo_62_2 rfl) rfl rfl ?_
        obtain ⟨y38, k39, H⟩ := H
        refine tr_h (y_ld Tryz.isAgg3 rfl) k39 rfl rfl ?_
        refine tr_p (y_sub rfl rfl) rfl rfl ?_
        refine tr_p (y_assign rfl) rfl rfl ?_
        refine tr_p (y_assign rfl) rfl rfl ?_
        refine tr_nil ?_
        refine tr_thenN ?_
        refine tr_ret ?_
        refine tr_dcall H fun h40 H => ?_
        refine tr_pm0 ?_
        exact tr_ret2 rfl rfl rfl ⟨_, _, rfl, H⟩

/-- (*spate/spateref9.Book).Inner -/
def F.spateref9_Book_Inner (p0 : Option Addr) (p1 : Int) (h : H) (Q : Int → Int → H → Prop) : Prop :=
  F.spateref9_owner p1 h fun r2 h1 =>
  ((!r2) = true →
  Q 0 1 h1) ∧
  ((!r2) = false →
  nn p0 fun a4 =>
  ldL h1 (a4.add 3) fun y6 =>
  idxA y6 p1 1 fun a8 =>
  ldI .i64 h1 a8 fun y10 =>
  (((y10 != 0)) = true →
  Q 0 43 h1) ∧
  (((y10 != 0)) = false →
  nn p0 fun a13 =>
  ldI .i64 h1 (a13.add 1) fun y15 =>
  ((decide (y15 ≥ 1099511627776)) = true →
  Q 0 2 h1) ∧
  ((decide (y15 ≥ 1099511627776)) = false →
  nn p0 fun a18 =>
  ldI .i64 h1 (a18.add 1) fun y20 =>
  nn p0 fun a22 =>
  ldL h1 (a22.add 3) fun y24 =>
  idxA y24 p1 1 fun a26 =>
  stH h1 a26 [(.int .i64 y20)] fun h28 =>
  nn p0 fun a29 =>
  ldI .i64 h28 (a29.add 1) fun y31 =>
  nn p0 fun a33 =>
  stH h28 (a33.add 1) [(.int .i64 (IntKind.wrap .i64 (y31 + 1)))] fun h35 =>
  Q y20 0 h35)))
theorem F.spateref9_Book_Inner_ok {p0 : Option Addr} {p1 : Int} {h : H} {Q : Int → Int → H → Prop} (H : F.spateref9_Book_Inner p0 p1 h Q) : Fn PP 27 ([(.pointer p0), (.int .i64 p1)] : List Value).toArray h fun r h' => ∃ r0 r1, r = .tuple #[(.int .i64 r0), (.int .i64 r1)] ∧ Q r0 r1 h' := by
  unfold F.spateref9_Book_Inner at H
  refine fn_of Tryz.func27 Tryz.ntmps27 rfl rfl fun w0 => ?_
  refine tr_sub [(0, (.pointer p0)), (1, (.int .i64 p1))] ⟨rfl, rfl, trivial⟩ ?_
  refine tr_seq ?_
  refine tr_region ?_
  refine tr_p (y_assign rfl) rfl rfl ?_
  refine tr_p (y_assign rfl) rfl rfl ?_
  refine tr_nil ?_
  refine tr_thenN ?_
  refine tr_seq ?_
  refine tr_seq ?_
  refine tr_region ?_
  refine tr_p (y_move rfl) rfl rfl ?_
  refine tr_e (e_call Tryz.call41 rfl (F.spateref9_owner_ok H)) rfl rfl ?_
  rintro _ h1 ⟨r2, rfl, H⟩
  refine tr_p (y_not rfl) rfl rfl ?_
  refine tr_nil ?_
  refine tr_thenN ?_
  refine tr_cond rfl (fun g3 => ?_) (fun g3 => ?_)
  · replace H := H.1 g3
    refine tr_seq ?_
    refine tr_region ?_
    refine tr_p (y_assign rfl) rfl rfl ?_
    refine tr_p (y_assign rfl) rfl rfl ?_
    refine tr_nil ?_
    refine tr_thenN ?_
    refine tr_ret ?_
    refine tr_thenR ?_
    exact tr_ret2 rfl rfl rfl ⟨_, _, rfl, H⟩
  · replace H := H.2 g3
    refine tr_skip ?_
    refine tr_thenN ?_
    refine tr_seq ?_
    refine tr_seq ?_
    refine tr_region ?_
    refine tr_p (y_move rfl) rfl rfl ?_
    obtain ⟨a4, e5, H⟩ := H
    refine tr_p (f_nn rfl e5) rfl rfl ?_
    refine tr_p (y_fa (off := 3) Tryz.runUnderlying40 fo_40_3 rfl) rfl rfl ?_
    obtain ⟨y6, k7, H⟩ := H
    refine tr_h (y_ld Tryz.isAgg38 rfl) k7 rfl rfl ?_
    refine tr_p (y_move rfl) rfl rfl ?_
    obtain ⟨a8, e9, H⟩ := H
    refine tr_p (f_idx (s := y6) Tryz.runUnderlying38 Tryz.sizeOf3 rfl rfl e9) rfl rfl ?_
    obtain ⟨y10, k11, H⟩ := H
    refine tr_h (y_ld Tryz.isAgg3 rfl) k11 rfl rfl ?_
    refine tr_p (y_neq rfl rfl) rfl rfl ?_
    refine tr_nil ?_
    refine tr_thenN ?_
    refine tr_cond rfl (fun g12 => ?_) (fun g12 => ?_)
    · replace H := H.1 g12
      refine tr_seq ?_
      refine tr_region ?_
      refine tr_p (y_assign rfl) rfl rfl ?_
      refine tr_p (y_assign rfl) rfl rfl ?_
      refine tr_nil ?_
      refine tr_thenN ?_
      refine tr_ret ?_
      refine tr_thenR ?_
      exact tr_ret2 rfl rfl rfl ⟨_, _, rfl, H⟩
    · replace H := H.2 g12
      refine tr_skip ?_
      refine tr_thenN ?_
      refine tr_seq ?_
      refine tr_seq ?_
      refine tr_region ?_
      refine tr_p (y_move rfl) rfl rfl ?_
      obtain ⟨a13, e14, H⟩ := H
      refine tr_p (f_nn rfl e14) rfl rfl ?_
      refine tr_p (y_fa (off := 1) Tryz.runUnderlying40 fo_40_1 rfl) rfl rfl ?_
      obtain ⟨y15, k16, H⟩ := H
      refine tr_h (y_ld Tryz.isAgg3 rfl) k16 rfl rfl ?_
      refine tr_p (y_geq rfl rfl) rfl rfl ?_
      refine tr_nil ?_
      refine tr_thenN ?_
      refine tr_cond rfl (fun g17 => ?_) (fun g17 => ?_)
      · replace H := H.1 g17
        refine tr_seq ?_
        refine tr_region ?_
        refine tr_p (y_assign rfl) rfl rfl ?_
        refine tr_p (y_assign rfl) rfl rfl ?_
        refine tr_nil ?_
        refine tr_thenN ?_
        refine tr_ret ?_
        refine tr_thenR ?_
        exact tr_ret2 rfl rfl rfl ⟨_, _, rfl, H⟩
      · replace H := H.2 g17
        refine tr_skip ?_
        refine tr_thenN ?_
        refine tr_seq ?_
        refine tr_region ?_
        refine tr_p (y_move rfl) rfl rfl ?_
        obtain ⟨a18, e19, H⟩ := H
        refine tr_p (f_nn rfl e19) rfl rfl ?_
        refine tr_p (y_fa (off := 1) Tryz.runUnderlying40 fo_40_1 rfl) rfl rfl ?_
        obtain ⟨y20, k21, H⟩ := H
        refine tr_h (y_ld Tryz.isAgg3 rfl) k21 rfl rfl ?_
        refine tr_p (y_assign rfl) rfl rfl ?_
        refine tr_nil ?_
        refine tr_thenN ?_
        refine tr_seq ?_
        refine tr_region ?_
        refine tr_p (y_move rfl) rfl rfl ?_
        obtain ⟨a22, e23, H⟩ := H
        refine tr_p (f_nn rfl e23) rfl rfl ?_
        refine tr_p (y_fa (off := 3) Tryz.runUnderlying40 fo_40_3 rfl) rfl rfl ?_
        obtain ⟨y24, k25, H⟩ := H
        refine tr_h (y_ld Tryz.isAgg38 rfl) k25 rfl rfl ?_
        refine tr_p (y_move rfl) rfl rfl ?_
        refine tr_p (y_move rfl) rfl rfl ?_
        obtain ⟨a26, e27, H⟩ := H
        refine tr_p (f_idx (s := y24) Tryz.runUnderlying38 Tryz.sizeOf3 rfl rfl e27) rfl rfl ?_
        refine tr_e (f_store (vs := [(.int .i64 y20)]) Tryz.sizeOf3 rfl rfl rfl rfl (one1 rfl) H) rfl rfl ?_
        rintro _ h28 ⟨rfl, H⟩
        refine tr_nil ?_
        refine tr_thenN ?_
        refine tr_seq ?_
        refine tr_region ?_
        refine tr_p (y_move rfl) rfl rfl ?_
        obtain ⟨a29, e30, H⟩ := H
        refine tr_p (f_nn rfl e30) rfl rfl ?_
        refine tr_p (y_fa (off := 1) Tryz.runUnderlying40 fo_40_1 rfl) rfl rfl ?_
        obtain ⟨y31, k32, H⟩ := H
        refine tr_h (y_ld Tryz.isAgg3 rfl) k32 rfl rfl ?_
        refine tr_p (y_add rfl rfl) rfl rfl ?_
        obtain ⟨a33, e34, H⟩ := H
        refine tr_p (f_nn rfl e34) rfl rfl ?_
        refine tr_p (y_fa (off := 1) Tryz.runUnderlying40 fo_40_1 rfl) rfl rfl ?_
        refine tr_e (f_store (vs := [(.int .i64 (IntKind.wrap .i64 (y31 + 1)))]) Tryz.sizeOf3 rfl rfl rfl rfl (one1 rfl) H) rfl rfl ?_
        rintro _ h35 ⟨rfl, H⟩
        refine tr_nil ?_
        refine tr_thenN ?_
        refine tr_seq ?_
        refine tr_region ?_
        refine tr_p (y_move rfl) rfl rfl ?_
        refine tr_p (y_assign rfl) rfl rfl ?_
        refine tr_p (y_assign rfl) rfl rfl ?_
        refine tr_nil ?_
        refine tr_thenN ?_
        refine tr_ret ?_
        exact tr_ret2 rfl rfl rfl ⟨_, _, rfl, H⟩

def F.spateref9_Has.l1 (Q : Bool → H → Prop) : Nat → Sl → Int → Int → H → Prop
  | 0, _, _, _, _ => False
  | q1 + 1, x0, x1, x5, h =>
    ((decide (x5 < (x0.len : Int))) = true →
    idxA x0 x5 1 fun a2 =>
    ldI .i64 h a2 fun y4 =>
    (((y4 == x1)) = true →
    Q true h) ∧
    (((y4 == x1)) = false →
    (F.spateref9_Has.l1 Q q1) x0 x1 (IntKind.wrap .i64 (x5 + 1)) h)) ∧
    ((decide (x5 < (x0.len : Int))) = false →
    Q false h)
/-- spate/spateref9.Has -/
def F.spateref9_Has (p0 : Sl) (p1 : Int) (h : H) (Q : Bool → H → Prop) : Prop :=
  ∃ m, F.spateref9_Has.l1 Q m p0 p1 0 h
theorem F.spateref9_Has_ok {p0 : Sl} {p1 : Int} {h : H} {Q : Bool → H → Prop} (H : F.spateref9_Has p0 p1 h Q) : Fn PP 42 ([p0.enc, (.int .i64 p1)] : List Value).toArray h fun r h' => ∃ r0, r = (.bool r0) ∧ Q r0 h' := by
  unfold F.spateref9_Has at H
  refine fn_of Tryz.func42 Tryz.ntmps42 rfl rfl fun w0 => ?_
  refine tr_sub [(0, p0.enc), (1, (.int .i64 p1))] ⟨rfl, rfl, trivial⟩ ?_
  refine tr_seq ?_
  refine tr_region ?_
  refine tr_p (y_assign rfl) rfl rfl ?_
  refine tr_nil ?_
  refine tr_thenN ?_
  refine tr_seq ?_
  refine tr_seq ?_
  refine tr_region ?_
  refine tr_p (y_assign rfl) rfl rfl ?_
  refine tr_nil ?_
  refine tr_thenN ?_
  refine tr_block ?_
  obtain ⟨m7, H⟩ := H
  refine tr_sub [(0, p0.enc), (1, (.int .i64 p1)), (5, (.int .i64 0))] ⟨rfl, rfl, rfl, trivial⟩ ?_
  refine tr_loop_j (fun m L' h => ∃ (x0 : Sl) (x1 : Int) (x5 : Int), L' = [(0, x0.enc), (1, (.int .i64 x1)), (5, (.int .i64 x5))] ∧ F.spateref9_Has.l1 Q m x0 x1 x5 h) ?_ ?_ m7 ⟨_, _, _, rfl, H⟩
  · rintro L' h ⟨_, _, _, _, H⟩; exact H
  · rintro q1 L' h ⟨x0, x1, x5, rfl, H⟩
    unfold F.spateref9_Has.l1 at H
    refine tr_seq ?_
    refine tr_seq ?_
    refine tr_region ?_
    refine tr_p (y_move rfl) rfl rfl ?_
    refine tr_p (y_move rfl) rfl rfl ?_
    refine tr_p (y_len (ts := #[]) Tryz.runUnderlying38 (o := x0.ptr) (n := x0.len) (cap := x0.cap) rfl) rfl rfl ?_
    refine tr_p (y_lss rfl rfl) rfl rfl ?_
    refine tr_nil ?_
    refine tr_thenN ?_
    refine tr_cond rfl (fun g1 => ?_) (fun g1 => ?_)
    · replace H := H.1 g1
      refine tr_skip ?_
      refine tr_thenN ?_
      refine tr_seq ?_
      refine tr_block ?_
      refine tr_seq ?_
      refine tr_region ?_
      refine tr_p (y_move rfl) rfl rfl ?_
      refine tr_p (y_move rfl) rfl rfl ?_
      obtain ⟨a2, e3, H⟩ := H
      refine tr_p (f_idx (s := x0) Tryz.runUnderlying38 Tryz.sizeOf3 rfl rfl e3) rfl rfl ?_
      obtain ⟨y4, k5, H⟩ := H
      refine tr_h (y_ld Tryz.isAgg3 rfl) k5 rfl rfl ?_
      refine tr_p (y_move rfl) rfl rfl ?_
      refine tr_p (y_eql rfl rfl) rfl rfl ?_
      refine tr_nil ?_
      refine tr_thenN ?_
      refine tr_cond rfl (fun g6 => ?_) (fun g6 => ?_)
      · replace H := H.1 g6
        refine tr_seq ?_
        refine tr_region ?_
        refine tr_p (y_assign rfl) rfl rfl ?_
        refine tr_nil ?_
        refine tr_thenN ?_
        refine tr_ret ?_
        refine tr_blockR ?_
        refine tr_thenR ?_
        refine tr_thenR ?_
        refine tr_blockR ?_
        refine tr_thenR ?_
        exact tr_ret1 rfl rfl ⟨_, rfl, H⟩
      · replace H := H.2 g6
        refine tr_skip ?_
        refine tr_blockN ?_
        refine tr_thenN ?_
        refine tr_region ?_
        refine tr_p (y_move rfl) rfl rfl ?_
        refine tr_p (y_add rfl rfl) rfl rfl ?_
        refine tr_p (y_assign rfl) rfl rfl ?_
        refine tr_nil ?_
        refine tr_thenN ?_
        exact tr_join [(0, x0.enc), (1, (.int .i64 x1)), (5, (.int .i64 (IntKind.wrap .i64 (x5 + 1))))] ⟨rfl, rfl, rfl, trivial⟩ ⟨_, _, _, rfl, H⟩
    · replace H := H.2 g1
      refine tr_exit ?_
      refine tr_thenE ?_
      refine tr_thenE ?_
      refine tr_hit ?_
      refine tr_thenN ?_
      refine tr_seq ?_
      refine tr_region ?_
      refine tr_p (y_assign rfl) rfl rfl ?_
      refine tr_nil ?_
      refine tr_thenN ?_
      refine tr_ret ?_
      exact tr_ret1 rfl rfl ⟨_, rfl, H⟩

def F.spateref9_Book_Join.j2 (Q : Int → H → Prop) (C1 : (Option Addr) → Int → Int → Bool → Int → H → Prop) (x0 : Option Addr) (x1 : Int) (x2 : Int) (x7 : Bool) (x8 : Int) (h : H) : Prop :=
  C1 x0 x1 x2 x7 (IntKind.wrap .i64 (x8 + 1)) h
def F.spateref9_Book_Join.l1 (Q : Int → H → Prop) : Nat → (Option Addr) → Int → Int → Bool → Int → H → Prop
  | 0, _, _, _, _, _, _ => False
  | q1 + 1, x0, x1, x2, x7, x8, h =>
    ((decide (x8 ≤ 64)) = true →
    (x7 = true →
    F.spateref9_Book_Join.j2 Q (F.spateref9_Book_Join.l1 Q q1) x0 x1 x2 true x8 h) ∧
    (x7 = false →
    nn x0 fun a6 =>
    ldL h (a6.add 2) fun y8 =>
    idxA y8 x8 1 fun a10 =>
    ldL h a10 fun y12 =>
    F.spateref9_Has y12 x2 h fun r15 h14 =>
    F.spateref9_Book_Join.j2 Q (F.spateref9_Book_Join.l1 Q q1) x0 x1 x2 r15 x8 h14)) ∧
    ((decide (x8 ≤ 64)) = false →
    ((!x7) = true →
    Q 33 h) ∧
    ((!x7) = false →
    nn x0 fun a17 =>
    ldL h (a17.add 2) fun y19 =>
    idxA y19 x1 1 fun a21 =>
    ldL h a21 fun y23 =>
    F.spateref9_Has y23 x2 h fun r26 h25 =>
    (r26 = true →
    Q 0 h25) ∧
    (r26 = false →
    nn x0 fun a28 =>
    ldL h25 (a28.add 2) fun y30 =>
    idxA y30 x1 1 fun a32 =>
    ldL h25 a32 fun y34 =>
    nn x0 fun a36 =>
    ldI .i64 h25 (a36.add 0) fun y38 =>
    ((decide ((y34.len : Int) ≥ y38)) = true →
    Q 34 h25) ∧
    ((decide ((y34.len : Int) ≥ y38)) = false →
    nn x0 fun a41 =>
    ldL h25 (a41.add 2) fun y43 =>
    nn x0 fun a45 =>
    ldL h25 (a45.add 2) fun y47 =>
    idxA y47 x1 1 fun a49 =>
    ldL h25 a49 fun y51 =>
    F.spateref9_With y51 x2 h25 fun r54 h53 =>
    cellH h53 (a41.add 2) = some y43.enc ∧
    idxA y43 x1 1 fun a56 =>
    stH h53 a56 [r54.enc] fun h58 =>
    Q 0 h58))))
/-- (*spate/spateref9.Book).Join -/
def F.spateref9_Book_Join (p0 : Option Addr) (p1 : Int) (p2 : Int) (h : H) (Q : Int → H → Prop) : Prop :=
  F.spateref9_owner p1 h fun r2 h1 =>
  ((!r2) = true →
  Q 1 h1) ∧
  ((!r2) = false →
  ∃ m, F.spateref9_Book_Join.l1 Q m p0 p1 p2 false 1 h1)
theorem F.spateref9_Book_Join_ok {p0 : Option Addr} {p1 : Int} {p2 : Int} {h : H} {Q : Int → H → Prop} (H : F.spateref9_Book_Join p0 p1 p2 h Q) : Fn PP 28 ([(.pointer p0), (.int .i64 p1), (.int .i64 p2)] : List Value).toArray h fun r h' => ∃ r0, r = (.int .i64 r0) ∧ Q r0 h' := by
  unfold F.spateref9_Book_Join at H
  refine fn_of Tryz.func28 Tryz.ntmps28 rfl rfl fun w0 => ?_
  refine tr_sub [(0, (.pointer p0)), (1, (.int .i64 p1)), (2, (.int .i64 p2))] ⟨rfl, rfl, rfl, trivial⟩ ?_
  refine tr_seq ?_
  refine tr_region ?_
  refine tr_p (y_assign rfl) rfl rfl ?_
  refine tr_nil ?_
  refine tr_thenN ?_
  refine tr_seq ?_
  refine tr_seq ?_
  refine tr_region ?_
  refine tr_p (y_move rfl) rfl rfl ?_
  refine tr_e (e_call Tryz.call41 rfl (F.spateref9_owner_ok H)) rfl rfl ?_
  rintro _ h1 ⟨r2, rfl, H⟩
  refine tr_p (y_not rfl) rfl rfl ?_
  refine tr_nil ?_
  refine tr_thenN ?_
  refine tr_cond rfl (fun g3 => ?_) (fun g3 => ?_)
  · replace H := H.1 g3
    refine tr_seq ?_
    refine tr_region ?_
    refine tr_p (y_assign rfl) rfl rfl ?_
    refine tr_nil ?_
    refine tr_thenN ?_
    refine tr_ret ?_
    refine tr_thenR ?_
    exact tr_ret1 rfl rfl ⟨_, rfl, H⟩
  · replace H := H.2 g3
    refine tr_skip ?_
    refine tr_thenN ?_
    refine tr_seq ?_
    refine tr_region ?_
    refine tr_p (y_assign rfl) rfl rfl ?_
    refine tr_nil ?_
    refine tr_thenN ?_
    refine tr_seq ?_
    refine tr_seq ?_
    refine tr_region ?_
    refine tr_p (y_assign rfl) rfl rfl ?_
    refine tr_nil ?_
    refine tr_thenN ?_
    refine tr_block ?_
    obtain ⟨m59, H⟩ := H
    refine tr_sub [(0, (.pointer p0)), (1, (.int .i64 p1)), (2, (.int .i64 p2)), (7, (.bool false)), (8, (.int .i64 1))] ⟨rfl, rfl, rfl, rfl, rfl, trivial⟩ ?_
    refine tr_loop_j (fun m L' h => ∃ (x0 : Option Addr) (x1 : Int) (x2 : Int) (x7 : Bool) (x8 : Int), L' = [(0, (.pointer x0)), (1, (.int .i64 x1)), (2, (.int .i64 x2)), (7, (.bool x7)), (8, (.int .i64 x8))] ∧ F.spateref9_Book_Join.l1 Q m x0 x1 x2 x7 x8 h) ?_ ?_ m59 ⟨_, _, _, _, _, rfl, H⟩
    · rintro L' h ⟨_, _, _, _, _, _, H⟩; exact H
    · rintro q1 L' h ⟨x0, x1, x2, x7, x8, rfl, H⟩
      unfold F.spateref9_Book_Join.l1 at H
      refine tr_seq ?_
      refine tr_seq ?_
      refine tr_region ?_
      refine tr_p (y_move rfl) rfl rfl ?_
      refine tr_p (y_leq rfl rfl) rfl rfl ?_
      refine tr_nil ?_
      refine tr_thenN ?_
      refine tr_cond rfl (fun g4 => ?_) (fun g4 => ?_)
      · replace H := H.1 g4
        refine tr_skip ?_
        refine tr_thenN ?_
        refine tr_seq_j (fun L' h => ∃ (x0 : Option Addr) (x1 : Int) (x2 : Int) (x7 : Bool) (x8 : Int), L' = [(0, (.pointer x0)), (1, (.int .i64 x1)), (2, (.int .i64 x2)), (7, (.bool x7)), (8, (.int .i64 x8))] ∧ F.spateref9_Book_Join.j2 Q (F.spateref9_Book_Join.l1 Q q1) x0 x1 x2 x7 x8 h) ?_ ?_
        · rintro L' h ⟨x0, x1, x2, x7, x8, rfl, H⟩
          unfold F.spateref9_Book_Join.j2 at H
          refine tr_region ?_
          refine tr_p (y_move rfl) rfl rfl ?_
          refine tr_p (y_add rfl rfl) rfl rfl ?_
          refine tr_p (y_assign rfl) rfl rfl ?_
          refine tr_nil ?_
          refine tr_thenN ?_
          exact tr_join [(0, (.pointer x0)), (1, (.int .i64 x1)), (2, (.int .i64 x2)), (7, (.bool x7)), (8, (.int .i64 (IntKind.wrap .i64 (x8 + 1))))] ⟨rfl, rfl, rfl, rfl, rfl, trivial⟩ ⟨_, _, _, _, _, rfl, H⟩
        · refine tr_block ?_
          refine tr_region ?_
          refine tr_p (y_move rfl) rfl rfl ?_
          refine tr_p (y_move rfl) rfl rfl ?_
          refine tr_split (t := 17) rfl (fun g5 => ?_) (fun g5 => ?_)
          · replace H := H.1 g5
            refine tr_s rfl rfl ?_
            refine tr_s rfl rfl ?_
            refine tr_s rfl rfl ?_
            refine tr_s rfl rfl ?_
            refine tr_s rfl rfl ?_
            refine tr_s rfl rfl ?_
            refine tr_s rfl rfl ?_
            refine tr_s rfl rfl ?_
            refine tr_s rfl rfl ?_
            refine tr_p (y_pick_t rfl rfl) rfl rfl ?_
            refine tr_p (y_assign rfl) rfl rfl ?_
            refine tr_nil ?_
            refine tr_blockN ?_
            refine tr_thenN ?_
            exact tr_join [(0, (.pointer x0)), (1, (.int .i64 x1)), (2, (.int .i64 x2)), (7, (.bool true)), (8, (.int .i64 x8))] ⟨rfl, rfl, rfl, rfl, rfl, trivial⟩ ⟨_, _, _, _, _, rfl, H⟩
          · replace H := H.2 g5
            refine tr_p (y_move rfl) rfl rfl ?_
            obtain ⟨a6, e7, H⟩ := H
            refine tr_p (f_nn rfl e7) rfl rfl ?_
            refine tr_p (y_fa (off := 2) Tryz.runUnderlying40 fo_40_2 rfl) rfl rfl ?_
            obtain ⟨y8, k9, H⟩ := H
            refine tr_h (y_ld Tryz.isAgg37 rfl) k9 rfl rfl ?_
            refine tr_p (y_move rfl) rfl rfl ?_
            obtain ⟨a10, e11, H⟩ := H
            refine tr_p (f_idx (s := y8) Tryz.runUnderlying37 Tryz.sizeOf38 rfl rfl e11) rfl rfl ?_
            obtain ⟨y12, k13, H⟩ := H
            refine tr_h (y_ld Tryz.isAgg38 rfl) k13 rfl rfl ?_
            refine tr_p (y_move rfl) rfl rfl ?_
            refine tr_e (e_call Tryz.call42 rfl (F.spateref9_Has_ok H)) rfl rfl ?_
            rintro _ h14 ⟨r15, rfl, H⟩
            refine tr_p (y_pick_f rfl rfl) rfl rfl ?_
            refine tr_p (y_assign rfl) rfl rfl ?_
            refine tr_nil ?_
            refine tr_blockN ?_
            refine tr_thenN ?_
            exact tr_join [(0, (.pointer x0)), (1, (.int .i64 x1)), (2, (.int .i64 x2)), (7, (.bool r15)), (8, (.int .i64 x8))] ⟨rfl, rfl, rfl, rfl, rfl, trivial⟩ ⟨_, _, _, _, _, rfl, H⟩
      · replace H := H.2 g4
        refine tr_exit ?_
        refine tr_thenE ?_
        refine tr_thenE ?_
        refine tr_hit ?_
        refine tr_thenN ?_
        refine tr_seq ?_
        refine tr_seq ?_
        refine tr_region ?_
        refine tr_p (y_move rfl) rfl rfl ?_
        refine tr_p (y_not rfl) rfl rfl ?_
        refine tr_nil ?_
        refine tr_thenN ?_
        refine tr_cond rfl (fun g16 => ?_) (fun g16 => ?_)
        · replace H := H.1 g16
          refine tr_seq ?_
          refine tr_region ?_
          refine tr_p (y_assign rfl) rfl rfl ?_
          refine tr_nil ?_
          refine tr_thenN ?_
          refine tr_ret ?_
          refine tr_thenR ?_
          exact tr_ret1 rfl rfl ⟨_, rfl, H⟩
        · replace H := H.2 g16
          refine tr_skip ?_
          refine tr_thenN ?_
          refine tr_seq ?_
          refine tr_seq ?_
          refine tr_region ?_
          refine tr_p (y_move rfl) rfl rfl ?_
          obtain ⟨a17, e18, H⟩ := H
          refine tr_p (f_nn rfl e18) rfl rfl ?_
          refine tr_p (y_fa (off := 2) Tryz.runUnderlying40 fo_40_2 rfl) rfl rfl ?_
          obtain ⟨y19, k20, H⟩ := H
          refine tr_h (y_ld Tryz.isAgg37 rfl) k20 rfl rfl ?_
          refine tr_p (y_move rfl) rfl rfl ?_
          obtain ⟨a21, e22, H⟩ := H
          refine tr_p (f_idx (s := y19) Tryz.runUnderlying37 Tryz.sizeOf38 rfl rfl e22) rfl rfl ?_
          obtain ⟨y23, k24, H⟩ := H
          refine tr_h (y_ld Tryz.isAgg38 rfl) k24 rfl rfl ?_
          refine tr_p (y_move rfl) rfl rfl ?_
          refine tr_e (e_call Tryz.call42 rfl (F.spateref9_Has_ok H)) rfl rfl ?_
          rintro _ h25 ⟨r26, rfl, H⟩
          refine tr_nil ?_
          refine tr_thenN ?_
          refine tr_cond rfl (fun g27 => ?_) (fun g27 => ?_)
          · replace H := H.1 g27
            refine tr_seq ?_
            refine tr_region ?_
            refine tr_p (y_assign rfl) rfl rfl ?_
            refine tr_nil ?_
            refine tr_thenN ?_
            refine tr_ret ?_
            refine tr_thenR ?_
            exact tr_ret1 rfl rfl ⟨_, rfl, H⟩
          · replace H := H.2 g27
            refine tr_skip ?_
            refine tr_thenN ?_
            refine tr_seq ?_
            refine tr_seq ?_
            refine tr_draw mixed [0, 1, 3, 7, 0, 31, 63, 127, 0, 256, 768, 1792, 4095] (by kernel_rfl) ?_
            refine g_p 0 1 rfl (by kernel_rfl) (y_move rfl) rfl rfl ?_
            obtain ⟨a28, e29, H⟩ := H
            refine g_p 1 3 rfl (by kernel_rfl) (f_nn rfl e29) rfl rfl ?_
            refine g_p 2 7 rfl (by kernel_rfl) (y_fa (off := 2) Tryz.runUnderlying40 fo_40_2 rfl) rfl rfl ?_
            obtain ⟨y30, k31, H⟩ := H
            refine g_h 3 15 rfl (by kernel_rfl) (y_ld Tryz.isAgg37 rfl) k31 rfl rfl ?_
            refine g_p 4 31 rfl (by kernel_rfl) (y_move rfl) rfl rfl ?_
            obtain ⟨a32, e33, H⟩ := H
            refine g_p 5 63 rfl (by kernel_rfl) (f_idx (s := y30) Tryz.runUnderlying37 Tryz.sizeOf38 rfl rfl e33) rfl rfl ?_
            obtain ⟨y34, k35, H⟩ := H
            refine g_h 6 127 rfl (by kernel_rfl) (y_ld Tryz.isAgg38 rfl) k35 rfl rfl ?_
            refine g_p 7 255 rfl (by kernel_rfl) (y_len (ts := #[]) Tryz.runUnderlying38 (o := y34.ptr) (n := y34.len) (cap := y34.cap) rfl) rfl rfl ?_
            refine g_p 8 511 rfl (by kernel_rfl) (y_move rfl) rfl rfl ?_
            obtain ⟨a36, e37, H⟩ := H
            refine g_p 9 1023 rfl (by kernel_rfl) (f_nn rfl e37) rfl rfl ?_
            refine g_p 10 2047 rfl (by kernel_rfl) (y_fa (off := 0) Tryz.runUnderlying40 fo_40_0 rfl) rfl rfl ?_
            obtain ⟨y38, k39, H⟩ := H
            refine g_h 11 4095 rfl (by kernel_rfl) (y_ld Tryz.isAgg3 rfl) k39 rfl rfl ?_
            refine g_p 12 8191 rfl (by kernel_rfl) (y_geq rfl rfl) rfl rfl ?_
            refine g_d (by kernel_rfl) ?_
            refine tr_thenN ?_
            refine tr_cond rfl (fun g40 => ?_) (fun g40 => ?_)
            · replace H := H.1 g40
              refine tr_seq ?_
              refine tr_region ?_
              refine tr_p (y_assign rfl) rfl rfl ?_
              refine tr_nil ?_
              refine tr_thenN ?_
              refine tr_ret ?_
              refine tr_thenR ?_
              exact tr_ret1 rfl rfl ⟨_, rfl, H⟩
            · replace H := H.2 g40
              refine tr_skip ?_
              refine tr_thenN ?_
              refine tr_seq ?_
              refine tr_draw mixed [0, 1, 3, 7, 0, 0, 32, 96, 224, 0, 992, 2016, 0, 8160, 16383, 32767] (by kernel_rfl) ?_
              refine g_p 0 1 rfl (by kernel_rfl) (y_move rfl) rfl rfl ?_
              obtain ⟨a41, e42, H⟩ := H
              refine g_p 1 3 rfl (by kernel_rfl) (f_nn rfl e42) rfl rfl ?_
              refine g_p 2 7 rfl (by kernel_rfl) (y_fa (off := 2) Tryz.runUnderlying40 fo_40_2 rfl) rfl rfl ?_
              obtain ⟨y43, k44, H⟩ := H
              refine g_h 3 15 rfl (by kernel_rfl) (y_ld Tryz.isAgg37 rfl) k44 rfl rfl ?_
              refine g_p 4 31 rfl (by kernel_rfl) (y_move rfl) rfl rfl ?_
              refine g_p 5 63 rfl (by kernel_rfl) (y_move rfl) rfl rfl ?_
              obtain ⟨a45, e46, H⟩ := H
              refine g_p 6 127 rfl (by kernel_rfl) (f_nn rfl e46) rfl rfl ?_
              refine g_p 7 255 rfl (by kernel_rfl) (y_fa (off := 2) Tryz.runUnderlying40 fo_40_2 rfl) rfl rfl ?_
              obtain ⟨y47, k48, H⟩ := H
              refine g_h 8 511 rfl (by kernel_rfl) (y_ld Tryz.isAgg37 rfl) k48 rfl rfl ?_
              refine g_p 9 1023 rfl (by kernel_rfl) (y_move rfl) rfl rfl ?_
              obtain ⟨a49, e50, H⟩ := H
              refine g_p 10 2047 rfl (by kernel_rfl) (f_idx (s := y47) Tryz.runUnderlying37 Tryz.sizeOf38 rfl rfl e50) rfl rfl ?_
              obtain ⟨y51, k52, H⟩ := H
              refine g_h 11 4095 rfl (by kernel_rfl) (y_ld Tryz.isAgg38 rfl) k52 rfl rfl ?_
              refine g_p 12 8191 rfl (by kernel_rfl) (y_move rfl) rfl rfl ?_
              refine g_e 13 16383 [(3, fun h => cellH h (a41.add 2) = some y43.enc)] (by kernel_rfl) rfl (by kernel_rfl) (e_call Tryz.call53 rfl (F.spateref9_With_ok H)) rfl rfl ?_
              rintro _ h53 ⟨r54, rfl, H⟩
              obtain ⟨k55, H⟩ := H
              refine ⟨And.intro k55 trivial, ?_⟩
              obtain ⟨a56, e57, H⟩ := H
              refine g_p 14 32767 rfl (by kernel_rfl) (f_idx (s := y43) Tryz.runUnderlying37 Tryz.sizeOf38 rfl rfl e57) rfl rfl ?_
              refine g_e 15 65535 [] (by kernel_rfl) rfl (by kernel_rfl) (f_store (vs := [r54.enc]) Tryz.sizeOf38 rfl rfl rfl rfl (one1 rfl) H) rfl rfl ?_
              rintro _ h58 ⟨rfl, H⟩
              refine ⟨trivial, ?_⟩
              refine g_d (by kernel_rfl) ?_
              refine tr_thenN ?_
              refine tr_seq ?_
              refine tr_region ?_
              refine tr_p (y_assign rfl) rfl rfl ?_
              refine tr_nil ?_
              refine tr_thenN ?_
              refine tr_ret ?_
              exact tr_ret1 rfl rfl ⟨_, rfl, H⟩

def F.spateref9_Without.j2 (Q : Sl → H → Prop) (C1 : Sl → Int → Sl → Int → H → Prop) (x0 : Sl) (x1 : Int) (x5 : Sl) (x6 : Int) (h : H) : Prop :=
  C1 x0 x1 x5 (IntKind.wrap .i64 (x6 + 1)) h
def F.spateref9_Without.l1 (Q : Sl → H → Prop) : Nat → Sl → Int → Sl → Int → H → Prop
  | 0, _, _, _, _, _ => False
  | q1 + 1, x0, x1, x5, x6, h =>
    ((decide (x6 < (x0.len : Int))) = true →
    idxA x0 x6 1 fun a2 =>
    ldI .i64 h a2 fun y4 =>
    (((y4 != x1)) = true →
    idxA x0 x6 1 fun a7 =>
    ldI .i64 h a7 fun y9 =>
    newL h #[(.int .i64 y9)] ty_3 1 fun s12 h11 =>
    runL PP (Builtin.append_ #[38, 38] 38 #[x5.enc, s12.enc]) h11 fun s14 h13 =>
    F.spateref9_Without.j2 Q (F.spateref9_Without.l1 Q q1) x0 x1 s14 x6 h13) ∧
    (((y4 != x1)) = false →
    F.spateref9_Without.j2 Q (F.spateref9_Without.l1 Q q1) x0 x1 x5 x6 h)) ∧
    ((decide (x6 < (x0.len : Int))) = false →
    Q x5 h)
/-- spate/spateref9.Without -/
def F.spateref9_Without (p0 : Sl) (p1 : Int) (h : H) (Q : Sl → H → Prop) : Prop :=
  ∃ m, F.spateref9_Without.l1 Q m p0 p1 (⟨none, 0, 0⟩ : Sl) 0 h
theorem F.spateref9_Without_ok {p0 : Sl} {p1 : Int} {h : H} {Q : Sl → H → Prop} (H : F.spateref9_Without p0 p1 h Q) : Fn PP 54 ([p0.enc, (.int .i64 p1)] : List Value).toArray h fun r h' => ∃ r0, r = r0.enc ∧ Q r0 h' := by
  unfold F.spateref9_Without at H
  refine fn_of Tryz.func54 Tryz.ntmps54 rfl rfl fun w0 => ?_
  refine tr_sub [(0, p0.enc), (1, (.int .i64 p1))] ⟨rfl, rfl, trivial⟩ ?_
  refine tr_seq ?_
  refine tr_region ?_
  refine tr_p (y_assign rfl) rfl rfl ?_
  refine tr_nil ?_
  refine tr_thenN ?_
  refine tr_seq ?_
  refine tr_region ?_
  refine tr_p (y_assign rfl) rfl rfl ?_
  refine tr_nil ?_
  refine tr_thenN ?_
  refine tr_seq ?_
  refine tr_seq ?_
  refine tr_region ?_
  refine tr_p (y_assign rfl) rfl rfl ?_
  refine tr_nil ?_
  refine tr_thenN ?_
  refine tr_block ?_
  obtain ⟨m15, H⟩ := H
  refine tr_sub [(0, p0.enc), (1, (.int .i64 p1)), (5, (⟨none, 0, 0⟩ : Sl).enc), (6, (.int .i64 0))] ⟨rfl, rfl, rfl, rfl, trivial⟩ ?_
  refine tr_loop_j (fun m L' h => ∃ (x0 : Sl) (x1 : Int) (x5 : Sl) (x6 : Int), L' = [(0, x0.enc), (1, (.int .i64 x1)), (5, x5.enc), (6, (.int .i64 x6))] ∧ F.spateref9_Without.l1 Q m x0 x1 x5 x6 h) ?_ ?_ m15 ⟨_, _, _, _, rfl, H⟩
  · rintro L' h ⟨_, _, _, _, _, H⟩; exact H
  · rintro q1 L' h ⟨x0, x1, x5, x6, rfl, H⟩
    unfold F.spateref9_Without.l1 at H
    refine tr_seq ?_
    refine tr_seq ?_
    refine tr_region ?_
    refine tr_p (y_move rfl) rfl rfl ?_
    refine tr_p (y_move rfl) rfl rfl ?_
    refine tr_p (y_len (ts := #[]) Tryz.runUnderlying38 (o := x0.ptr) (n := x0.len) (cap := x0.cap) rfl) rfl rfl ?_
    refine tr_p (y_lss rfl rfl) rfl rfl ?_
    refine tr_nil ?_
    refine tr_thenN ?_
    refine tr_cond rfl (fun g1 => ?_) (fun g1 => ?_)
    · replace H := H.1 g1
      refine tr_skip ?_
      refine tr_thenN ?_
      refine tr_seq_j (fun L' h => ∃ (x0 : Sl) (x1 : Int) (x5 : Sl) (x6 : Int), L' = [(0, x0.enc), (1, (.int .i64 x1)), (5, x5.enc), (6, (.int .i64 x6))] ∧ F.spateref9_Without.j2 Q (F.spateref9_Without.l1 Q q1) x0 x1 x5 x6 h) ?_ ?_
      · rintro L' h ⟨x0, x1, x5, x6, rfl, H⟩
        unfold F.spateref9_Without.j2 at H
        refine tr_region ?_
        refine tr_p (y_move rfl) rfl rfl ?_
        refine tr_p (y_add rfl rfl) rfl rfl ?_
        refine tr_p (y_assign rfl) rfl rfl ?_
        refine tr_nil ?_
        refine tr_thenN ?_
        exact tr_join [(0, x0.enc), (1, (.int .i64 x1)), (5, x5.enc), (6, (.int .i64 (IntKind.wrap .i64 (x6 + 1))))] ⟨rfl, rfl, rfl, rfl, trivial⟩ ⟨_, _, _, _, rfl, H⟩
      · refine tr_block ?_
        refine tr_seq ?_
        refine tr_region ?_
        refine tr_p (y_move rfl) rfl rfl ?_
        refine tr_p (y_move rfl) rfl rfl ?_
        obtain ⟨a2, e3, H⟩ := H
        refine tr_p (f_idx (s := x0) Tryz.runUnderlying38 Tryz.sizeOf3 rfl rfl e3) rfl rfl ?_
        obtain ⟨y4, k5, H⟩ := H
        refine tr_h (y_ld Tryz.isAgg3 rfl) k5 rfl rfl ?_
        refine tr_p (y_move rfl) rfl rfl ?_
        refine tr_p (y_neq rfl rfl) rfl rfl ?_
        refine tr_nil ?_
        refine tr_thenN ?_
        refine tr_cond rfl (fun g6 => ?_) (fun g6 => ?_)
        · replace H := H.1 g6
          refine tr_region ?_
          refine tr_p (y_move rfl) rfl rfl ?_
          refine tr_p (y_move rfl) rfl rfl ?_
          refine tr_p (y_move rfl) rfl rfl ?_
          obtain ⟨a7, e8, H⟩ := H
          refine tr_p (f_idx (s := x0) Tryz.runUnderlying38 Tryz.sizeOf3 rfl rfl e8) rfl rfl ?_
          obtain ⟨y9, k10, H⟩ := H
          refine tr_h (y_ld Tryz.isAgg3 rfl) k10 rfl rfl ?_
          refine tr_e (f_buildL (cs := #[(.int .i64 y9)]) rfl rfl (bl_38_1_0 y9) H) rfl rfl ?_
          rintro _ h11 ⟨s12, rfl, H⟩
          refine tr_e (f_app rfl H) rfl rfl ?_
          rintro _ h13 ⟨s14, rfl, H⟩
          refine tr_p (y_assign rfl) rfl rfl ?_
          refine tr_nil ?_
          refine tr_blockN ?_
          refine tr_thenN ?_
          exact tr_join [(0, x0.enc), (1, (.int .i64 x1)), (5, s14.enc), (6, (.int .i64 x6))] ⟨rfl, rfl, rfl, rfl, trivial⟩ ⟨_, _, _, _, rfl, H⟩
        · replace H := H.2 g6
          refine tr_skip ?_
          refine tr_blockN ?_
          refine tr_thenN ?_
          exact tr_join [(0, x0.enc), (1, (.int .i64 x1)), (5, x5.enc), (6, (.int .i64 x6))] ⟨rfl, rfl, rfl, rfl, trivial⟩ ⟨_, _, _, _, rfl, H⟩
    · replace H := H.2 g1
      refine tr_exit ?_
      refine tr_thenE ?_
      refine tr_thenE ?_
      refine tr_hit ?_
      refine tr_thenN ?_
      refine tr_seq ?_
      refine tr_region ?_
      refine tr_p (y_move rfl) rfl rfl ?_
      refine tr_p (y_assign rfl) rfl rfl ?_
      refine tr_nil ?_
      refine tr_thenN ?_
      refine tr_ret ?_
      exact tr_ret1 rfl rfl ⟨_, rfl, H⟩

def F.spateref9_Book_Held.j2 (Q : Sl → H → Prop) (C1 : (Option Addr) → Sl → Int → H → Prop) (x0 : Option Addr) (x3 : Sl) (x4 : Int) (h : H) : Prop :=
  C1 x0 x3 (IntKind.wrap .i64 (x4 + 1)) h
def F.spateref9_Book_Held.l3 (Q : Sl → H → Prop) (C1 : (Option Addr) → Sl → Int → H → Prop) : Nat → (Option Addr) → Sl → Int → Int → H → Prop
  | 0, _, _, _, _, _ => False
  | q3 + 1, x0, x3, x4, x5, h =>
    nn x0 fun a2 =>
    ldL h (a2.add 2) fun y4 =>
    idxA y4 x4 1 fun a6 =>
    ldL h a6 fun y8 =>
    ((decide (x5 < (y8.len : Int))) = true →
    nn x0 fun a11 =>
    ldL h (a11.add 2) fun y13 =>
    idxA y13 x4 1 fun a15 =>
    ldL h a15 fun y17 =>
    idxA y17 x5 1 fun a19 =>
    ldI .i64 h a19 fun y21 =>
    F.spateref9_With x3 y21 h fun r24 h23 =>
    (F.spateref9_Book_Held.l3 Q C1 q3) x0 r24 x4 (IntKind.wrap .i64 (x5 + 1)) h23) ∧
    ((decide (x5 < (y8.len : Int))) = false →
    nn x0 fun a25 =>
    ldL h (a25.add 3) fun y27 =>
    idxA y27 x4 1 fun a29 =>
    ldI .i64 h a29 fun y31 =>
    (((y31 != 0)) = true →
    nn x0 fun a34 =>
    ldL h (a34.add 3) fun y36 =>
    idxA y36 x4 1 fun a38 =>
    ldI .i64 h a38 fun y40 =>
    F.spateref9_With x3 y40 h fun r43 h42 =>
    F.spateref9_Book_Held.j2 Q C1 x0 r43 x4 h42) ∧
    (((y31 != 0)) = false →
    F.spateref9_Book_Held.j2 Q C1 x0 x3 x4 h))
def F.spateref9_Book_Held.l1 (Q : Sl → H → Prop) : Nat → (Option Addr) → Sl → Int → H → Prop
  | 0, _, _, _, _ => False
  | q1 + 1, x0, x3, x4, h =>
    ((decide (x4 ≤ 64)) = true →
    ∃ m, F.spateref9_Book_Held.l3 Q (F.spateref9_Book_Held.l1 Q q1) m x0 x3 x4 0 h) ∧
    ((decide (x4 ≤ 64)) = false →
    Q x3 h)
/-- (*spate/spateref9.Book).Held -/
def F.spateref9_Book_Held (p0 : Option Addr) (h : H) (Q : Sl → H → Prop) : Prop :=
  ∃ m, F.spateref9_Book_Held.l1 Q m p0 (⟨none, 0, 0⟩ : Sl) 1 h
theorem F.spateref9_Book_Held_ok {p0 : Option Addr} {h : H} {Q : Sl → H → Prop} (H : F.spateref9_Book_Held p0 h Q) : Fn PP 37 ([(.pointer p0)] : List Value).toArray h fun r h' => ∃ r0, r = r0.enc ∧ Q r0 h' := by
  unfold F.spateref9_Book_Held at H
  refine fn_of Tryz.func37 Tryz.ntmps37 rfl rfl fun w0 => ?_
  refine tr_sub [(0, (.pointer p0))] ⟨rfl, trivial⟩ ?_
  refine tr_seq ?_
  refine tr_region ?_
  refine tr_p (y_assign rfl) rfl rfl ?_
  refine tr_nil ?_
  refine tr_thenN ?_
  refine tr_seq ?_
  refine tr_region ?_
  refine tr_p (y_assign rfl) rfl rfl ?_
  refine tr_nil ?_
  refine tr_thenN ?_
  refine tr_seq ?_
  refine tr_seq ?_
  refine tr_region ?_
  refine tr_p (y_assign rfl) rfl rfl ?_
  refine tr_nil ?_
  refine tr_thenN ?_
  refine tr_block ?_
  obtain ⟨m45, H⟩ := H
  refine tr_sub [(0, (.pointer p0)), (3, (⟨none, 0, 0⟩ : Sl).enc), (4, (.int .i64 1))] ⟨rfl, rfl, rfl, trivial⟩ ?_
  refine tr_loop_j (fun m L' h => ∃ (x0 : Option Addr) (x3 : Sl) (x4 : Int), L' = [(0, (.pointer x0)), (3, x3.enc), (4, (.int .i64 x4))] ∧ F.spateref9_Book_Held.l1 Q m x0 x3 x4 h) ?_ ?_ m45 ⟨_, _, _, rfl, H⟩
  · rintro L' h ⟨_, _, _, _, H⟩; exact H
  · rintro q1 L' h ⟨x0, x3, x4, rfl, H⟩
    unfold F.spateref9_Book_Held.l1 at H
    refine tr_seq ?_
    refine tr_seq ?_
    refine tr_region ?_
    refine tr_p (y_move rfl) rfl rfl ?_
    refine tr_p (y_leq rfl rfl) rfl rfl ?_
    refine tr_nil ?_
    refine tr_thenN ?_
    refine tr_cond rfl (fun g1 => ?_) (fun g1 => ?_)
    · replace H := H.1 g1
      refine tr_skip ?_
      refine tr_thenN ?_
      refine tr_seq_j (fun L' h => ∃ (x0 : Option Addr) (x3 : Sl) (x4 : Int), L' = [(0, (.pointer x0)), (3, x3.enc), (4, (.int .i64 x4))] ∧ F.spateref9_Book_Held.j2 Q (F.spateref9_Book_Held.l1 Q q1) x0 x3 x4 h) ?_ ?_
      · rintro L' h ⟨x0, x3, x4, rfl, H⟩
        unfold F.spateref9_Book_Held.j2 at H
        refine tr_region ?_
        refine tr_p (y_move rfl) rfl rfl ?_
        refine tr_p (y_add rfl rfl) rfl rfl ?_
        refine tr_p (y_assign rfl) rfl rfl ?_
        refine tr_nil ?_
        refine tr_thenN ?_
        exact tr_join [(0, (.pointer x0)), (3, x3.enc), (4, (.int .i64 (IntKind.wrap .i64 (x4 + 1))))] ⟨rfl, rfl, rfl, trivial⟩ ⟨_, _, _, rfl, H⟩
      · refine tr_block ?_
        refine tr_seq ?_
        refine tr_seq ?_
        refine tr_region ?_
        refine tr_p (y_assign rfl) rfl rfl ?_
        refine tr_nil ?_
        refine tr_thenN ?_
        refine tr_block ?_
        obtain ⟨m44, H⟩ := H
        refine tr_sub [(0, (.pointer x0)), (3, x3.enc), (4, (.int .i64 x4)), (5, (.int .i64 0))] ⟨rfl, rfl, rfl, rfl, trivial⟩ ?_
        refine tr_loop_j (fun m L' h => ∃ (x0 : Option Addr) (x3 : Sl) (x4 : Int) (x5 : Int), L' = [(0, (.pointer x0)), (3, x3.enc), (4, (.int .i64 x4)), (5, (.int .i64 x5))] ∧ F.spateref9_Book_Held.l3 Q (F.spateref9_Book_Held.l1 Q q1) m x0 x3 x4 x5 h) ?_ ?_ m44 ⟨_, _, _, _, rfl, H⟩
        · rintro L' h ⟨_, _, _, _, _, H⟩; exact H
        · rintro q3 L' h ⟨x0, x3, x4, x5, rfl, H⟩
          unfold F.spateref9_Book_Held.l3 at H
          refine tr_seq ?_
          refine tr_seq ?_
          refine tr_region ?_
          refine tr_p (y_move rfl) rfl rfl ?_
          refine tr_p (y_move rfl) rfl rfl ?_
          obtain ⟨a2, e3, H⟩ := H
          refine tr_p (f_nn rfl e3) rfl rfl ?_
          refine tr_p (y_fa (off := 2) Tryz.runUnderlying40 fo_40_2 rfl) rfl rfl ?_
          obtain ⟨y4, k5, H⟩ := H
          refine tr_h (y_ld Tryz.isAgg37 rfl) k5 rfl rfl ?_
          refine tr_p (y_move rfl) rfl rfl ?_
          obtain ⟨a6, e7, H⟩ := H
          refine tr_p (f_idx (s := y4) Tryz.runUnderlying37 Tryz.sizeOf38 rfl rfl e7) rfl rfl ?_
          obtain ⟨y8, k9, H⟩ := H
          refine tr_h (y_ld Tryz.isAgg38 rfl) k9 rfl rfl ?_
          refine tr_p (y_len (ts := #[]) Tryz.runUnderlying38 (o := y8.ptr) (n := y8.len) (cap := y8.cap) rfl) rfl rfl ?_
          refine tr_p (y_lss rfl rfl) rfl rfl ?_
          refine tr_nil ?_
          refine tr_thenN ?_
          refine tr_cond rfl (fun g10 => ?_) (fun g10 => ?_)
          · replace H := H.1 g10
            refine tr_skip ?_
            refine tr_thenN ?_
            refine tr_seq ?_
            refine tr_block ?_
            refine tr_region ?_
            refine tr_p (y_move rfl) rfl rfl ?_
            refine tr_p (y_move rfl) rfl rfl ?_
            obtain ⟨a11, e12, H⟩ := H
            refine tr_p (f_nn rfl e12) rfl rfl ?_
            refine tr_p (y_fa (off := 2) Tryz.runUnderlying40 fo_40_2 rfl) rfl rfl ?_
            obtain ⟨y13, k14, H⟩ := H
            refine tr_h (y_ld Tryz.isAgg37 rfl) k14 rfl rfl ?_
            refine tr_p (y_move rfl) rfl rfl ?_
            obtain ⟨a15, e16, H⟩ := H
            refine tr_p (f_idx (s := y13) Tryz.runUnderlying37 Tryz.sizeOf38 rfl rfl e16) rfl rfl ?_
            obtain ⟨y17, k18, H⟩ := H
            refine tr_h (y_ld Tryz.isAgg38 rfl) k18 rfl rfl ?_
            refine tr_p (y_move rfl) rfl rfl ?_
            obtain ⟨a19, e20, H⟩ := H
            refine tr_p (f_idx (s := y17) Tryz.runUnderlying38 Tryz.sizeOf3 rfl rfl e20) rfl rfl ?_
            obtain ⟨y21, k22, H⟩ := H
            refine tr_h (y_ld Tryz.isAgg3 rfl) k22 rfl rfl ?_
            refine tr_e (e_call Tryz.call53 rfl (F.spateref9_With_ok H)) rfl rfl ?_
            rintro _ h23 ⟨r24, rfl, H⟩
            refine tr_p (y_assign rfl) rfl rfl ?_
            refine tr_nil ?_
            refine tr_blockN ?_
            refine tr_thenN ?_
            refine tr_region ?_
            refine tr_p (y_move rfl) rfl rfl ?_
            refine tr_p (y_add rfl rfl) rfl rfl ?_
            refine tr_p (y_assign rfl) rfl rfl ?_
            refine tr_nil ?_
            refine tr_thenN ?_
            exact tr_join [(0, (.pointer x0)), (3, r24.enc), (4, (.int .i64 x4)), (5, (.int .i64 (IntKind.wrap .i64 (x5 + 1))))] ⟨rfl, rfl, rfl, rfl, trivial⟩ ⟨_, _, _, _, rfl, H⟩
          · replace H := H.2 g10
            refine tr_exit ?_
            refine tr_thenE ?_
            refine tr_thenE ?_
            refine tr_hit ?_
            refine tr_thenN ?_
            refine tr_seq ?_
            refine tr_region ?_
            refine tr_p (y_move rfl) rfl rfl ?_
            obtain ⟨a25, e26, H⟩ := H
            refine tr_p (f_nn rfl e26) rfl rfl ?_
            refine tr_p (y_fa (off := 3) Tryz.runUnderlying40 fo_40_3 rfl) rfl rfl ?_
            obtain ⟨y27, k28, H⟩ := H
            refine tr_h (y_ld Tryz.isAgg38 rfl) k28 rfl rfl ?_
            refine tr_p (y_move rfl) rfl rfl ?_
            obtain ⟨a29, e30, H⟩ := H
            refine tr_p (f_idx (s := y27) Tryz.runUnderlying38 Tryz.sizeOf3 rfl rfl e30) rfl rfl ?_
            obtain ⟨y31, k32, H⟩ := H
            refine tr_h (y_ld Tryz.isAgg3 rfl) k32 rfl rfl ?_
            refine tr_p (y_neq rfl rfl) rfl rfl ?_
            refine tr_nil ?_
            refine tr_thenN ?_
            refine tr_cond rfl (fun g33 => ?_) (fun g33 => ?_)
            · replace H := H.1 g33
              refine tr_region ?_
              refine tr_p (y_move rfl) rfl rfl ?_
              refine tr_p (y_move rfl) rfl rfl ?_
              obtain ⟨a34, e35, H⟩ := H
              refine tr_p (f_nn rfl e35) rfl rfl ?_
              refine tr_p (y_fa (off := 3) Tryz.runUnderlying40 fo_40_3 rfl) rfl rfl ?_
              obtain ⟨y36, k37, H⟩ := H
              refine tr_h (y_ld Tryz.isAgg38 rfl) k37 rfl rfl ?_
              refine tr_p (y_move rfl) rfl rfl ?_
              obtain ⟨a38, e39, H⟩ := H
              refine tr_p (f_idx (s := y36) Tryz.runUnderlying38 Tryz.sizeOf3 rfl rfl e39) rfl rfl ?_
              obtain ⟨y40, k41, H⟩ := H
              refine tr_h (y_ld Tryz.isAgg3 rfl) k41 rfl rfl ?_
              refine tr_e (e_call Tryz.call53 rfl (F.spateref9_With_ok H)) rfl rfl ?_
              rintro _ h42 ⟨r43, rfl, H⟩
              refine tr_p (y_assign rfl) rfl rfl ?_
              refine tr_nil ?_
              refine tr_blockN ?_
              refine tr_thenN ?_
              exact tr_join [(0, (.pointer x0)), (3, r43.enc), (4, (.int .i64 x4))] ⟨rfl, rfl, rfl, trivial⟩ ⟨_, _, _, rfl, H⟩
            · replace H := H.2 g33
              refine tr_skip ?_
              refine tr_blockN ?_
              refine tr_thenN ?_
              exact tr_join [(0, (.pointer x0)), (3, x3.enc), (4, (.int .i64 x4))] ⟨rfl, rfl, rfl, trivial⟩ ⟨_, _, _, rfl, H⟩
    · replace H := H.2 g1
      refine tr_exit ?_
      refine tr_thenE ?_
      refine tr_thenE ?_
      refine tr_hit ?_
      refine tr_thenN ?_
      refine tr_seq ?_
      refine tr_region ?_
      refine tr_p (y_move rfl) rfl rfl ?_
      refine tr_p (y_assign rfl) rfl rfl ?_
      refine tr_nil ?_
      refine tr_thenN ?_
      refine tr_ret ?_
      exact tr_ret1 rfl rfl ⟨_, rfl, H⟩

/-- (*spate/spateref9.Book).loose -/
def F.spateref9_Book_loose (p0 : Option Addr) (p1 : Int) (h : H) (Q : H → Prop) : Prop :=
  F.spateref9_Book_Held p0 h fun r2 h1 =>
  F.spateref9_Has r2 p1 h1 fun r4 h3 =>
  ((!r4) = true →
  nn p0 fun a6 =>
  ldL h3 (a6.add 4) fun y8 =>
  F.spateref9_With y8 p1 h3 fun r11 h10 =>
  nn p0 fun a12 =>
  stH h10 (a12.add 4) [r11.enc] fun h14 =>
  Q h14) ∧
  ((!r4) = false →
  Q h3)
theorem F.spateref9_Book_loose_ok {p0 : Option Addr} {p1 : Int} {h : H} {Q : H → Prop} (H : F.spateref9_Book_loose p0 p1 h Q) : Fn PP 55 ([(.pointer p0), (.int .i64 p1)] : List Value).toArray h fun r h' => r = .tuple #[] ∧ Q  h' := by
  unfold F.spateref9_Book_loose at H
  refine fn_of Tryz.func55 Tryz.ntmps55 rfl rfl fun w0 => ?_
  refine tr_sub [(0, (.pointer p0)), (1, (.int .i64 p1))] ⟨rfl, rfl, trivial⟩ ?_
  refine tr_seq ?_
  refine tr_region ?_
  refine tr_p (y_move rfl) rfl rfl ?_
  refine tr_e (e_call Tryz.call37 rfl (F.spateref9_Book_Held_ok H)) rfl rfl ?_
  rintro _ h1 ⟨r2, rfl, H⟩
  refine tr_p (y_move rfl) rfl rfl ?_
  refine tr_e (e_call Tryz.call42 rfl (F.spateref9_Has_ok H)) rfl rfl ?_
  rintro _ h3 ⟨r4, rfl, H⟩
  refine tr_p (y_not rfl) rfl rfl ?_
  refine tr_nil ?_
  refine tr_thenN ?_
  refine tr_cond rfl (fun g5 => ?_) (fun g5 => ?_)
  · replace H := H.1 g5
    refine tr_region ?_
    refine tr_p (y_move rfl) rfl rfl ?_
    refine tr_p (y_move rfl) rfl rfl ?_
    obtain ⟨a6, e7, H⟩ := H
    refine tr_p (f_nn rfl e7) rfl rfl ?_
    refine tr_p (y_fa (off := 4) Tryz.runUnderlying40 fo_40_4 rfl) rfl rfl ?_
    obtain ⟨y8, k9, H⟩ := H
    refine tr_h (y_ld Tryz.isAgg38 rfl) k9 rfl rfl ?_
    refine tr_p (y_move rfl) rfl rfl ?_
    refine tr_e (e_call Tryz.call53 rfl (F.spateref9_With_ok H)) rfl rfl ?_
    rintro _ h10 ⟨r11, rfl, H⟩
    obtain ⟨a12, e13, H⟩ := H
    refine tr_p (f_nn rfl e13) rfl rfl ?_
    refine tr_p (y_fa (off := 4) Tryz.runUnderlying40 fo_40_4 rfl) rfl rfl ?_
    refine tr_e (f_store (vs := [r11.enc]) Tryz.sizeOf38 rfl rfl rfl rfl (one1 rfl) H) rfl rfl ?_
    rintro _ h14 ⟨rfl, H⟩
    refine tr_nil ?_
    exact tr_end0 rfl ⟨rfl, H⟩
  · replace H := H.2 g5
    refine tr_skip ?_
    exact tr_end0 rfl ⟨rfl, H⟩

/-- (*spate/spateref9.Book).Release -/
def F.spateref9_Book_Release (p0 : Option Addr) (p1 : Int) (p2 : Int) (h : H) (Q : Int → H → Prop) : Prop :=
  F.spateref9_owner p1 h fun r2 h1 =>
  ((!r2) = true →
  Q 1 h1) ∧
  ((!r2) = false →
  nn p0 fun a4 =>
  ldL h1 (a4.add 2) fun y6 =>
  idxA y6 p1 1 fun a8 =>
  ldL h1 a8 fun y10 =>
  F.spateref9_Has y10 p2 h1 fun r13 h12 =>
  ((!r13) = true →
  Q 33 h12) ∧
  ((!r13) = false →
  nn p0 fun a15 =>
  ldL h12 (a15.add 2) fun y17 =>
  nn p0 fun a19 =>
  ldL h12 (a19.add 2) fun y21 =>
  idxA y21 p1 1 fun a23 =>
  ldL h12 a23 fun y25 =>
  F.spateref9_Without y25 p2 h12 fun r28 h27 =>
  cellH h27 (a15.add 2) = some y17.enc ∧
  idxA y17 p1 1 fun a30 =>
  stH h27 a30 [r28.enc] fun h32 =>
  F.spateref9_Book_loose p0 p2 h32 fun h33 =>
  Q 0 h33))
theorem F.spateref9_Book_Release_ok {p0 : Option Addr} {p1 : Int} {p2 : Int} {h : H} {Q : Int → H → Prop} (H : F.spateref9_Book_Release p0 p1 p2 h Q) : Fn PP 29 ([(.pointer p0), (.int .i64 p1), (.int .i64 p2)] : List Value).toArray h fun r h' => ∃ r0, r = (.int .i64 r0) ∧ Q r0 h' := by
  unfold F.spateref9_Book_Release at H
  refine fn_of Tryz.func29 Tryz.ntmps29 rfl rfl fun w0 => ?_
  refine tr_sub [(0, (.pointer p0)), (1, (.int .i64 p1)), (2, (.int .i64 p2))] ⟨rfl, rfl, rfl, trivial⟩ ?_
  refine tr_seq ?_
  refine tr_region ?_
  refine tr_p (y_assign rfl) rfl rfl ?_
  refine tr_nil ?_
  refine tr_thenN ?_
  refine tr_seq ?_
  refine tr_seq ?_
  refine tr_region ?_
  refine tr_p (y_move rfl) rfl rfl ?_
  refine tr_e (e_call Tryz.call41 rfl (F.spateref9_owner_ok H)) rfl rfl ?_
  rintro _ h1 ⟨r2, rfl, H⟩
  refine tr_p (y_not rfl) rfl rfl ?_
  refine tr_nil ?_
  refine tr_thenN ?_
  refine tr_cond rfl (fun g3 => ?_) (fun g3 => ?_)
  · replace H := H.1 g3
    refine tr_seq ?_
    refine tr_region ?_
    refine tr_p (y_assign rfl) rfl rfl ?_
    refine tr_nil ?_
    refine tr_thenN ?_
    refine tr_ret ?_
    refine tr_thenR ?_
    exact tr_ret1 rfl rfl ⟨_, rfl, H⟩
  · replace H := H.2 g3
    refine tr_skip ?_
    refine tr_thenN ?_
    refine tr_seq ?_
    refine tr_seq ?_
    refine tr_region ?_
    refine tr_p (y_move rfl) rfl rfl ?_
    obtain ⟨a4, e5, H⟩ := H
    refine tr_p (f_nn rfl e5) rfl rfl ?_
    refine tr_p (y_fa (off := 2) Tryz.runUnderlying40 fo_40_2 rfl) rfl rfl ?_
    obtain ⟨y6, k7, H⟩ := H
    refine tr_h (y_ld Tryz.isAgg37 rfl) k7 rfl rfl ?_
    refine tr_p (y_move rfl) rfl rfl ?_
    obtain ⟨a8, e9, H⟩ := H
    refine tr_p (f_idx (s := y6) Tryz.runUnderlying37 Tryz.sizeOf38 rfl rfl e9) rfl rfl ?_
    obtain ⟨y10, k11, H⟩ := H
    refine tr_h (y_ld Tryz.isAgg38 rfl) k11 rfl rfl ?_
    refine tr_p (y_move rfl) rfl rfl ?_
    refine tr_e (e_call Tryz.call42 rfl (F.spateref9_Has_ok H)) rfl rfl ?_
    rintro _ h12 ⟨r13, rfl, H⟩
    refine tr_p (y_not rfl) rfl rfl ?_
    refine tr_nil ?_
    refine tr_thenN ?_
    refine tr_cond rfl (fun g14 => ?_) (fun g14 => ?_)
    · replace H := H.1 g14
      refine tr_seq ?_
      refine tr_region ?_
      refine tr_p (y_assign rfl) rfl rfl ?_
      refine tr_nil ?_
      refine tr_thenN ?_
      refine tr_ret ?_
      refine tr_thenR ?_
      exact tr_ret1 rfl rfl ⟨_, rfl, H⟩
    · replace H := H.2 g14
      refine tr_skip ?_
      refine tr_thenN ?_
      refine tr_seq ?_
      refine tr_draw mixed [0, 1, 3, 7, 0, 0, 32, 96, 224, 0, 992, 2016, 0, 8160, 16383, 32767] (by kernel_rfl) ?_
      refine g_p 0 1 rfl (by kernel_rfl) (y_move rfl) rfl rfl ?_
      obtain ⟨a15, e16, H⟩ := H
      refine g_p 1 3 rfl (by kernel_rfl) (f_nn rfl e16) rfl rfl ?_
      refine g_p 2 7 rfl (by kernel_rfl) (y_fa (off := 2) Tryz.runUnderlying40 fo_40_2 rfl) rfl rfl ?_
      obtain ⟨y17, k18, H⟩ := H
      refine g_h 3 15 rfl (by kernel_rfl) (y_ld Tryz.isAgg37 rfl) k18 rfl rfl ?_
      refine g_p 4 31 rfl (by kernel_rfl) (y_move rfl) rfl rfl ?_
      refine g_p 5 63 rfl (by kernel_rfl) (y_move rfl) rfl rfl ?_
      obtain ⟨a19, e20, H⟩ := H
      refine g_p 6 127 rfl (by kernel_rfl) (f_nn rfl e20) rfl rfl ?_
      refine g_p 7 255 rfl (by kernel_rfl) (y_fa (off := 2) Tryz.runUnderlying40 fo_40_2 rfl) rfl rfl ?_
      obtain ⟨y21, k22, H⟩ := H
      refine g_h 8 511 rfl (by kernel_rfl) (y_ld Tryz.isAgg37 rfl) k22 rfl rfl ?_
      refine g_p 9 1023 rfl (by kernel_rfl) (y_move rfl) rfl rfl ?_
      obtain ⟨a23, e24, H⟩ := H
      refine g_p 10 2047 rfl (by kernel_rfl) (f_idx (s := y21) Tryz.runUnderlying37 Tryz.sizeOf38 rfl rfl e24) rfl rfl ?_
      obtain ⟨y25, k26, H⟩ := H
      refine g_h 11 4095 rfl (by kernel_rfl) (y_ld Tryz.isAgg38 rfl) k26 rfl rfl ?_
      refine g_p 12 8191 rfl (by kernel_rfl) (y_move rfl) rfl rfl ?_
      refine g_e 13 16383 [(3, fun h => cellH h (a15.add 2) = some y17.enc)] (by kernel_rfl) rfl (by kernel_rfl) (e_call Tryz.call54 rfl (F.spateref9_Without_ok H)) rfl rfl ?_
      rintro _ h27 ⟨r28, rfl, H⟩
      obtain ⟨k29, H⟩ := H
      refine ⟨And.intro k29 trivial, ?_⟩
      obtain ⟨a30, e31, H⟩ := H
      refine g_p 14 32767 rfl (by kernel_rfl) (f_idx (s := y17) Tryz.runUnderlying37 Tryz.sizeOf38 rfl rfl e31) rfl rfl ?_
      refine g_e 15 65535 [] (by kernel_rfl) rfl (by kernel_rfl) (f_store (vs := [r28.enc]) Tryz.sizeOf38 rfl rfl rfl rfl (one1 rfl) H) rfl rfl ?_
      rintro _ h32 ⟨rfl, H⟩
      refine ⟨trivial, ?_⟩
      refine g_d (by kernel_rfl) ?_
      refine tr_thenN ?_
      refine tr_seq ?_
      refine tr_region ?_
      refine tr_p (y_move rfl) rfl rfl ?_
      refine tr_p (y_move rfl) rfl rfl ?_
      refine tr_e (e_call Tryz.call55 rfl (F.spateref9_Book_loose_ok H)) rfl rfl ?_
      rintro _ h33 ⟨rfl, H⟩
      refine tr_nil ?_
      refine tr_thenN ?_
      refine tr_seq ?_
      refine tr_region ?_
      refine tr_p (y_assign rfl) rfl rfl ?_
      refine tr_nil ?_
      refine tr_thenN ?_
      refine tr_ret ?_
      exact tr_ret1 rfl rfl ⟨_, rfl, H⟩

/-- (*spate/epoch.Book).Done -/
def F.epoch_Book_Done (p0 : Option Addr) (p1 : Int) (h : H) (Q : Int → H → Prop) : Prop :=
  F.epoch_Book_guard p0 h fun r2 h1 =>
  fnV r2 fun f_1 fi_1 ca_1 =>
  F.epoch_is p1 h1 fun r5 h4 =>
  ((!r5) = true →
  dcall PP f_1 ((fi_1 ++ ([] : List Value).toArray) ++ ca_1) h4 fun h7 =>
  Q 1 h7) ∧
  ((!r5) = false →
  nn p0 fun a8 =>
  (0 ≤ (p1 : Int) ∧ p1 < 65) ∧
  ldI .i64 h4 (((a8.add 4).add ((p1 : Int).toNat * 2)).add 1) fun y11 =>
  (((y11 == 0)) = true →
  dcall PP f_1 ((fi_1 ++ ([] : List Value).toArray) ++ ca_1) h4 fun h14 =>
  Q 44 h14) ∧
  (((y11 == 0)) = false →
  nn p0 fun a15 =>
  (0 ≤ (p1 : Int) ∧ p1 < 65) ∧
  stH h4 (((a15.add 4).add ((p1 : Int).toNat * 2)).add 1) [(.int .i64 0)] fun h18 =>
  F.epoch_Book_let p0 y11 h18 fun h19 =>
  dcall PP f_1 ((fi_1 ++ ([] : List Value).toArray) ++ ca_1) h19 fun h20 =>
  Q 0 h20))
theorem F.epoch_Book_Done_ok {p0 : Option Addr} {p1 : Int} {h : H} {Q : Int → H → Prop} (H : F.epoch_Book_Done p0 p1 h Q) : Fn PP 30 ([(.pointer p0), (.int .i64 p1)] : List Value).toArray h fun r h' => ∃ r0, r = (.int .i64 r0) ∧ Q r0 h' := by
  unfold F.epoch_Book_Done at H
  refine fn_ofM Tryz.func30 Tryz.ntmps30 rfl rfl fun w0 => ?_
  refine tr_sub [(0, (.pointer p0)), (1, (.int .i64 p1))] ⟨rfl, rfl, trivial⟩ ?_
  refine tr_seq ?_
  refine tr_region ?_
  refine tr_p (y_assign rfl) rfl rfl ?_
  refine tr_nil ?_
  refine tr_thenN ?_
  refine tr_seq ?_
  refine tr_region ?_
  refine tr_p (y_move rfl) rfl rfl ?_
  refine tr_e (e_call Tryz.call21 rfl (F.epoch_Book_guard_ok H)) rfl rfl ?_
  rintro r2 h1 ⟨_, rfl, H⟩
  obtain ⟨f_1, fi_1, ca_1, e3, H⟩ := H
  subst e3
  refine tr_defer rfl rfl rfl ?_
  refine tr_nil ?_
  refine tr_thenN ?_
  refine tr_seq ?_
  refine tr_seq ?_
  refine tr_region ?_
  refine tr_p (y_move rfl) rfl rfl ?_
  refine tr_e (e_call Tryz.call39 rfl (F.epoch_is_ok H)) rfl rfl ?_
  rintro _ h4 ⟨r5, rfl, H⟩
  refine tr_p (y_not rfl) rfl rfl ?_
  refine tr_nil ?_
  refine tr_thenN ?_
  refine tr_cond rfl (fun g6 => ?_) (fun g6 => ?_)
  · replace H := H.1 g6
    refine tr_seq ?_
    refine tr_region ?_
    refine tr_p (y_assign rfl) rfl rfl ?_
    refine tr_nil ?_
    refine tr_thenN ?_
    refine tr_ret ?_
    refine tr_thenR ?_
    refine tr_dcall H fun h7 H => ?_
    refine tr_pm0 ?_
    exact tr_ret1 rfl rfl ⟨_, rfl, H⟩
  · replace H := H.2 g6
    refine tr_skip ?_
    refine tr_thenN ?_
    refine tr_seq ?_
    refine tr_region ?_
    refine tr_p (y_move rfl) rfl rfl ?_
    refine tr_p (y_move rfl) rfl rfl ?_
    obtain ⟨a8, e9, H⟩ := H
    refine tr_p (f_nn rfl e9) rfl rfl ?_
    refine tr_p (y_fa (off := 4) Tryz.runUnderlying62 fo_62_3 rfl) rfl rfl ?_
    obtain ⟨e10, H⟩ := H
    refine tr_p (f_idxArr Tryz.runUnderlying60 Tryz.sizeOf59 rfl rfl e10) rfl rfl ?_
    refine tr_p (y_fa (off := 1) Tryz.runUnderlying59 fo_59_1 rfl) rfl rfl ?_
    obtain ⟨y11, k12, H⟩ := H
    refine tr_h (y_ld Tryz.isAgg3 rfl) k12 rfl rfl ?_
    refine tr_p (y_assign rfl) rfl rfl ?_
    refine tr_nil ?_
    refine tr_thenN ?_
    refine tr_seq ?_
    refine tr_seq ?_
    refine tr_region ?_
    refine tr_p (y_move rfl) rfl rfl ?_
    refine tr_p (y_eql rfl rfl) rfl rfl ?_
    refine tr_nil ?_
    refine tr_thenN ?_
    refine tr_cond rfl (fun g13 => ?_) (fun g13 => ?_)
    · replace H := H.1 g13
      refine tr_seq ?_
      refine tr_region ?_
      refine tr_p (y_assign rfl) rfl rfl ?_
      refine tr_nil ?_
      refine tr_thenN ?_
      refine tr_ret ?_
      refine tr_thenR ?_
      refine tr_dcall H fun h14 H => ?_
      refine tr_pm0 ?_
      exact tr_ret1 rfl rfl ⟨_, rfl, H⟩
    · replace H := H.2 g13
      refine tr_skip ?_
      refine tr_thenN ?_
      refine tr_seq ?_
      refine tr_region ?_
      refine tr_p (y_move rfl) rfl rfl ?_
      refine tr_p (y_move rfl) rfl rfl ?_
      obtain ⟨a15, e16, H⟩ := H
      refine tr_p (f_nn rfl e16) rfl rfl ?_
      refine tr_p (y_fa (off := 4) Tryz.runUnderlying62 fo_62_3 rfl) rfl rfl ?_
      obtain ⟨e17, H⟩ := H
      refine tr_p (f_idxArr Tryz.runUnderlying60 Tryz.sizeOf59 rfl rfl e17) rfl rfl ?_
      refine tr_p (y_fa (off := 1) Tryz.runUnderlying59 fo_59_1 rfl) rfl rfl ?_
      refine tr_e (f_store (vs := [(.int .i64 0)]) Tryz.sizeOf3 rfl rfl rfl rfl (one1 rfl) H) rfl rfl ?_
      rintro _ h18 ⟨rfl, H⟩
      refine tr_nil ?_
      refine tr_thenN ?_
      refine tr_seq ?_
      refine tr_region ?_
      refine tr_p (y_move rfl) rfl rfl ?_
      refine tr_p (y_move rfl) rfl rfl ?_
      refine tr_e (e_call Tryz.call44 rfl (F.epoch_Book_let_ok H)) rfl rfl ?_
      rintro _ h19 ⟨rfl, H⟩
      refine tr_nil ?_
      refine tr_thenN ?_
      refine tr_seq ?_
      refine tr_region ?_
      refine tr_p (y_assign rfl) rfl rfl ?_
      refine tr_nil ?_
      refine tr_thenN ?_
      refine tr_ret ?_
      refine tr_dcall H fun h20 H => ?_
      refine tr_pm0 ?_
      exact tr_ret1 rfl rfl ⟨_, rfl, H⟩

end Go.Proofs.YtgcmojbajjajgaaGreat.V
