/- Printed by a program of this session (gen.py): Go functions as Lean functions over the heap, and that the Go code does what they say; no condition. -/
import Derived.Test.YtgcmojbajjajgaaGreatGlx0
namespace Go.Proofs.YtgcmojbajjajgaaGreat.V
open Go
set_option linter.unusedVariables false
set_option maxRecDepth 100000
/-- (*spate/spateref9.Book).Done -/
def F.spateref9_Book_Done (p0 : Option Addr) (p1 : Int) (h : H) (Q : Int → H → Prop) : Prop :=
  F.spateref9_owner p1 h fun r2 h1 =>
  ((!r2) = true →
  Q 1 h1) ∧
  ((!r2) = false →
  nn p0 fun a4 =>
  ldL h1 (a4.add 3) fun y6 =>
  idxA y6 p1 1 fun a8 =>
  ldI .i64 h1 a8 fun y10 =>
  (((y10 == 0)) = true →
  Q 44 h1) ∧
  (((y10 == 0)) = false →
  nn p0 fun a13 =>
  ldL h1 (a13.add 3) fun y15 =>
  idxA y15 p1 1 fun a17 =>
  stH h1 a17 [(.int .i64 0)] fun h19 =>
  F.spateref9_Book_loose p0 y10 h19 fun h20 =>
  Q 0 h20))
theorem F.spateref9_Book_Done_ok {p0 : Option Addr} {p1 : Int} {h : H} {Q : Int → H → Prop} (H : F.spateref9_Book_Done p0 p1 h Q) : Fn PP 31 ([(.pointer p0), (.int .i64 p1)] : List Value).toArray h fun r h' => ∃ r0, r = (.int .i64 r0) ∧ Q r0 h' := by
  unfold F.spateref9_Book_Done at H
  refine fn_of Tryz.func31 Tryz.ntmps31 rfl rfl fun w0 => ?_
  refine tr_sub [(0, (.pointer p0)), (1, (.int .i64 p1))] ⟨rfl, rfl, trivial⟩ ?_
  refine tr_seq ?_
  refine tr_region ?_
  refine tr_p (y_assign rfl) rfl rfl ?_
  refine tr_nil ?_
  refine tr_thenN ?_
  refine tr_seq ?_
  refine tr_seq ?_
  refine tr_region ?_
  refine tr_p (y_move rfl) rfl rfl ?_
  refine tr_e (e_call Tryz.call41 rfl (F.spateref9_owner_ok H)) rfl rfl ?_
  rintro _ h1 ⟨r2, rfl, H⟩
  refine tr_p (y_not rfl) rfl rfl ?_
  refine tr_nil ?_
  refine tr_thenN ?_
  refine tr_cond rfl (fun g3 => ?_) (fun g3 => ?_)
  · replace H := H.1 g3
    refine tr_seq ?_
    refine tr_region ?_
    refine tr_p (y_assign rfl) rfl rfl ?_
    refine tr_nil ?_
    refine tr_thenN ?_
    refine tr_ret ?_
    refine tr_thenR ?_
    exact tr_ret1 rfl rfl ⟨_, rfl, H⟩
  · replace H := H.2 g3
    refine tr_skip ?_
    refine tr_thenN ?_
    refine tr_seq ?_
    refine tr_region ?_
    refine tr_p (y_move rfl) rfl rfl ?_
    obtain ⟨a4, e5, H⟩ := H
    refine tr_p (f_nn rfl e5) rfl rfl ?_
    refine tr_p (y_fa (off := 3) Tryz.runUnderlying40 fo_40_3 rfl) rfl rfl ?_
    obtain ⟨y6, k7, H⟩ := H
    refine tr_h (y_ld Tryz.isAgg38 rfl) k7 rfl rfl ?_
    refine tr_p (y_move rfl) rfl rfl ?_
    obtain ⟨a8, e9, H⟩ := H
    refine tr_p (f_idx (s := y6) Tryz.runUnderlying38 Tryz.sizeOf3 rfl rfl e9) rfl rfl ?_
    obtain ⟨y10, k11, H⟩ := H
    refine tr_h (y_ld Tryz.isAgg3 rfl) k11 rfl rfl ?_
    refine tr_p (y_assign rfl) rfl rfl ?_
    refine tr_nil ?_
    refine tr_thenN ?_
    refine tr_seq ?_
    refine tr_seq ?_
    refine tr_region ?_
    refine tr_p (y_move rfl) rfl rfl ?_
    refine tr_p (y_eql rfl rfl) rfl rfl ?_
    refine tr_nil ?_
    refine tr_thenN ?_
    refine tr_cond rfl (fun g12 => ?_) (fun g12 => ?_)
    · replace H := H.1 g12
      refine tr_seq ?_
      refine tr_region ?_
      refine tr_p (y_assign rfl) rfl rfl ?_
      refine tr_nil ?_
      refine tr_thenN ?_
      refine tr_ret ?_
      refine tr_thenR ?_
      exact tr_ret1 rfl rfl ⟨_, rfl, H⟩
    · replace H := H.2 g12
      refine tr_skip ?_
      refine tr_thenN ?_
      refine tr_seq ?_
      refine tr_region ?_
      refine tr_p (y_move rfl) rfl rfl ?_
      obtain ⟨a13, e14, H⟩ := H
      refine tr_p (f_nn rfl e14) rfl rfl ?_
      refine tr_p (y_fa (off := 3) Tryz.runUnderlying40 fo_40_3 rfl) rfl rfl ?_
      obtain ⟨y15, k16, H⟩ := H
      refine tr_h (y_ld Tryz.isAgg38 rfl) k16 rfl rfl ?_
      refine tr_p (y_move rfl) rfl rfl ?_
      obtain ⟨a17, e18, H⟩ := H
      refine tr_p (f_idx (s := y15) Tryz.runUnderlying38 Tryz.sizeOf3 rfl rfl e18) rfl rfl ?_
      refine tr_e (f_store (vs := [(.int .i64 0)]) Tryz.sizeOf3 rfl rfl rfl rfl (one1 rfl) H) rfl rfl ?_
      rintro _ h19 ⟨rfl, H⟩
      refine tr_nil ?_
      refine tr_thenN ?_
      refine tr_seq ?_
      refine tr_region ?_
      refine tr_p (y_move rfl) rfl rfl ?_
      refine tr_p (y_move rfl) rfl rfl ?_
      refine tr_e (e_call Tryz.call55 rfl (F.spateref9_Book_loose_ok H)) rfl rfl ?_
      rintro _ h20 ⟨rfl, H⟩
      refine tr_nil ?_
      refine tr_thenN ?_
      refine tr_seq ?_
      refine tr_region ?_
      refine tr_p (y_assign rfl) rfl rfl ?_
      refine tr_nil ?_
      refine tr_thenN ?_
      refine tr_ret ?_
      exact tr_ret1 rfl rfl ⟨_, rfl, H⟩

def F.epoch_Book_Drop.l2 (Q : Int → H → Prop) (f_1 : FuncId) (fi_1 ca_1 : Array Value) : Nat → (Option Addr) → Sl → Sl → Int → Int → H → Prop
  | 0, _, _, _, _, _, _ => False
  | q2 + 1, x0, x5, x43, x44, x45, h =>
    ((decide (x45 < x44)) = true →
    idxA x43 x45 1 fun a24 =>
    ldI .i64 h a24 fun y26 =>
    F.epoch_Book_let x0 y26 h fun h28 =>
    (F.epoch_Book_Drop.l2 Q f_1 fi_1 ca_1 q2) x0 x5 x43 x44 (IntKind.wrap .i64 (x45 + 1)) h28) ∧
    ((decide (x45 < x44)) = false →
    dcall PP f_1 ((fi_1 ++ ([] : List Value).toArray) ++ ca_1) h fun h29 =>
    Q (x5.len : Int) h29)
def F.epoch_Book_Drop.j1 (Q : Int → H → Prop) (f_1 : FuncId) (fi_1 ca_1 : Array Value) (x0 : Option Addr) (x1 : Int) (x5 : Sl) (h : H) : Prop :=
  RunS PP (Instr.makeMap 57 none) h fun u h17 => ∃ m18 : Option Nat, u = (.map m18) ∧
  nn x0 fun a19 =>
  (0 ≤ (x1 : Int) ∧ x1 < 65) ∧
  stH h17 ((a19.add 4).add ((x1 : Int).toNat * 2)) ((⟨m18, 0⟩ : S_epoch_owner).cells) fun h22 =>
  ∃ m, F.epoch_Book_Drop.l2 Q f_1 fi_1 ca_1 m x0 x5 x5 (x5.len : Int) 0 h22
/-- (*spate/epoch.Book).Drop -/
def F.epoch_Book_Drop (p0 : Option Addr) (p1 : Int) (h : H) (Q : Int → H → Prop) : Prop :=
  F.epoch_Book_guard p0 h fun r2 h1 =>
  fnV r2 fun f_1 fi_1 ca_1 =>
  F.epoch_is p1 h1 fun r5 h4 =>
  ((!r5) = true →
  dcall PP f_1 ((fi_1 ++ ([] : List Value).toArray) ++ ca_1) h4 fun h7 =>
  Q 0 h7) ∧
  ((!r5) = false →
  nn p0 fun a8 =>
  (0 ≤ (p1 : Int) ∧ p1 < 65) ∧
  ldM h4 (((a8.add 4).add ((p1 : Int).toNat * 2)).add 0) fun y11 =>
  F.maps_Keys_map_int_struct_int_struct y11 h4 fun r14 h13 =>
  F.slices_Collect_int r14 h13 fun r16 h15 =>
  nn p0 fun a31 =>
  (0 ≤ (p1 : Int) ∧ p1 < 65) ∧
  ldI .i64 h15 (((a31.add 4).add ((p1 : Int).toNat * 2)).add 1) fun y34 =>
  (((y34 != 0)) = true →
  newL h15 #[(.int .i64 y34)] ty_3 1 fun s38 h37 =>
  runL PP (Builtin.append_ #[38, 38] 38 #[r16.enc, s38.enc]) h37 fun s40 h39 =>
  F.epoch_Book_Drop.j1 Q f_1 fi_1 ca_1 p0 p1 s40 h39) ∧
  (((y34 != 0)) = false →
  F.epoch_Book_Drop.j1 Q f_1 fi_1 ca_1 p0 p1 r16 h15))
theorem F.epoch_Book_Drop_ok {p0 : Option Addr} {p1 : Int} {h : H} {Q : Int → H → Prop} (H : F.epoch_Book_Drop p0 p1 h Q) : Fn PP 32 ([(.pointer p0), (.int .i64 p1)] : List Value).toArray h fun r h' => ∃ r0, r = (.int .i64 r0) ∧ Q r0 h' := by
  unfold F.epoch_Book_Drop at H
  refine fn_ofM Tryz.func32 Tryz.ntmps32 rfl rfl fun w0 => ?_
  refine tr_sub [(0, (.pointer p0)), (1, (.int .i64 p1))] ⟨rfl, rfl, trivial⟩ ?_
  refine tr_seq ?_
  refine tr_region ?_
  refine tr_p (y_assign rfl) rfl rfl ?_
  refine tr_nil ?_
  refine tr_thenN ?_
  refine tr_seq ?_
  refine tr_region ?_
  refine tr_p (y_move rfl) rfl rfl ?_
  refine tr_e (e_call Tryz.call21 rfl (F.epoch_Book_guard_ok H)) rfl rfl ?_
  rintro r2 h1 ⟨_, rfl, H⟩
  obtain ⟨f_1, fi_1, ca_1, e3, H⟩ := H
  subst e3
  refine tr_defer rfl rfl rfl ?_
  refine tr_nil ?_
  refine tr_thenN ?_
  refine tr_seq ?_
  refine tr_seq ?_
  refine tr_region ?_
  refine tr_p (y_move rfl) rfl rfl ?_
  refine tr_e (e_call Tryz.call39 rfl (F.epoch_is_ok H)) rfl rfl ?_
  rintro _ h4 ⟨r5, rfl, H⟩
  refine tr_p (y_not rfl) rfl rfl ?_
  refine tr_nil ?_
  refine tr_thenN ?_
  refine tr_cond rfl (fun g6 => ?_) (fun g6 => ?_)
  · replace H := H.1 g6
    refine tr_seq ?_
    refine tr_region ?_
    refine tr_p (y_assign rfl) rfl rfl ?_
    refine tr_nil ?_
    refine tr_thenN ?_
    refine tr_ret ?_
    refine tr_thenR ?_
    refine tr_dcall H fun h7 H => ?_
    refine tr_pm0 ?_
    exact tr_ret1 rfl rfl ⟨_, rfl, H⟩
  · replace H := H.2 g6
    refine tr_skip ?_
    refine tr_thenN ?_
    refine tr_seq ?_
    refine tr_region ?_
    refine tr_p (y_move rfl) rfl rfl ?_
    refine tr_p (y_move rfl) rfl rfl ?_
    obtain ⟨a8, e9, H⟩ := H
    refine tr_p (f_nn rfl e9) rfl rfl ?_
    refine tr_p (y_fa (off := 4) Tryz.runUnderlying62 fo_62_3 rfl) rfl rfl ?_
    obtain ⟨e10, H⟩ := H
    refine tr_p (f_idxArr Tryz.runUnderlying60 Tryz.sizeOf59 rfl rfl e10) rfl rfl ?_
    refine tr_p (y_fa (off := 0) Tryz.runUnderlying59 fo_59_0 rfl) rfl rfl ?_
    obtain ⟨y11, k12, H⟩ := H
    refine tr_h (y_ld Tryz.isAgg57 rfl) k12 rfl rfl ?_
    refine tr_e (e_call Tryz.call57 rfl (F.maps_Keys_map_int_struct_int_struct_ok H)) rfl rfl ?_
    rintro r14 h13 ⟨_, rfl, H⟩
    refine tr_e (e_call Tryz.call56 rfl (F.slices_Collect_int_ok H)) rfl rfl ?_
    rintro _ h15 ⟨r16, rfl, H⟩
    refine tr_p (y_assign rfl) rfl rfl ?_
    refine tr_nil ?_
    refine tr_thenN ?_
    refine tr_seq_j (fun L' h => ∃ (x0 : Option Addr) (x1 : Int) (x5 : Sl), L' = [(0, (.pointer x0)), (1, (.int .i64 x1)), (5, x5.enc)] ∧ F.epoch_Book_Drop.j1 Q f_1 fi_1 ca_1 x0 x1 x5 h) ?_ ?_
    · rintro L' h ⟨x0, x1, x5, rfl, H⟩
      unfold F.epoch_Book_Drop.j1 at H
      refine tr_seq ?_
      refine tr_region ?_
      refine tr_p (y_move rfl) rfl rfl ?_
      refine tr_p (y_move rfl) rfl rfl ?_
      refine tr_e (f_mkN H) rfl rfl ?_
      rintro _ h17 ⟨m18, rfl, H⟩
      refine tr_p (f_build rfl (bd_59_0 m18)) rfl rfl ?_
      obtain ⟨a19, e20, H⟩ := H
      refine tr_p (f_nn rfl e20) rfl rfl ?_
      refine tr_p (y_fa (off := 4) Tryz.runUnderlying62 fo_62_3 rfl) rfl rfl ?_
      obtain ⟨e21, H⟩ := H
      refine tr_p (f_idxArr Tryz.runUnderlying60 Tryz.sizeOf59 rfl rfl e21) rfl rfl ?_
      refine tr_e (f_store (vs := (⟨m18, 0⟩ : S_epoch_owner).cells) Tryz.sizeOf59 rfl rfl cellsOfStruct rfl (by intro v hv; exact ones_S_epoch_owner _ v hv) H) rfl rfl ?_
      rintro _ h22 ⟨rfl, H⟩
      refine tr_nil ?_
      refine tr_thenN ?_
      refine tr_seq ?_
      refine tr_seq ?_
      refine tr_region ?_
      refine tr_p (y_move rfl) rfl rfl ?_
      refine tr_p (y_len (ts := #[]) Tryz.runUnderlying38 (o := x5.ptr) (n := x5.len) (cap := x5.cap) rfl) rfl rfl ?_
      refine tr_p (y_move rfl) rfl rfl ?_
      refine tr_nil ?_
      refine tr_thenN ?_
      refine tr_block ?_
      obtain ⟨m30, H⟩ := H
      refine tr_sub [(0, (.pointer x0)), (5, x5.enc), (43, x5.enc), (44, (.int .i64 (x5.len : Int))), (45, (.int .i64 0))] ⟨rfl, rfl, rfl, rfl, rfl, trivial⟩ ?_
      refine tr_loop_j (fun m L' h => ∃ (x0 : Option Addr) (x5 : Sl) (x43 : Sl) (x44 : Int) (x45 : Int), L' = [(0, (.pointer x0)), (5, x5.enc), (43, x43.enc), (44, (.int .i64 x44)), (45, (.int .i64 x45))] ∧ F.epoch_Book_Drop.l2 Q f_1 fi_1 ca_1 m x0 x5 x43 x44 x45 h) ?_ ?_ m30 ⟨_, _, _, _, _, rfl, H⟩
      · rintro L' h ⟨_, _, _, _, _, _, H⟩; exact H
      · rintro q2 L' h ⟨x0, x5, x43, x44, x45, rfl, H⟩
        unfold F.epoch_Book_Drop.l2 at H
        refine tr_seq ?_
        refine tr_region ?_
        refine tr_p (y_lss rfl rfl) rfl rfl ?_
        refine tr_nil ?_
        refine tr_thenN ?_
        refine tr_seq ?_
        refine tr_cond rfl (fun g23 => ?_) (fun g23 => ?_)
        · replace H := H.1 g23
          refine tr_skip ?_
          refine tr_thenN ?_
          refine tr_seq ?_
          refine tr_block ?_
          refine tr_seq ?_
          refine tr_region ?_
          obtain ⟨a24, e25, H⟩ := H
          refine tr_p (f_idx (s := x43) Tryz.runUnderlying38 Tryz.sizeOf3 rfl rfl e25) rfl rfl ?_
          obtain ⟨y26, k27, H⟩ := H
          refine tr_h (y_ld Tryz.isAgg3 rfl) k27 rfl rfl ?_
          refine tr_p (y_assign rfl) rfl rfl ?_
          refine tr_nil ?_
          refine tr_thenN ?_
          refine tr_region ?_
          refine tr_p (y_move rfl) rfl rfl ?_
          refine tr_p (y_move rfl) rfl rfl ?_
          refine tr_e (e_call Tryz.call44 rfl (F.epoch_Book_let_ok H)) rfl rfl ?_
          rintro _ h28 ⟨rfl, H⟩
          refine tr_nil ?_
          refine tr_blockN ?_
          refine tr_thenN ?_
          refine tr_region ?_
          refine tr_p (y_add rfl rfl) rfl rfl ?_
          refine tr_p (y_move rfl) rfl rfl ?_
          refine tr_nil ?_
          refine tr_thenN ?_
          exact tr_join [(0, (.pointer x0)), (5, x5.enc), (43, x43.enc), (44, (.int .i64 x44)), (45, (.int .i64 (IntKind.wrap .i64 (x45 + 1))))] ⟨rfl, rfl, rfl, rfl, rfl, trivial⟩ ⟨_, _, _, _, _, rfl, H⟩
        · replace H := H.2 g23
          refine tr_exit ?_
          refine tr_thenE ?_
          refine tr_thenE ?_
          refine tr_hit ?_
          refine tr_thenN ?_
          refine tr_seq ?_
          refine tr_region ?_
          refine tr_p (y_move rfl) rfl rfl ?_
          refine tr_p (y_len (ts := #[]) Tryz.runUnderlying38 (o := x5.ptr) (n := x5.len) (cap := x5.cap) rfl) rfl rfl ?_
          refine tr_p (y_assign rfl) rfl rfl ?_
          refine tr_nil ?_
          refine tr_thenN ?_
          refine tr_ret ?_
          refine tr_dcall H fun h29 H => ?_
          refine tr_pm0 ?_
          exact tr_ret1 rfl rfl ⟨_, rfl, H⟩
    · refine tr_seq ?_
      refine tr_region ?_
      refine tr_p (y_move rfl) rfl rfl ?_
      refine tr_p (y_move rfl) rfl rfl ?_
      obtain ⟨a31, e32, H⟩ := H
      refine tr_p (f_nn rfl e32) rfl rfl ?_
      refine tr_p (y_fa (off := 4) Tryz.runUnderlying62 fo_62_3 rfl) rfl rfl ?_
      obtain ⟨e33, H⟩ := H
      refine tr_p (f_idxArr Tryz.runUnderlying60 Tryz.sizeOf59 rfl rfl e33) rfl rfl ?_
      refine tr_p (y_fa (off := 1) Tryz.runUnderlying59 fo_59_1 rfl) rfl rfl ?_
      obtain ⟨y34, k35, H⟩ := H
      refine tr_h (y_ld Tryz.isAgg3 rfl) k35 rfl rfl ?_
      refine tr_p (y_assign rfl) rfl rfl ?_
      refine tr_nil ?_
      refine tr_thenN ?_
      refine tr_seq ?_
      refine tr_region ?_
      refine tr_p (y_move rfl) rfl rfl ?_
      refine tr_p (y_neq rfl rfl) rfl rfl ?_
      refine tr_nil ?_
      refine tr_thenN ?_
      refine tr_cond rfl (fun g36 => ?_) (fun g36 => ?_)
      · replace H := H.1 g36
        refine tr_region ?_
        refine tr_p (y_move rfl) rfl rfl ?_
        refine tr_p (y_move rfl) rfl rfl ?_
        refine tr_e (f_buildL (cs := #[(.int .i64 y34)]) rfl rfl (bl_38_1_0 y34) H) rfl rfl ?_
        rintro _ h37 ⟨s38, rfl, H⟩
        refine tr_e (f_app rfl H) rfl rfl ?_
        rintro _ h39 ⟨s40, rfl, H⟩
        refine tr_p (y_assign rfl) rfl rfl ?_
        refine tr_nil ?_
        refine tr_thenN ?_
        exact tr_join [(0, (.pointer p0)), (1, (.int .i64 p1)), (5, s40.enc)] ⟨rfl, rfl, rfl, trivial⟩ ⟨_, _, _, rfl, H⟩
      · replace H := H.2 g36
        refine tr_skip ?_
        refine tr_thenN ?_
        exact tr_join [(0, (.pointer p0)), (1, (.int .i64 p1)), (5, r16.enc)] ⟨rfl, rfl, rfl, trivial⟩ ⟨_, _, _, rfl, H⟩

def F.spateref9_Book_Drop.j2 (Q : Int → H → Prop) (x7 : Int) (h : H) : Prop :=
  Q x7 h
def F.spateref9_Book_Drop.l1 (Q : Int → H → Prop) : Nat → (Option Addr) → Int → Sl → Int → H → Prop
  | 0, _, _, _, _, _ => False
  | q1 + 1, x0, x1, x5, x6, h =>
    ((decide (x6 < (x5.len : Int))) = true →
    idxA x5 x6 1 fun a20 =>
    ldI .i64 h a20 fun y22 =>
    F.spateref9_Book_loose x0 y22 h fun h24 =>
    (F.spateref9_Book_Drop.l1 Q q1) x0 x1 x5 (IntKind.wrap .i64 (x6 + 1)) h24) ∧
    ((decide (x6 < (x5.len : Int))) = false →
    F.spateref9_Book_Done x0 x1 h fun r26 h25 =>
    (((r26 == 0)) = true →
    F.spateref9_Book_Drop.j2 Q (IntKind.wrap .i64 ((x5.len : Int) + 1)) h25) ∧
    (((r26 == 0)) = false →
    F.spateref9_Book_Drop.j2 Q (x5.len : Int) h25))
/-- (*spate/spateref9.Book).Drop -/
def F.spateref9_Book_Drop (p0 : Option Addr) (p1 : Int) (h : H) (Q : Int → H → Prop) : Prop :=
  F.spateref9_owner p1 h fun r2 h1 =>
  ((!r2) = true →
  Q 0 h1) ∧
  ((!r2) = false →
  nn p0 fun a4 =>
  ldL h1 (a4.add 2) fun y6 =>
  idxA y6 p1 1 fun a8 =>
  ldL h1 a8 fun y10 =>
  nn p0 fun a12 =>
  ldL h1 (a12.add 2) fun y14 =>
  idxA y14 p1 1 fun a16 =>
  stH h1 a16 [(⟨none, 0, 0⟩ : Sl).enc] fun h18 =>
  ∃ m, F.spateref9_Book_Drop.l1 Q m p0 p1 y10 0 h18)
theorem F.spateref9_Book_Drop_ok {p0 : Option Addr} {p1 : Int} {h : H} {Q : Int → H → Prop} (H : F.spateref9_Book_Drop p0 p1 h Q) : Fn PP 33 ([(.pointer p0), (.int .i64 p1)] : List Value).toArray h fun r h' => ∃ r0, r = (.int .i64 r0) ∧ Q r0 h' := by
  unfold F.spateref9_Book_Drop at H
  refine fn_of Tryz.func33 Tryz.ntmps33 rfl rfl fun w0 => ?_
  refine tr_sub [(0, (.pointer p0)), (1, (.int .i64 p1))] ⟨rfl, rfl, trivial⟩ ?_
  refine tr_seq ?_
  refine tr_region ?_
  refine tr_p (y_assign rfl) rfl rfl ?_
  refine tr_nil ?_
  refine tr_thenN ?_
  refine tr_seq ?_
  refine tr_seq ?_
  refine tr_region ?_
  refine tr_p (y_move rfl) rfl rfl ?_
  refine tr_e (e_call Tryz.call41 rfl (F.spateref9_owner_ok H)) rfl rfl ?_
  rintro _ h1 ⟨r2, rfl, H⟩
  refine tr_p (y_not rfl) rfl rfl ?_
  refine tr_nil ?_
  refine tr_thenN ?_
  refine tr_cond rfl (fun g3 => ?_) (fun g3 => ?_)
  · replace H := H.1 g3
    refine tr_seq ?_
    refine tr_region ?_
    refine tr_p (y_assign rfl) rfl rfl ?_
    refine tr_nil ?_
    refine tr_thenN ?_
    refine tr_ret ?_
    refine tr_thenR ?_
    exact tr_ret1 rfl rfl ⟨_, rfl, H⟩
  · replace H := H.2 g3
    refine tr_skip ?_
    refine tr_thenN ?_
    refine tr_seq ?_
    refine tr_region ?_
    refine tr_p (y_move rfl) rfl rfl ?_
    obtain ⟨a4, e5, H⟩ := H
    refine tr_p (f_nn rfl e5) rfl rfl ?_
    refine tr_p (y_fa (off := 2) Tryz.runUnderlying40 fo_40_2 rfl) rfl rfl ?_
    obtain ⟨y6, k7, H⟩ := H
    refine tr_h (y_ld Tryz.isAgg37 rfl) k7 rfl rfl ?_
    refine tr_p (y_move rfl) rfl rfl ?_
    obtain ⟨a8, e9, H⟩ := H
    refine tr_p (f_idx (s := y6) Tryz.runUnderlying37 Tryz.sizeOf38 rfl rfl e9) rfl rfl ?_
    obtain ⟨y10, k11, H⟩ := H
    refine tr_h (y_ld Tryz.isAgg38 rfl) k11 rfl rfl ?_
    refine tr_p (y_assign rfl) rfl rfl ?_
    refine tr_nil ?_
    refine tr_thenN ?_
    refine tr_seq ?_
    refine tr_region ?_
    refine tr_p (y_move rfl) rfl rfl ?_
    obtain ⟨a12, e13, H⟩ := H
    refine tr_p (f_nn rfl e13) rfl rfl ?_
    refine tr_p (y_fa (off := 2) Tryz.runUnderlying40 fo_40_2 rfl) rfl rfl ?_
    obtain ⟨y14, k15, H⟩ := H
    refine tr_h (y_ld Tryz.isAgg37 rfl) k15 rfl rfl ?_
    refine tr_p (y_move rfl) rfl rfl ?_
    obtain ⟨a16, e17, H⟩ := H
    refine tr_p (f_idx (s := y14) Tryz.runUnderlying37 Tryz.sizeOf38 rfl rfl e17) rfl rfl ?_
    refine tr_e (f_store (vs := [(⟨none, 0, 0⟩ : Sl).enc]) Tryz.sizeOf38 rfl rfl rfl rfl (one1 rfl) H) rfl rfl ?_
    rintro _ h18 ⟨rfl, H⟩
    refine tr_nil ?_
    refine tr_thenN ?_
    refine tr_seq ?_
    refine tr_seq ?_
    refine tr_region ?_
    refine tr_p (y_assign rfl) rfl rfl ?_
    refine tr_nil ?_
    refine tr_thenN ?_
    refine tr_block ?_
    obtain ⟨m28, H⟩ := H
    refine tr_sub [(0, (.pointer p0)), (1, (.int .i64 p1)), (5, y10.enc), (6, (.int .i64 0))] ⟨rfl, rfl, rfl, rfl, trivial⟩ ?_
    refine tr_loop_j (fun m L' h => ∃ (x0 : Option Addr) (x1 : Int) (x5 : Sl) (x6 : Int), L' = [(0, (.pointer x0)), (1, (.int .i64 x1)), (5, x5.enc), (6, (.int .i64 x6))] ∧ F.spateref9_Book_Drop.l1 Q m x0 x1 x5 x6 h) ?_ ?_ m28 ⟨_, _, _, _, rfl, H⟩
    · rintro L' h ⟨_, _, _, _, _, H⟩; exact H
    · rintro q1 L' h ⟨x0, x1, x5, x6, rfl, H⟩
      unfold F.spateref9_Book_Drop.l1 at H
      refine tr_seq ?_
      refine tr_seq ?_
      refine tr_region ?_
      refine tr_p (y_move rfl) rfl rfl ?_
      refine tr_p (y_move rfl) rfl rfl ?_
      refine tr_p (y_len (ts := #[]) Tryz.runUnderlying38 (o := x5.ptr) (n := x5.len) (cap := x5.cap) rfl) rfl rfl ?_
      refine tr_p (y_lss rfl rfl) rfl rfl ?_
      refine tr_nil ?_
      refine tr_thenN ?_
      refine tr_cond rfl (fun g19 => ?_) (fun g19 => ?_)
      · replace H := H.1 g19
        refine tr_skip ?_
        refine tr_thenN ?_
        refine tr_seq ?_
        refine tr_block ?_
        refine tr_region ?_
        refine tr_p (y_move rfl) rfl rfl ?_
        refine tr_p (y_move rfl) rfl rfl ?_
        refine tr_p (y_move rfl) rfl rfl ?_
        obtain ⟨a20, e21, H⟩ := H
        refine tr_p (f_idx (s := x5) Tryz.runUnderlying38 Tryz.sizeOf3 rfl rfl e21) rfl rfl ?_
        obtain ⟨y22, k23, H⟩ := H
        refine tr_h (y_ld Tryz.isAgg3 rfl) k23 rfl rfl ?_
        refine tr_e (e_call Tryz.call55 rfl (F.spateref9_Book_loose_ok H)) rfl rfl ?_
        rintro _ h24 ⟨rfl, H⟩
        refine tr_nil ?_
        refine tr_blockN ?_
        refine tr_thenN ?_
        refine tr_region ?_
        refine tr_p (y_move rfl) rfl rfl ?_
        refine tr_p (y_add rfl rfl) rfl rfl ?_
        refine tr_p (y_assign rfl) rfl rfl ?_
        refine tr_nil ?_
        refine tr_thenN ?_
        exact tr_join [(0, (.pointer x0)), (1, (.int .i64 x1)), (5, x5.enc), (6, (.int .i64 (IntKind.wrap .i64 (x6 + 1))))] ⟨rfl, rfl, rfl, rfl, trivial⟩ ⟨_, _, _, _, rfl, H⟩
      · replace H := H.2 g19
        refine tr_exit ?_
        refine tr_thenE ?_
        refine tr_thenE ?_
        refine tr_hit ?_
        refine tr_thenN ?_
        refine tr_seq ?_
        refine tr_region ?_
        refine tr_p (y_move rfl) rfl rfl ?_
        refine tr_p (y_len (ts := #[]) Tryz.runUnderlying38 (o := x5.ptr) (n := x5.len) (cap := x5.cap) rfl) rfl rfl ?_
        refine tr_p (y_assign rfl) rfl rfl ?_
        refine tr_nil ?_
        refine tr_thenN ?_
        refine tr_seq_j (fun L' h => ∃ (x7 : Int), L' = [(7, (.int .i64 x7))] ∧ F.spateref9_Book_Drop.j2 Q x7 h) ?_ ?_
        · rintro L' h ⟨x7, rfl, H⟩
          unfold F.spateref9_Book_Drop.j2 at H
          refine tr_seq ?_
          refine tr_region ?_
          refine tr_p (y_move rfl) rfl rfl ?_
          refine tr_p (y_assign rfl) rfl rfl ?_
          refine tr_nil ?_
          refine tr_thenN ?_
          refine tr_ret ?_
          exact tr_ret1 rfl rfl ⟨_, rfl, H⟩
        · refine tr_seq ?_
          refine tr_region ?_
          refine tr_p (y_move rfl) rfl rfl ?_
          refine tr_p (y_move rfl) rfl rfl ?_
          refine tr_e (e_call Tryz.call31 rfl (F.spateref9_Book_Done_ok H)) rfl rfl ?_
          rintro _ h25 ⟨r26, rfl, H⟩
          refine tr_p (y_eql rfl rfl) rfl rfl ?_
          refine tr_nil ?_
          refine tr_thenN ?_
          refine tr_cond rfl (fun g27 => ?_) (fun g27 => ?_)
          · replace H := H.1 g27
            refine tr_region ?_
            refine tr_p (y_move rfl) rfl rfl ?_
            refine tr_p (y_add rfl rfl) rfl rfl ?_
            refine tr_p (y_assign rfl) rfl rfl ?_
            refine tr_nil ?_
            refine tr_thenN ?_
            exact tr_join [(7, (.int .i64 (IntKind.wrap .i64 ((x5.len : Int) + 1))))] ⟨rfl, trivial⟩ ⟨_, rfl, H⟩
          · replace H := H.2 g27
            refine tr_skip ?_
            refine tr_thenN ?_
            exact tr_join [(7, (.int .i64 (x5.len : Int)))] ⟨rfl, trivial⟩ ⟨_, rfl, H⟩

/-- (*spate/spateref9.Book).Begin -/
def F.spateref9_Book_Begin (p0 : Option Addr) (h : H) (Q : Int → H → Prop) : Prop :=
  nn p0 fun a1 =>
  ldB h (a1.add 6) fun y3 =>
  (y3 = true →
  Q 43 h) ∧
  (y3 = false →
  nn p0 fun a6 =>
  stH h (a6.add 6) [(.bool true)] fun h8 =>
  newL h8 #[] ty_3 0 fun s10 h9 =>
  nn p0 fun a11 =>
  ldL h9 (a11.add 4) fun y13 =>
  runL PP (Builtin.append_ #[38, 38] 38 #[s10.enc, y13.enc]) h9 fun s16 h15 =>
  nn p0 fun a17 =>
  stH h15 (a17.add 5) [s16.enc] fun h19 =>
  Q 0 h19)
theorem F.spateref9_Book_Begin_ok {p0 : Option Addr} {h : H} {Q : Int → H → Prop} (H : F.spateref9_Book_Begin p0 h Q) : Fn PP 34 ([(.pointer p0)] : List Value).toArray h fun r h' => ∃ r0, r = (.int .i64 r0) ∧ Q r0 h' := by
  unfold F.spateref9_Book_Begin at H
  refine fn_of Tryz.func34 Tryz.ntmps34 rfl rfl fun w0 => ?_
  refine tr_sub [(0, (.pointer p0))] ⟨rfl, trivial⟩ ?_
  refine tr_seq ?_
  refine tr_region ?_
  refine tr_p (y_assign rfl) rfl rfl ?_
  refine tr_nil ?_
  refine tr_thenN ?_
  refine tr_seq ?_
  refine tr_seq ?_
  refine tr_region ?_
  refine tr_p (y_move rfl) rfl rfl ?_
  obtain ⟨a1, e2, H⟩ := H
  refine tr_p (f_nn rfl e2) rfl rfl ?_
  refine tr_p (y_fa (off := 6) Tryz.runUnderlying40 fo_40_6 rfl) rfl rfl ?_
  obtain ⟨y3, k4, H⟩ := H
  refine tr_h (y_ld Tryz.isAgg4 rfl) k4 rfl rfl ?_
  refine tr_nil ?_
  refine tr_thenN ?_
  refine tr_cond rfl (fun g5 => ?_) (fun g5 => ?_)
  · replace H := H.1 g5
    refine tr_seq ?_
    refine tr_region ?_
    refine tr_p (y_assign rfl) rfl rfl ?_
    refine tr_nil ?_
    refine tr_thenN ?_
    refine tr_ret ?_
    refine tr_thenR ?_
    exact tr_ret1 rfl rfl ⟨_, rfl, H⟩
  · replace H := H.2 g5
    refine tr_skip ?_
    refine tr_thenN ?_
    refine tr_seq ?_
    refine tr_region ?_
    refine tr_p (y_move rfl) rfl rfl ?_
    obtain ⟨a6, e7, H⟩ := H
    refine tr_p (f_nn rfl e7) rfl rfl ?_
    refine tr_p (y_fa (off := 6) Tryz.runUnderlying40 fo_40_6 rfl) rfl rfl ?_
    refine tr_e (f_store (vs := [(.bool true)]) Tryz.sizeOf4 rfl rfl rfl rfl (one1 rfl) H) rfl rfl ?_
    rintro _ h8 ⟨rfl, H⟩
    refine tr_nil ?_
    refine tr_thenN ?_
    refine tr_seq ?_
    refine tr_region ?_
    refine tr_p (y_move rfl) rfl rfl ?_
    refine tr_e (f_buildL (cs := #[]) rfl rfl (bl_38_0_) H) rfl rfl ?_
    rintro _ h9 ⟨s10, rfl, H⟩
    refine tr_p (y_move rfl) rfl rfl ?_
    obtain ⟨a11, e12, H⟩ := H
    refine tr_p (f_nn rfl e12) rfl rfl ?_
    refine tr_p (y_fa (off := 4) Tryz.runUnderlying40 fo_40_4 rfl) rfl rfl ?_
    obtain ⟨y13, k14, H⟩ := H
    refine tr_h (y_ld Tryz.isAgg38 rfl) k14 rfl rfl ?_
    refine tr_e (f_app rfl H) rfl rfl ?_
    rintro _ h15 ⟨s16, rfl, H⟩
    obtain ⟨a17, e18, H⟩ := H
    refine tr_p (f_nn rfl e18) rfl rfl ?_
    refine tr_p (y_fa (off := 5) Tryz.runUnderlying40 fo_40_5 rfl) rfl rfl ?_
    refine tr_e (f_store (vs := [s16.enc]) Tryz.sizeOf38 rfl rfl rfl rfl (one1 rfl) H) rfl rfl ?_
    rintro _ h19 ⟨rfl, H⟩
    refine tr_nil ?_
    refine tr_thenN ?_
    refine tr_seq ?_
    refine tr_region ?_
    refine tr_p (y_assign rfl) rfl rfl ?_
    refine tr_nil ?_
    refine tr_thenN ?_
    refine tr_ret ?_
    exact tr_ret1 rfl rfl ⟨_, rfl, H⟩

def F.spateref9_Book_End.l1 (Q : Int → Int → H → Prop) : Nat → (Option Addr) → Int → H → Prop
  | 0, _, _, _ => False
  | q1 + 1, x0, x4, h =>
    nn x0 fun a9 =>
    ldL h (a9.add 5) fun y11 =>
    ((decide (x4 < (y11.len : Int))) = true →
    nn x0 fun a14 =>
    ldL h (a14.add 4) fun y16 =>
    nn x0 fun a18 =>
    ldL h (a18.add 5) fun y20 =>
    idxA y20 x4 1 fun a22 =>
    ldI .i64 h a22 fun y24 =>
    F.spateref9_Without y16 y24 h fun r27 h26 =>
    nn x0 fun a28 =>
    stH h26 (a28.add 4) [r27.enc] fun h30 =>
    (F.spateref9_Book_End.l1 Q q1) x0 (IntKind.wrap .i64 (x4 + 1)) h30) ∧
    ((decide (x4 < (y11.len : Int))) = false →
    nn x0 fun a31 =>
    ldL h (a31.add 5) fun y33 =>
    nn x0 fun a35 =>
    stH h (a35.add 5) [(⟨none, 0, 0⟩ : Sl).enc] fun h37 =>
    Q (y33.len : Int) 0 h37)
/-- (*spate/spateref9.Book).End -/
def F.spateref9_Book_End (p0 : Option Addr) (h : H) (Q : Int → Int → H → Prop) : Prop :=
  nn p0 fun a1 =>
  ldB h (a1.add 6) fun y3 =>
  ((!y3) = true →
  Q 0 44 h) ∧
  ((!y3) = false →
  nn p0 fun a6 =>
  stH h (a6.add 6) [(.bool false)] fun h8 =>
  ∃ m, F.spateref9_Book_End.l1 Q m p0 0 h8)
theorem F.spateref9_Book_End_ok {p0 : Option Addr} {h : H} {Q : Int → Int → H → Prop} (H : F.spateref9_Book_End p0 h Q) : Fn PP 35 ([(.pointer p0)] : List Value).toArray h fun r h' => ∃ r0 r1, r = .tuple #[(.int .i64 r0), (.int .i64 r1)] ∧ Q r0 r1 h' := by
  unfold F.spateref9_Book_End at H
  refine fn_of Tryz.func35 Tryz.ntmps35 rfl rfl fun w0 => ?_
  refine tr_sub [(0, (.pointer p0))] ⟨rfl, trivial⟩ ?_
  refine tr_seq ?_
  refine tr_region ?_
  refine tr_p (y_assign rfl) rfl rfl ?_
  refine tr_p (y_assign rfl) rfl rfl ?_
  refine tr_nil ?_
  refine tr_thenN ?_
  refine tr_seq ?_
  refine tr_seq ?_
  refine tr_region ?_
  refine tr_p (y_move rfl) rfl rfl ?_
  obtain ⟨a1, e2, H⟩ := H
  refine tr_p (f_nn rfl e2) rfl rfl ?_
  refine tr_p (y_fa (off := 6) Tryz.runUnderlying40 fo_40_6 rfl) rfl rfl ?_
  obtain ⟨y3, k4, H⟩ := H
  refine tr_h (y_ld Tryz.isAgg4 rfl) k4 rfl rfl ?_
  refine tr_p (y_not rfl) rfl rfl ?_
  refine tr_nil ?_
  refine tr_thenN ?_
  refine tr_cond rfl (fun g5 => ?_) (fun g5 => ?_)
  · replace H := H.1 g5
    refine tr_seq ?_
    refine tr_region ?_
    refine tr_p (y_assign rfl) rfl rfl ?_
    refine tr_p (y_assign rfl) rfl rfl ?_
    refine tr_nil ?_
    refine tr_thenN ?_
    refine tr_ret ?_
    refine tr_thenR ?_
    exact tr_ret2 rfl rfl rfl ⟨_, _, rfl, H⟩
  · replace H := H.2 g5
    refine tr_skip ?_
    refine tr_thenN ?_
    refine tr_seq ?_
    refine tr_region ?_
    refine tr_p (y_move rfl) rfl rfl ?_
    obtain ⟨a6, e7, H⟩ := H
    refine tr_p (f_nn rfl e7) rfl rfl ?_
    refine tr_p (y_fa (off := 6) Tryz.runUnderlying40 fo_40_6 rfl) rfl rfl ?_
    refine tr_e (f_store (vs := [(.bool false)]) Tryz.sizeOf4 rfl rfl rfl rfl (one1 rfl) H) rfl rfl ?_
    rintro _ h8 ⟨rfl, H⟩
    refine tr_nil ?_
    refine tr_thenN ?_
    refine tr_seq ?_
    refine tr_seq ?_
    refine tr_region ?_
    refine tr_p (y_assign rfl) rfl rfl ?_
    refine tr_nil ?_
    refine tr_thenN ?_
    refine tr_block ?_
    obtain ⟨m38, H⟩ := H
    refine tr_sub [(0, (.pointer p0)), (4, (.int .i64 0))] ⟨rfl, rfl, trivial⟩ ?_
    refine tr_loop_j (fun m L' h => ∃ (x0 : Option Addr) (x4 : Int), L' = [(0, (.pointer x0)), (4, (.int .i64 x4))] ∧ F.spateref9_Book_End.l1 Q m x0 x4 h) ?_ ?_ m38 ⟨_, _, rfl, H⟩
    · rintro L' h ⟨_, _, _, H⟩; exact H
    · rintro q1 L' h ⟨x0, x4, rfl, H⟩
      unfold F.spateref9_Book_End.l1 at H
      refine tr_seq ?_
      refine tr_seq ?_
      refine tr_region ?_
      refine tr_p (y_move rfl) rfl rfl ?_
      refine tr_p (y_move rfl) rfl rfl ?_
      obtain ⟨a9, e10, H⟩ := H
      refine tr_p (f_nn rfl e10) rfl rfl ?_
      refine tr_p (y_fa (off := 5) Tryz.runUnderlying40 fo_40_5 rfl) rfl rfl ?_
      obtain ⟨y11, k12, H⟩ := H
      refine tr_h (y_ld Tryz.isAgg38 rfl) k12 rfl rfl ?_
      refine tr_p (y_len (ts := #[]) Tryz.runUnderlying38 (o := y11.ptr) (n := y11.len) (cap := y11.cap) rfl) rfl rfl ?_
      refine tr_p (y_lss rfl rfl) rfl rfl ?_
      refine tr_nil ?_
      refine tr_thenN ?_
      refine tr_cond rfl (fun g13 => ?_) (fun g13 => ?_)
      · replace H := H.1 g13
        refine tr_skip ?_
        refine tr_thenN ?_
        refine tr_seq ?_
        refine tr_block ?_
        refine tr_draw mixed [0, 0, 2, 6, 14, 0, 32, 96, 224, 0, 992, 2016, 4094, 8191, 16383, 32767] (by kernel_rfl) ?_
        refine g_p 0 1 rfl (by kernel_rfl) (y_move rfl) rfl rfl ?_
        refine g_p 1 3 rfl (by kernel_rfl) (y_move rfl) rfl rfl ?_
        obtain ⟨a14, e15, H⟩ := H
        refine g_p 2 7 rfl (by kernel_rfl) (f_nn rfl e15) rfl rfl ?_
        refine g_p 3 15 rfl (by kernel_rfl) (y_fa (off := 4) Tryz.runUnderlying40 fo_40_4 rfl) rfl rfl ?_
        obtain ⟨y16, k17, H⟩ := H
        refine g_h 4 31 rfl (by kernel_rfl) (y_ld Tryz.isAgg38 rfl) k17 rfl rfl ?_
        refine g_p 5 63 rfl (by kernel_rfl) (y_move rfl) rfl rfl ?_
        obtain ⟨a18, e19, H⟩ := H
        refine g_p 6 127 rfl (by kernel_rfl) (f_nn rfl e19) rfl rfl ?_
        refine g_p 7 255 rfl (by kernel_rfl) (y_fa (off := 5) Tryz.runUnderlying40 fo_40_5 rfl) rfl rfl ?_
        obtain ⟨y20, k21, H⟩ := H
        refine g_h 8 511 rfl (by kernel_rfl) (y_ld Tryz.isAgg38 rfl) k21 rfl rfl ?_
        refine g_p 9 1023 rfl (by kernel_rfl) (y_move rfl) rfl rfl ?_
        obtain ⟨a22, e23, H⟩ := H
        refine g_p 10 2047 rfl (by kernel_rfl) (f_idx (s := y20) Tryz.runUnderlying38 Tryz.sizeOf3 rfl rfl e23) rfl rfl ?_
        obtain ⟨y24, k25, H⟩ := H
        refine g_h 11 4095 rfl (by kernel_rfl) (y_ld Tryz.isAgg3 rfl) k25 rfl rfl ?_
        refine g_e 12 8191 [] (by kernel_rfl) rfl (by kernel_rfl) (e_call Tryz.call54 rfl (F.spateref9_Without_ok H)) rfl rfl ?_
        rintro _ h26 ⟨r27, rfl, H⟩
        refine ⟨trivial, ?_⟩
        obtain ⟨a28, e29, H⟩ := H
        refine g_p 13 16383 rfl (by kernel_rfl) (f_nn rfl e29) rfl rfl ?_
        refine g_p 14 32767 rfl (by kernel_rfl) (y_fa (off := 4) Tryz.runUnderlying40 fo_40_4 rfl) rfl rfl ?_
        refine g_e 15 65535 [] (by kernel_rfl) rfl (by kernel_rfl) (f_store (vs := [r27.enc]) Tryz.sizeOf38 rfl rfl rfl rfl (one1 rfl) H) rfl rfl ?_
        rintro _ h30 ⟨rfl, H⟩
        refine ⟨trivial, ?_⟩
        refine g_d (by kernel_rfl) ?_
        refine tr_blockN ?_
        refine tr_thenN ?_
        refine tr_region ?_
        refine tr_p (y_move rfl) rfl rfl ?_
        refine tr_p (y_add rfl rfl) rfl rfl ?_
        refine tr_p (y_assign rfl) rfl rfl ?_
        refine tr_nil ?_
        refine tr_thenN ?_
        exact tr_join [(0, (.pointer x0)), (4, (.int .i64 (IntKind.wrap .i64 (x4 + 1))))] ⟨rfl, rfl, trivial⟩ ⟨_, _, rfl, H⟩
      · replace H := H.2 g13
        refine tr_exit ?_
        refine tr_thenE ?_
        refine tr_thenE ?_
        refine tr_hit ?_
        refine tr_thenN ?_
        refine tr_seq ?_
        refine tr_region ?_
        refine tr_p (y_move rfl) rfl rfl ?_
        obtain ⟨a31, e32, H⟩ := H
        refine tr_p (f_nn rfl e32) rfl rfl ?_
        refine tr_p (y_fa (off := 5) Tryz.runUnderlying40 fo_40_5 rfl) rfl rfl ?_
        obtain ⟨y33, k34, H⟩ := H
        refine tr_h (y_ld Tryz.isAgg38 rfl) k34 rfl rfl ?_
        refine tr_p (y_len (ts := #[]) Tryz.runUnderlying38 (o := y33.ptr) (n := y33.len) (cap := y33.cap) rfl) rfl rfl ?_
        refine tr_p (y_assign rfl) rfl rfl ?_
        refine tr_nil ?_
        refine tr_thenN ?_
        refine tr_seq ?_
        refine tr_region ?_
        refine tr_p (y_move rfl) rfl rfl ?_
        obtain ⟨a35, e36, H⟩ := H
        refine tr_p (f_nn rfl e36) rfl rfl ?_
        refine tr_p (y_fa (off := 5) Tryz.runUnderlying40 fo_40_5 rfl) rfl rfl ?_
        refine tr_e (f_store (vs := [(⟨none, 0, 0⟩ : Sl).enc]) Tryz.sizeOf38 rfl rfl rfl rfl (one1 rfl) H) rfl rfl ?_
        rintro _ h37 ⟨rfl, H⟩
        refine tr_nil ?_
        refine tr_thenN ?_
        refine tr_seq ?_
        refine tr_region ?_
        refine tr_p (y_move rfl) rfl rfl ?_
        refine tr_p (y_assign rfl) rfl rfl ?_
        refine tr_p (y_assign rfl) rfl rfl ?_
        refine tr_nil ?_
        refine tr_thenN ?_
        refine tr_ret ?_
        exact tr_ret2 rfl rfl rfl ⟨_, _, rfl, H⟩

/-- (*spate/spateref9.Book).Holds -/
def F.spateref9_Book_Holds (p0 : Option Addr) (p1 : Int) (p2 : Int) (h : H) (Q : Bool → H → Prop) : Prop :=
  F.spateref9_owner p1 h fun r2 h1 =>
  (r2 = true →
  nn p0 fun a4 =>
  ldL h1 (a4.add 2) fun y6 =>
  idxA y6 p1 1 fun a8 =>
  ldL h1 a8 fun y10 =>
  F.spateref9_Has y10 p2 h1 fun r13 h12 =>
  Q r13 h12) ∧
  (r2 = false →
  Q false h1)
theorem F.spateref9_Book_Holds_ok {p0 : Option Addr} {p1 : Int} {p2 : Int} {h : H} {Q : Bool → H → Prop} (H : F.spateref9_Book_Holds p0 p1 p2 h Q) : Fn PP 11 ([(.pointer p0), (.int .i64 p1), (.int .i64 p2)] : List Value).toArray h fun r h' => ∃ r0, r = (.bool r0) ∧ Q r0 h' := by
  unfold F.spateref9_Book_Holds at H
  refine fn_of Tryz.func11 Tryz.ntmps11 rfl rfl fun w0 => ?_
  refine tr_sub [(0, (.pointer p0)), (1, (.int .i64 p1)), (2, (.int .i64 p2))] ⟨rfl, rfl, rfl, trivial⟩ ?_
  refine tr_seq ?_
  refine tr_region ?_
  refine tr_p (y_assign rfl) rfl rfl ?_
  refine tr_nil ?_
  refine tr_thenN ?_
  refine tr_seq ?_
  refine tr_region ?_
  refine tr_p (y_move rfl) rfl rfl ?_
  refine tr_e (e_call Tryz.call41 rfl (F.spateref9_owner_ok H)) rfl rfl ?_
  rintro _ h1 ⟨r2, rfl, H⟩
  refine tr_p (y_move rfl) rfl rfl ?_
  refine tr_split (t := 9) rfl (fun g3 => ?_) (fun g3 => ?_)
  · replace H := H.1 g3
    refine tr_p (y_move rfl) rfl rfl ?_
    obtain ⟨a4, e5, H⟩ := H
    refine tr_p (f_nn rfl e5) rfl rfl ?_
    refine tr_p (y_fa (off := 2) Tryz.runUnderlying40 fo_40_2 rfl) rfl rfl ?_
    obtain ⟨y6, k7, H⟩ := H
    refine tr_h (y_ld Tryz.isAgg37 rfl) k7 rfl rfl ?_
    refine tr_p (y_move rfl) rfl rfl ?_
    obtain ⟨a8, e9, H⟩ := H
    refine tr_p (f_idx (s := y6) Tryz.runUnderlying37 Tryz.sizeOf38 rfl rfl e9) rfl rfl ?_
    obtain ⟨y10, k11, H⟩ := H
    refine tr_h (y_ld Tryz.isAgg38 rfl) k11 rfl rfl ?_
    refine tr_p (y_move rfl) rfl rfl ?_
    refine tr_e (e_call Tryz.call42 rfl (F.spateref9_Has_ok H)) rfl rfl ?_
    rintro _ h12 ⟨r13, rfl, H⟩
    refine tr_p (y_pick_t rfl rfl) rfl rfl ?_
    refine tr_p (y_assign rfl) rfl rfl ?_
    refine tr_nil ?_
    refine tr_thenN ?_
    refine tr_ret ?_
    exact tr_ret1 rfl rfl ⟨_, rfl, H⟩
  · replace H := H.2 g3
    refine tr_s rfl rfl ?_
    refine tr_s rfl rfl ?_
    refine tr_s rfl rfl ?_
    refine tr_s rfl rfl ?_
    refine tr_s rfl rfl ?_
    refine tr_s rfl rfl ?_
    refine tr_s rfl rfl ?_
    refine tr_s rfl rfl ?_
    refine tr_s rfl rfl ?_
    refine tr_p (y_pick_f rfl rfl) rfl rfl ?_
    refine tr_p (y_assign rfl) rfl rfl ?_
    refine tr_nil ?_
    refine tr_thenN ?_
    refine tr_ret ?_
    exact tr_ret1 rfl rfl ⟨_, rfl, H⟩

/-- spate/spatelaw9.told -/
def F.spatelaw9_told (p0 : Option Addr) (p1 : Option Addr) (p2 : S_spatelaw9_Step) (h : H) (Q : Bool → H → Prop) : Prop :=
  new h p2.cells.toArray ty_32 fun a2 h1 =>
  ld_S_spatelaw9_Step h1 a2 fun y3 =>
  nn p1 fun a5 =>
  ldI .i64 h1 (a5.add 1) fun y7 =>
  F.spatelaw9_of y3 y7 h1 fun r10 h9 =>
  ldI .i64 h9 (a2.add 0) fun y11 =>
  (((y11 == 1)) = true →
  ldI .i64 h9 (a2.add 1) fun y14 =>
  F.epoch_Book_Seal p0 y14 h9 fun r17 r18 h16 =>
  ldI .i64 h16 (a2.add 1) fun y19 =>
  F.spateref9_Book_Seal p1 y19 h16 fun r22 r23 h21 =>
  (((r17 == r22)) = true →
  Q ((r18 == r23)) h21) ∧
  (((r17 == r22)) = false →
  Q false h21)) ∧
  (((y11 == 1)) = false →
  (((y11 == 2)) = true →
  ldI .i64 h9 (a2.add 1) fun y26 =>
  F.epoch_Book_Inner p0 y26 h9 fun r29 r30 h28 =>
  ldI .i64 h28 (a2.add 1) fun y31 =>
  F.spateref9_Book_Inner p1 y31 h28 fun r34 r35 h33 =>
  (((r29 == r34)) = true →
  Q ((r30 == r35)) h33) ∧
  (((r29 == r34)) = false →
  Q false h33)) ∧
  (((y11 == 2)) = false →
  (((y11 == 3)) = true →
  ldI .i64 h9 (a2.add 1) fun y38 =>
  ldI .i64 h9 (a2.add 1) fun y40 =>
  F.epoch_Book_Join p0 y38 r10 h9 fun r43 h42 =>
  cellH h42 (a2.add 1) = some (.int .i64 y40) ∧
  F.spateref9_Book_Join p1 y40 r10 h42 fun r46 h45 =>
  Q ((r43 == r46)) h45) ∧
  (((y11 == 3)) = false →
  (((y11 == 4)) = true →
  ldI .i64 h9 (a2.add 1) fun y48 =>
  ldI .i64 h9 (a2.add 1) fun y50 =>
  F.epoch_Book_Release p0 y48 r10 h9 fun r53 h52 =>
  cellH h52 (a2.add 1) = some (.int .i64 y50) ∧
  F.spateref9_Book_Release p1 y50 r10 h52 fun r56 h55 =>
  Q ((r53 == r56)) h55) ∧
  (((y11 == 4)) = false →
  (((y11 == 5)) = true →
  ldI .i64 h9 (a2.add 1) fun y58 =>
  ldI .i64 h9 (a2.add 1) fun y60 =>
  F.epoch_Book_Done p0 y58 h9 fun r63 h62 =>
  cellH h62 (a2.add 1) = some (.int .i64 y60) ∧
  F.spateref9_Book_Done p1 y60 h62 fun r66 h65 =>
  Q ((r63 == r66)) h65) ∧
  (((y11 == 5)) = false →
  (((y11 == 6)) = true →
  ldI .i64 h9 (a2.add 1) fun y68 =>
  ldI .i64 h9 (a2.add 1) fun y70 =>
  F.epoch_Book_Drop p0 y68 h9 fun r73 h72 =>
  cellH h72 (a2.add 1) = some (.int .i64 y70) ∧
  F.spateref9_Book_Drop p1 y70 h72 fun r76 h75 =>
  Q ((r73 == r76)) h75) ∧
  (((y11 == 6)) = false →
  (((y11 == 7)) = true →
  F.epoch_Book_Begin p0 h9 fun r79 h78 =>
  F.spateref9_Book_Begin p1 h78 fun r81 h80 =>
  Q ((r79 == r81)) h80) ∧
  (((y11 == 7)) = false →
  (((y11 == 8)) = true →
  F.epoch_Book_End p0 h9 fun r84 r85 h83 =>
  F.spateref9_Book_End p1 h83 fun r87 r88 h86 =>
  (((r84 == r87)) = true →
  Q ((r85 == r88)) h86) ∧
  (((r84 == r87)) = false →
  Q false h86)) ∧
  (((y11 == 8)) = false →
  (((y11 == 10)) = true →
  ldI .i64 h9 (a2.add 1) fun y91 =>
  ldI .i64 h9 (a2.add 1) fun y93 =>
  F.epoch_Book_Holds p0 y91 r10 h9 fun r96 h95 =>
  cellH h95 (a2.add 1) = some (.int .i64 y93) ∧
  F.spateref9_Book_Holds p1 y93 r10 h95 fun r99 h98 =>
  Q (r96 == r99) h98) ∧
  (((y11 == 10)) = false →
  Q true h9)))))))))
theorem F.spatelaw9_told_ok {p0 : Option Addr} {p1 : Option Addr} {p2 : S_spatelaw9_Step} {h : H} {Q : Bool → H → Prop} (H : F.spatelaw9_told p0 p1 p2 h Q) : Fn PP 8 ([(.pointer p0), (.pointer p1), (.agg p2.cells.toArray)] : List Value).toArray h fun r h' => ∃ r0, r = (.bool r0) ∧ Q r0 h' := by
  unfold F.spatelaw9_told at H
  refine fn_of Tryz.func8 Tryz.ntmps8 rfl rfl fun w0 => ?_
  refine tr_sub [(0, (.pointer p0)), (1, (.pointer p1)), (2, (.agg p2.cells.toArray))] ⟨rfl, rfl, rfl, trivial⟩ ?_
  refine tr_seq ?_
  refine tr_region ?_
  refine tr_e (f_box (cs := p2.cells.toArray) rfl rfl H) rfl rfl ?_
  rintro _ h1 ⟨a2, rfl, H⟩
  refine tr_p (y_assign rfl) rfl rfl ?_
  refine tr_nil ?_
  refine tr_thenN ?_
  refine tr_seq ?_
  refine tr_draw mixed [0, 0, 2, 6, 14, 31, 63] (by kernel_rfl) ?_
  obtain ⟨y3, k4, H⟩ := H
  refine g_h 0 1 rfl (by kernel_rfl) (y_ldS Tryz.isAgg32 Tryz.sizeOf32 rfl rfl) k4 rfl rfl ?_
  refine g_p 1 3 rfl (by kernel_rfl) (y_move rfl) rfl rfl ?_
  obtain ⟨a5, e6, H⟩ := H
  refine g_p 2 7 rfl (by kernel_rfl) (f_nn rfl e6) rfl rfl ?_
  refine g_p 3 15 rfl (by kernel_rfl) (y_fa (off := 1) Tryz.runUnderlying40 fo_40_1 rfl) rfl rfl ?_
  obtain ⟨y7, k8, H⟩ := H
  refine g_h 4 31 rfl (by kernel_rfl) (y_ld Tryz.isAgg3 rfl) k8 rfl rfl ?_
  refine g_e 5 63 [] (by kernel_rfl) rfl (by kernel_rfl) (e_call Tryz.call24 rfl (F.spatelaw9_of_ok H)) rfl rfl ?_
  rintro _ h9 ⟨r10, rfl, H⟩
  refine ⟨trivial, ?_⟩
  refine g_p 6 127 rfl (by kernel_rfl) (y_assign rfl) rfl rfl ?_
  refine g_d (by kernel_rfl) ?_
  refine tr_thenN ?_
  refine tr_seq ?_
  refine tr_seq ?_
  refine tr_region ?_
  refine tr_p (y_fa (off := 0) Tryz.runUnderlying32 fo_32_0 rfl) rfl rfl ?_
  obtain ⟨y11, k12, H⟩ := H
  refine tr_h (y_ld Tryz.isAgg3 rfl) k12 rfl rfl ?_
  refine tr_nil ?_
  refine tr_thenN ?_
  refine tr_block ?_
  refine tr_seq ?_
  refine tr_region ?_
  refine tr_p (y_eql rfl rfl) rfl rfl ?_
  refine tr_p (y_assign rfl) rfl rfl ?_
  refine tr_nil ?_
  refine tr_thenN ?_
  refine tr_cond rfl (fun g13 => ?_) (fun g13 => ?_)
  · replace H := H.1 g13
    refine tr_seq ?_
    refine tr_region ?_
    refine tr_p (y_move rfl) rfl rfl ?_
    refine tr_p (y_fa (off := 1) Tryz.runUnderlying32 fo_32_1 rfl) rfl rfl ?_
    obtain ⟨y14, k15, H⟩ := H
    refine tr_h (y_ld Tryz.isAgg3 rfl) k15 rfl rfl ?_
    refine tr_e (e_call Tryz.call12 rfl (F.epoch_Book_Seal_ok H)) rfl rfl ?_
    rintro _ h16 ⟨r17, r18, rfl, H⟩
    refine tr_p (y_move rfl) rfl rfl ?_
    refine tr_p (y_ext rfl rfl) rfl rfl ?_
    refine tr_p (y_ext rfl rfl) rfl rfl ?_
    refine tr_p (y_assign rfl) rfl rfl ?_
    refine tr_p (y_assign rfl) rfl rfl ?_
    refine tr_nil ?_
    refine tr_thenN ?_
    refine tr_seq ?_
    refine tr_region ?_
    refine tr_p (y_move rfl) rfl rfl ?_
    refine tr_p (y_fa (off := 1) Tryz.runUnderlying32 fo_32_1 rfl) rfl rfl ?_
    obtain ⟨y19, k20, H⟩ := H
    refine tr_h (y_ld Tryz.isAgg3 rfl) k20 rfl rfl ?_
    refine tr_e (e_call Tryz.call25 rfl (F.spateref9_Book_Seal_ok H)) rfl rfl ?_
    rintro _ h21 ⟨r22, r23, rfl, H⟩
    refine tr_p (y_move rfl) rfl rfl ?_
    refine tr_p (y_ext rfl rfl) rfl rfl ?_
    refine tr_p (y_ext rfl rfl) rfl rfl ?_
    refine tr_p (y_assign rfl) rfl rfl ?_
    refine tr_p (y_assign rfl) rfl rfl ?_
    refine tr_nil ?_
    refine tr_thenN ?_
    refine tr_seq ?_
    refine tr_region ?_
    refine tr_p (y_move rfl) rfl rfl ?_
    refine tr_p (y_move rfl) rfl rfl ?_
    refine tr_p (y_eql rfl rfl) rfl rfl ?_
    refine tr_p (y_move rfl) rfl rfl ?_
    refine tr_split (t := 47) rfl (fun g24 => ?_) (fun g24 => ?_)
    · replace H := H.1 g24
      refine tr_p (y_move rfl) rfl rfl ?_
      refine tr_p (y_move rfl) rfl rfl ?_
      refine tr_p (y_eql rfl rfl) rfl rfl ?_
      refine tr_p (y_pick_t rfl rfl) rfl rfl ?_
      refine tr_p (y_assign rfl) rfl rfl ?_
      refine tr_nil ?_
      refine tr_thenN ?_
      refine tr_ret ?_
      refine tr_blockR ?_
      refine tr_thenR ?_
      exact tr_ret1 rfl rfl ⟨_, rfl, H⟩
    · replace H := H.2 g24
      refine tr_s rfl rfl ?_
      refine tr_s rfl rfl ?_
      refine tr_s rfl rfl ?_
      refine tr_p (y_pick_f rfl rfl) rfl rfl ?_
      refine tr_p (y_assign rfl) rfl rfl ?_
      refine tr_nil ?_
      refine tr_thenN ?_
      refine tr_ret ?_
      refine tr_blockR ?_
      refine tr_thenR ?_
      exact tr_ret1 rfl rfl ⟨_, rfl, H⟩
  · replace H := H.2 g13
    refine tr_seq ?_
    refine tr_region ?_
    refine tr_p (y_eql rfl rfl) rfl rfl ?_
    refine tr_p (y_assign rfl) rfl rfl ?_
    refine tr_nil ?_
    refine tr_thenN ?_
    refine tr_cond rfl (fun g25 => ?_) (fun g25 => ?_)
    · replace H := H.1 g25
      refine tr_seq ?_
      refine tr_region ?_
      refine tr_p (y_move rfl) rfl rfl ?_
      refine tr_p (y_fa (off := 1) Tryz.runUnderlying32 fo_32_1 rfl) rfl rfl ?_
      obtain ⟨y26, k27, H⟩ := H
      refine tr_h (y_ld Tryz.isAgg3 rfl) k27 rfl rfl ?_
      refine tr_e (e_call Tryz.call26 rfl (F.epoch_Book_Inner_ok H)) rfl rfl ?_
      rintro _ h28 ⟨r29, r30, rfl, H⟩
      refine tr_p (y_move rfl) rfl rfl ?_
      refine tr_p (y_ext rfl rfl) rfl rfl ?_
      refine tr_p (y_ext rfl rfl) rfl rfl ?_
      refine tr_p (y_assign rfl) rfl rfl ?_
      refine tr_p (y_assign rfl) rfl rfl ?_
      refine tr_nil ?_
      refine tr_thenN ?_
      refine tr_seq ?_
      refine tr_region ?_
      refine tr_p (y_move rfl) rfl rfl ?_
      refine tr_p (y_fa (off := 1) Tryz.runUnderlying32 fo_32_1 rfl) rfl rfl ?_
      obtain ⟨y31, k32, H⟩ := H
      refine tr_h (y_ld Tryz.isAgg3 rfl) k32 rfl rfl ?_
      refine tr_e (e_call Tryz.call27 rfl (F.spateref9_Book_Inner_ok H)) rfl rfl ?_
      rintro _ h33 ⟨r34, r35, rfl, H⟩
      refine tr_p (y_move rfl) rfl rfl ?_
      refine tr_p (y_ext rfl rfl) rfl rfl ?_
      refine tr_p (y_ext rfl rfl) rfl rfl ?_
      refine tr_p (y_assign rfl) rfl rfl ?_
      refine tr_p (y_assign rfl) rfl rfl ?_
      refine tr_nil ?_
      refine tr_thenN ?_
      refine tr_seq ?_
      refine tr_region ?_
      refine tr_p (y_move rfl) rfl rfl ?_
      refine tr_p (y_move rfl) rfl rfl ?_
      refine tr_p (y_eql rfl rfl) rfl rfl ?_
      refine tr_p (y_move rfl) rfl rfl ?_
      refine tr_split (t := 71) rfl (fun g36 => ?_) (fun g36 => ?_)
      · replace H := H.1 g36
        refine tr_p (y_move rfl) rfl rfl ?_
        refine tr_p (y_move rfl) rfl rfl ?_
        refine tr_p (y_eql rfl rfl) rfl rfl ?_
        refine tr_p (y_pick_t rfl rfl) rfl rfl ?_
        refine tr_p (y_assign rfl) rfl rfl ?_
        refine tr_nil ?_
        refine tr_thenN ?_
        refine tr_ret ?_
        refine tr_blockR ?_
        refine tr_thenR ?_
        exact tr_ret1 rfl rfl ⟨_, rfl, H⟩
      · replace H := H.2 g36
        refine tr_s rfl rfl ?_
        refine tr_s rfl rfl ?_
        refine tr_s rfl rfl ?_
        refine tr_p (y_pick_f rfl rfl) rfl rfl ?_
        refine tr_p (y_assign rfl) rfl rfl ?_
        refine tr_nil ?_
        refine tr_thenN ?_
        refine tr_ret ?_
        refine tr_blockR ?_
        refine tr_thenR ?_
        exact tr_ret1 rfl rfl ⟨_, rfl, H⟩
    · replace H := H.2 g25
      refine tr_seq ?_
      refine tr_region ?_
      refine tr_p (y_eql rfl rfl) rfl rfl ?_
      refine tr_p (y_assign rfl) rfl rfl ?_
      refine tr_nil ?_
      refine tr_thenN ?_
      refine tr_cond rfl (fun g37 => ?_) (fun g37 => ?_)
      · replace H := H.1 g37
        refine tr_seq ?_
        refine tr_draw mixed [0, 0, 2, 0, 15, 0, 0, 64, 0, 511, 1023, 2047] (by kernel_rfl) ?_
        refine g_p 0 1 rfl (by kernel_rfl) (y_move rfl) rfl rfl ?_
        refine g_p 1 3 rfl (by kernel_rfl) (y_fa (off := 1) Tryz.runUnderlying32 fo_32_1 rfl) rfl rfl ?_
        obtain ⟨y38, k39, H⟩ := H
        refine g_h 2 7 rfl (by kernel_rfl) (y_ld Tryz.isAgg3 rfl) k39 rfl rfl ?_
        refine g_p 3 15 rfl (by kernel_rfl) (y_move rfl) rfl rfl ?_
        refine g_p 5 47 rfl (by kernel_rfl) (y_move rfl) rfl rfl ?_
        refine g_p 6 111 rfl (by kernel_rfl) (y_fa (off := 1) Tryz.runUnderlying32 fo_32_1 rfl) rfl rfl ?_
        obtain ⟨y40, k41, H⟩ := H
        refine g_h 7 239 rfl (by kernel_rfl) (y_ld Tryz.isAgg3 rfl) k41 rfl rfl ?_
        refine g_p 8 495 rfl (by kernel_rfl) (y_move rfl) rfl rfl ?_
        refine g_e 4 511 [(7, fun h => cellH h (a2.add 1) = some (.int .i64 y40))] (by kernel_rfl) rfl (by kernel_rfl) (e_call Tryz.call13 rfl (F.epoch_Book_Join_ok H)) rfl rfl ?_
        rintro _ h42 ⟨r43, rfl, H⟩
        obtain ⟨k44, H⟩ := H
        refine ⟨And.intro k44 trivial, ?_⟩
        refine g_e 9 1023 [] (by kernel_rfl) rfl (by kernel_rfl) (e_call Tryz.call28 rfl (F.spateref9_Book_Join_ok H)) rfl rfl ?_
        rintro _ h45 ⟨r46, rfl, H⟩
        refine ⟨trivial, ?_⟩
        refine g_p 10 2047 rfl (by kernel_rfl) (y_eql rfl rfl) rfl rfl ?_
        refine g_p 11 4095 rfl (by kernel_rfl) (y_assign rfl) rfl rfl ?_
        refine g_d (by kernel_rfl) ?_
        refine tr_thenN ?_
        refine tr_ret ?_
        refine tr_blockR ?_
        refine tr_thenR ?_
        exact tr_ret1 rfl rfl ⟨_, rfl, H⟩
      · replace H := H.2 g37
        refine tr_seq ?_
        refine tr_region ?_
        refine tr_p (y_eql rfl rfl) rfl rfl ?_
        refine tr_p (y_assign rfl) rfl rfl ?_
        refine tr_nil ?_
        refine tr_thenN ?_
        refine tr_cond rfl (fun g47 => ?_) (fun g47 => ?_)
        · replace H := H.1 g47
          refine tr_seq ?_
          refine tr_draw mixed [0, 0, 2, 0, 15, 0, 0, 64, 0, 511, 1023, 2047] (by kernel_rfl) ?_
          refine g_p 0 1 rfl (by kernel_rfl) (y_move rfl) rfl rfl ?_
          refine g_p 1 3 rfl (by kernel_rfl) (y_fa (off := 1) Tryz.runUnderlying32 fo_32_1 rfl) rfl rfl ?_
          obtain ⟨y48, k49, H⟩ := H
          refine g_h 2 7 rfl (by kernel_rfl) (y_ld Tryz.isAgg3 rfl) k49 rfl rfl ?_
          refine g_p 3 15 rfl (by kernel_rfl) (y_move rfl) rfl rfl ?_
          refine g_p 5 47 rfl (by kernel_rfl) (y_move rfl) rfl rfl ?_
          refine g_p 6 111 rfl (by kernel_rfl) (y_fa (off := 1) Tryz.runUnderlying32 fo_32_1 rfl) rfl rfl ?_
          obtain ⟨y50, k51, H⟩ := H
          refine g_h 7 239 rfl (by kernel_rfl) (y_ld Tryz.isAgg3 rfl) k51 rfl rfl ?_
          refine g_p 8 495 rfl (by kernel_rfl) (y_move rfl) rfl rfl ?_
          refine g_e 4 511 [(7, fun h => cellH h (a2.add 1) = some (.int .i64 y50))] (by kernel_rfl) rfl (by kernel_rfl) (e_call Tryz.call14 rfl (F.epoch_Book_Release_ok H)) rfl rfl ?_
          rintro _ h52 ⟨r53, rfl, H⟩
          obtain ⟨k54, H⟩ := H
          refine ⟨And.intro k54 trivial, ?_⟩
          refine g_e 9 1023 [] (by kernel_rfl) rfl (by kernel_rfl) (e_call Tryz.call29 rfl (F.spateref9_Book_Release_ok H)) rfl rfl ?_
          rintro _ h55 ⟨r56, rfl, H⟩
          refine ⟨trivial, ?_⟩
          refine g_p 10 2047 rfl (by kernel_rfl) (y_eql rfl rfl) rfl rfl ?_
          refine g_p 11 4095 rfl (by kernel_rfl) (y_assign rfl) rfl rfl ?_
          refine g_d (by kernel_rfl) ?_
          refine tr_thenN ?_
          refine tr_ret ?_
          refine tr_blockR ?_
          refine tr_thenR ?_
          exact tr_ret1 rfl rfl ⟨_, rfl, H⟩
        · replace H := H.2 g47
          refine tr_seq ?_
          refine tr_region ?_
          refine tr_p (y_eql rfl rfl) rfl rfl ?_
          refine tr_p (y_assign rfl) rfl rfl ?_
          refine tr_nil ?_
          refine tr_thenN ?_
          refine tr_cond rfl (fun g57 => ?_) (fun g57 => ?_)
          · replace H := H.1 g57
            refine tr_seq ?_
            refine tr_draw mixed [0, 0, 2, 7, 0, 0, 32, 127, 255, 511] (by kernel_rfl) ?_
            refine g_p 0 1 rfl (by kernel_rfl) (y_move rfl) rfl rfl ?_
            refine g_p 1 3 rfl (by kernel_rfl) (y_fa (off := 1) Tryz.runUnderlying32 fo_32_1 rfl) rfl rfl ?_
            obtain ⟨y58, k59, H⟩ := H
            refine g_h 2 7 rfl (by kernel_rfl) (y_ld Tryz.isAgg3 rfl) k59 rfl rfl ?_
            refine g_p 4 23 rfl (by kernel_rfl) (y_move rfl) rfl rfl ?_
            refine g_p 5 55 rfl (by kernel_rfl) (y_fa (off := 1) Tryz.runUnderlying32 fo_32_1 rfl) rfl rfl ?_
            obtain ⟨y60, k61, H⟩ := H
            refine g_h 6 119 rfl (by kernel_rfl) (y_ld Tryz.isAgg3 rfl) k61 rfl rfl ?_
            refine g_e 3 127 [(6, fun h => cellH h (a2.add 1) = some (.int .i64 y60))] (by kernel_rfl) rfl (by kernel_rfl) (e_call Tryz.call30 rfl (F.epoch_Book_Done_ok H)) rfl rfl ?_
            rintro _ h62 ⟨r63, rfl, H⟩
            obtain ⟨k64, H⟩ := H
            refine ⟨And.intro k64 trivial, ?_⟩
            refine g_e 7 255 [] (by kernel_rfl) rfl (by kernel_rfl) (e_call Tryz.call31 rfl (F.spateref9_Book_Done_ok H)) rfl rfl ?_
            rintro _ h65 ⟨r66, rfl, H⟩
            refine ⟨trivial, ?_⟩
            refine g_p 8 511 rfl (by kernel_rfl) (y_eql rfl rfl) rfl rfl ?_
            refine g_p 9 1023 rfl (by kernel_rfl) (y_assign rfl) rfl rfl ?_
            refine g_d (by kernel_rfl) ?_
            refine tr_thenN ?_
            refine tr_ret ?_
            refine tr_blockR ?_
            refine tr_thenR ?_
            exact tr_ret1 rfl rfl ⟨_, rfl, H⟩
          · replace H := H.2 g57
            refine tr_seq ?_
            refine tr_region ?_
            refine tr_p (y_eql rfl rfl) rfl rfl ?_
            refine tr_p (y_assign rfl) rfl rfl ?_
            refine tr_nil ?_
            refine tr_thenN ?_
            refine tr_cond rfl (fun g67 => ?_) (fun g67 => ?_)
            · replace H := H.1 g67
              refine tr_seq ?_
              refine tr_draw mixed [0, 0, 2, 7, 0, 0, 32, 127, 255, 511] (by kernel_rfl) ?_
              refine g_p 0 1 rfl (by kernel_rfl) (y_move rfl) rfl rfl ?_
              refine g_p 1 3 rfl (by kernel_rfl) (y_fa (off := 1) Tryz.runUnderlying32 fo_32_1 rfl) rfl rfl ?_
              obtain ⟨y68, k69, H⟩ := H
              refine g_h 2 7 rfl (by kernel_rfl) (y_ld Tryz.isAgg3 rfl) k69 rfl rfl ?_
              refine g_p 4 23 rfl (by kernel_rfl) (y_move rfl) rfl rfl ?_
              refine g_p 5 55 rfl (by kernel_rfl) (y_fa (off := 1) Tryz.runUnderlying32 fo_32_1 rfl) rfl rfl ?_
              obtain ⟨y70, k71, H⟩ := H
              refine g_h 6 119 rfl (by kernel_rfl) (y_ld Tryz.isAgg3 rfl) k71 rfl rfl ?_
              refine g_e 3 127 [(6, fun h => cellH h (a2.add 1) = some (.int .i64 y70))] (by kernel_rfl) rfl (by kernel_rfl) (e_call Tryz.call32 rfl (F.epoch_Book_Drop_ok H)) rfl rfl ?_
              rintro _ h72 ⟨r73, rfl, H⟩
              obtain ⟨k74, H⟩ := H
              refine ⟨And.intro k74 trivial, ?_⟩
              refine g_e 7 255 [] (by kernel_rfl) rfl (by kernel_rfl) (e_call Tryz.call33 rfl (F.spateref9_Book_Drop_ok H)) rfl rfl ?_
              rintro _ h75 ⟨r76, rfl, H⟩
              refine ⟨trivial, ?_⟩
              refine g_p 8 511 rfl (by kernel_rfl) (y_eql rfl rfl) rfl rfl ?_
              refine g_p 9 1023 rfl (by kernel_rfl) (y_assign rfl) rfl rfl ?_
              refine g_d (by kernel_rfl) ?_
              refine tr_thenN ?_
              refine tr_ret ?_
              refine tr_blockR ?_
              refine tr_thenR ?_
              exact tr_ret1 rfl rfl ⟨_, rfl, H⟩
            · replace H := H.2 g67
              refine tr_seq ?_
              refine tr_region ?_
              refine tr_p (y_eql rfl rfl) rfl rfl ?_
              refine tr_p (y_assign rfl) rfl rfl ?_
              refine tr_nil ?_
              refine tr_thenN ?_
              refine tr_cond rfl (fun g77 => ?_) (fun g77 => ?_)
              · replace H := H.1 g77
                refine tr_seq ?_
                refine tr_region ?_
                refine tr_p (y_move rfl) rfl rfl ?_
                refine tr_e (e_call Tryz.call18 rfl (F.epoch_Book_Begin_ok H)) rfl rfl ?_
                rintro _ h78 ⟨r79, rfl, H⟩
                refine tr_p (y_move rfl) rfl rfl ?_
                refine tr_e (e_call Tryz.call34 rfl (F.spateref9_Book_Begin_ok H)) rfl rfl ?_
                rintro _ h80 ⟨r81, rfl, H⟩
                refine tr_p (y_eql rfl rfl) rfl rfl ?_
                refine tr_p (y_assign rfl) rfl rfl ?_
                refine tr_nil ?_
                refine tr_thenN ?_
                refine tr_ret ?_
                refine tr_blockR ?_
                refine tr_thenR ?_
                exact tr_ret1 rfl rfl ⟨_, rfl, H⟩
              · replace H := H.2 g77
                refine tr_seq ?_
                refine tr_region ?_
                refine tr_p (y_eql rfl rfl) rfl rfl ?_
                refine tr_p (y_assign rfl) rfl rfl ?_
                refine tr_nil ?_
                refine tr_thenN ?_
                refine tr_cond rfl (fun g82 => ?_) (fun g82 => ?_)
                · replace H := H.1 g82
                  refine tr_seq ?_
                  refine tr_region ?_
                  refine tr_p (y_move rfl) rfl rfl ?_
                  refine tr_e (e_call Tryz.call19 rfl (F.epoch_Book_End_ok H)) rfl rfl ?_
                  rintro _ h83 ⟨r84, r85, rfl, H⟩
                  refine tr_p (y_move rfl) rfl rfl ?_
                  refine tr_p (y_ext rfl rfl) rfl rfl ?_
                  refine tr_p (y_ext rfl rfl) rfl rfl ?_
                  refine tr_p (y_assign rfl) rfl rfl ?_
                  refine tr_p (y_assign rfl) rfl rfl ?_
                  refine tr_nil ?_
                  refine tr_thenN ?_
                  refine tr_seq ?_
                  refine tr_region ?_
                  refine tr_p (y_move rfl) rfl rfl ?_
                  refine tr_e (e_call Tryz.call35 rfl (F.spateref9_Book_End_ok H)) rfl rfl ?_
                  rintro _ h86 ⟨r87, r88, rfl, H⟩
                  refine tr_p (y_move rfl) rfl rfl ?_
                  refine tr_p (y_ext rfl rfl) rfl rfl ?_
                  refine tr_p (y_ext rfl rfl) rfl rfl ?_
                  refine tr_p (y_assign rfl) rfl rfl ?_
                  refine tr_p (y_assign rfl) rfl rfl ?_
                  refine tr_nil ?_
                  refine tr_thenN ?_
                  refine tr_seq ?_
                  refine tr_region ?_
                  refine tr_p (y_move rfl) rfl rfl ?_
                  refine tr_p (y_move rfl) rfl rfl ?_
                  refine tr_p (y_eql rfl rfl) rfl rfl ?_
                  refine tr_p (y_move rfl) rfl rfl ?_
                  refine tr_split (t := 146) rfl (fun g89 => ?_) (fun g89 => ?_)
                  · replace H := H.1 g89
                    refine tr_p (y_move rfl) rfl rfl ?_
                    refine tr_p (y_move rfl) rfl rfl ?_
                    refine tr_p (y_eql rfl rfl) rfl rfl ?_
                    refine tr_p (y_pick_t rfl rfl) rfl rfl ?_
                    refine tr_p (y_assign rfl) rfl rfl ?_
                    refine tr_nil ?_
                    refine tr_thenN ?_
                    refine tr_ret ?_
                    refine tr_blockR ?_
                    refine tr_thenR ?_
                    exact tr_ret1 rfl rfl ⟨_, rfl, H⟩
                  · replace H := H.2 g89
                    refine tr_s rfl rfl ?_
                    refine tr_s rfl rfl ?_
                    refine tr_s rfl rfl ?_
                    refine tr_p (y_pick_f rfl rfl) rfl rfl ?_
                    refine tr_p (y_assign rfl) rfl rfl ?_
                    refine tr_nil ?_
                    refine tr_thenN ?_
                    refine tr_ret ?_
                    refine tr_blockR ?_
                    refine tr_thenR ?_
                    exact tr_ret1 rfl rfl ⟨_, rfl, H⟩
                · replace H := H.2 g82
                  refine tr_seq ?_
                  refine tr_region ?_
                  refine tr_p (y_eql rfl rfl) rfl rfl ?_
                  refine tr_p (y_assign rfl) rfl rfl ?_
                  refine tr_nil ?_
                  refine tr_thenN ?_
                  refine tr_cond rfl (fun g90 => ?_) (fun g90 => ?_)
                  · replace H := H.1 g90
                    refine tr_seq ?_
                    refine tr_draw mixed [0, 0, 2, 0, 15, 0, 0, 64, 0, 511, 1023, 2047] (by kernel_rfl) ?_
                    refine g_p 0 1 rfl (by kernel_rfl) (y_move rfl) rfl rfl ?_
                    refine g_p 1 3 rfl (by kernel_rfl) (y_fa (off := 1) Tryz.runUnderlying32 fo_32_1 rfl) rfl rfl ?_
                    obtain ⟨y91, k92, H⟩ := H
                    refine g_h 2 7 rfl (by kernel_rfl) (y_ld Tryz.isAgg3 rfl) k92 rfl rfl ?_
                    refine g_p 3 15 rfl (by kernel_rfl) (y_move rfl) rfl rfl ?_
                    refine g_p 5 47 rfl (by kernel_rfl) (y_move rfl) rfl rfl ?_
                    refine g_p 6 111 rfl (by kernel_rfl) (y_fa (off := 1) Tryz.runUnderlying32 fo_32_1 rfl) rfl rfl ?_
                    obtain ⟨y93, k94, H⟩ := H
                    refine g_h 7 239 rfl (by kernel_rfl) (y_ld Tryz.isAgg3 rfl) k94 rfl rfl ?_
                    refine g_p 8 495 rfl (by kernel_rfl) (y_move rfl) rfl rfl ?_
                    refine g_e 4 511 [(7, fun h => cellH h (a2.add 1) = some (.int .i64 y93))] (by kernel_rfl) rfl (by kernel_rfl) (e_call Tryz.call10 rfl (F.epoch_Book_Holds_ok H)) rfl rfl ?_
                    rintro _ h95 ⟨r96, rfl, H⟩
                    obtain ⟨k97, H⟩ := H
                    refine ⟨And.intro k97 trivial, ?_⟩
                    refine g_e 9 1023 [] (by kernel_rfl) rfl (by kernel_rfl) (e_call Tryz.call11 rfl (F.spateref9_Book_Holds_ok H)) rfl rfl ?_
                    rintro _ h98 ⟨r99, rfl, H⟩
                    refine ⟨trivial, ?_⟩
                    refine g_p 10 2047 rfl (by kernel_rfl) (y_beql Tryz.underlying4 rfl rfl) rfl rfl ?_
                    refine g_p 11 4095 rfl (by kernel_rfl) (y_assign rfl) rfl rfl ?_
                    refine g_d (by kernel_rfl) ?_
                    refine tr_thenN ?_
                    refine tr_ret ?_
                    refine tr_blockR ?_
                    refine tr_thenR ?_
                    exact tr_ret1 rfl rfl ⟨_, rfl, H⟩
                  · replace H := H.2 g90
                    refine tr_skip ?_
                    refine tr_blockN ?_
                    refine tr_thenN ?_
                    refine tr_seq ?_
                    refine tr_region ?_
                    refine tr_p (y_assign rfl) rfl rfl ?_
                    refine tr_nil ?_
                    refine tr_thenN ?_
                    refine tr_ret ?_
                    exact tr_ret1 rfl rfl ⟨_, rfl, H⟩

def F.spatelaw9_ints.l1 (Q : Bool → H → Prop) : Nat → Sl → Sl → Int → H → Prop
  | 0, _, _, _, _ => False
  | q1 + 1, x0, x1, x5, h =>
    ((decide (x5 < (x0.len : Int))) = true →
    idxA x0 x5 1 fun a3 =>
    ldI .i64 h a3 fun y5 =>
    idxA x1 x5 1 fun a7 =>
    ldI .i64 h a7 fun y9 =>
    (((y5 != y9)) = true →
    Q false h) ∧
    (((y5 != y9)) = false →
    (F.spatelaw9_ints.l1 Q q1) x0 x1 (IntKind.wrap .i64 (x5 + 1)) h)) ∧
    ((decide (x5 < (x0.len : Int))) = false →
    Q true h)
/-- spate/spatelaw9.ints -/
def F.spatelaw9_ints (p0 : Sl) (p1 : Sl) (h : H) (Q : Bool → H → Prop) : Prop :=
  ((((p0.len : Int) != (p1.len : Int))) = true →
  Q false h) ∧
  ((((p0.len : Int) != (p1.len : Int))) = false →
  ∃ m, F.spatelaw9_ints.l1 Q m p0 p1 0 h)
theorem F.spatelaw9_ints_ok {p0 : Sl} {p1 : Sl} {h : H} {Q : Bool → H → Prop} (H : F.spatelaw9_ints p0 p1 h Q) : Fn PP 36 ([p0.enc, p1.enc] : List Value).toArray h fun r h' => ∃ r0, r = (.bool r0) ∧ Q r0 h' := by
  unfold F.spatelaw9_ints at H
  refine fn_of Tryz.func36 Tryz.ntmps36 rfl rfl fun w0 => ?_
  refine tr_sub [(0, p0.enc), (1, p1.enc)] ⟨rfl, rfl, trivial⟩ ?_
  refine tr_seq ?_
  refine tr_region ?_
  refine tr_p (y_assign rfl) rfl rfl ?_
  refine tr_nil ?_
  refine tr_thenN ?_
  refine tr_seq ?_
  refine tr_seq ?_
  refine tr_region ?_
  refine tr_p (y_move rfl) rfl rfl ?_
  refine tr_p (y_len (ts := #[]) Tryz.runUnderlying38 (o := p0.ptr) (n := p0.len) (cap := p0.cap) rfl) rfl rfl ?_
  refine tr_p (y_move rfl) rfl rfl ?_
  refine tr_p (y_len (ts := #[]) Tryz.runUnderlying38 (o := p1.ptr) (n := p1.len) (cap := p1.cap) rfl) rfl rfl ?_
  refine tr_p (y_neq rfl rfl) rfl rfl ?_
  refine tr_nil ?_
  refine tr_thenN ?_
  refine tr_cond rfl (fun g1 => ?_) (fun g1 => ?_)
  · replace H := H.1 g1
    refine tr_seq ?_
    refine tr_region ?_
    refine tr_p (y_assign rfl) rfl rfl ?_
    refine tr_nil ?_
    refine tr_thenN ?_
    refine tr_ret ?_
    refine tr_thenR ?_
    exact tr_ret1 rfl rfl ⟨_, rfl, H⟩
  · replace H := H.2 g1
    refine tr_skip ?_
    refine tr_thenN ?_
    refine tr_seq ?_
    refine tr_seq ?_
    refine tr_region ?_
    refine tr_p (y_assign rfl) rfl rfl ?_
    refine tr_nil ?_
    refine tr_thenN ?_
    refine tr_block ?_
    obtain ⟨m12, H⟩ := H
    refine tr_sub [(0, p0.enc), (1, p1.enc), (5, (.int .i64 0))] ⟨rfl, rfl, rfl, trivial⟩ ?_
    refine tr_loop_j (fun m L' h => ∃ (x0 : Sl) (x1 : Sl) (x5 : Int), L' = [(0, x0.enc), (1, x1.enc), (5, (.int .i64 x5))] ∧ F.spatelaw9_ints.l1 Q m x0 x1 x5 h) ?_ ?_ m12 ⟨_, _, _, rfl, H⟩
    · rintro L' h ⟨_, _, _, _, H⟩; exact H
    · rintro q1 L' h ⟨x0, x1, x5, rfl, H⟩
      unfold F.spatelaw9_ints.l1 at H
      refine tr_seq ?_
      refine tr_seq ?_
      refine tr_region ?_
      refine tr_p (y_move rfl) rfl rfl ?_
      refine tr_p (y_move rfl) rfl rfl ?_
      refine tr_p (y_len (ts := #[]) Tryz.runUnderlying38 (o := x0.ptr) (n := x0.len) (cap := x0.cap) rfl) rfl rfl ?_
      refine tr_p (y_lss rfl rfl) rfl rfl ?_
      refine tr_nil ?_
      refine tr_thenN ?_
      refine tr_cond rfl (fun g2 => ?_) (fun g2 => ?_)
      · replace H := H.1 g2
        refine tr_skip ?_
        refine tr_thenN ?_
        refine tr_seq ?_
        refine tr_block ?_
        refine tr_seq ?_
        refine tr_draw mixed [0, 0, 3, 7, 0, 0, 48, 112, 255] (by kernel_rfl) ?_
        refine g_p 0 1 rfl (by kernel_rfl) (y_move rfl) rfl rfl ?_
        refine g_p 1 3 rfl (by kernel_rfl) (y_move rfl) rfl rfl ?_
        obtain ⟨a3, e4, H⟩ := H
        refine g_p 2 7 rfl (by kernel_rfl) (f_idx (s := x0) Tryz.runUnderlying38 Tryz.sizeOf3 rfl rfl e4) rfl rfl ?_
        obtain ⟨y5, k6, H⟩ := H
        refine g_h 3 15 rfl (by kernel_rfl) (y_ld Tryz.isAgg3 rfl) k6 rfl rfl ?_
        refine g_p 4 31 rfl (by kernel_rfl) (y_move rfl) rfl rfl ?_
        refine g_p 5 63 rfl (by kernel_rfl) (y_move rfl) rfl rfl ?_
        obtain ⟨a7, e8, H⟩ := H
        refine g_p 6 127 rfl (by kernel_rfl) (f_idx (s := x1) Tryz.runUnderlying38 Tryz.sizeOf3 rfl rfl e8) rfl rfl ?_
        obtain ⟨y9, k10, H⟩ := H
        refine g_h 7 255 rfl (by kernel_rfl) (y_ld Tryz.isAgg3 rfl) k10 rfl rfl ?_
        refine g_p 8 511 rfl (by kernel_rfl) (y_neq rfl rfl) rfl rfl ?_
        refine g_d (by kernel_rfl) ?_
        refine tr_thenN ?_
        refine tr_cond rfl (fun g11 => ?_) (fun g11 => ?_)
        · replace H := H.1 g11
          refine tr_seq ?_
          refine tr_region ?_
          refine tr_p (y_assign rfl) rfl rfl ?_
          refine tr_nil ?_
          refine tr_thenN ?_
          refine tr_ret ?_
          refine tr_blockR ?_
          refine tr_thenR ?_
          refine tr_thenR ?_
          refine tr_blockR ?_
          refine tr_thenR ?_
          exact tr_ret1 rfl rfl ⟨_, rfl, H⟩
        · replace H := H.2 g11
          refine tr_skip ?_
          refine tr_blockN ?_
          refine tr_thenN ?_
          refine tr_region ?_
          refine tr_p (y_move rfl) rfl rfl ?_
          refine tr_p (y_add rfl rfl) rfl rfl ?_
          refine tr_p (y_assign rfl) rfl rfl ?_
          refine tr_nil ?_
          refine tr_thenN ?_
          exact tr_join [(0, x0.enc), (1, x1.enc), (5, (.int .i64 (IntKind.wrap .i64 (x5 + 1))))] ⟨rfl, rfl, rfl, trivial⟩ ⟨_, _, _, rfl, H⟩
      · replace H := H.2 g2
        refine tr_exit ?_
        refine tr_thenE ?_
        refine tr_thenE ?_
        refine tr_hit ?_
        refine tr_thenN ?_
        refine tr_seq ?_
        refine tr_region ?_
        refine tr_p (y_assign rfl) rfl rfl ?_
        refine tr_nil ?_
        refine tr_thenN ?_
        refine tr_ret ?_
        exact tr_ret1 rfl rfl ⟨_, rfl, H⟩

/-- (*spate/spateref9.Book).Live -/
def F.spateref9_Book_Live (p0 : Option Addr) (h : H) (Q : Int → H → Prop) : Prop :=
  nn p0 fun a1 =>
  ldL h (a1.add 4) fun y3 =>
  F.spateref9_Book_Held p0 h fun r6 h5 =>
  cellH h5 (a1.add 4) = some y3.enc ∧
  Q (IntKind.wrap .i64 ((r6.len : Int) + (y3.len : Int))) h5
theorem F.spateref9_Book_Live_ok {p0 : Option Addr} {h : H} {Q : Int → H → Prop} (H : F.spateref9_Book_Live p0 h Q) : Fn PP 38 ([(.pointer p0)] : List Value).toArray h fun r h' => ∃ r0, r = (.int .i64 r0) ∧ Q r0 h' := by
  unfold F.spateref9_Book_Live at H
  refine fn_of Tryz.func38 Tryz.ntmps38 rfl rfl fun w0 => ?_
  refine tr_sub [(0, (.pointer p0))] ⟨rfl, trivial⟩ ?_
  refine tr_seq ?_
  refine tr_region ?_
  refine tr_p (y_assign rfl) rfl rfl ?_
  refine tr_nil ?_
  refine tr_thenN ?_
  refine tr_seq ?_
  refine tr_draw mixed [0, 1, 3, 0, 8, 24, 56, 120, 255, 511] (by kernel_rfl) ?_
  refine g_p 0 1 rfl (by kernel_rfl) (y_move rfl) rfl rfl ?_
  refine g_p 3 9 rfl (by kernel_rfl) (y_move rfl) rfl rfl ?_
  obtain ⟨a1, e2, H⟩ := H
  refine g_p 4 25 rfl (by kernel_rfl) (f_nn rfl e2) rfl rfl ?_
  refine g_p 5 57 rfl (by kernel_rfl) (y_fa (off := 4) Tryz.runUnderlying40 fo_40_4 rfl) rfl rfl ?_
  obtain ⟨y3, k4, H⟩ := H
  refine g_h 6 121 rfl (by kernel_rfl) (y_ld Tryz.isAgg38 rfl) k4 rfl rfl ?_
  refine g_p 7 249 rfl (by kernel_rfl) (y_len (ts := #[]) Tryz.runUnderlying38 (o := y3.ptr) (n := y3.len) (cap := y3.cap) rfl) rfl rfl ?_
  refine g_e 1 251 [(6, fun h => cellH h (a1.add 4) = some y3.enc)] (by kernel_rfl) rfl (by kernel_rfl) (e_call Tryz.call37 rfl (F.spateref9_Book_Held_ok H)) rfl rfl ?_
  rintro _ h5 ⟨r6, rfl, H⟩
  obtain ⟨k7, H⟩ := H
  refine ⟨And.intro k7 trivial, ?_⟩
  refine g_p 2 255 rfl (by kernel_rfl) (y_len (ts := #[]) Tryz.runUnderlying38 (o := r6.ptr) (n := r6.len) (cap := r6.cap) rfl) rfl rfl ?_
  refine g_p 8 511 rfl (by kernel_rfl) (y_add rfl rfl) rfl rfl ?_
  refine g_p 9 1023 rfl (by kernel_rfl) (y_assign rfl) rfl rfl ?_
  refine g_d (by kernel_rfl) ?_
  refine tr_thenN ?_
  refine tr_ret ?_
  exact tr_ret1 rfl rfl ⟨_, rfl, H⟩

/-- spate/spatelaw9.like -/
def F.spatelaw9_like (p0 : Option Addr) (p1 : Option Addr) (h : H) (Q : Bool → H → Prop) : Prop :=
  nn p1 fun a1 =>
  ldI .i64 h (a1.add 1) fun y3 =>
  F.epoch_Book_Now p0 h fun r6 h5 =>
  cellH h5 (a1.add 1) = some (.int .i64 y3) ∧
  (((r6 == y3)) = true →
  F.epoch_Book_Held p0 h5 fun r10 h9 =>
  F.spateref9_Book_Held p1 h9 fun r12 h11 =>
  F.spatelaw9_ints r10 r12 h11 fun r14 h13 =>
  (r14 = true →
  nn p1 fun a16 =>
  ldL h13 (a16.add 4) fun y18 =>
  F.epoch_Book_Dying p0 h13 fun r21 h20 =>
  cellH h20 (a16.add 4) = some y18.enc ∧
  F.spatelaw9_ints r21 y18 h20 fun r24 h23 =>
  (r24 = true →
  F.epoch_Book_Live p0 h23 fun r27 h26 =>
  F.spateref9_Book_Live p1 h26 fun r29 h28 =>
  Q ((r27 == r29)) h28) ∧
  (r24 = false →
  Q false h23)) ∧
  (r14 = false →
  Q false h13)) ∧
  (((r6 == y3)) = false →
  Q false h5)
theorem F.spatelaw9_like_ok {p0 : Option Addr} {p1 : Option Addr} {h : H} {Q : Bool → H → Prop} (H : F.spatelaw9_like p0 p1 h Q) : Fn PP 9 ([(.pointer p0), (.pointer p1)] : List Value).toArray h fun r h' => ∃ r0, r = (.bool r0) ∧ Q r0 h' := by
  unfold F.spatelaw9_like at H
  refine fn_of Tryz.func9 Tryz.ntmps9 rfl rfl fun w0 => ?_
  refine tr_sub [(0, (.pointer p0)), (1, (.pointer p1))] ⟨rfl, rfl, trivial⟩ ?_
  refine tr_seq ?_
  refine tr_region ?_
  refine tr_p (y_assign rfl) rfl rfl ?_
  refine tr_nil ?_
  refine tr_thenN ?_
  refine tr_seq ?_
  refine tr_draw mixed [0, 1, 0, 4, 12, 28, 63, 127, 255, 511, 255, 2047, 4095, 8191, 16383, 32767, 65535, 32767, 163839, 425983, 950271, 2097151, 4194303, 8388607, 16777215, 33554431, 16777215, 134217727, 268435455, 536870911, 1073741823] (by kernel_rfl) ?_
  refine g_p 0 1 rfl (by kernel_rfl) (y_move rfl) rfl rfl ?_
  refine g_p 2 5 rfl (by kernel_rfl) (y_move rfl) rfl rfl ?_
  obtain ⟨a1, e2, H⟩ := H
  refine g_p 3 13 rfl (by kernel_rfl) (f_nn rfl e2) rfl rfl ?_
  refine g_p 4 29 rfl (by kernel_rfl) (y_fa (off := 1) Tryz.runUnderlying40 fo_40_1 rfl) rfl rfl ?_
  obtain ⟨y3, k4, H⟩ := H
  refine g_h 5 61 rfl (by kernel_rfl) (y_ld Tryz.isAgg3 rfl) k4 rfl rfl ?_
  refine g_e 1 63 [(5, fun h => cellH h (a1.add 1) = some (.int .i64 y3))] (by kernel_rfl) rfl (by kernel_rfl) (e_call Tryz.call20 rfl (F.epoch_Book_Now_ok H)) rfl rfl ?_
  rintro _ h5 ⟨r6, rfl, H⟩
  obtain ⟨k7, H⟩ := H
  refine ⟨And.intro k7 trivial, ?_⟩
  refine g_p 6 127 rfl (by kernel_rfl) (y_eql rfl rfl) rfl rfl ?_
  refine g_p 7 255 rfl (by kernel_rfl) (y_move rfl) rfl rfl ?_
  refine g_split (t := 12) rfl (fun g8 => ?_) (fun g8 => ?_)
  · replace H := H.1 g8
    refine g_p 8 511 rfl (by kernel_rfl) (y_move rfl) rfl rfl ?_
    refine g_p 10 1535 rfl (by kernel_rfl) (y_move rfl) rfl rfl ?_
    refine g_e 9 2047 [] (by kernel_rfl) rfl (by kernel_rfl) (e_call Tryz.call17 rfl (F.epoch_Book_Held_ok H)) rfl rfl ?_
    rintro _ h9 ⟨r10, rfl, H⟩
    refine ⟨trivial, ?_⟩
    refine g_e 11 4095 [] (by kernel_rfl) rfl (by kernel_rfl) (e_call Tryz.call37 rfl (F.spateref9_Book_Held_ok H)) rfl rfl ?_
    rintro _ h11 ⟨r12, rfl, H⟩
    refine ⟨trivial, ?_⟩
    refine g_e 12 8191 [] (by kernel_rfl) rfl (by kernel_rfl) (e_call Tryz.call36 rfl (F.spatelaw9_ints_ok H)) rfl rfl ?_
    rintro _ h13 ⟨r14, rfl, H⟩
    refine ⟨trivial, ?_⟩
    refine g_p 13 16383 rfl (by kernel_rfl) (y_pick_t rfl rfl) rfl rfl ?_
    refine g_p 14 32767 rfl (by kernel_rfl) (y_move rfl) rfl rfl ?_
    refine g_split (t := 19) rfl (fun g15 => ?_) (fun g15 => ?_)
    · replace H := H.1 g15
      refine g_p 15 65535 rfl (by kernel_rfl) (y_move rfl) rfl rfl ?_
      refine g_p 17 196607 rfl (by kernel_rfl) (y_move rfl) rfl rfl ?_
      obtain ⟨a16, e17, H⟩ := H
      refine g_p 18 458751 rfl (by kernel_rfl) (f_nn rfl e17) rfl rfl ?_
      refine g_p 19 983039 rfl (by kernel_rfl) (y_fa (off := 4) Tryz.runUnderlying40 fo_40_4 rfl) rfl rfl ?_
      obtain ⟨y18, k19, H⟩ := H
      refine g_h 20 2031615 rfl (by kernel_rfl) (y_ld Tryz.isAgg38 rfl) k19 rfl rfl ?_
      refine g_e 16 2097151 [(20, fun h => cellH h (a16.add 4) = some y18.enc)] (by kernel_rfl) rfl (by kernel_rfl) (e_call Tryz.call16 rfl (F.epoch_Book_Dying_ok H)) rfl rfl ?_
      rintro _ h20 ⟨r21, rfl, H⟩
      obtain ⟨k22, H⟩ := H
      refine ⟨And.intro k22 trivial, ?_⟩
      refine g_e 21 4194303 [] (by kernel_rfl) rfl (by kernel_rfl) (e_call Tryz.call36 rfl (F.spatelaw9_ints_ok H)) rfl rfl ?_
      rintro _ h23 ⟨r24, rfl, H⟩
      refine ⟨trivial, ?_⟩
      refine g_p 22 8388607 rfl (by kernel_rfl) (y_pick_t rfl rfl) rfl rfl ?_
      refine g_p 23 16777215 rfl (by kernel_rfl) (y_move rfl) rfl rfl ?_
      refine g_split (t := 28) rfl (fun g25 => ?_) (fun g25 => ?_)
      · replace H := H.1 g25
        refine g_p 24 33554431 rfl (by kernel_rfl) (y_move rfl) rfl rfl ?_
        refine g_p 26 100663295 rfl (by kernel_rfl) (y_move rfl) rfl rfl ?_
        refine g_e 25 134217727 [] (by kernel_rfl) rfl (by kernel_rfl) (e_call Tryz.call15 rfl (F.epoch_Book_Live_ok H)) rfl rfl ?_
        rintro _ h26 ⟨r27, rfl, H⟩
        refine ⟨trivial, ?_⟩
        refine g_e 27 268435455 [] (by kernel_rfl) rfl (by kernel_rfl) (e_call Tryz.call38 rfl (F.spateref9_Book_Live_ok H)) rfl rfl ?_
        rintro _ h28 ⟨r29, rfl, H⟩
        refine ⟨trivial, ?_⟩
        refine g_p 28 536870911 rfl (by kernel_rfl) (y_eql rfl rfl) rfl rfl ?_
        refine g_p 29 1073741823 rfl (by kernel_rfl) (y_pick_t rfl rfl) rfl rfl ?_
        refine g_p 30 2147483647 rfl (by kernel_rfl) (y_assign rfl) rfl rfl ?_
        refine g_d (by kernel_rfl) ?_
        refine tr_thenN ?_
        refine tr_ret ?_
        exact tr_ret1 rfl rfl ⟨_, rfl, H⟩
      · replace H := H.2 g25
        refine g_s 24 33554431 rfl (by kernel_rfl) rfl rfl ?_
        refine g_s 25 67108863 rfl (by kernel_rfl) rfl rfl ?_
        refine g_s 26 134217727 rfl (by kernel_rfl) rfl rfl ?_
        refine g_s 27 268435455 rfl (by kernel_rfl) rfl rfl ?_
        refine g_s 28 536870911 rfl (by kernel_rfl) rfl rfl ?_
        refine g_p 29 1073741823 rfl (by kernel_rfl) (y_pick_f rfl rfl) rfl rfl ?_
        refine g_p 30 2147483647 rfl (by kernel_rfl) (y_assign rfl) rfl rfl ?_
        refine g_d (by kernel_rfl) ?_
        refine tr_thenN ?_
        refine tr_ret ?_
        exact tr_ret1 rfl rfl ⟨_, rfl, H⟩
    · replace H := H.2 g15
      refine g_s 15 65535 rfl (by kernel_rfl) rfl rfl ?_
      refine g_s 16 131071 rfl (by kernel_rfl) rfl rfl ?_
      refine g_s 17 262143 rfl (by kernel_rfl) rfl rfl ?_
      refine g_s 18 524287 rfl (by kernel_rfl) rfl rfl ?_
      refine g_s 19 1048575 rfl (by kernel_rfl) rfl rfl ?_
      refine g_s 20 2097151 rfl (by kernel_rfl) rfl rfl ?_
      refine g_s 21 4194303 rfl (by kernel_rfl) rfl rfl ?_
      refine g_p 22 8388607 rfl (by kernel_rfl) (y_pick_f rfl rfl) rfl rfl ?_
      refine g_p 23 16777215 rfl (by kernel_rfl) (y_move rfl) rfl rfl ?_
      refine g_s 24 33554431 rfl (by kernel_rfl) rfl rfl ?_
      refine g_s 25 67108863 rfl (by kernel_rfl) rfl rfl ?_
      refine g_s 26 134217727 rfl (by kernel_rfl) rfl rfl ?_
      refine g_s 27 268435455 rfl (by kernel_rfl) rfl rfl ?_
      refine g_s 28 536870911 rfl (by kernel_rfl) rfl rfl ?_
      refine g_p 29 1073741823 rfl (by kernel_rfl) (y_pick_f rfl rfl) rfl rfl ?_
      refine g_p 30 2147483647 rfl (by kernel_rfl) (y_assign rfl) rfl rfl ?_
      refine g_d (by kernel_rfl) ?_
      refine tr_thenN ?_
      refine tr_ret ?_
      exact tr_ret1 rfl rfl ⟨_, rfl, H⟩
  · replace H := H.2 g8
    refine g_s 8 511 rfl (by kernel_rfl) rfl rfl ?_
    refine g_s 9 1023 rfl (by kernel_rfl) rfl rfl ?_
    refine g_s 10 2047 rfl (by kernel_rfl) rfl rfl ?_
    refine g_s 11 4095 rfl (by kernel_rfl) rfl rfl ?_
    refine g_s 12 8191 rfl (by kernel_rfl) rfl rfl ?_
    refine g_p 13 16383 rfl (by kernel_rfl) (y_pick_f rfl rfl) rfl rfl ?_
    refine g_p 14 32767 rfl (by kernel_rfl) (y_move rfl) rfl rfl ?_
    refine g_s 15 65535 rfl (by kernel_rfl) rfl rfl ?_
    refine g_s 16 131071 rfl (by kernel_rfl) rfl rfl ?_
    refine g_s 17 262143 rfl (by kernel_rfl) rfl rfl ?_
    refine g_s 18 524287 rfl (by kernel_rfl) rfl rfl ?_
    refine g_s 19 1048575 rfl (by kernel_rfl) rfl rfl ?_
    refine g_s 20 2097151 rfl (by kernel_rfl) rfl rfl ?_
    refine g_s 21 4194303 rfl (by kernel_rfl) rfl rfl ?_
    refine g_p 22 8388607 rfl (by kernel_rfl) (y_pick_f rfl rfl) rfl rfl ?_
    refine g_p 23 16777215 rfl (by kernel_rfl) (y_move rfl) rfl rfl ?_
    refine g_s 24 33554431 rfl (by kernel_rfl) rfl rfl ?_
    refine g_s 25 67108863 rfl (by kernel_rfl) rfl rfl ?_
    refine g_s 26 134217727 rfl (by kernel_rfl) rfl rfl ?_
    refine g_s 27 268435455 rfl (by kernel_rfl) rfl rfl ?_
    refine g_s 28 536870911 rfl (by kernel_rfl) rfl rfl ?_
    refine g_p 29 1073741823 rfl (by kernel_rfl) (y_pick_f rfl rfl) rfl rfl ?_
    refine g_p 30 2147483647 rfl (by kernel_rfl) (y_assign rfl) rfl rfl ?_
    refine g_d (by kernel_rfl) ?_
    refine tr_thenN ?_
    refine tr_ret ?_
    exact tr_ret1 rfl rfl ⟨_, rfl, H⟩

/-- maps.Clone[map[int]int,int,int] -/
def F.maps_Clone_map_int_int_int_int (p0 : Option Nat) (h : H) (Q : (Option Nat) → H → Prop) : Prop :=
  (p0.isNone = true →
  Q none h) ∧
  (p0.isNone = false →
  clM h p0 fun m3 h2 =>
  Q (some m3) h2)
theorem F.maps_Clone_map_int_int_int_int_ok {p0 : Option Nat} {h : H} {Q : (Option Nat) → H → Prop} (H : F.maps_Clone_map_int_int_int_int p0 h Q) : Fn PP 22 ([(.map p0)] : List Value).toArray h fun r h' => ∃ r0, r = (.map r0) ∧ Q r0 h' := by
  unfold F.maps_Clone_map_int_int_int_int at H
  refine fn_of Tryz.func22 Tryz.ntmps22 rfl rfl fun w0 => ?_
  refine tr_sub [(0, (.map p0))] ⟨rfl, trivial⟩ ?_
  refine tr_seq ?_
  refine tr_region ?_
  refine tr_p (y_assign rfl) rfl rfl ?_
  refine tr_nil ?_
  refine tr_thenN ?_
  refine tr_seq ?_
  refine tr_seq ?_
  refine tr_region ?_
  refine tr_p (y_move rfl) rfl rfl ?_
  refine tr_p (y_mnil_eql Tryz.runUnderlying49 (p := p0) rfl rfl) rfl rfl ?_
  refine tr_nil ?_
  refine tr_thenN ?_
  refine tr_cond rfl (fun g1 => ?_) (fun g1 => ?_)
  · replace H := H.1 g1
    refine tr_seq ?_
    refine tr_region ?_
    refine tr_p (y_assign rfl) rfl rfl ?_
    refine tr_nil ?_
    refine tr_thenN ?_
    refine tr_ret ?_
    refine tr_thenR ?_
    exact tr_ret1 rfl rfl ⟨_, rfl, H⟩
  · replace H := H.2 g1
    refine tr_skip ?_
    refine tr_thenN ?_
    refine tr_seq ?_
    refine tr_region ?_
    refine tr_p (y_move rfl) rfl rfl ?_
    refine tr_p (y_mkif Tryz.runUnderlying49 rfl rfl) rfl rfl ?_
    refine tr_e (f_clone clone_52 rfl H) rfl rfl ?_
    rintro _ h2 ⟨m3, rfl, H⟩
    refine tr_p (y_tas Tryz.runUnderlying49 rfl rfl rfl) rfl rfl ?_
    refine tr_p (y_assign rfl) rfl rfl ?_
    refine tr_nil ?_
    refine tr_thenN ?_
    refine tr_ret ?_
    exact tr_ret1 rfl rfl ⟨_, rfl, H⟩

/-- maps.Clone[map[int]struct{},int,struct{}] -/
def F.maps_Clone_map_int_struct_int_struct (p0 : Option Nat) (h : H) (Q : (Option Nat) → H → Prop) : Prop :=
  (p0.isNone = true →
  Q none h) ∧
  (p0.isNone = false →
  clM h p0 fun m3 h2 =>
  Q (some m3) h2)
theorem F.maps_Clone_map_int_struct_int_struct_ok {p0 : Option Nat} {h : H} {Q : (Option Nat) → H → Prop} (H : F.maps_Clone_map_int_struct_int_struct p0 h Q) : Fn PP 23 ([(.map p0)] : List Value).toArray h fun r h' => ∃ r0, r = (.map r0) ∧ Q r0 h' := by
  unfold F.maps_Clone_map_int_struct_int_struct at H
  refine fn_of Tryz.func23 Tryz.ntmps23 rfl rfl fun w0 => ?_
  refine tr_sub [(0, (.map p0))] ⟨rfl, trivial⟩ ?_
  refine tr_seq ?_
  refine tr_region ?_
  refine tr_p (y_assign rfl) rfl rfl ?_
  refine tr_nil ?_
  refine tr_thenN ?_
  refine tr_seq ?_
  refine tr_seq ?_
  refine tr_region ?_
  refine tr_p (y_move rfl) rfl rfl ?_
  refine tr_p (y_mnil_eql Tryz.runUnderlying57 (p := p0) rfl rfl) rfl rfl ?_
  refine tr_nil ?_
  refine tr_thenN ?_
  refine tr_cond rfl (fun g1 => ?_) (fun g1 => ?_)
  · replace H := H.1 g1
    refine tr_seq ?_
    refine tr_region ?_
    refine tr_p (y_assign rfl) rfl rfl ?_
    refine tr_nil ?_
    refine tr_thenN ?_
    refine tr_ret ?_
    refine tr_thenR ?_
    exact tr_ret1 rfl rfl ⟨_, rfl, H⟩
  · replace H := H.2 g1
    refine tr_skip ?_
    refine tr_thenN ?_
    refine tr_seq ?_
    refine tr_region ?_
    refine tr_p (y_move rfl) rfl rfl ?_
    refine tr_p (y_mkif Tryz.runUnderlying57 rfl rfl) rfl rfl ?_
    refine tr_e (f_clone clone_52 rfl H) rfl rfl ?_
    rintro _ h2 ⟨m3, rfl, H⟩
    refine tr_p (y_tas Tryz.runUnderlying57 rfl rfl rfl) rfl rfl ?_
    refine tr_p (y_assign rfl) rfl rfl ?_
    refine tr_nil ?_
    refine tr_thenN ?_
    refine tr_ret ?_
    exact tr_ret1 rfl rfl ⟨_, rfl, H⟩

def F.epoch_Book_Twin.l1 (Q : (Option Addr) → H → Prop) (f_1 : FuncId) (fi_1 ca_1 : Array Value) : Nat → Addr → (List S_epoch_owner) → Int → H → Prop
  | 0, _, _, _, _ => False
  | q1 + 1, x3, x30, x31, h =>
    ((decide (x31 < 65)) = true →
    idxV x30 65 x31 fun z34 =>
    new h (((⟨none, 0⟩ : S_epoch_owner) : S_epoch_owner).cells.toArray) ty_59 fun a37 h36 =>
    stH h36 a37 z34.cells fun h38 =>
    ldM h38 (a37.add 0) fun y39 =>
    ldI .i64 h38 (a37.add 1) fun y41 =>
    F.maps_Clone_map_int_struct_int_struct y39 h38 fun r44 h43 =>
    cellH h43 (a37.add 1) = some (.int .i64 y41) ∧
    (0 ≤ (x31 : Int) ∧ x31 < 65) ∧
    stH h43 ((x3.add 4).add ((x31 : Int).toNat * 2)) ((⟨r44, y41⟩ : S_epoch_owner).cells) fun h47 =>
    (F.epoch_Book_Twin.l1 Q f_1 fi_1 ca_1 q1) x3 x30 (IntKind.wrap .i64 (x31 + 1)) h47) ∧
    ((decide (x31 < 65)) = false →
    dcall PP f_1 ((fi_1 ++ ([] : List Value).toArray) ++ ca_1) h fun h48 =>
    Q (some x3) h48)
/-- (*spate/epoch.Book).Twin -/
def F.epoch_Book_Twin (p0 : Option Addr) (h : H) (Q : (Option Addr) → H → Prop) : Prop :=
  F.epoch_Book_guard p0 h fun r2 h1 =>
  fnV r2 fun f_1 fi_1 ca_1 =>
  nn p0 fun a4 =>
  ldI .i64 h1 (a4.add 2) fun y6 =>
  nn p0 fun a8 =>
  ldI .i64 h1 (a8.add 3) fun y10 =>
  nn p0 fun a12 =>
  ldM h1 (a12.add 134) fun y14 =>
  nn p0 fun a16 =>
  ldB h1 (a16.add 135) fun y18 =>
  F.maps_Clone_map_int_int_int_int y14 h1 fun r21 h20 =>
  cellH h20 (a16.add 135) = some (.bool y18) ∧
  cellH h20 (a8.add 3) = some (.int .i64 y10) ∧
  cellH h20 (a4.add 2) = some (.int .i64 y6) ∧
  new h20 ((⟨(⟨(⟨⟩ : S_sync_noCopy), (⟨0, 0⟩ : S_sync_Mutex)⟩ : S_sync_Mutex_55), y6, y10, (List.replicate 65 (⟨none, 0⟩ : S_epoch_owner)), r21, y18⟩ : S_epoch_Book).cells.toArray) ty_62 fun a26 h25 =>
  nn p0 fun a27 =>
  ldA S_epoch_owner.cells 65 130 h25 (a27.add 4) fun y29 =>
  ∃ m, F.epoch_Book_Twin.l1 Q f_1 fi_1 ca_1 m a26 y29 0 h25
theorem F.epoch_Book_Twin_ok {p0 : Option Addr} {h : H} {Q : (Option Addr) → H → Prop} (H : F.epoch_Book_Twin p0 h Q) : Fn PP 7 ([(.pointer p0)] : List Value).toArray h fun r h' => ∃ r0, r = (.pointer r0) ∧ Q r0 h' := by
  unfold F.epoch_Book_Twin at H
  refine fn_ofM Tryz.func7 Tryz.ntmps7 rfl rfl fun w0 => ?_
  refine tr_sub [(0, (.pointer p0))] ⟨rfl, trivial⟩ ?_
  refine tr_seq ?_
  refine tr_region ?_
  refine tr_p (y_assign rfl) rfl rfl ?_
  refine tr_nil ?_
  refine tr_thenN ?_
  refine tr_seq ?_
  refine tr_region ?_
  refine tr_p (y_move rfl) rfl rfl ?_
  refine tr_e (e_call Tryz.call21 rfl (F.epoch_Book_guard_ok H)) rfl rfl ?_
  rintro r2 h1 ⟨_, rfl, H⟩
  obtain ⟨f_1, fi_1, ca_1, e3, H⟩ := H
  subst e3
  refine tr_defer rfl rfl rfl ?_
  refine tr_nil ?_
  refine tr_thenN ?_
  refine tr_seq ?_
  refine tr_draw mixed [0, 1, 3, 7, 0, 16, 48, 112, 0, 256, 768, 1792, 3840, 0, 8192, 24576, 57344, 131071, 262143, 524287] (by kernel_rfl) ?_
  refine g_p 0 1 rfl (by kernel_rfl) (y_move rfl) rfl rfl ?_
  obtain ⟨a4, e5, H⟩ := H
  refine g_p 1 3 rfl (by kernel_rfl) (f_nn rfl e5) rfl rfl ?_
  refine g_p 2 7 rfl (by kernel_rfl) (y_fa (off := 2) Tryz.runUnderlying62 fo_62_1 rfl) rfl rfl ?_
  obtain ⟨y6, k7, H⟩ := H
  refine g_h 3 15 rfl (by kernel_rfl) (y_ld Tryz.isAgg3 rfl) k7 rfl rfl ?_
  refine g_p 4 31 rfl (by kernel_rfl) (y_move rfl) rfl rfl ?_
  obtain ⟨a8, e9, H⟩ := H
  refine g_p 5 63 rfl (by kernel_rfl) (f_nn rfl e9) rfl rfl ?_
  refine g_p 6 127 rfl (by kernel_rfl) (y_fa (off := 3) Tryz.runUnderlying62 fo_62_2 rfl) rfl rfl ?_
  obtain ⟨y10, k11, H⟩ := H
  refine g_h 7 255 rfl (by kernel_rfl) (y_ld Tryz.isAgg3 rfl) k11 rfl rfl ?_
  refine g_p 8 511 rfl (by kernel_rfl) (y_move rfl) rfl rfl ?_
  obtain ⟨a12, e13, H⟩ := H
  refine g_p 9 1023 rfl (by kernel_rfl) (f_nn rfl e13) rfl rfl ?_
  refine g_p 10 2047 rfl (by kernel_rfl) (y_fa (off := 134) Tryz.runUnderlying62 fo_62_4 rfl) rfl rfl ?_
  obtain ⟨y14, k15, H⟩ := H
  refine g_h 11 4095 rfl (by kernel_rfl) (y_ld Tryz.isAgg49 rfl) k15 rfl rfl ?_
  refine g_p 13 12287 rfl (by kernel_rfl) (y_move rfl) rfl rfl ?_
  obtain ⟨a16, e17, H⟩ := H
  refine g_p 14 28671 rfl (by kernel_rfl) (f_nn rfl e17) rfl rfl ?_
  refine g_p 15 61439 rfl (by kernel_rfl) (y_fa (off := 135) Tryz.runUnderlying62 fo_62_5 rfl) rfl rfl ?_
  obtain ⟨y18, k19, H⟩ := H
  refine g_h 16 126975 rfl (by kernel_rfl) (y_ld Tryz.isAgg4 rfl) k19 rfl rfl ?_
  refine g_e 12 131071 [(16, fun h => cellH h (a16.add 135) = some (.bool y18)), (7, fun h => cellH h (a8.add 3) = some (.int .i64 y10)), (3, fun h => cellH h (a4.add 2) = some (.int .i64 y6))] (by kernel_rfl) rfl (by kernel_rfl) (e_call Tryz.call22 rfl (F.maps_Clone_map_int_int_int_int_ok H)) rfl rfl ?_
  rintro _ h20 ⟨r21, rfl, H⟩
  obtain ⟨k22, k23, k24, H⟩ := H
  refine ⟨And.intro k22 (And.intro k23 (And.intro k24 trivial)), ?_⟩
  refine g_p 17 262143 rfl (by kernel_rfl) (f_build rfl (bd_62_1_2_4_5 y6 y10 r21 y18)) rfl rfl ?_
  refine g_e 18 524287 [] (by kernel_rfl) rfl (by kernel_rfl) (f_box (cs := (⟨(⟨(⟨⟩ : S_sync_noCopy), (⟨0, 0⟩ : S_sync_Mutex)⟩ : S_sync_Mutex_55), y6, y10, (List.replicate 65 (⟨none, 0⟩ : S_epoch_owner)), r21, y18⟩ : S_epoch_Book).cells.toArray) rfl rfl H) rfl rfl ?_
  rintro _ h25 ⟨a26, rfl, H⟩
  refine ⟨trivial, ?_⟩
  refine g_p 19 1048575 rfl (by kernel_rfl) (y_assign rfl) rfl rfl ?_
  refine g_d (by kernel_rfl) ?_
  refine tr_thenN ?_
  refine tr_seq ?_
  refine tr_seq ?_
  refine tr_region ?_
  refine tr_p (y_move rfl) rfl rfl ?_
  obtain ⟨a27, e28, H⟩ := H
  refine tr_p (f_nn rfl e28) rfl rfl ?_
  refine tr_p (y_fa (off := 4) Tryz.runUnderlying62 fo_62_3 rfl) rfl rfl ?_
  obtain ⟨y29, e31, e32, k30, H⟩ := H
  refine tr_h (y_ldS Tryz.isAgg60 Tryz.sizeOf60 e31 rfl) k30 rfl rfl ?_
  refine tr_p (y_move rfl) rfl rfl ?_
  refine tr_nil ?_
  refine tr_thenN ?_
  refine tr_block ?_
  obtain ⟨m49, H⟩ := H
  refine tr_sub [(3, (.pointer (some a26))), (30, (.agg (y29.flatMap S_epoch_owner.cells).toArray)), (31, (.int .i64 0))] ⟨rfl, rfl, rfl, trivial⟩ ?_
  refine tr_loop_j (fun m L' h => ∃ (x3 : Addr) (x30 : List S_epoch_owner) (x31 : Int), L' = [(3, (.pointer (some x3))), (30, (.agg (x30.flatMap S_epoch_owner.cells).toArray)), (31, (.int .i64 x31))] ∧ F.epoch_Book_Twin.l1 Q f_1 fi_1 ca_1 m x3 x30 x31 h) ?_ ?_ m49 ⟨_, _, _, rfl, H⟩
  · rintro L' h ⟨_, _, _, _, H⟩; exact H
  · rintro q1 L' h ⟨x3, x30, x31, rfl, H⟩
    unfold F.epoch_Book_Twin.l1 at H
    refine tr_seq ?_
    refine tr_region ?_
    refine tr_p (y_lss rfl rfl) rfl rfl ?_
    refine tr_nil ?_
    refine tr_thenN ?_
    refine tr_seq ?_
    refine tr_cond rfl (fun g33 => ?_) (fun g33 => ?_)
    · replace H := H.1 g33
      refine tr_skip ?_
      refine tr_thenN ?_
      refine tr_seq ?_
      refine tr_block ?_
      refine tr_seq ?_
      refine tr_region ?_
      refine tr_p (y_move rfl) rfl rfl ?_
      obtain ⟨z34, e35, H⟩ := H
      refine tr_p (f_idxVS (f := S_epoch_owner.cells) (M := x30) Tryz.runUnderlying60 Tryz.isAgg59 Tryz.sizeOf59 (fun _ => rfl) rfl rfl e35) rfl rfl ?_
      refine tr_e (f_alloc (cs := ((⟨none, 0⟩ : S_epoch_owner) : S_epoch_owner).cells.toArray) Tryz.zeroValue59 rfl H) rfl rfl ?_
      rintro _ h36 ⟨a37, rfl, H⟩
      refine tr_p (y_assign rfl) rfl rfl ?_
      refine tr_e (f_store (vs := z34.cells) Tryz.sizeOf59 rfl rfl cellsOfStruct rfl (by intro v hv; exact ones_S_epoch_owner _ v hv) H) rfl rfl ?_
      rintro _ h38 ⟨rfl, H⟩
      refine tr_nil ?_
      refine tr_thenN ?_
      refine tr_draw mixed [0, 0, 0, 4, 12, 0, 32, 124, 1, 257, 1023, 2047] (by kernel_rfl) ?_
      refine g_p 0 1 rfl (by kernel_rfl) (y_move rfl) rfl rfl ?_
      refine g_p 1 3 rfl (by kernel_rfl) (y_move rfl) rfl rfl ?_
      refine g_p 2 7 rfl (by kernel_rfl) (y_fa (off := 0) Tryz.runUnderlying59 fo_59_0 rfl) rfl rfl ?_
      obtain ⟨y39, k40, H⟩ := H
      refine g_h 3 15 rfl (by kernel_rfl) (y_ld Tryz.isAgg57 rfl) k40 rfl rfl ?_
      refine g_p 5 47 rfl (by kernel_rfl) (y_fa (off := 1) Tryz.runUnderlying59 fo_59_1 rfl) rfl rfl ?_
      obtain ⟨y41, k42, H⟩ := H
      refine g_h 6 111 rfl (by kernel_rfl) (y_ld Tryz.isAgg3 rfl) k42 rfl rfl ?_
      refine g_p 8 367 rfl (by kernel_rfl) (y_nil rfl) rfl rfl ?_
      refine g_p 9 879 rfl (by kernel_rfl) (y_fa (off := 4) Tryz.runUnderlying62 fo_62_3 rfl) rfl rfl ?_
      refine g_e 4 895 [(6, fun h => cellH h (a37.add 1) = some (.int .i64 y41))] (by kernel_rfl) rfl (by kernel_rfl) (e_call Tryz.call23 rfl (F.maps_Clone_map_int_struct_int_struct_ok H)) rfl rfl ?_
      rintro _ h43 ⟨r44, rfl, H⟩
      obtain ⟨k45, H⟩ := H
      refine ⟨And.intro k45 trivial, ?_⟩
      refine g_p 7 1023 rfl (by kernel_rfl) (f_build rfl (bd_59_0_1 r44 y41)) rfl rfl ?_
      obtain ⟨e46, H⟩ := H
      refine g_p 10 2047 rfl (by kernel_rfl) (f_idxArr Tryz.runUnderlying60 Tryz.sizeOf59 rfl rfl e46) rfl rfl ?_
      refine g_e 11 4095 [] (by kernel_rfl) rfl (by kernel_rfl) (f_store (vs := (⟨r44, y41⟩ : S_epoch_owner).cells) Tryz.sizeOf59 rfl rfl cellsOfStruct rfl (by intro v hv; exact ones_S_epoch_owner _ v hv) H) rfl rfl ?_
      rintro _ h47 ⟨rfl, H⟩
      refine ⟨trivial, ?_⟩
      refine g_d (by kernel_rfl) ?_
      refine tr_blockN ?_
      refine tr_thenN ?_
      refine tr_region ?_
      refine tr_p (y_add rfl rfl) rfl rfl ?_
      refine tr_p (y_move rfl) rfl rfl ?_
      refine tr_nil ?_
      refine tr_thenN ?_
      exact tr_join [(3, (.pointer (some x3))), (30, (.agg (x30.flatMap S_epoch_owner.cells).toArray)), (31, (.int .i64 (IntKind.wrap .i64 (x31 + 1))))] ⟨rfl, rfl, rfl, trivial⟩ ⟨_, _, _, rfl, H⟩
    · replace H := H.2 g33
      refine tr_exit ?_
      refine tr_thenE ?_
      refine tr_thenE ?_
      refine tr_hit ?_
      refine tr_thenN ?_
      refine tr_seq ?_
      refine tr_region ?_
      refine tr_p (y_move rfl) rfl rfl ?_
      refine tr_p (y_assign rfl) rfl rfl ?_
      refine tr_nil ?_
      refine tr_thenN ?_
      refine tr_ret ?_
      refine tr_dcall H fun h48 H => ?_
      refine tr_pm0 ?_
      exact tr_ret1 rfl rfl ⟨_, rfl, H⟩

def F.spatelaw9_EpochPlays.j3 (Q : Bool → H → Prop) (C1 : Sl → (Option Addr) → (Option Addr) → Int → H → Prop) (x1 : Sl) (x5 : Option Addr) (x7 : Option Addr) (x9 : Int) (h : H) : Prop :=
  C1 x1 x5 x7 (IntKind.wrap .i64 (x9 + 1)) h
def F.spatelaw9_EpochPlays.j5 (Q : Bool → H → Prop) (C1 : Sl → (Option Addr) → (Option Addr) → Int → H → Prop) (x1 : Sl) (x5 : Option Addr) (x7 : Option Addr) (x9 : Int) (x68 : Bool) (h : H) : Prop :=
  (x68 = true →
  Q false h) ∧
  (x68 = false →
  F.spatelaw9_EpochPlays.j3 Q C1 x1 x5 x7 x9 h)
def F.spatelaw9_EpochPlays.j4 (Q : Bool → H → Prop) (C1 : Sl → (Option Addr) → (Option Addr) → Int → H → Prop) (x1 : Sl) (x5 : Option Addr) (x7 : Option Addr) (x9 : Int) (h : H) : Prop :=
  idxA x1 x9 4 fun a14 =>
  ld_S_spatelaw9_Step h a14 fun y16 =>
  F.spatelaw9_told x5 x7 y16 h fun r19 h18 =>
  ((!r19) = true →
  F.spatelaw9_EpochPlays.j5 Q C1 x1 x5 x7 x9 true h18) ∧
  ((!r19) = false →
  F.spatelaw9_like x5 x7 h18 fun r22 h21 =>
  F.spatelaw9_EpochPlays.j5 Q C1 x1 x5 x7 x9 (!r22) h21)
def F.spatelaw9_EpochPlays.l7 (Q : Bool → H → Prop) (C1 : (Option Addr) → (Option Addr) → Int → H → Prop) : Nat → (Option Addr) → (Option Addr) → Int → Int → H → Prop
  | 0, _, _, _, _, _ => False
  | q7 + 1, x5, x7, x10, x11, h =>
    ((decide (x11 ≤ 6)) = true →
    nn x7 fun a33 =>
    ldI .i64 h (a33.add 1) fun y35 =>
    nn x7 fun a37 =>
    ldI .i64 h (a37.add 1) fun y39 =>
    F.epoch_Book_Holds x5 x10 (IntKind.wrap .i64 (y35 - x11)) h fun r42 h41 =>
    cellH h41 (a37.add 1) = some (.int .i64 y39) ∧
    F.spateref9_Book_Holds x7 x10 (IntKind.wrap .i64 (y39 - x11)) h41 fun r45 h44 =>
    ((!(r42 == r45)) = true →
    Q false h44) ∧
    ((!(r42 == r45)) = false →
    (F.spatelaw9_EpochPlays.l7 Q C1 q7) x5 x7 x10 (IntKind.wrap .i64 (x11 + 1)) h44)) ∧
    ((decide (x11 ≤ 6)) = false →
    C1 x5 x7 (IntKind.wrap .i64 (x10 + 1)) h)
def F.spatelaw9_EpochPlays.l6 (Q : Bool → H → Prop) : Nat → (Option Addr) → (Option Addr) → Int → H → Prop
  | 0, _, _, _, _ => False
  | q6 + 1, x5, x7, x10, h =>
    ((decide (x10 ≤ 66)) = true →
    ∃ m, F.spatelaw9_EpochPlays.l7 Q (F.spatelaw9_EpochPlays.l6 Q q6) m x5 x7 x10 0 h) ∧
    ((decide (x10 ≤ 66)) = false →
    Q true h)
def F.spatelaw9_EpochPlays.l2 (Q : Bool → H → Prop) : Nat → Sl → (Option Addr) → (Option Addr) → Int → H → Prop
  | 0, _, _, _, _, _ => False
  | q2 + 1, x1, x5, x7, x9, h =>
    ((decide (x9 < (x1.len : Int))) = true →
    idxA x1 x9 4 fun a23 =>
    ldI .i64 h (a23.add 0) fun y25 =>
    (((y25 == 9)) = true →
    F.epoch_Book_Twin x5 h fun r29 h28 =>
    (r29.isNone = true →
    Q false h28) ∧
    (r29.isNone = false →
    F.spatelaw9_EpochPlays.j4 Q (F.spatelaw9_EpochPlays.l2 Q q2) x1 r29 x7 x9 h28)) ∧
    (((y25 == 9)) = false →
    F.spatelaw9_EpochPlays.j4 Q (F.spatelaw9_EpochPlays.l2 Q q2) x1 x5 x7 x9 h)) ∧
    ((decide (x9 < (x1.len : Int))) = false →
    ∃ m, F.spatelaw9_EpochPlays.l6 Q m x5 x7 (-1) h)
def F.spatelaw9_EpochPlays.j1 (Q : Bool → H → Prop) (x1 : Sl) (x5 : Option Addr) (x7 : Option Addr) (h : H) : Prop :=
  (x5.isNone = true →
  Q true h) ∧
  (x5.isNone = false →
  ∃ m, F.spatelaw9_EpochPlays.l2 Q m x1 x5 x7 0 h)
def F.spatelaw9_EpochPlays.j8 (Q : Bool → H → Prop) (x1 : Sl) (x5 : Option Addr) (x7 : Option Addr) (x36 : Bool) (h : H) : Prop :=
  (x36 = true →
  Q false h) ∧
  (x36 = false →
  F.spatelaw9_EpochPlays.j1 Q x1 x5 x7 h)
/-- spate/spatelaw9.EpochPlays -/
def F.spatelaw9_EpochPlays (p0 : Int) (p1 : Sl) (h : H) (Q : Bool → H → Prop) : Prop :=
  F.spatelaw9_known  h fun r2 h1 =>
  ((!r2) = true →
  Q false h1) ∧
  ((!r2) = false →
  ((decide ((p1.len : Int) > 3000)) = true →
  Q true h1) ∧
  ((decide ((p1.len : Int) > 3000)) = false →
  F.epoch_New p0 h1 fun r6 r7 h5 =>
  F.spateref9_New p0 h5 fun r9 r10 h8 =>
  (((r7 != r10)) = true →
  F.spatelaw9_EpochPlays.j8 Q p1 r6 r9 true h8) ∧
  (((r7 != r10)) = false →
  F.spatelaw9_EpochPlays.j8 Q p1 r6 r9 (!(r6.isNone == r9.isNone)) h8)))
theorem F.spatelaw9_EpochPlays_ok {p0 : Int} {p1 : Sl} {h : H} {Q : Bool → H → Prop} (H : F.spatelaw9_EpochPlays p0 p1 h Q) : Fn PP 3 ([(.int .i64 p0), p1.enc] : List Value).toArray h fun r h' => ∃ r0, r = (.bool r0) ∧ Q r0 h' := by
  unfold F.spatelaw9_EpochPlays at H
  refine fn_of Tryz.func3 Tryz.ntmps3 rfl rfl fun w0 => ?_
  refine tr_sub [(0, (.int .i64 p0)), (1, p1.enc)] ⟨rfl, rfl, trivial⟩ ?_
  refine tr_seq ?_
  refine tr_region ?_
  refine tr_p (y_assign rfl) rfl rfl ?_
  refine tr_nil ?_
  refine tr_thenN ?_
  refine tr_seq ?_
  refine tr_seq ?_
  refine tr_region ?_
  refine tr_e (e_call Tryz.call4 rfl (F.spatelaw9_known_ok H)) rfl rfl ?_
  rintro _ h1 ⟨r2, rfl, H⟩
  refine tr_p (y_not rfl) rfl rfl ?_
  refine tr_nil ?_
  refine tr_thenN ?_
  refine tr_cond rfl (fun g3 => ?_) (fun g3 => ?_)
  · replace H := H.1 g3
    refine tr_seq ?_
    refine tr_region ?_
    refine tr_p (y_assign rfl) rfl rfl ?_
    refine tr_nil ?_
    refine tr_thenN ?_
    refine tr_ret ?_
    refine tr_thenR ?_
    exact tr_ret1 rfl rfl ⟨_, rfl, H⟩
  · replace H := H.2 g3
    refine tr_skip ?_
    refine tr_thenN ?_
    refine tr_seq ?_
    refine tr_seq ?_
    refine tr_region ?_
    refine tr_p (y_move rfl) rfl rfl ?_
    refine tr_p (y_len (ts := #[]) Tryz.runUnderlying22 (o := p1.ptr) (n := p1.len) (cap := p1.cap) rfl) rfl rfl ?_
    refine tr_p (y_gtr rfl rfl) rfl rfl ?_
    refine tr_nil ?_
    refine tr_thenN ?_
    refine tr_cond rfl (fun g4 => ?_) (fun g4 => ?_)
    · replace H := H.1 g4
      refine tr_seq ?_
      refine tr_region ?_
      refine tr_p (y_assign rfl) rfl rfl ?_
      refine tr_nil ?_
      refine tr_thenN ?_
      refine tr_ret ?_
      refine tr_thenR ?_
      exact tr_ret1 rfl rfl ⟨_, rfl, H⟩
    · replace H := H.2 g4
      refine tr_skip ?_
      refine tr_thenN ?_
      refine tr_seq ?_
      refine tr_region ?_
      refine tr_p (y_move rfl) rfl rfl ?_
      refine tr_e (e_call Tryz.call5 rfl (F.epoch_New_ok H)) rfl rfl ?_
      rintro _ h5 ⟨r6, r7, rfl, H⟩
      refine tr_p (y_move rfl) rfl rfl ?_
      refine tr_p (y_ext rfl rfl) rfl rfl ?_
      refine tr_p (y_ext rfl rfl) rfl rfl ?_
      refine tr_p (y_assign rfl) rfl rfl ?_
      refine tr_p (y_assign rfl) rfl rfl ?_
      refine tr_nil ?_
      refine tr_thenN ?_
      refine tr_seq ?_
      refine tr_region ?_
      refine tr_p (y_move rfl) rfl rfl ?_
      refine tr_e (e_call Tryz.call6 rfl (F.spateref9_New_ok H)) rfl rfl ?_
      rintro _ h8 ⟨r9, r10, rfl, H⟩
      refine tr_p (y_move rfl) rfl rfl ?_
      refine tr_p (y_ext rfl rfl) rfl rfl ?_
      refine tr_p (y_ext rfl rfl) rfl rfl ?_
      refine tr_p (y_assign rfl) rfl rfl ?_
      refine tr_p (y_assign rfl) rfl rfl ?_
      refine tr_nil ?_
      refine tr_thenN ?_
      refine tr_seq_j (fun L' h => ∃ (x1 : Sl) (x5 : Option Addr) (x7 : Option Addr), L' = [(1, x1.enc), (5, (.pointer x5)), (7, (.pointer x7))] ∧ F.spatelaw9_EpochPlays.j1 Q x1 x5 x7 h) ?_ ?_
      · rintro L' h ⟨x1, x5, x7, rfl, H⟩
        unfold F.spatelaw9_EpochPlays.j1 at H
        refine tr_seq ?_
        refine tr_seq ?_
        refine tr_region ?_
        refine tr_p (y_move rfl) rfl rfl ?_
        refine tr_p (y_pnil_eql Tryz.runUnderlying24 rfl rfl) rfl rfl ?_
        refine tr_nil ?_
        refine tr_thenN ?_
        refine tr_cond rfl (fun g11 => ?_) (fun g11 => ?_)
        · replace H := H.1 g11
          refine tr_seq ?_
          refine tr_region ?_
          refine tr_p (y_assign rfl) rfl rfl ?_
          refine tr_nil ?_
          refine tr_thenN ?_
          refine tr_ret ?_
          refine tr_thenR ?_
          exact tr_ret1 rfl rfl ⟨_, rfl, H⟩
        · replace H := H.2 g11
          refine tr_skip ?_
          refine tr_thenN ?_
          refine tr_seq ?_
          refine tr_seq ?_
          refine tr_region ?_
          refine tr_p (y_assign rfl) rfl rfl ?_
          refine tr_nil ?_
          refine tr_thenN ?_
          refine tr_block ?_
          obtain ⟨m49, H⟩ := H
          refine tr_sub [(1, x1.enc), (5, (.pointer x5)), (7, (.pointer x7)), (9, (.int .i64 0))] ⟨rfl, rfl, rfl, rfl, trivial⟩ ?_
          refine tr_loop_j (fun m L' h => ∃ (x1 : Sl) (x5 : Option Addr) (x7 : Option Addr) (x9 : Int), L' = [(1, x1.enc), (5, (.pointer x5)), (7, (.pointer x7)), (9, (.int .i64 x9))] ∧ F.spatelaw9_EpochPlays.l2 Q m x1 x5 x7 x9 h) ?_ ?_ m49 ⟨_, _, _, _, rfl, H⟩
          · rintro L' h ⟨_, _, _, _, _, H⟩; exact H
          · rintro q2 L' h ⟨x1, x5, x7, x9, rfl, H⟩
            unfold F.spatelaw9_EpochPlays.l2 at H
            refine tr_seq ?_
            refine tr_seq ?_
            refine tr_region ?_
            refine tr_p (y_move rfl) rfl rfl ?_
            refine tr_p (y_move rfl) rfl rfl ?_
            refine tr_p (y_len (ts := #[]) Tryz.runUnderlying22 (o := x1.ptr) (n := x1.len) (cap := x1.cap) rfl) rfl rfl ?_
            refine tr_p (y_lss rfl rfl) rfl rfl ?_
            refine tr_nil ?_
            refine tr_thenN ?_
            refine tr_cond rfl (fun g12 => ?_) (fun g12 => ?_)
            · replace H := H.1 g12
              refine tr_skip ?_
              refine tr_thenN ?_
              refine tr_seq_j (fun L' h => ∃ (x1 : Sl) (x5 : Option Addr) (x7 : Option Addr) (x9 : Int), L' = [(1, x1.enc), (5, (.pointer x5)), (7, (.pointer x7)), (9, (.int .i64 x9))] ∧ F.spatelaw9_EpochPlays.j3 Q (F.spatelaw9_EpochPlays.l2 Q q2) x1 x5 x7 x9 h) ?_ ?_
              · rintro L' h ⟨x1, x5, x7, x9, rfl, H⟩
                unfold F.spatelaw9_EpochPlays.j3 at H
                refine tr_region ?_
                refine tr_p (y_move rfl) rfl rfl ?_
                refine tr_p (y_add rfl rfl) rfl rfl ?_
                refine tr_p (y_assign rfl) rfl rfl ?_
                refine tr_nil ?_
                refine tr_thenN ?_
                exact tr_join [(1, x1.enc), (5, (.pointer x5)), (7, (.pointer x7)), (9, (.int .i64 (IntKind.wrap .i64 (x9 + 1))))] ⟨rfl, rfl, rfl, rfl, trivial⟩ ⟨_, _, _, _, rfl, H⟩
              · refine tr_block ?_
                refine tr_seq_j (fun L' h => ∃ (x1 : Sl) (x5 : Option Addr) (x7 : Option Addr) (x9 : Int), L' = [(1, x1.enc), (5, (.pointer x5)), (7, (.pointer x7)), (9, (.int .i64 x9))] ∧ F.spatelaw9_EpochPlays.j4 Q (F.spatelaw9_EpochPlays.l2 Q q2) x1 x5 x7 x9 h) ?_ ?_
                · rintro L' h ⟨x1, x5, x7, x9, rfl, H⟩
                  unfold F.spatelaw9_EpochPlays.j4 at H
                  refine tr_seq_j (fun L' h => ∃ (x1 : Sl) (x5 : Option Addr) (x7 : Option Addr) (x9 : Int) (x68 : Bool), L' = [(1, x1.enc), (5, (.pointer x5)), (7, (.pointer x7)), (9, (.int .i64 x9)), (68, (.bool x68))] ∧ F.spatelaw9_EpochPlays.j5 Q (F.spatelaw9_EpochPlays.l2 Q q2) x1 x5 x7 x9 x68 h) ?_ ?_
                  · rintro L' h ⟨x1, x5, x7, x9, x68, rfl, H⟩
                    unfold F.spatelaw9_EpochPlays.j5 at H
                    refine tr_cond rfl (fun g13 => ?_) (fun g13 => ?_)
                    · replace H := H.1 g13
                      refine tr_seq ?_
                      refine tr_region ?_
                      refine tr_p (y_assign rfl) rfl rfl ?_
                      refine tr_nil ?_
                      refine tr_thenN ?_
                      refine tr_ret ?_
                      refine tr_blockR ?_
                      refine tr_thenR ?_
                      refine tr_thenR ?_
                      refine tr_blockR ?_
                      refine tr_thenR ?_
                      exact tr_ret1 rfl rfl ⟨_, rfl, H⟩
                    · replace H := H.2 g13
                      refine tr_skip ?_
                      refine tr_blockN ?_
                      refine tr_thenN ?_
                      exact tr_join [(1, x1.enc), (5, (.pointer x5)), (7, (.pointer x7)), (9, (.int .i64 x9))] ⟨rfl, rfl, rfl, rfl, trivial⟩ ⟨_, _, _, _, rfl, H⟩
                  · refine tr_region ?_
                    refine tr_p (y_move rfl) rfl rfl ?_
                    refine tr_p (y_move rfl) rfl rfl ?_
                    refine tr_p (y_move rfl) rfl rfl ?_
                    refine tr_p (y_move rfl) rfl rfl ?_
                    obtain ⟨a14, e15, H⟩ := H
                    refine tr_p (f_idx (s := x1) Tryz.runUnderlying22 Tryz.sizeOf32 rfl rfl e15) rfl rfl ?_
                    obtain ⟨y16, k17, H⟩ := H
                    refine tr_h (y_ldS Tryz.isAgg32 Tryz.sizeOf32 rfl rfl) k17 rfl rfl ?_
                    refine tr_e (e_call Tryz.call8 rfl (F.spatelaw9_told_ok H)) rfl rfl ?_
                    rintro _ h18 ⟨r19, rfl, H⟩
                    refine tr_p (y_not rfl) rfl rfl ?_
                    refine tr_p (y_move rfl) rfl rfl ?_
                    refine tr_split (t := 63) rfl (fun g20 => ?_) (fun g20 => ?_)
                    · replace H := H.1 g20
                      refine tr_s rfl rfl ?_
                      refine tr_s rfl rfl ?_
                      refine tr_s rfl rfl ?_
                      refine tr_s rfl rfl ?_
                      refine tr_p (y_pick_t rfl rfl) rfl rfl ?_
                      refine tr_nil ?_
                      refine tr_thenN ?_
                      exact tr_join [(1, x1.enc), (5, (.pointer x5)), (7, (.pointer x7)), (9, (.int .i64 x9)), (68, (.bool true))] ⟨rfl, rfl, rfl, rfl, rfl, trivial⟩ ⟨_, _, _, _, _, rfl, H⟩
                    · replace H := H.2 g20
                      refine tr_p (y_move rfl) rfl rfl ?_
                      refine tr_p (y_move rfl) rfl rfl ?_
                      refine tr_e (e_call Tryz.call9 rfl (F.spatelaw9_like_ok H)) rfl rfl ?_
                      rintro _ h21 ⟨r22, rfl, H⟩
                      refine tr_p (y_not rfl) rfl rfl ?_
                      refine tr_p (y_pick_f rfl rfl) rfl rfl ?_
                      refine tr_nil ?_
                      refine tr_thenN ?_
                      exact tr_join [(1, x1.enc), (5, (.pointer x5)), (7, (.pointer x7)), (9, (.int .i64 x9)), (68, (.bool (!r22)))] ⟨rfl, rfl, rfl, rfl, rfl, trivial⟩ ⟨_, _, _, _, _, rfl, H⟩
                · refine tr_seq ?_
                  refine tr_region ?_
                  refine tr_p (y_move rfl) rfl rfl ?_
                  refine tr_p (y_move rfl) rfl rfl ?_
                  obtain ⟨a23, e24, H⟩ := H
                  refine tr_p (f_idx (s := x1) Tryz.runUnderlying22 Tryz.sizeOf32 rfl rfl e24) rfl rfl ?_
                  refine tr_p (y_fa (off := 0) Tryz.runUnderlying32 fo_32_0 rfl) rfl rfl ?_
                  obtain ⟨y25, k26, H⟩ := H
                  refine tr_h (y_ld Tryz.isAgg3 rfl) k26 rfl rfl ?_
                  refine tr_p (y_eql rfl rfl) rfl rfl ?_
                  refine tr_nil ?_
                  refine tr_thenN ?_
                  refine tr_cond rfl (fun g27 => ?_) (fun g27 => ?_)
                  · replace H := H.1 g27
                    refine tr_seq ?_
                    refine tr_region ?_
                    refine tr_p (y_move rfl) rfl rfl ?_
                    refine tr_e (e_call Tryz.call7 rfl (F.epoch_Book_Twin_ok H)) rfl rfl ?_
                    rintro _ h28 ⟨r29, rfl, H⟩
                    refine tr_p (y_assign rfl) rfl rfl ?_
                    refine tr_nil ?_
                    refine tr_thenN ?_
                    refine tr_seq ?_
                    refine tr_region ?_
                    refine tr_p (y_move rfl) rfl rfl ?_
                    refine tr_p (y_pnil_eql Tryz.runUnderlying24 rfl rfl) rfl rfl ?_
                    refine tr_nil ?_
                    refine tr_thenN ?_
                    refine tr_cond rfl (fun g30 => ?_) (fun g30 => ?_)
                    · replace H := H.1 g30
                      refine tr_seq ?_
                      refine tr_region ?_
                      refine tr_p (y_assign rfl) rfl rfl ?_
                      refine tr_nil ?_
                      refine tr_thenN ?_
                      refine tr_ret ?_
                      refine tr_thenR ?_
                      refine tr_blockR ?_
                      refine tr_thenR ?_
                      refine tr_thenR ?_
                      refine tr_blockR ?_
                      refine tr_thenR ?_
                      exact tr_ret1 rfl rfl ⟨_, rfl, H⟩
                    · replace H := H.2 g30
                      refine tr_skip ?_
                      refine tr_thenN ?_
                      exact tr_join [(1, x1.enc), (5, (.pointer r29)), (7, (.pointer x7)), (9, (.int .i64 x9))] ⟨rfl, rfl, rfl, rfl, trivial⟩ ⟨_, _, _, _, rfl, H⟩
                  · replace H := H.2 g27
                    refine tr_skip ?_
                    refine tr_thenN ?_
                    exact tr_join [(1, x1.enc), (5, (.pointer x5)), (7, (.pointer x7)), (9, (.int .i64 x9))] ⟨rfl, rfl, rfl, rfl, trivial⟩ ⟨_, _, _, _, rfl, H⟩
            · replace H := H.2 g12
              refine tr_exit ?_
              refine tr_thenE ?_
              refine tr_thenE ?_
              refine tr_hit ?_
              refine tr_thenN ?_
              refine tr_seq ?_
              refine tr_seq ?_
              refine tr_region ?_
              refine tr_p (y_assign rfl) rfl rfl ?_
              refine tr_nil ?_
              refine tr_thenN ?_
              refine tr_block ?_
              obtain ⟨m48, H⟩ := H
              refine tr_sub [(5, (.pointer x5)), (7, (.pointer x7)), (10, (.int .i64 (-1)))] ⟨rfl, rfl, rfl, trivial⟩ ?_
              refine tr_loop_j (fun m L' h => ∃ (x5 : Option Addr) (x7 : Option Addr) (x10 : Int), L' = [(5, (.pointer x5)), (7, (.pointer x7)), (10, (.int .i64 x10))] ∧ F.spatelaw9_EpochPlays.l6 Q m x5 x7 x10 h) ?_ ?_ m48 ⟨_, _, _, rfl, H⟩
              · rintro L' h ⟨_, _, _, _, H⟩; exact H
              · rintro q6 L' h ⟨x5, x7, x10, rfl, H⟩
                unfold F.spatelaw9_EpochPlays.l6 at H
                refine tr_seq ?_
                refine tr_seq ?_
                refine tr_region ?_
                refine tr_p (y_move rfl) rfl rfl ?_
                refine tr_p (y_leq rfl rfl) rfl rfl ?_
                refine tr_nil ?_
                refine tr_thenN ?_
                refine tr_cond rfl (fun g31 => ?_) (fun g31 => ?_)
                · replace H := H.1 g31
                  refine tr_skip ?_
                  refine tr_thenN ?_
                  refine tr_seq ?_
                  refine tr_block ?_
                  refine tr_seq ?_
                  refine tr_region ?_
                  refine tr_p (y_assign rfl) rfl rfl ?_
                  refine tr_nil ?_
                  refine tr_thenN ?_
                  refine tr_block ?_
                  obtain ⟨m47, H⟩ := H
                  refine tr_sub [(5, (.pointer x5)), (7, (.pointer x7)), (10, (.int .i64 x10)), (11, (.int .i64 0))] ⟨rfl, rfl, rfl, rfl, trivial⟩ ?_
                  refine tr_loop_j (fun m L' h => ∃ (x5 : Option Addr) (x7 : Option Addr) (x10 : Int) (x11 : Int), L' = [(5, (.pointer x5)), (7, (.pointer x7)), (10, (.int .i64 x10)), (11, (.int .i64 x11))] ∧ F.spatelaw9_EpochPlays.l7 Q (F.spatelaw9_EpochPlays.l6 Q q6) m x5 x7 x10 x11 h) ?_ ?_ m47 ⟨_, _, _, _, rfl, H⟩
                  · rintro L' h ⟨_, _, _, _, _, H⟩; exact H
                  · rintro q7 L' h ⟨x5, x7, x10, x11, rfl, H⟩
                    unfold F.spatelaw9_EpochPlays.l7 at H
                    refine tr_seq ?_
                    refine tr_seq ?_
                    refine tr_region ?_
                    refine tr_p (y_move rfl) rfl rfl ?_
                    refine tr_p (y_leq rfl rfl) rfl rfl ?_
                    refine tr_nil ?_
                    refine tr_thenN ?_
                    refine tr_cond rfl (fun g32 => ?_) (fun g32 => ?_)
                    · replace H := H.1 g32
                      refine tr_skip ?_
                      refine tr_thenN ?_
                      refine tr_seq ?_
                      refine tr_block ?_
                      refine tr_seq ?_
                      refine tr_draw mixed [0, 0, 0, 4, 12, 28, 0, 124, 255, 0, 0, 0, 2048, 6144, 14336, 0, 63488, 131071, 262143] (by kernel_rfl) ?_
                      refine g_p 0 1 rfl (by kernel_rfl) (y_move rfl) rfl rfl ?_
                      refine g_p 1 3 rfl (by kernel_rfl) (y_move rfl) rfl rfl ?_
                      refine g_p 2 7 rfl (by kernel_rfl) (y_move rfl) rfl rfl ?_
                      obtain ⟨a33, e34, H⟩ := H
                      refine g_p 3 15 rfl (by kernel_rfl) (f_nn rfl e34) rfl rfl ?_
                      refine g_p 4 31 rfl (by kernel_rfl) (y_fa (off := 1) Tryz.runUnderlying40 fo_40_1 rfl) rfl rfl ?_
                      obtain ⟨y35, k36, H⟩ := H
                      refine g_h 5 63 rfl (by kernel_rfl) (y_ld Tryz.isAgg3 rfl) k36 rfl rfl ?_
                      refine g_p 6 127 rfl (by kernel_rfl) (y_move rfl) rfl rfl ?_
                      refine g_p 7 255 rfl (by kernel_rfl) (y_sub rfl rfl) rfl rfl ?_
                      refine g_p 9 767 rfl (by kernel_rfl) (y_move rfl) rfl rfl ?_
                      refine g_p 10 1791 rfl (by kernel_rfl) (y_move rfl) rfl rfl ?_
                      refine g_p 11 3839 rfl (by kernel_rfl) (y_move rfl) rfl rfl ?_
                      obtain ⟨a37, e38, H⟩ := H
                      refine g_p 12 7935 rfl (by kernel_rfl) (f_nn rfl e38) rfl rfl ?_
                      refine g_p 13 16127 rfl (by kernel_rfl) (y_fa (off := 1) Tryz.runUnderlying40 fo_40_1 rfl) rfl rfl ?_
                      obtain ⟨y39, k40, H⟩ := H
                      refine g_h 14 32511 rfl (by kernel_rfl) (y_ld Tryz.isAgg3 rfl) k40 rfl rfl ?_
                      refine g_p 15 65279 rfl (by kernel_rfl) (y_move rfl) rfl rfl ?_
                      refine g_p 16 130815 rfl (by kernel_rfl) (y_sub rfl rfl) rfl rfl ?_
                      refine g_e 8 131071 [(14, fun h => cellH h (a37.add 1) = some (.int .i64 y39))] (by kernel_rfl) rfl (by kernel_rfl) (e_call Tryz.call10 rfl (F.epoch_Book_Holds_ok H)) rfl rfl ?_
                      rintro _ h41 ⟨r42, rfl, H⟩
                      obtain ⟨k43, H⟩ := H
                      refine ⟨And.intro k43 trivial, ?_⟩
                      refine g_e 17 262143 [] (by kernel_rfl) rfl (by kernel_rfl) (e_call Tryz.call11 rfl (F.spateref9_Book_Holds_ok H)) rfl rfl ?_
                      rintro _ h44 ⟨r45, rfl, H⟩
                      refine ⟨trivial, ?_⟩
                      refine g_p 18 524287 rfl (by kernel_rfl) (y_bneq Tryz.underlying4 rfl rfl) rfl rfl ?_
                      refine g_d (by kernel_rfl) ?_
                      refine tr_thenN ?_
                      refine tr_cond rfl (fun g46 => ?_) (fun g46 => ?_)
                      · replace H := H.1 g46
                        refine tr_seq ?_
                        refine tr_region ?_
                        refine tr_p (y_assign rfl) rfl rfl ?_
                        refine tr_nil ?_
                        refine tr_thenN ?_
                        refine tr_ret ?_
                        refine tr_blockR ?_
                        refine tr_thenR ?_
                        refine tr_thenR ?_
                        refine tr_blockR ?_
                        refine tr_blockR ?_
                        refine tr_thenR ?_
                        refine tr_thenR ?_
                        refine tr_blockR ?_
                        refine tr_thenR ?_
                        exact tr_ret1 rfl rfl ⟨_, rfl, H⟩
                      · replace H := H.2 g46
                        refine tr_skip ?_
                        refine tr_blockN ?_
                        refine tr_thenN ?_
                        refine tr_region ?_
                        refine tr_p (y_move rfl) rfl rfl ?_
                        refine tr_p (y_add rfl rfl) rfl rfl ?_
                        refine tr_p (y_assign rfl) rfl rfl ?_
                        refine tr_nil ?_
                        refine tr_thenN ?_
                        exact tr_join [(5, (.pointer x5)), (7, (.pointer x7)), (10, (.int .i64 x10)), (11, (.int .i64 (IntKind.wrap .i64 (x11 + 1))))] ⟨rfl, rfl, rfl, rfl, trivial⟩ ⟨_, _, _, _, rfl, H⟩
                    · replace H := H.2 g32
                      refine tr_exit ?_
                      refine tr_thenE ?_
                      refine tr_thenE ?_
                      refine tr_hit ?_
                      refine tr_blockN ?_
                      refine tr_thenN ?_
                      refine tr_region ?_
                      refine tr_p (y_move rfl) rfl rfl ?_
                      refine tr_p (y_add rfl rfl) rfl rfl ?_
                      refine tr_p (y_assign rfl) rfl rfl ?_
                      refine tr_nil ?_
                      refine tr_thenN ?_
                      exact tr_join [(5, (.pointer x5)), (7, (.pointer x7)), (10, (.int .i64 (IntKind.wrap .i64 (x10 + 1))))] ⟨rfl, rfl, rfl, trivial⟩ ⟨_, _, _, rfl, H⟩
                · replace H := H.2 g31
                  refine tr_exit ?_
                  refine tr_thenE ?_
                  refine tr_thenE ?_
                  refine tr_hit ?_
                  refine tr_thenN ?_
                  refine tr_seq ?_
                  refine tr_region ?_
                  refine tr_p (y_assign rfl) rfl rfl ?_
                  refine tr_nil ?_
                  refine tr_thenN ?_
                  refine tr_ret ?_
                  exact tr_ret1 rfl rfl ⟨_, rfl, H⟩
      · refine tr_seq_j (fun L' h => ∃ (x1 : Sl) (x5 : Option Addr) (x7 : Option Addr) (x36 : Bool), L' = [(1, x1.enc), (5, (.pointer x5)), (7, (.pointer x7)), (36, (.bool x36))] ∧ F.spatelaw9_EpochPlays.j8 Q x1 x5 x7 x36 h) ?_ ?_
        · rintro L' h ⟨x1, x5, x7, x36, rfl, H⟩
          unfold F.spatelaw9_EpochPlays.j8 at H
          refine tr_cond rfl (fun g50 => ?_) (fun g50 => ?_)
          · replace H := H.1 g50
            refine tr_seq ?_
            refine tr_region ?_
            refine tr_p (y_assign rfl) rfl rfl ?_
            refine tr_nil ?_
            refine tr_thenN ?_
            refine tr_ret ?_
            refine tr_thenR ?_
            exact tr_ret1 rfl rfl ⟨_, rfl, H⟩
          · replace H := H.2 g50
            refine tr_skip ?_
            refine tr_thenN ?_
            exact tr_join [(1, x1.enc), (5, (.pointer x5)), (7, (.pointer x7))] ⟨rfl, rfl, rfl, trivial⟩ ⟨_, _, _, rfl, H⟩
        · refine tr_region ?_
          refine tr_p (y_move rfl) rfl rfl ?_
          refine tr_p (y_move rfl) rfl rfl ?_
          refine tr_p (y_neq rfl rfl) rfl rfl ?_
          refine tr_p (y_move rfl) rfl rfl ?_
          refine tr_split (t := 30) rfl (fun g51 => ?_) (fun g51 => ?_)
          · replace H := H.1 g51
            refine tr_s rfl rfl ?_
            refine tr_s rfl rfl ?_
            refine tr_s rfl rfl ?_
            refine tr_s rfl rfl ?_
            refine tr_s rfl rfl ?_
            refine tr_p (y_pick_t rfl rfl) rfl rfl ?_
            refine tr_nil ?_
            refine tr_thenN ?_
            exact tr_join [(1, p1.enc), (5, (.pointer r6)), (7, (.pointer r9)), (36, (.bool true))] ⟨rfl, rfl, rfl, rfl, trivial⟩ ⟨_, _, _, _, rfl, H⟩
          · replace H := H.2 g51
            refine tr_p (y_move rfl) rfl rfl ?_
            refine tr_p (y_pnil_eql Tryz.runUnderlying24 rfl rfl) rfl rfl ?_
            refine tr_p (y_move rfl) rfl rfl ?_
            refine tr_p (y_pnil_eql Tryz.runUnderlying28 rfl rfl) rfl rfl ?_
            refine tr_p (y_bneq Tryz.underlying4 rfl rfl) rfl rfl ?_
            refine tr_p (y_pick_f rfl rfl) rfl rfl ?_
            refine tr_nil ?_
            refine tr_thenN ?_
            exact tr_join [(1, p1.enc), (5, (.pointer r6)), (7, (.pointer r9)), (36, (.bool (!(r6.isNone == r9.isNone))))] ⟨rfl, rfl, rfl, rfl, trivial⟩ ⟨_, _, _, _, rfl, H⟩

end Go.Proofs.YtgcmojbajjajgaaGreat.V
