/- Printed by a program of this session (gen.py): Go functions as Lean functions over the heap, and that the Go code does what they say; no condition. -/
import Derived.Test.YtapomjhjpejimaaGlh
namespace Go.Proofs.Ytapomjhjpejimaa.V
open Go
set_option linter.unusedVariables false
set_option maxRecDepth 100000
/-- spate/chain.New[int] -/
def F.chain_New_int  (h : H) (Q : (Option Addr) → H → Prop) : Prop :=
  new h ((⟨(⟨none, 0, 0⟩ : Sl)⟩ : S_chain_Chain_int).cells.toArray) ty_74 fun a2 h1 =>
  Q (some a2) h1
theorem F.chain_New_int_ok  {h : H} {Q : (Option Addr) → H → Prop} (H : F.chain_New_int  h Q) : Fn PP 29 ([] : List Value).toArray h fun r h' => ∃ r0, r = (.pointer r0) ∧ Q r0 h' := by
  unfold F.chain_New_int at H
  refine fn_of Try.func29 Try.ntmps29 rfl rfl fun w0 => ?_
  refine tr_sub [] trivial ?_
  refine tr_seq ?_
  refine tr_region ?_
  refine tr_p (y_assign rfl) rfl rfl ?_
  refine tr_nil ?_
  refine tr_thenN ?_
  refine tr_seq ?_
  refine tr_region ?_
  refine tr_p (f_build rfl (bd_74_ )) rfl rfl ?_
  refine tr_e (f_box (cs := (⟨(⟨none, 0, 0⟩ : Sl)⟩ : S_chain_Chain_int).cells.toArray) rfl rfl H) rfl rfl ?_
  rintro _ h1 ⟨a2, rfl, H⟩
  refine tr_p (y_assign rfl) rfl rfl ?_
  refine tr_nil ?_
  refine tr_thenN ?_
  refine tr_ret ?_
  exact tr_ret1 rfl rfl ⟨_, rfl, H⟩

def F.chain_Chain_int_may.j2 (Q : Int → H → Prop) (x12 : Bool) (h : H) : Prop :=
  (x12 = true →
  Q 32 h) ∧
  (x12 = false →
  Q 0 h)
def F.chain_Chain_int_may.j1 (Q : Int → H → Prop) (x0 : Option Addr) (x1 : Int) (x5 : Bool) (h : H) : Prop :=
  (x5 = true →
  Q 1 h) ∧
  (x5 = false →
  nn x0 fun a3 =>
  ldL h (a3.add 0) fun y5 =>
  ((decide ((y5.len : Int) > 0)) = true →
  nn x0 fun a8 =>
  ldL h (a8.add 0) fun y10 =>
  nn x0 fun a12 =>
  ldL h (a12.add 0) fun y14 =>
  idxA y10 (IntKind.wrap .i64 ((y14.len : Int) - 1)) 3 fun a16 =>
  ldI .i64 h (a16.add 0) fun y18 =>
  F.chain_Chain_int_may.j2 Q (decide (x1 < y18)) h) ∧
  ((decide ((y5.len : Int) > 0)) = false →
  F.chain_Chain_int_may.j2 Q false h))
/-- (*spate/chain.Chain[int]).may -/
def F.chain_Chain_int_may (p0 : Option Addr) (p1 : Int) (h : H) (Q : Int → H → Prop) : Prop :=
  ((decide (p1 < 1)) = true →
  F.chain_Chain_int_may.j1 Q p0 p1 true h) ∧
  ((decide (p1 < 1)) = false →
  F.chain_Chain_int_may.j1 Q p0 p1 (decide (p1 > 1099511627776)) h)
theorem F.chain_Chain_int_may_ok {p0 : Option Addr} {p1 : Int} {h : H} {Q : Int → H → Prop} (H : F.chain_Chain_int_may p0 p1 h Q) : Fn PP 40 ([(.pointer p0), (.int .i64 p1)] : List Value).toArray h fun r h' => ∃ r0, r = (.int .i64 r0) ∧ Q r0 h' := by
  unfold F.chain_Chain_int_may at H
  refine fn_of Try.func40 Try.ntmps40 rfl rfl fun w0 => ?_
  refine tr_sub [(0, (.pointer p0)), (1, (.int .i64 p1))] ⟨rfl, rfl, trivial⟩ ?_
  refine tr_seq ?_
  refine tr_region ?_
  refine tr_p (y_assign rfl) rfl rfl ?_
  refine tr_nil ?_
  refine tr_thenN ?_
  refine tr_seq ?_
  refine tr_block ?_
  refine tr_seq_j (fun L' h => ∃ (x0 : Option Addr) (x1 : Int) (x5 : Bool), L' = [(0, (.pointer x0)), (1, (.int .i64 x1)), (5, (.bool x5))] ∧ F.chain_Chain_int_may.j1 Q x0 x1 x5 h) ?_ ?_
  · rintro L' h ⟨x0, x1, x5, rfl, H⟩
    unfold F.chain_Chain_int_may.j1 at H
    refine tr_cond rfl (fun g1 => ?_) (fun g1 => ?_)
    · replace H := H.1 g1
      refine tr_seq ?_
      refine tr_region ?_
      refine tr_p (y_assign rfl) rfl rfl ?_
      refine tr_nil ?_
      refine tr_thenN ?_
      refine tr_ret ?_
      refine tr_blockR ?_
      refine tr_thenR ?_
      exact tr_ret1 rfl rfl ⟨_, rfl, H⟩
    · replace H := H.2 g1
      refine tr_seq_j (fun L' h => ∃ (x12 : Bool), L' = [(12, (.bool x12))] ∧ F.chain_Chain_int_may.j2 Q x12 h) ?_ ?_
      · rintro L' h ⟨x12, rfl, H⟩
        unfold F.chain_Chain_int_may.j2 at H
        refine tr_cond rfl (fun g2 => ?_) (fun g2 => ?_)
        · replace H := H.1 g2
          refine tr_seq ?_
          refine tr_region ?_
          refine tr_p (y_assign rfl) rfl rfl ?_
          refine tr_nil ?_
          refine tr_thenN ?_
          refine tr_ret ?_
          refine tr_blockR ?_
          refine tr_thenR ?_
          exact tr_ret1 rfl rfl ⟨_, rfl, H⟩
        · replace H := H.2 g2
          refine tr_skip ?_
          refine tr_blockN ?_
          refine tr_thenN ?_
          refine tr_seq ?_
          refine tr_region ?_
          refine tr_p (y_assign rfl) rfl rfl ?_
          refine tr_nil ?_
          refine tr_thenN ?_
          refine tr_ret ?_
          exact tr_ret1 rfl rfl ⟨_, rfl, H⟩
      · refine tr_draw mixed [0, 1, 3, 7, 15, 31, 63, 127, 127, 383, 895, 1919, 127, 4223, 12415, 28799, 61567, 127103, 262015, 524159, 1048447, 2097151, 4194303, 8388607] (by kernel_rfl) ?_
        refine g_p 0 1 rfl (by kernel_rfl) (y_move rfl) rfl rfl ?_
        obtain ⟨a3, e4, H⟩ := H
        refine g_p 1 3 rfl (by kernel_rfl) (f_nn rfl e4) rfl rfl ?_
        refine g_p 2 7 rfl (by kernel_rfl) (y_fa (off := 0) Try.runUnderlying74 fo_74_0 rfl) rfl rfl ?_
        obtain ⟨y5, k6, H⟩ := H
        refine g_h 3 15 rfl (by kernel_rfl) (y_ld Try.isAgg72 rfl) k6 rfl rfl ?_
        refine g_p 4 31 rfl (by kernel_rfl) (y_len (ts := #[]) Try.runUnderlying72 (o := y5.ptr) (n := y5.len) (cap := y5.cap) rfl) rfl rfl ?_
        refine g_p 5 63 rfl (by kernel_rfl) (y_gtr rfl rfl) rfl rfl ?_
        refine g_p 6 127 rfl (by kernel_rfl) (y_move rfl) rfl rfl ?_
        refine g_split (t := 19) rfl (fun g7 => ?_) (fun g7 => ?_)
        · replace H := H.1 g7
          refine g_p 7 255 rfl (by kernel_rfl) (y_move rfl) rfl rfl ?_
          refine g_p 8 511 rfl (by kernel_rfl) (y_move rfl) rfl rfl ?_
          obtain ⟨a8, e9, H⟩ := H
          refine g_p 9 1023 rfl (by kernel_rfl) (f_nn rfl e9) rfl rfl ?_
          refine g_p 10 2047 rfl (by kernel_rfl) (y_fa (off := 0) Try.runUnderlying74 fo_74_0 rfl) rfl rfl ?_
          obtain ⟨y10, k11, H⟩ := H
          refine g_h 11 4095 rfl (by kernel_rfl) (y_ld Try.isAgg72 rfl) k11 rfl rfl ?_
          refine g_p 12 8191 rfl (by kernel_rfl) (y_move rfl) rfl rfl ?_
          obtain ⟨a12, e13, H⟩ := H
          refine g_p 13 16383 rfl (by kernel_rfl) (f_nn rfl e13) rfl rfl ?_
          refine g_p 14 32767 rfl (by kernel_rfl) (y_fa (off := 0) Try.runUnderlying74 fo_74_0 rfl) rfl rfl ?_
          obtain ⟨y14, k15, H⟩ := H
          refine g_h 15 65535 rfl (by kernel_rfl) (y_ld Try.isAgg72 rfl) k15 rfl rfl ?_
          refine g_p 16 131071 rfl (by kernel_rfl) (y_len (ts := #[]) Try.runUnderlying72 (o := y14.ptr) (n := y14.len) (cap := y14.cap) rfl) rfl rfl ?_
          refine g_p 17 262143 rfl (by kernel_rfl) (y_sub rfl rfl) rfl rfl ?_
          obtain ⟨a16, e17, H⟩ := H
          refine g_p 18 524287 rfl (by kernel_rfl) (f_idx (s := y10) Try.runUnderlying72 Try.sizeOf76 rfl rfl e17) rfl rfl ?_
          refine g_p 19 1048575 rfl (by kernel_rfl) (y_fa (off := 0) Try.runUnderlying76 fo_76_0 rfl) rfl rfl ?_
          obtain ⟨y18, k19, H⟩ := H
          refine g_h 20 2097151 rfl (by kernel_rfl) (y_ld Try.isAgg3 rfl) k19 rfl rfl ?_
          refine g_p 21 4194303 rfl (by kernel_rfl) (y_lss rfl rfl) rfl rfl ?_
          refine g_p 22 8388607 rfl (by kernel_rfl) (y_pick_t rfl rfl) rfl rfl ?_
          refine g_p 23 16777215 rfl (by kernel_rfl) (y_assign rfl) rfl rfl ?_
          refine g_d (by kernel_rfl) ?_
          refine tr_thenN ?_
          exact tr_join [(12, (.bool (decide (x1 < y18))))] ⟨rfl, trivial⟩ ⟨_, rfl, H⟩
        · replace H := H.2 g7
          refine g_s 7 255 rfl (by kernel_rfl) rfl rfl ?_
          refine g_s 8 511 rfl (by kernel_rfl) rfl rfl ?_
          refine g_s 9 1023 rfl (by kernel_rfl) rfl rfl ?_
          refine g_s 10 2047 rfl (by kernel_rfl) rfl rfl ?_
          refine g_s 11 4095 rfl (by kernel_rfl) rfl rfl ?_
          refine g_s 12 8191 rfl (by kernel_rfl) rfl rfl ?_
          refine g_s 13 16383 rfl (by kernel_rfl) rfl rfl ?_
          refine g_s 14 32767 rfl (by kernel_rfl) rfl rfl ?_
          refine g_s 15 65535 rfl (by kernel_rfl) rfl rfl ?_
          refine g_s 16 131071 rfl (by kernel_rfl) rfl rfl ?_
          refine g_s 17 262143 rfl (by kernel_rfl) rfl rfl ?_
          refine g_s 18 524287 rfl (by kernel_rfl) rfl rfl ?_
          refine g_s 19 1048575 rfl (by kernel_rfl) rfl rfl ?_
          refine g_s 20 2097151 rfl (by kernel_rfl) rfl rfl ?_
          refine g_s 21 4194303 rfl (by kernel_rfl) rfl rfl ?_
          refine g_p 22 8388607 rfl (by kernel_rfl) (y_pick_f rfl rfl) rfl rfl ?_
          refine g_p 23 16777215 rfl (by kernel_rfl) (y_assign rfl) rfl rfl ?_
          refine g_d (by kernel_rfl) ?_
          refine tr_thenN ?_
          exact tr_join [(12, (.bool false))] ⟨rfl, trivial⟩ ⟨_, rfl, H⟩
  · refine tr_region ?_
    refine tr_p (y_move rfl) rfl rfl ?_
    refine tr_p (y_lss rfl rfl) rfl rfl ?_
    refine tr_p (y_move rfl) rfl rfl ?_
    refine tr_split (t := 8) rfl (fun g20 => ?_) (fun g20 => ?_)
    · replace H := H.1 g20
      refine tr_s rfl rfl ?_
      refine tr_s rfl rfl ?_
      refine tr_p (y_pick_t rfl rfl) rfl rfl ?_
      refine tr_p (y_assign rfl) rfl rfl ?_
      refine tr_nil ?_
      refine tr_thenN ?_
      exact tr_join [(0, (.pointer p0)), (1, (.int .i64 p1)), (5, (.bool true))] ⟨rfl, rfl, rfl, trivial⟩ ⟨_, _, _, rfl, H⟩
    · replace H := H.2 g20
      refine tr_p (y_move rfl) rfl rfl ?_
      refine tr_p (y_gtr rfl rfl) rfl rfl ?_
      refine tr_p (y_pick_f rfl rfl) rfl rfl ?_
      refine tr_p (y_assign rfl) rfl rfl ?_
      refine tr_nil ?_
      refine tr_thenN ?_
      exact tr_join [(0, (.pointer p0)), (1, (.int .i64 p1)), (5, (.bool (decide (p1 > 1099511627776))))] ⟨rfl, rfl, rfl, trivial⟩ ⟨_, _, _, rfl, H⟩

def F.chain_Chain_int_lay.j1 (Q : Int → H → Prop) (x0 : Option Addr) (x3 : Addr) (h : H) : Prop :=
  nn x0 fun a3 =>
  ldL h (a3.add 0) fun y5 =>
  ld_S_chain_version_int h x3 fun y7 =>
  newL h ((y7.cells).toArray) ty_76 1 fun s10 h9 =>
  cellH h9 (a3.add 0) = some y5.enc ∧
  runL PP (Builtin.append_ #[72, 72] 72 #[y5.enc, s10.enc]) h9 fun s13 h12 =>
  nn x0 fun a14 =>
  stH h12 (a14.add 0) [s13.enc] fun h16 =>
  Q 1 h16
def F.chain_Chain_int_lay.j2 (Q : Int → H → Prop) (x0 : Option Addr) (x3 : Addr) (x5 : Int) (x26 : Bool) (h : H) : Prop :=
  (x26 = true →
  nn x0 fun a22 =>
  ldL h (a22.add 0) fun y24 =>
  ld_S_chain_version_int h x3 fun y26 =>
  idxA y24 (IntKind.wrap .i64 (x5 - 1)) 3 fun a28 =>
  stH h a28 y26.cells fun h30 =>
  Q 0 h30) ∧
  (x26 = false →
  F.chain_Chain_int_lay.j1 Q x0 x3 h)
/-- (*spate/chain.Chain[int]).lay -/
def F.chain_Chain_int_lay (p0 : Option Addr) (p1 : S_chain_version_int) (h : H) (Q : Int → H → Prop) : Prop :=
  new h p1.cells.toArray ty_76 fun a2 h1 =>
  nn p0 fun a17 =>
  ldL h1 (a17.add 0) fun y19 =>
  ((decide ((y19.len : Int) > 0)) = true →
  nn p0 fun a32 =>
  ldL h1 (a32.add 0) fun y34 =>
  idxA y34 (IntKind.wrap .i64 ((y19.len : Int) - 1)) 3 fun a36 =>
  ldI .i64 h1 (a36.add 0) fun y38 =>
  ldI .i64 h1 (a2.add 0) fun y40 =>
  F.chain_Chain_int_lay.j2 Q p0 a2 (y19.len : Int) ((y38 == y40)) h1) ∧
  ((decide ((y19.len : Int) > 0)) = false →
  F.chain_Chain_int_lay.j2 Q p0 a2 (y19.len : Int) false h1)
theorem F.chain_Chain_int_lay_ok {p0 : Option Addr} {p1 : S_chain_version_int} {h : H} {Q : Int → H → Prop} (H : F.chain_Chain_int_lay p0 p1 h Q) : Fn PP 41 ([(.pointer p0), (.agg p1.cells.toArray)] : List Value).toArray h fun r h' => ∃ r0, r = (.int .i64 r0) ∧ Q r0 h' := by
  unfold F.chain_Chain_int_lay at H
  refine fn_of Try.func41 Try.ntmps41 rfl rfl fun w0 => ?_
  refine tr_sub [(0, (.pointer p0)), (1, (.agg p1.cells.toArray))] ⟨rfl, rfl, trivial⟩ ?_
  refine tr_seq ?_
  refine tr_region ?_
  refine tr_e (f_box (cs := p1.cells.toArray) rfl rfl H) rfl rfl ?_
  rintro _ h1 ⟨a2, rfl, H⟩
  refine tr_p (y_assign rfl) rfl rfl ?_
  refine tr_nil ?_
  refine tr_thenN ?_
  refine tr_seq_j (fun L' h => ∃ (x0 : Option Addr) (x3 : Addr), L' = [(0, (.pointer x0)), (3, (.pointer (some x3)))] ∧ F.chain_Chain_int_lay.j1 Q x0 x3 h) ?_ ?_
  · rintro L' h ⟨x0, x3, rfl, H⟩
    unfold F.chain_Chain_int_lay.j1 at H
    refine tr_seq ?_
    refine tr_draw mixed [0, 0, 2, 6, 14, 0, 32, 126, 255, 511, 1023] (by kernel_rfl) ?_
    refine g_p 0 1 rfl (by kernel_rfl) (y_move rfl) rfl rfl ?_
    refine g_p 1 3 rfl (by kernel_rfl) (y_move rfl) rfl rfl ?_
    obtain ⟨a3, e4, H⟩ := H
    refine g_p 2 7 rfl (by kernel_rfl) (f_nn rfl e4) rfl rfl ?_
    refine g_p 3 15 rfl (by kernel_rfl) (y_fa (off := 0) Try.runUnderlying74 fo_74_0 rfl) rfl rfl ?_
    obtain ⟨y5, k6, H⟩ := H
    refine g_h 4 31 rfl (by kernel_rfl) (y_ld Try.isAgg72 rfl) k6 rfl rfl ?_
    obtain ⟨y7, k8, H⟩ := H
    refine g_h 5 63 rfl (by kernel_rfl) (y_ldS Try.isAgg76 Try.sizeOf76 rfl rfl) k8 rfl rfl ?_
    refine g_e 6 127 [(4, fun h => cellH h (a3.add 0) = some y5.enc)] (by kernel_rfl) rfl (by kernel_rfl) (f_buildL (cs := (y7.cells).toArray) rfl rfl (bl_72_1_0 y7) H) rfl rfl ?_
    rintro _ h9 ⟨s10, rfl, H⟩
    obtain ⟨k11, H⟩ := H
    refine ⟨And.intro k11 trivial, ?_⟩
    refine g_e 7 255 [] (by kernel_rfl) rfl (by kernel_rfl) (f_app rfl H) rfl rfl ?_
    rintro _ h12 ⟨s13, rfl, H⟩
    refine ⟨trivial, ?_⟩
    obtain ⟨a14, e15, H⟩ := H
    refine g_p 8 511 rfl (by kernel_rfl) (f_nn rfl e15) rfl rfl ?_
    refine g_p 9 1023 rfl (by kernel_rfl) (y_fa (off := 0) Try.runUnderlying74 fo_74_0 rfl) rfl rfl ?_
    refine g_e 10 2047 [] (by kernel_rfl) rfl (by kernel_rfl) (f_store (vs := [s13.enc]) Try.sizeOf72 rfl rfl rfl rfl (one1 rfl) H) rfl rfl ?_
    rintro _ h16 ⟨rfl, H⟩
    refine ⟨trivial, ?_⟩
    refine g_d (by kernel_rfl) ?_
    refine tr_thenN ?_
    refine tr_seq ?_
    refine tr_region ?_
    refine tr_p (y_assign rfl) rfl rfl ?_
    refine tr_nil ?_
    refine tr_thenN ?_
    refine tr_ret ?_
    exact tr_ret1 rfl rfl ⟨_, rfl, H⟩
  · refine tr_seq ?_
    refine tr_region ?_
    refine tr_p (y_move rfl) rfl rfl ?_
    obtain ⟨a17, e18, H⟩ := H
    refine tr_p (f_nn rfl e18) rfl rfl ?_
    refine tr_p (y_fa (off := 0) Try.runUnderlying74 fo_74_0 rfl) rfl rfl ?_
    obtain ⟨y19, k20, H⟩ := H
    refine tr_h (y_ld Try.isAgg72 rfl) k20 rfl rfl ?_
    refine tr_p (y_len (ts := #[]) Try.runUnderlying72 (o := y19.ptr) (n := y19.len) (cap := y19.cap) rfl) rfl rfl ?_
    refine tr_p (y_assign rfl) rfl rfl ?_
    refine tr_nil ?_
    refine tr_thenN ?_
    refine tr_seq_j (fun L' h => ∃ (x0 : Option Addr) (x3 : Addr) (x5 : Int) (x26 : Bool), L' = [(0, (.pointer x0)), (3, (.pointer (some x3))), (5, (.int .i64 x5)), (26, (.bool x26))] ∧ F.chain_Chain_int_lay.j2 Q x0 x3 x5 x26 h) ?_ ?_
    · rintro L' h ⟨x0, x3, x5, x26, rfl, H⟩
      unfold F.chain_Chain_int_lay.j2 at H
      refine tr_cond rfl (fun g21 => ?_) (fun g21 => ?_)
      · replace H := H.1 g21
        refine tr_seq ?_
        refine tr_draw mixed [0, 1, 3, 7, 0, 16, 0, 127, 255] (by kernel_rfl) ?_
        refine g_p 0 1 rfl (by kernel_rfl) (y_move rfl) rfl rfl ?_
        obtain ⟨a22, e23, H⟩ := H
        refine g_p 1 3 rfl (by kernel_rfl) (f_nn rfl e23) rfl rfl ?_
        refine g_p 2 7 rfl (by kernel_rfl) (y_fa (off := 0) Try.runUnderlying74 fo_74_0 rfl) rfl rfl ?_
        obtain ⟨y24, k25, H⟩ := H
        refine g_h 3 15 rfl (by kernel_rfl) (y_ld Try.isAgg72 rfl) k25 rfl rfl ?_
        refine g_p 4 31 rfl (by kernel_rfl) (y_move rfl) rfl rfl ?_
        refine g_p 5 63 rfl (by kernel_rfl) (y_sub rfl rfl) rfl rfl ?_
        obtain ⟨y26, k27, H⟩ := H
        refine g_h 6 127 rfl (by kernel_rfl) (y_ldS Try.isAgg76 Try.sizeOf76 rfl rfl) k27 rfl rfl ?_
        obtain ⟨a28, e29, H⟩ := H
        refine g_p 7 255 rfl (by kernel_rfl) (f_idx (s := y24) Try.runUnderlying72 Try.sizeOf76 rfl rfl e29) rfl rfl ?_
        refine g_e 8 511 [] (by kernel_rfl) rfl (by kernel_rfl) (f_store (vs := y26.cells) Try.sizeOf76 rfl rfl cellsOfStruct rfl (by intro v hv; exact ones_S_chain_version_int _ v hv) H) rfl rfl ?_
        rintro _ h30 ⟨rfl, H⟩
        refine ⟨trivial, ?_⟩
        refine g_d (by kernel_rfl) ?_
        refine tr_thenN ?_
        refine tr_seq ?_
        refine tr_region ?_
        refine tr_p (y_assign rfl) rfl rfl ?_
        refine tr_nil ?_
        refine tr_thenN ?_
        refine tr_ret ?_
        refine tr_thenR ?_
        exact tr_ret1 rfl rfl ⟨_, rfl, H⟩
      · replace H := H.2 g21
        refine tr_skip ?_
        refine tr_thenN ?_
        exact tr_join [(0, (.pointer x0)), (3, (.pointer (some x3)))] ⟨rfl, rfl, trivial⟩ ⟨_, _, rfl, H⟩
    · refine tr_draw mixed [0, 1, 3, 7, 15, 31, 63, 7, 135, 511, 1023, 2047, 7, 4103, 16383, 32767] (by kernel_rfl) ?_
      refine g_p 0 1 rfl (by kernel_rfl) (y_move rfl) rfl rfl ?_
      refine g_p 1 3 rfl (by kernel_rfl) (y_gtr rfl rfl) rfl rfl ?_
      refine g_p 2 7 rfl (by kernel_rfl) (y_move rfl) rfl rfl ?_
      refine g_split (t := 13) rfl (fun g31 => ?_) (fun g31 => ?_)
      · replace H := H.1 g31
        refine g_p 3 15 rfl (by kernel_rfl) (y_move rfl) rfl rfl ?_
        obtain ⟨a32, e33, H⟩ := H
        refine g_p 4 31 rfl (by kernel_rfl) (f_nn rfl e33) rfl rfl ?_
        refine g_p 5 63 rfl (by kernel_rfl) (y_fa (off := 0) Try.runUnderlying74 fo_74_0 rfl) rfl rfl ?_
        obtain ⟨y34, k35, H⟩ := H
        refine g_h 6 127 rfl (by kernel_rfl) (y_ld Try.isAgg72 rfl) k35 rfl rfl ?_
        refine g_p 7 255 rfl (by kernel_rfl) (y_move rfl) rfl rfl ?_
        refine g_p 8 511 rfl (by kernel_rfl) (y_sub rfl rfl) rfl rfl ?_
        obtain ⟨a36, e37, H⟩ := H
        refine g_p 9 1023 rfl (by kernel_rfl) (f_idx (s := y34) Try.runUnderlying72 Try.sizeOf76 rfl rfl e37) rfl rfl ?_
        refine g_p 10 2047 rfl (by kernel_rfl) (y_fa (off := 0) Try.runUnderlying76 fo_76_0 rfl) rfl rfl ?_
        obtain ⟨y38, k39, H⟩ := H
        refine g_h 11 4095 rfl (by kernel_rfl) (y_ld Try.isAgg3 rfl) k39 rfl rfl ?_
        refine g_p 12 8191 rfl (by kernel_rfl) (y_fa (off := 0) Try.runUnderlying76 fo_76_0 rfl) rfl rfl ?_
        obtain ⟨y40, k41, H⟩ := H
        refine g_h 13 16383 rfl (by kernel_rfl) (y_ld Try.isAgg3 rfl) k41 rfl rfl ?_
        refine g_p 14 32767 rfl (by kernel_rfl) (y_eql rfl rfl) rfl rfl ?_
        refine g_p 15 65535 rfl (by kernel_rfl) (y_pick_t rfl rfl) rfl rfl ?_
        refine g_d (by kernel_rfl) ?_
        refine tr_thenN ?_
        exact tr_join [(0, (.pointer p0)), (3, (.pointer (some a2))), (5, (.int .i64 (y19.len : Int))), (26, (.bool ((y38 == y40))))] ⟨rfl, rfl, rfl, rfl, trivial⟩ ⟨_, _, _, _, rfl, H⟩
      · replace H := H.2 g31
        refine g_s 3 15 rfl (by kernel_rfl) rfl rfl ?_
        refine g_s 4 31 rfl (by kernel_rfl) rfl rfl ?_
        refine g_s 5 63 rfl (by kernel_rfl) rfl rfl ?_
        refine g_s 6 127 rfl (by kernel_rfl) rfl rfl ?_
        refine g_s 7 255 rfl (by kernel_rfl) rfl rfl ?_
        refine g_s 8 511 rfl (by kernel_rfl) rfl rfl ?_
        refine g_s 9 1023 rfl (by kernel_rfl) rfl rfl ?_
        refine g_s 10 2047 rfl (by kernel_rfl) rfl rfl ?_
        refine g_s 11 4095 rfl (by kernel_rfl) rfl rfl ?_
        refine g_s 12 8191 rfl (by kernel_rfl) rfl rfl ?_
        refine g_s 13 16383 rfl (by kernel_rfl) rfl rfl ?_
        refine g_s 14 32767 rfl (by kernel_rfl) rfl rfl ?_
        refine g_p 15 65535 rfl (by kernel_rfl) (y_pick_f rfl rfl) rfl rfl ?_
        refine g_d (by kernel_rfl) ?_
        refine tr_thenN ?_
        exact tr_join [(0, (.pointer p0)), (3, (.pointer (some a2))), (5, (.int .i64 (y19.len : Int))), (26, (.bool false))] ⟨rfl, rfl, rfl, rfl, trivial⟩ ⟨_, _, _, _, rfl, H⟩

/-- (*spate/chain.Chain[int]).Put -/
def F.chain_Chain_int_Put (p0 : Option Addr) (p1 : Int) (p2 : Int) (h : H) (Q : Int → Int → H → Prop) : Prop :=
  F.chain_Chain_int_may p0 p1 h fun r2 h1 =>
  (((r2 != 0)) = true →
  Q 0 r2 h1) ∧
  (((r2 != 0)) = false →
  F.chain_Chain_int_lay p0 (⟨p1, p2, false⟩ : S_chain_version_int) h1 fun r5 h4 =>
  Q r5 0 h4)
theorem F.chain_Chain_int_Put_ok {p0 : Option Addr} {p1 : Int} {p2 : Int} {h : H} {Q : Int → Int → H → Prop} (H : F.chain_Chain_int_Put p0 p1 p2 h Q) : Fn PP 23 ([(.pointer p0), (.int .i64 p1), (.int .i64 p2)] : List Value).toArray h fun r h' => ∃ r0 r1, r = .tuple #[(.int .i64 r0), (.int .i64 r1)] ∧ Q r0 r1 h' := by
  unfold F.chain_Chain_int_Put at H
  refine fn_of Try.func23 Try.ntmps23 rfl rfl fun w0 => ?_
  refine tr_sub [(0, (.pointer p0)), (1, (.int .i64 p1)), (2, (.int .i64 p2))] ⟨rfl, rfl, rfl, trivial⟩ ?_
  refine tr_seq ?_
  refine tr_region ?_
  refine tr_p (y_assign rfl) rfl rfl ?_
  refine tr_p (y_assign rfl) rfl rfl ?_
  refine tr_nil ?_
  refine tr_thenN ?_
  refine tr_seq ?_
  refine tr_seq ?_
  refine tr_region ?_
  refine tr_p (y_move rfl) rfl rfl ?_
  refine tr_p (y_move rfl) rfl rfl ?_
  refine tr_e (e_call Try.call40 rfl (F.chain_Chain_int_may_ok H)) rfl rfl ?_
  rintro _ h1 ⟨r2, rfl, H⟩
  refine tr_p (y_assign rfl) rfl rfl ?_
  refine tr_nil ?_
  refine tr_thenN ?_
  refine tr_seq ?_
  refine tr_region ?_
  refine tr_p (y_move rfl) rfl rfl ?_
  refine tr_p (y_neq rfl rfl) rfl rfl ?_
  refine tr_nil ?_
  refine tr_thenN ?_
  refine tr_cond rfl (fun g3 => ?_) (fun g3 => ?_)
  · replace H := H.1 g3
    refine tr_seq ?_
    refine tr_region ?_
    refine tr_p (y_move rfl) rfl rfl ?_
    refine tr_p (y_assign rfl) rfl rfl ?_
    refine tr_p (y_assign rfl) rfl rfl ?_
    refine tr_nil ?_
    refine tr_thenN ?_
    refine tr_ret ?_
    refine tr_thenR ?_
    exact tr_ret2 rfl rfl rfl ⟨_, _, rfl, H⟩
  · replace H := H.2 g3
    refine tr_skip ?_
    refine tr_thenN ?_
    refine tr_seq ?_
    refine tr_region ?_
    refine tr_p (y_move rfl) rfl rfl ?_
    refine tr_p (y_move rfl) rfl rfl ?_
    refine tr_p (y_move rfl) rfl rfl ?_
    refine tr_p (f_build rfl (bd_76_0_1 p1 p2)) rfl rfl ?_
    refine tr_e (e_call Try.call41 rfl (F.chain_Chain_int_lay_ok H)) rfl rfl ?_
    rintro _ h4 ⟨r5, rfl, H⟩
    refine tr_p (y_assign rfl) rfl rfl ?_
    refine tr_p (y_assign rfl) rfl rfl ?_
    refine tr_nil ?_
    refine tr_thenN ?_
    refine tr_ret ?_
    exact tr_ret2 rfl rfl rfl ⟨_, _, rfl, H⟩

def F.slices_BinarySearchFunc_Slchain_version_int_chain_version_int_int.l1 (Q : Int → Bool → H → Prop) : Nat → Sl → Int → Value → Int → Int → Int → H → Prop
  | 0, _, _, _, _, _, _, _ => False
  | m + 1, x0, x1, x2, x8, x9, x10, h =>
    ((decide (x9 < x10)) = true →
    0 ≤ (1 : Int) ∧
    idxA x0 (IntKind.wrap .i64 (Int.fdiv (IntKind.wrap .u64 (IntKind.wrap .i64 (x9 + x10))) (2 ^ (min (1 : Int).toNat (IntKind.bits .u64)) : Int))) 3 fun a3 =>
    ld_S_chain_version_int h a3 fun y5 =>
    CV PP x2 [(.agg y5.cells.toArray), (.int .i64 x1)] h fun u h7 => ∃ (r8 : Int), u = (.int .i64 r8) ∧
    ((decide (r8 < 0)) = true →
    (F.slices_BinarySearchFunc_Slchain_version_int_chain_version_int_int.l1 Q m) x0 x1 x2 x8 (IntKind.wrap .i64 ((IntKind.wrap .i64 (Int.fdiv (IntKind.wrap .u64 (IntKind.wrap .i64 (x9 + x10))) (2 ^ (min (1 : Int).toNat (IntKind.bits .u64)) : Int))) + 1)) x10 h7) ∧
    ((decide (r8 < 0)) = false →
    (F.slices_BinarySearchFunc_Slchain_version_int_chain_version_int_int.l1 Q m) x0 x1 x2 x8 x9 (IntKind.wrap .i64 (Int.fdiv (IntKind.wrap .u64 (IntKind.wrap .i64 (x9 + x10))) (2 ^ (min (1 : Int).toNat (IntKind.bits .u64)) : Int))) h7)) ∧
    ((decide (x9 < x10)) = false →
    ((decide (x9 < x8)) = true →
    idxA x0 x9 3 fun a11 =>
    ld_S_chain_version_int h a11 fun y13 =>
    CV PP x2 [(.agg y13.cells.toArray), (.int .i64 x1)] h fun u h15 => ∃ (r16 : Int), u = (.int .i64 r16) ∧
    Q x9 ((r16 == 0)) h15) ∧
    ((decide (x9 < x8)) = false →
    Q x9 false h))
/-- slices.BinarySearchFunc[[]spate/chain.version[int],spate/chain.version[int],int] -/
def F.slices_BinarySearchFunc_Slchain_version_int_chain_version_int_int (p0 : Sl) (p1 : Int) (p2 : Value) (h : H) (Q : Int → Bool → H → Prop) : Prop :=
  ∃ m, F.slices_BinarySearchFunc_Slchain_version_int_chain_version_int_int.l1 Q m p0 p1 p2 (p0.len : Int) 0 (p0.len : Int) h
theorem F.slices_BinarySearchFunc_Slchain_version_int_chain_version_int_int_ok {p0 : Sl} {p1 : Int} {p2 : Value} {h : H} {Q : Int → Bool → H → Prop} (H : F.slices_BinarySearchFunc_Slchain_version_int_chain_version_int_int p0 p1 p2 h Q) : Fn PP 59 ([p0.enc, (.int .i64 p1), p2] : List Value).toArray h fun r h' => ∃ r0 r1, r = .tuple #[(.int .i64 r0), (.bool r1)] ∧ Q r0 r1 h' := by
  unfold F.slices_BinarySearchFunc_Slchain_version_int_chain_version_int_int at H
  refine fn_of Try.func59 Try.ntmps59 rfl rfl fun w0 => ?_
  refine tr_sub [(0, p0.enc), (1, (.int .i64 p1)), (2, p2)] ⟨rfl, rfl, rfl, trivial⟩ ?_
  refine tr_seq ?_
  refine tr_region ?_
  refine tr_p (y_assign rfl) rfl rfl ?_
  refine tr_p (y_assign rfl) rfl rfl ?_
  refine tr_nil ?_
  refine tr_thenN ?_
  refine tr_seq ?_
  refine tr_region ?_
  refine tr_p (y_move rfl) rfl rfl ?_
  refine tr_p (y_len (ts := #[]) Try.runUnderlying72 (o := p0.ptr) (n := p0.len) (cap := p0.cap) rfl) rfl rfl ?_
  refine tr_p (y_assign rfl) rfl rfl ?_
  refine tr_nil ?_
  refine tr_thenN ?_
  refine tr_seq ?_
  refine tr_region ?_
  refine tr_p (y_move rfl) rfl rfl ?_
  refine tr_p (y_assign rfl) rfl rfl ?_
  refine tr_p (y_assign rfl) rfl rfl ?_
  refine tr_nil ?_
  refine tr_thenN ?_
  refine tr_seq ?_
  refine tr_block ?_
  obtain ⟨m17, H⟩ := H
  refine tr_sub [(0, p0.enc), (1, (.int .i64 p1)), (2, p2), (8, (.int .i64 (p0.len : Int))), (9, (.int .i64 0)), (10, (.int .i64 (p0.len : Int)))] ⟨rfl, rfl, rfl, rfl, rfl, rfl, trivial⟩ ?_
  refine tr_loop_j (fun m L' h => ∃ (x0 : Sl) (x1 : Int) (x2 : Value) (x8 : Int) (x9 : Int) (x10 : Int), L' = [(0, x0.enc), (1, (.int .i64 x1)), (2, x2), (8, (.int .i64 x8)), (9, (.int .i64 x9)), (10, (.int .i64 x10))] ∧ F.slices_BinarySearchFunc_Slchain_version_int_chain_version_int_int.l1 Q m x0 x1 x2 x8 x9 x10 h) ?_ ?_ m17 ⟨_, _, _, _, _, _, rfl, H⟩
  · rintro L' h ⟨_, _, _, _, _, _, _, H⟩; exact H
  · rintro m L' h ⟨x0, x1, x2, x8, x9, x10, rfl, H⟩
    unfold F.slices_BinarySearchFunc_Slchain_version_int_chain_version_int_int.l1 at H
    refine tr_seq ?_
    refine tr_seq ?_
    refine tr_region ?_
    refine tr_p (y_move rfl) rfl rfl ?_
    refine tr_p (y_move rfl) rfl rfl ?_
    refine tr_p (y_lss rfl rfl) rfl rfl ?_
    refine tr_nil ?_
    refine tr_thenN ?_
    refine tr_cond rfl (fun g1 => ?_) (fun g1 => ?_)
    · replace H := H.1 g1
      refine tr_skip ?_
      refine tr_thenN ?_
      refine tr_block ?_
      refine tr_seq ?_
      refine tr_region ?_
      refine tr_p (y_move rfl) rfl rfl ?_
      refine tr_p (y_move rfl) rfl rfl ?_
      refine tr_p (y_add rfl rfl) rfl rfl ?_
      refine tr_p (y_cvt Try.runUnderlying3 Try.runUnderlying106 rfl) rfl rfl ?_
      obtain ⟨e2, H⟩ := H
      refine tr_p (y_shr rfl rfl e2) rfl rfl ?_
      refine tr_p (y_cvt Try.runUnderlying106 Try.runUnderlying3 rfl) rfl rfl ?_
      refine tr_p (y_assign rfl) rfl rfl ?_
      refine tr_nil ?_
      refine tr_thenN ?_
      refine tr_seq ?_
      refine tr_region ?_
      refine tr_p (y_move rfl) rfl rfl ?_
      refine tr_p (y_move rfl) rfl rfl ?_
      refine tr_p (y_move rfl) rfl rfl ?_
      obtain ⟨a3, e4, H⟩ := H
      refine tr_p (f_idx (s := x0) Try.runUnderlying72 Try.sizeOf76 rfl rfl e4) rfl rfl ?_
      obtain ⟨y5, k6, H⟩ := H
      refine tr_h (y_ldS Try.isAgg76 Try.sizeOf76 rfl rfl) k6 rfl rfl ?_
      refine tr_p (y_move rfl) rfl rfl ?_
      refine tr_e (e_callD rfl rfl H) rfl rfl ?_
      rintro _ h7 ⟨r8, rfl, H⟩
      refine tr_p (y_lss rfl rfl) rfl rfl ?_
      refine tr_nil ?_
      refine tr_thenN ?_
      refine tr_cond rfl (fun g9 => ?_) (fun g9 => ?_)
      · replace H := H.1 g9
        refine tr_region ?_
        refine tr_p (y_move rfl) rfl rfl ?_
        refine tr_p (y_add rfl rfl) rfl rfl ?_
        refine tr_p (y_assign rfl) rfl rfl ?_
        refine tr_nil ?_
        refine tr_blockN ?_
        refine tr_thenN ?_
        exact tr_join [(0, x0.enc), (1, (.int .i64 x1)), (2, x2), (8, (.int .i64 x8)), (9, (.int .i64 (IntKind.wrap .i64 ((IntKind.wrap .i64 (Int.fdiv (IntKind.wrap .u64 (IntKind.wrap .i64 (x9 + x10))) (2 ^ (min (1 : Int).toNat (IntKind.bits .u64)) : Int))) + 1)))), (10, (.int .i64 x10))] ⟨rfl, rfl, rfl, rfl, rfl, rfl, trivial⟩ ⟨_, _, _, _, _, _, rfl, H⟩
      · replace H := H.2 g9
        refine tr_region ?_
        refine tr_p (y_move rfl) rfl rfl ?_
        refine tr_p (y_assign rfl) rfl rfl ?_
        refine tr_nil ?_
        refine tr_blockN ?_
        refine tr_thenN ?_
        exact tr_join [(0, x0.enc), (1, (.int .i64 x1)), (2, x2), (8, (.int .i64 x8)), (9, (.int .i64 x9)), (10, (.int .i64 (IntKind.wrap .i64 (Int.fdiv (IntKind.wrap .u64 (IntKind.wrap .i64 (x9 + x10))) (2 ^ (min (1 : Int).toNat (IntKind.bits .u64)) : Int)))))] ⟨rfl, rfl, rfl, rfl, rfl, rfl, trivial⟩ ⟨_, _, _, _, _, _, rfl, H⟩
    · replace H := H.2 g1
      refine tr_exit ?_
      refine tr_thenE ?_
      refine tr_thenE ?_
      refine tr_hit ?_
      refine tr_thenN ?_
      refine tr_seq ?_
      refine tr_region ?_
      refine tr_p (y_move rfl) rfl rfl ?_
      refine tr_p (y_move rfl) rfl rfl ?_
      refine tr_p (y_move rfl) rfl rfl ?_
      refine tr_p (y_lss rfl rfl) rfl rfl ?_
      refine tr_p (y_move rfl) rfl rfl ?_
      refine tr_split (t := 39) rfl (fun g10 => ?_) (fun g10 => ?_)
      · replace H := H.1 g10
        refine tr_p (y_move rfl) rfl rfl ?_
        refine tr_p (y_move rfl) rfl rfl ?_
        refine tr_p (y_move rfl) rfl rfl ?_
        obtain ⟨a11, e12, H⟩ := H
        refine tr_p (f_idx (s := x0) Try.runUnderlying72 Try.sizeOf76 rfl rfl e12) rfl rfl ?_
        obtain ⟨y13, k14, H⟩ := H
        refine tr_h (y_ldS Try.isAgg76 Try.sizeOf76 rfl rfl) k14 rfl rfl ?_
        refine tr_p (y_move rfl) rfl rfl ?_
        refine tr_e (e_callD rfl rfl H) rfl rfl ?_
        rintro _ h15 ⟨r16, rfl, H⟩
        refine tr_p (y_eql rfl rfl) rfl rfl ?_
        refine tr_p (y_pick_t rfl rfl) rfl rfl ?_
        refine tr_p (y_assign rfl) rfl rfl ?_
        refine tr_p (y_assign rfl) rfl rfl ?_
        refine tr_nil ?_
        refine tr_thenN ?_
        refine tr_ret ?_
        exact tr_ret2 rfl rfl rfl ⟨_, _, rfl, H⟩
      · replace H := H.2 g10
        refine tr_s rfl rfl ?_
        refine tr_s rfl rfl ?_
        refine tr_s rfl rfl ?_
        refine tr_s rfl rfl ?_
        refine tr_s rfl rfl ?_
        refine tr_s rfl rfl ?_
        refine tr_s rfl rfl ?_
        refine tr_s rfl rfl ?_
        refine tr_p (y_pick_f rfl rfl) rfl rfl ?_
        refine tr_p (y_assign rfl) rfl rfl ?_
        refine tr_p (y_assign rfl) rfl rfl ?_
        refine tr_nil ?_
        refine tr_thenN ?_
        refine tr_ret ?_
        exact tr_ret2 rfl rfl rfl ⟨_, _, rfl, H⟩

/-- (*spate/chain.Chain[int]).place$1 -/
def F.chain_Chain_int_place_1 (p0 : S_chain_version_int) (p1 : Int) (h : H) (Q : Int → H → Prop) : Prop :=
  new h p0.cells.toArray ty_76 fun a2 h1 =>
  ldI .i64 h1 (a2.add 0) fun y3 =>
  ((decide (y3 ≤ p1)) = true →
  Q (-1) h1) ∧
  ((decide (y3 ≤ p1)) = false →
  Q 1 h1)
theorem F.chain_Chain_int_place_1_ok {p0 : S_chain_version_int} {p1 : Int} {h : H} {Q : Int → H → Prop} (H : F.chain_Chain_int_place_1 p0 p1 h Q) : Fn PP 60 ([(.agg p0.cells.toArray), (.int .i64 p1)] : List Value).toArray h fun r h' => ∃ r0, r = (.int .i64 r0) ∧ Q r0 h' := by
  unfold F.chain_Chain_int_place_1 at H
  refine fn_of Try.func60 Try.ntmps60 rfl rfl fun w0 => ?_
  refine tr_sub [(0, (.agg p0.cells.toArray)), (1, (.int .i64 p1))] ⟨rfl, rfl, trivial⟩ ?_
  refine tr_seq ?_
  refine tr_region ?_
  refine tr_e (f_box (cs := p0.cells.toArray) rfl rfl H) rfl rfl ?_
  rintro _ h1 ⟨a2, rfl, H⟩
  refine tr_p (y_assign rfl) rfl rfl ?_
  refine tr_nil ?_
  refine tr_thenN ?_
  refine tr_seq ?_
  refine tr_seq ?_
  refine tr_region ?_
  refine tr_p (y_fa (off := 0) Try.runUnderlying76 fo_76_0 rfl) rfl rfl ?_
  obtain ⟨y3, k4, H⟩ := H
  refine tr_h (y_ld Try.isAgg3 rfl) k4 rfl rfl ?_
  refine tr_p (y_move rfl) rfl rfl ?_
  refine tr_p (y_leq rfl rfl) rfl rfl ?_
  refine tr_nil ?_
  refine tr_thenN ?_
  refine tr_cond rfl (fun g5 => ?_) (fun g5 => ?_)
  · replace H := H.1 g5
    refine tr_seq ?_
    refine tr_region ?_
    refine tr_p (y_assign rfl) rfl rfl ?_
    refine tr_nil ?_
    refine tr_thenN ?_
    refine tr_ret ?_
    refine tr_thenR ?_
    exact tr_ret1 rfl rfl ⟨_, rfl, H⟩
  · replace H := H.2 g5
    refine tr_skip ?_
    refine tr_thenN ?_
    refine tr_seq ?_
    refine tr_region ?_
    refine tr_p (y_assign rfl) rfl rfl ?_
    refine tr_nil ?_
    refine tr_thenN ?_
    refine tr_ret ?_
    exact tr_ret1 rfl rfl ⟨_, rfl, H⟩

/-- (*spate/chain.Chain[int]).place -/
def F.chain_Chain_int_place (p0 : Option Addr) (p1 : Int) (h : H) (Q : Int → H → Prop) : Prop :=
  nn p0 fun a1 =>
  ldL h (a1.add 0) fun y3 =>
  F.slices_BinarySearchFunc_Slchain_version_int_chain_version_int_int y3 p1 (.func (.func 60) #[] #[]) h fun r6 r7 h5 =>
  Q (IntKind.wrap .i64 (r6 - 1)) h5
theorem F.chain_Chain_int_place_ok {p0 : Option Addr} {p1 : Int} {h : H} {Q : Int → H → Prop} (H : F.chain_Chain_int_place p0 p1 h Q) : Fn PP 38 ([(.pointer p0), (.int .i64 p1)] : List Value).toArray h fun r h' => ∃ r0, r = (.int .i64 r0) ∧ Q r0 h' := by
  unfold F.chain_Chain_int_place at H
  refine fn_of Try.func38 Try.ntmps38 rfl rfl fun w0 => ?_
  refine tr_sub [(0, (.pointer p0)), (1, (.int .i64 p1))] ⟨rfl, rfl, trivial⟩ ?_
  refine tr_seq ?_
  refine tr_region ?_
  refine tr_p (y_assign rfl) rfl rfl ?_
  refine tr_nil ?_
  refine tr_thenN ?_
  refine tr_seq ?_
  refine tr_region ?_
  refine tr_p (y_move rfl) rfl rfl ?_
  obtain ⟨a1, e2, H⟩ := H
  refine tr_p (f_nn rfl e2) rfl rfl ?_
  refine tr_p (y_fa (off := 0) Try.runUnderlying74 fo_74_0 rfl) rfl rfl ?_
  obtain ⟨y3, k4, H⟩ := H
  refine tr_h (y_ld Try.isAgg72 rfl) k4 rfl rfl ?_
  refine tr_p (y_move rfl) rfl rfl ?_
  refine tr_e (e_call Try.call59 rfl (F.slices_BinarySearchFunc_Slchain_version_int_chain_version_int_int_ok H)) rfl rfl ?_
  rintro _ h5 ⟨r6, r7, rfl, H⟩
  refine tr_p (y_move rfl) rfl rfl ?_
  refine tr_p (y_ext rfl rfl) rfl rfl ?_
  refine tr_p (y_ext rfl rfl) rfl rfl ?_
  refine tr_p (y_assign rfl) rfl rfl ?_
  refine tr_p (y_assign rfl) rfl rfl ?_
  refine tr_nil ?_
  refine tr_thenN ?_
  refine tr_seq ?_
  refine tr_region ?_
  refine tr_p (y_move rfl) rfl rfl ?_
  refine tr_p (y_sub rfl rfl) rfl rfl ?_
  refine tr_p (y_assign rfl) rfl rfl ?_
  refine tr_nil ?_
  refine tr_thenN ?_
  refine tr_ret ?_
  exact tr_ret1 rfl rfl ⟨_, rfl, H⟩

def F.chain_Chain_int_At.j1 (Q : Int → Bool → H → Prop) (x4 : Int) (h : H) : Prop :=
  Q x4 false h
def F.chain_Chain_int_At.j2 (Q : Int → Bool → H → Prop) (x0 : Option Addr) (x4 : Int) (x6 : Int) (x22 : Bool) (h : H) : Prop :=
  (x22 = true →
  nn x0 fun a4 =>
  ldL h (a4.add 0) fun y6 =>
  idxA y6 x6 3 fun a8 =>
  ldI .i64 h (a8.add 1) fun y10 =>
  Q y10 true h) ∧
  (x22 = false →
  F.chain_Chain_int_At.j1 Q x4 h)
/-- (*spate/chain.Chain[int]).At -/
def F.chain_Chain_int_At (p0 : Option Addr) (p1 : Int) (h : H) (Q : Int → Bool → H → Prop) : Prop :=
  F.chain_Chain_int_place p0 p1 h fun r2 h1 =>
  ((decide (r2 ≥ 0)) = true →
  nn p0 fun a13 =>
  ldL h1 (a13.add 0) fun y15 =>
  idxA y15 r2 3 fun a17 =>
  ldB h1 (a17.add 2) fun y19 =>
  F.chain_Chain_int_At.j2 Q p0 0 r2 (!y19) h1) ∧
  ((decide (r2 ≥ 0)) = false →
  F.chain_Chain_int_At.j2 Q p0 0 r2 false h1)
theorem F.chain_Chain_int_At_ok {p0 : Option Addr} {p1 : Int} {h : H} {Q : Int → Bool → H → Prop} (H : F.chain_Chain_int_At p0 p1 h Q) : Fn PP 24 ([(.pointer p0), (.int .i64 p1)] : List Value).toArray h fun r h' => ∃ r0 r1, r = .tuple #[(.int .i64 r0), (.bool r1)] ∧ Q r0 r1 h' := by
  unfold F.chain_Chain_int_At at H
  refine fn_of Try.func24 Try.ntmps24 rfl rfl fun w0 => ?_
  refine tr_sub [(0, (.pointer p0)), (1, (.int .i64 p1))] ⟨rfl, rfl, trivial⟩ ?_
  refine tr_seq ?_
  refine tr_region ?_
  refine tr_p (y_assign rfl) rfl rfl ?_
  refine tr_p (y_assign rfl) rfl rfl ?_
  refine tr_nil ?_
  refine tr_thenN ?_
  refine tr_seq_j (fun L' h => ∃ (x4 : Int), L' = [(4, (.int .i64 x4))] ∧ F.chain_Chain_int_At.j1 Q x4 h) ?_ ?_
  · rintro L' h ⟨x4, rfl, H⟩
    unfold F.chain_Chain_int_At.j1 at H
    refine tr_seq ?_
    refine tr_region ?_
    refine tr_p (y_move rfl) rfl rfl ?_
    refine tr_p (y_assign rfl) rfl rfl ?_
    refine tr_p (y_assign rfl) rfl rfl ?_
    refine tr_nil ?_
    refine tr_thenN ?_
    refine tr_ret ?_
    exact tr_ret2 rfl rfl rfl ⟨_, _, rfl, H⟩
  · refine tr_seq ?_
    refine tr_region ?_
    refine tr_p (y_move rfl) rfl rfl ?_
    refine tr_p (y_move rfl) rfl rfl ?_
    refine tr_e (e_call Try.call38 rfl (F.chain_Chain_int_place_ok H)) rfl rfl ?_
    rintro _ h1 ⟨r2, rfl, H⟩
    refine tr_p (y_assign rfl) rfl rfl ?_
    refine tr_nil ?_
    refine tr_thenN ?_
    refine tr_seq_j (fun L' h => ∃ (x0 : Option Addr) (x4 : Int) (x6 : Int) (x22 : Bool), L' = [(0, (.pointer x0)), (4, (.int .i64 x4)), (6, (.int .i64 x6)), (22, (.bool x22))] ∧ F.chain_Chain_int_At.j2 Q x0 x4 x6 x22 h) ?_ ?_
    · rintro L' h ⟨x0, x4, x6, x22, rfl, H⟩
      unfold F.chain_Chain_int_At.j2 at H
      refine tr_cond rfl (fun g3 => ?_) (fun g3 => ?_)
      · replace H := H.1 g3
        refine tr_seq ?_
        refine tr_region ?_
        refine tr_p (y_move rfl) rfl rfl ?_
        obtain ⟨a4, e5, H⟩ := H
        refine tr_p (f_nn rfl e5) rfl rfl ?_
        refine tr_p (y_fa (off := 0) Try.runUnderlying74 fo_74_0 rfl) rfl rfl ?_
        obtain ⟨y6, k7, H⟩ := H
        refine tr_h (y_ld Try.isAgg72 rfl) k7 rfl rfl ?_
        refine tr_p (y_move rfl) rfl rfl ?_
        obtain ⟨a8, e9, H⟩ := H
        refine tr_p (f_idx (s := y6) Try.runUnderlying72 Try.sizeOf76 rfl rfl e9) rfl rfl ?_
        refine tr_p (y_fa (off := 1) Try.runUnderlying76 fo_76_1 rfl) rfl rfl ?_
        obtain ⟨y10, k11, H⟩ := H
        refine tr_h (y_ld Try.isAgg3 rfl) k11 rfl rfl ?_
        refine tr_p (y_assign rfl) rfl rfl ?_
        refine tr_p (y_assign rfl) rfl rfl ?_
        refine tr_nil ?_
        refine tr_thenN ?_
        refine tr_ret ?_
        refine tr_thenR ?_
        exact tr_ret2 rfl rfl rfl ⟨_, _, rfl, H⟩
      · replace H := H.2 g3
        refine tr_skip ?_
        refine tr_thenN ?_
        exact tr_join [(4, (.int .i64 x4))] ⟨rfl, trivial⟩ ⟨_, rfl, H⟩
    · refine tr_region ?_
      refine tr_p (y_move rfl) rfl rfl ?_
      refine tr_p (y_geq rfl rfl) rfl rfl ?_
      refine tr_p (y_move rfl) rfl rfl ?_
      refine tr_split (t := 12) rfl (fun g12 => ?_) (fun g12 => ?_)
      · replace H := H.1 g12
        refine tr_p (y_move rfl) rfl rfl ?_
        obtain ⟨a13, e14, H⟩ := H
        refine tr_p (f_nn rfl e14) rfl rfl ?_
        refine tr_p (y_fa (off := 0) Try.runUnderlying74 fo_74_0 rfl) rfl rfl ?_
        obtain ⟨y15, k16, H⟩ := H
        refine tr_h (y_ld Try.isAgg72 rfl) k16 rfl rfl ?_
        refine tr_p (y_move rfl) rfl rfl ?_
        obtain ⟨a17, e18, H⟩ := H
        refine tr_p (f_idx (s := y15) Try.runUnderlying72 Try.sizeOf76 rfl rfl e18) rfl rfl ?_
        refine tr_p (y_fa (off := 2) Try.runUnderlying76 fo_76_2 rfl) rfl rfl ?_
        obtain ⟨y19, k20, H⟩ := H
        refine tr_h (y_ld Try.isAgg4 rfl) k20 rfl rfl ?_
        refine tr_p (y_not rfl) rfl rfl ?_
        refine tr_p (y_pick_t rfl rfl) rfl rfl ?_
        refine tr_nil ?_
        refine tr_thenN ?_
        exact tr_join [(0, (.pointer p0)), (4, (.int .i64 0)), (6, (.int .i64 r2)), (22, (.bool (!y19)))] ⟨rfl, rfl, rfl, rfl, trivial⟩ ⟨_, _, _, _, rfl, H⟩
      · replace H := H.2 g12
        refine tr_s rfl rfl ?_
        refine tr_s rfl rfl ?_
        refine tr_s rfl rfl ?_
        refine tr_s rfl rfl ?_
        refine tr_s rfl rfl ?_
        refine tr_s rfl rfl ?_
        refine tr_s rfl rfl ?_
        refine tr_s rfl rfl ?_
        refine tr_s rfl rfl ?_
        refine tr_p (y_pick_f rfl rfl) rfl rfl ?_
        refine tr_nil ?_
        refine tr_thenN ?_
        exact tr_join [(0, (.pointer p0)), (4, (.int .i64 0)), (6, (.int .i64 r2)), (22, (.bool false))] ⟨rfl, rfl, rfl, rfl, trivial⟩ ⟨_, _, _, _, rfl, H⟩

/-- (*spate/chain.Chain[int]).Len -/
def F.chain_Chain_int_Len (p0 : Option Addr) (h : H) (Q : Int → H → Prop) : Prop :=
  nn p0 fun a1 =>
  ldL h (a1.add 0) fun y3 =>
  Q (y3.len : Int) h
theorem F.chain_Chain_int_Len_ok {p0 : Option Addr} {h : H} {Q : Int → H → Prop} (H : F.chain_Chain_int_Len p0 h Q) : Fn PP 16 ([(.pointer p0)] : List Value).toArray h fun r h' => ∃ r0, r = (.int .i64 r0) ∧ Q r0 h' := by
  unfold F.chain_Chain_int_Len at H
  refine fn_of Try.func16 Try.ntmps16 rfl rfl fun w0 => ?_
  refine tr_sub [(0, (.pointer p0))] ⟨rfl, trivial⟩ ?_
  refine tr_seq ?_
  refine tr_region ?_
  refine tr_p (y_assign rfl) rfl rfl ?_
  refine tr_nil ?_
  refine tr_thenN ?_
  refine tr_seq ?_
  refine tr_region ?_
  refine tr_p (y_move rfl) rfl rfl ?_
  obtain ⟨a1, e2, H⟩ := H
  refine tr_p (f_nn rfl e2) rfl rfl ?_
  refine tr_p (y_fa (off := 0) Try.runUnderlying74 fo_74_0 rfl) rfl rfl ?_
  obtain ⟨y3, k4, H⟩ := H
  refine tr_h (y_ld Try.isAgg72 rfl) k4 rfl rfl ?_
  refine tr_p (y_len (ts := #[]) Try.runUnderlying72 (o := y3.ptr) (n := y3.len) (cap := y3.cap) rfl) rfl rfl ?_
  refine tr_p (y_assign rfl) rfl rfl ?_
  refine tr_nil ?_
  refine tr_thenN ?_
  refine tr_ret ?_
  exact tr_ret1 rfl rfl ⟨_, rfl, H⟩

/-- slices.Clone[[]spate/chain.version[int],spate/chain.version[int]] -/
def F.slices_Clone_Slchain_version_int_chain_version_int (p0 : Sl) (h : H) (Q : Sl → H → Prop) : Prop :=
  (p0.ptr.isNone = true →
  Q (⟨none, 0, 0⟩ : Sl) h) ∧
  (p0.ptr.isNone = false →
  newL h (([]).toArray) ty_76 0 fun s3 h2 =>
  runL PP (Builtin.append_ #[72, 72] 72 #[s3.enc, p0.enc]) h2 fun s5 h4 =>
  Q s5 h4)
theorem F.slices_Clone_Slchain_version_int_chain_version_int_ok {p0 : Sl} {h : H} {Q : Sl → H → Prop} (H : F.slices_Clone_Slchain_version_int_chain_version_int p0 h Q) : Fn PP 42 ([p0.enc] : List Value).toArray h fun r h' => ∃ r0, r = r0.enc ∧ Q r0 h' := by
  unfold F.slices_Clone_Slchain_version_int_chain_version_int at H
  refine fn_of Try.func42 Try.ntmps42 rfl rfl fun w0 => ?_
  refine tr_sub [(0, p0.enc)] ⟨rfl, trivial⟩ ?_
  refine tr_seq ?_
  refine tr_region ?_
  refine tr_p (y_assign rfl) rfl rfl ?_
  refine tr_nil ?_
  refine tr_thenN ?_
  refine tr_seq ?_
  refine tr_seq ?_
  refine tr_region ?_
  refine tr_p (y_move rfl) rfl rfl ?_
  refine tr_p (y_lnil_eql Try.runUnderlying72 (s := p0) rfl rfl) rfl rfl ?_
  refine tr_nil ?_
  refine tr_thenN ?_
  refine tr_cond rfl (fun g1 => ?_) (fun g1 => ?_)
  · replace H := H.1 g1
    refine tr_seq ?_
    refine tr_region ?_
    refine tr_p (y_assign rfl) rfl rfl ?_
    refine tr_nil ?_
    refine tr_thenN ?_
    refine tr_ret ?_
    refine tr_thenR ?_
    exact tr_ret1 rfl rfl ⟨_, rfl, H⟩
  · replace H := H.2 g1
    refine tr_skip ?_
    refine tr_thenN ?_
    refine tr_seq ?_
    refine tr_region ?_
    refine tr_e (f_buildL (cs := ([]).toArray) rfl rfl (bl_72_0_) H) rfl rfl ?_
    rintro _ h2 ⟨s3, rfl, H⟩
    refine tr_p (y_move rfl) rfl rfl ?_
    refine tr_e (f_app rfl H) rfl rfl ?_
    rintro _ h4 ⟨s5, rfl, H⟩
    refine tr_p (y_assign rfl) rfl rfl ?_
    refine tr_nil ?_
    refine tr_thenN ?_
    refine tr_ret ?_
    exact tr_ret1 rfl rfl ⟨_, rfl, H⟩

def F.chain_Chain_int_All_1.l1 (Q : H → Prop) : Nat → Value → Sl → Int → Int → H → Prop
  | 0, _, _, _, _, _ => False
  | m + 1, x0, x5, x6, x7, h =>
    ((decide (x7 < x6)) = true →
    idxA x5 x7 3 fun a4 =>
    ld_S_chain_version_int h a4 fun y6 =>
    new h (((⟨0, 0, false⟩ : S_chain_version_int) : S_chain_version_int).cells.toArray) ty_76 fun a9 h8 =>
    stH h8 a9 y6.cells fun h10 =>
    ldI .i64 h10 (a9.add 0) fun y11 =>
    ldB h10 (a9.add 2) fun y13 =>
    CV PP x0 [(.int .i64 y11), (.bool (!y13))] h10 fun u h15 => ∃ (r16 : Bool), u = (.bool r16) ∧
    ((!r16) = true →
    Q h15) ∧
    ((!r16) = false →
    (F.chain_Chain_int_All_1.l1 Q m) x0 x5 x6 (IntKind.wrap .i64 (x7 + 1)) h15)) ∧
    ((decide (x7 < x6)) = false →
    Q h)
/-- (*spate/chain.Chain[int]).All$1 -/
def F.chain_Chain_int_All_1 (p0 : Value) (p1 : Addr) (h : H) (Q : H → Prop) : Prop :=
  ldL h p1 fun y1 =>
  ∃ m, F.chain_Chain_int_All_1.l1 Q m p0 y1 (y1.len : Int) 0 h
theorem F.chain_Chain_int_All_1_ok {p0 : Value} {p1 : Addr} {h : H} {Q : H → Prop} (H : F.chain_Chain_int_All_1 p0 p1 h Q) : Fn PP 43 ([p0, (.pointer (some p1))] : List Value).toArray h fun r h' => r = .tuple #[] ∧ Q  h' := by
  unfold F.chain_Chain_int_All_1 at H
  refine fn_of Try.func43 Try.ntmps43 rfl rfl fun w0 => ?_
  refine tr_sub [(0, p0), (1, (.pointer (some p1)))] ⟨rfl, rfl, trivial⟩ ?_
  refine tr_seq ?_
  refine tr_region ?_
  obtain ⟨y1, k2, H⟩ := H
  refine tr_h (y_ld Try.isAgg72 rfl) k2 rfl rfl ?_
  refine tr_p (y_len (ts := #[]) Try.runUnderlying72 (o := y1.ptr) (n := y1.len) (cap := y1.cap) rfl) rfl rfl ?_
  refine tr_p (y_move rfl) rfl rfl ?_
  refine tr_nil ?_
  refine tr_thenN ?_
  refine tr_block ?_
  obtain ⟨m18, H⟩ := H
  refine tr_sub [(0, p0), (5, y1.enc), (6, (.int .i64 (y1.len : Int))), (7, (.int .i64 0))] ⟨rfl, rfl, rfl, rfl, trivial⟩ ?_
  refine tr_loop_j (fun m L' h => ∃ (x0 : Value) (x5 : Sl) (x6 : Int) (x7 : Int), L' = [(0, x0), (5, x5.enc), (6, (.int .i64 x6)), (7, (.int .i64 x7))] ∧ F.chain_Chain_int_All_1.l1 Q m x0 x5 x6 x7 h) ?_ ?_ m18 ⟨_, _, _, _, rfl, H⟩
  · rintro L' h ⟨_, _, _, _, _, H⟩; exact H
  · rintro m L' h ⟨x0, x5, x6, x7, rfl, H⟩
    unfold F.chain_Chain_int_All_1.l1 at H
    refine tr_seq ?_
    refine tr_region ?_
    refine tr_p (y_lss rfl rfl) rfl rfl ?_
    refine tr_nil ?_
    refine tr_thenN ?_
    refine tr_seq ?_
    refine tr_cond rfl (fun g3 => ?_) (fun g3 => ?_)
    · replace H := H.1 g3
      refine tr_skip ?_
      refine tr_thenN ?_
      refine tr_seq ?_
      refine tr_block ?_
      refine tr_seq ?_
      refine tr_region ?_
      obtain ⟨a4, e5, H⟩ := H
      refine tr_p (f_idx (s := x5) Try.runUnderlying72 Try.sizeOf76 rfl rfl e5) rfl rfl ?_
      obtain ⟨y6, k7, H⟩ := H
      refine tr_h (y_ldS Try.isAgg76 Try.sizeOf76 rfl rfl) k7 rfl rfl ?_
      refine tr_e (f_alloc (cs := ((⟨0, 0, false⟩ : S_chain_version_int) : S_chain_version_int).cells.toArray) Try.zeroValue76 rfl H) rfl rfl ?_
      rintro _ h8 ⟨a9, rfl, H⟩
      refine tr_e (f_store (vs := y6.cells) Try.sizeOf76 rfl rfl cellsOfStruct rfl (by intro v hv; exact ones_S_chain_version_int _ v hv) H) rfl rfl ?_
      rintro _ h10 ⟨rfl, H⟩
      refine tr_nil ?_
      refine tr_thenN ?_
      refine tr_seq ?_
      refine tr_region ?_
      refine tr_p (y_move rfl) rfl rfl ?_
      refine tr_p (y_fa (off := 0) Try.runUnderlying76 fo_76_0 rfl) rfl rfl ?_
      obtain ⟨y11, k12, H⟩ := H
      refine tr_h (y_ld Try.isAgg3 rfl) k12 rfl rfl ?_
      refine tr_p (y_fa (off := 2) Try.runUnderlying76 fo_76_2 rfl) rfl rfl ?_
      obtain ⟨y13, k14, H⟩ := H
      refine tr_h (y_ld Try.isAgg4 rfl) k14 rfl rfl ?_
      refine tr_p (y_not rfl) rfl rfl ?_
      refine tr_e (e_callD rfl rfl H) rfl rfl ?_
      rintro _ h15 ⟨r16, rfl, H⟩
      refine tr_p (y_not rfl) rfl rfl ?_
      refine tr_nil ?_
      refine tr_thenN ?_
      refine tr_cond rfl (fun g17 => ?_) (fun g17 => ?_)
      · replace H := H.1 g17
        refine tr_ret ?_
        refine tr_blockR ?_
        refine tr_thenR ?_
        refine tr_thenR ?_
        refine tr_blockR ?_
        exact tr_ret0 rfl ⟨rfl, H⟩
      · replace H := H.2 g17
        refine tr_skip ?_
        refine tr_blockN ?_
        refine tr_thenN ?_
        refine tr_region ?_
        refine tr_p (y_add rfl rfl) rfl rfl ?_
        refine tr_p (y_move rfl) rfl rfl ?_
        refine tr_nil ?_
        refine tr_thenN ?_
        exact tr_join [(0, x0), (5, x5.enc), (6, (.int .i64 x6)), (7, (.int .i64 (IntKind.wrap .i64 (x7 + 1))))] ⟨rfl, rfl, rfl, rfl, trivial⟩ ⟨_, _, _, _, rfl, H⟩
    · replace H := H.2 g3
      refine tr_exit ?_
      refine tr_thenE ?_
      refine tr_thenE ?_
      refine tr_hit ?_
      exact tr_end0 rfl ⟨rfl, H⟩

/-- (*spate/chain.Chain[int]).All -/
def F.chain_Chain_int_All (p0 : Option Addr) (h : H) (Q : Value → H → Prop) : Prop :=
  nn p0 fun a1 =>
  ldL h (a1.add 0) fun y3 =>
  F.slices_Clone_Slchain_version_int_chain_version_int y3 h fun r6 h5 =>
  new h5 #[(⟨none, 0, 0⟩ : Sl).enc] ty_72 fun a8 h7 =>
  stH h7 a8 [r6.enc] fun h9 =>
  Q (.func (.func 43) #[] #[(.pointer (some a8))]) h9
theorem F.chain_Chain_int_All_ok {p0 : Option Addr} {h : H} {Q : Value → H → Prop} (H : F.chain_Chain_int_All p0 h Q) : Fn PP 26 ([(.pointer p0)] : List Value).toArray h fun r h' => ∃ r0, r = r0 ∧ Q r0 h' := by
  unfold F.chain_Chain_int_All at H
  refine fn_of Try.func26 Try.ntmps26 rfl rfl fun w0 => ?_
  refine tr_sub [(0, (.pointer p0))] ⟨rfl, trivial⟩ ?_
  refine tr_seq ?_
  refine tr_region ?_
  refine tr_p (y_assign rfl) rfl rfl ?_
  refine tr_nil ?_
  refine tr_thenN ?_
  refine tr_seq ?_
  refine tr_region ?_
  refine tr_p (y_move rfl) rfl rfl ?_
  obtain ⟨a1, e2, H⟩ := H
  refine tr_p (f_nn rfl e2) rfl rfl ?_
  refine tr_p (y_fa (off := 0) Try.runUnderlying74 fo_74_0 rfl) rfl rfl ?_
  obtain ⟨y3, k4, H⟩ := H
  refine tr_h (y_ld Try.isAgg72 rfl) k4 rfl rfl ?_
  refine tr_e (e_call Try.call42 rfl (F.slices_Clone_Slchain_version_int_chain_version_int_ok H)) rfl rfl ?_
  rintro _ h5 ⟨r6, rfl, H⟩
  refine tr_e (f_alloc (cs := #[(⟨none, 0, 0⟩ : Sl).enc]) Try.zeroValue72 rfl H) rfl rfl ?_
  rintro _ h7 ⟨a8, rfl, H⟩
  refine tr_e (f_store (vs := [r6.enc]) Try.sizeOf72 rfl rfl rfl rfl (one1 rfl) H) rfl rfl ?_
  rintro _ h9 ⟨rfl, H⟩
  refine tr_nil ?_
  refine tr_thenN ?_
  refine tr_seq ?_
  refine tr_region ?_
  refine tr_p (y_fn rfl rfl) rfl rfl ?_
  refine tr_p (y_assign rfl) rfl rfl ?_
  refine tr_nil ?_
  refine tr_thenN ?_
  refine tr_ret ?_
  exact tr_ret1 rfl rfl ⟨_, rfl, H⟩

def F.spatelaw5_known.j1 (Q : Bool → H → Prop) (x1 : Option Addr) (h : H) : Prop :=
  F.chain_Chain_int_Put x1 3 7 h fun r4 r5 h3 =>
  F.chain_Chain_int_At x1 4 h3 fun r7 r8 h6 =>
  (((r4 == 1)) = true →
  (((r5 == 0)) = true →
  (((r7 == 7)) = true →
  (r8 = true →
  F.chain_Chain_int_Len x1 h6 fun r14 h13 =>
  Q ((r14 == 1)) h13) ∧
  (r8 = false →
  Q false h6)) ∧
  (((r7 == 7)) = false →
  Q false h6)) ∧
  (((r5 == 0)) = false →
  Q false h6)) ∧
  (((r4 == 1)) = false →
  Q false h6)
def F.spatelaw5_known.j2 (Q : Bool → H → Prop) (x1 : Option Addr) (x13 : Bool) (h : H) : Prop :=
  (x13 = true →
  Q false h) ∧
  (x13 = false →
  F.spatelaw5_known.j1 Q x1 h)
/-- spate/spatelaw5.known -/
def F.spatelaw5_known  (h : H) (Q : Bool → H → Prop) : Prop :=
  F.chain_New_int  h fun r2 h1 =>
  (r2.isNone = true →
  F.spatelaw5_known.j2 Q r2 true h1) ∧
  (r2.isNone = false →
  F.chain_Chain_int_All r2 h1 fun r18 h17 =>
  (r18 = .nilFunc ∨ isF r18) ∧
  F.spatelaw5_known.j2 Q r2 (isNilF r18) h17)
theorem F.spatelaw5_known_ok  {h : H} {Q : Bool → H → Prop} (H : F.spatelaw5_known  h Q) : Fn PP 11 ([] : List Value).toArray h fun r h' => ∃ r0, r = (.bool r0) ∧ Q r0 h' := by
  unfold F.spatelaw5_known at H
  refine fn_of Try.func11 Try.ntmps11 rfl rfl fun w0 => ?_
  refine tr_sub [] trivial ?_
  refine tr_seq ?_
  refine tr_region ?_
  refine tr_p (y_assign rfl) rfl rfl ?_
  refine tr_nil ?_
  refine tr_thenN ?_
  refine tr_seq ?_
  refine tr_region ?_
  refine tr_e (e_call Try.call29 rfl (F.chain_New_int_ok H)) rfl rfl ?_
  rintro _ h1 ⟨r2, rfl, H⟩
  refine tr_p (y_assign rfl) rfl rfl ?_
  refine tr_nil ?_
  refine tr_thenN ?_
  refine tr_seq_j (fun L' h => ∃ (x1 : Option Addr), L' = [(1, (.pointer x1))] ∧ F.spatelaw5_known.j1 Q x1 h) ?_ ?_
  · rintro L' h ⟨x1, rfl, H⟩
    unfold F.spatelaw5_known.j1 at H
    refine tr_seq ?_
    refine tr_region ?_
    refine tr_p (y_move rfl) rfl rfl ?_
    refine tr_e (e_call Try.call23 rfl (F.chain_Chain_int_Put_ok H)) rfl rfl ?_
    rintro _ h3 ⟨r4, r5, rfl, H⟩
    refine tr_p (y_move rfl) rfl rfl ?_
    refine tr_p (y_ext rfl rfl) rfl rfl ?_
    refine tr_p (y_ext rfl rfl) rfl rfl ?_
    refine tr_p (y_assign rfl) rfl rfl ?_
    refine tr_p (y_assign rfl) rfl rfl ?_
    refine tr_nil ?_
    refine tr_thenN ?_
    refine tr_seq ?_
    refine tr_region ?_
    refine tr_p (y_move rfl) rfl rfl ?_
    refine tr_e (e_call Try.call24 rfl (F.chain_Chain_int_At_ok H)) rfl rfl ?_
    rintro _ h6 ⟨r7, r8, rfl, H⟩
    refine tr_p (y_move rfl) rfl rfl ?_
    refine tr_p (y_ext rfl rfl) rfl rfl ?_
    refine tr_p (y_ext rfl rfl) rfl rfl ?_
    refine tr_p (y_assign rfl) rfl rfl ?_
    refine tr_p (y_assign rfl) rfl rfl ?_
    refine tr_nil ?_
    refine tr_thenN ?_
    refine tr_seq ?_
    refine tr_region ?_
    refine tr_p (y_move rfl) rfl rfl ?_
    refine tr_p (y_eql rfl rfl) rfl rfl ?_
    refine tr_p (y_move rfl) rfl rfl ?_
    refine tr_split (t := 26) rfl (fun g9 => ?_) (fun g9 => ?_)
    · replace H := H.1 g9
      refine tr_p (y_move rfl) rfl rfl ?_
      refine tr_p (y_eql rfl rfl) rfl rfl ?_
      refine tr_p (y_pick_t rfl rfl) rfl rfl ?_
      refine tr_p (y_move rfl) rfl rfl ?_
      refine tr_split (t := 30) rfl (fun g10 => ?_) (fun g10 => ?_)
      · replace H := H.1 g10
        refine tr_p (y_move rfl) rfl rfl ?_
        refine tr_p (y_eql rfl rfl) rfl rfl ?_
        refine tr_p (y_pick_t rfl rfl) rfl rfl ?_
        refine tr_p (y_move rfl) rfl rfl ?_
        refine tr_split (t := 34) rfl (fun g11 => ?_) (fun g11 => ?_)
        · replace H := H.1 g11
          refine tr_p (y_move rfl) rfl rfl ?_
          refine tr_p (y_pick_t rfl rfl) rfl rfl ?_
          refine tr_p (y_move rfl) rfl rfl ?_
          refine tr_split (t := 37) rfl (fun g12 => ?_) (fun g12 => ?_)
          · replace H := H.1 g12
            refine tr_p (y_move rfl) rfl rfl ?_
            refine tr_e (e_call Try.call16 rfl (F.chain_Chain_int_Len_ok H)) rfl rfl ?_
            rintro _ h13 ⟨r14, rfl, H⟩
            refine tr_p (y_eql rfl rfl) rfl rfl ?_
            refine tr_p (y_pick_t rfl rfl) rfl rfl ?_
            refine tr_p (y_assign rfl) rfl rfl ?_
            refine tr_nil ?_
            refine tr_thenN ?_
            refine tr_ret ?_
            exact tr_ret1 rfl rfl ⟨_, rfl, H⟩
          · replace H := H.2 g12
            refine tr_s rfl rfl ?_
            refine tr_s rfl rfl ?_
            refine tr_s rfl rfl ?_
            refine tr_p (y_pick_f rfl rfl) rfl rfl ?_
            refine tr_p (y_assign rfl) rfl rfl ?_
            refine tr_nil ?_
            refine tr_thenN ?_
            refine tr_ret ?_
            exact tr_ret1 rfl rfl ⟨_, rfl, H⟩
        · replace H := H.2 g11
          refine tr_s rfl rfl ?_
          refine tr_p (y_pick_f rfl rfl) rfl rfl ?_
          refine tr_p (y_move rfl) rfl rfl ?_
          refine tr_s rfl rfl ?_
          refine tr_s rfl rfl ?_
          refine tr_s rfl rfl ?_
          refine tr_p (y_pick_f rfl rfl) rfl rfl ?_
          refine tr_p (y_assign rfl) rfl rfl ?_
          refine tr_nil ?_
          refine tr_thenN ?_
          refine tr_ret ?_
          exact tr_ret1 rfl rfl ⟨_, rfl, H⟩
      · replace H := H.2 g10
        refine tr_s rfl rfl ?_
        refine tr_s rfl rfl ?_
        refine tr_p (y_pick_f rfl rfl) rfl rfl ?_
        refine tr_p (y_move rfl) rfl rfl ?_
        refine tr_s rfl rfl ?_
        refine tr_p (y_pick_f rfl rfl) rfl rfl ?_
        refine tr_p (y_move rfl) rfl rfl ?_
        refine tr_s rfl rfl ?_
        refine tr_s rfl rfl ?_
        refine tr_s rfl rfl ?_
        refine tr_p (y_pick_f rfl rfl) rfl rfl ?_
        refine tr_p (y_assign rfl) rfl rfl ?_
        refine tr_nil ?_
        refine tr_thenN ?_
        refine tr_ret ?_
        exact tr_ret1 rfl rfl ⟨_, rfl, H⟩
    · replace H := H.2 g9
      refine tr_s rfl rfl ?_
      refine tr_s rfl rfl ?_
      refine tr_p (y_pick_f rfl rfl) rfl rfl ?_
      refine tr_p (y_move rfl) rfl rfl ?_
      refine tr_s rfl rfl ?_
      refine tr_s rfl rfl ?_
      refine tr_p (y_pick_f rfl rfl) rfl rfl ?_
      refine tr_p (y_move rfl) rfl rfl ?_
      refine tr_s rfl rfl ?_
      refine tr_p (y_pick_f rfl rfl) rfl rfl ?_
      refine tr_p (y_move rfl) rfl rfl ?_
      refine tr_s rfl rfl ?_
      refine tr_s rfl rfl ?_
      refine tr_s rfl rfl ?_
      refine tr_p (y_pick_f rfl rfl) rfl rfl ?_
      refine tr_p (y_assign rfl) rfl rfl ?_
      refine tr_nil ?_
      refine tr_thenN ?_
      refine tr_ret ?_
      exact tr_ret1 rfl rfl ⟨_, rfl, H⟩
  · refine tr_seq_j (fun L' h => ∃ (x1 : Option Addr) (x13 : Bool), L' = [(1, (.pointer x1)), (13, (.bool x13))] ∧ F.spatelaw5_known.j2 Q x1 x13 h) ?_ ?_
    · rintro L' h ⟨x1, x13, rfl, H⟩
      unfold F.spatelaw5_known.j2 at H
      refine tr_cond rfl (fun g15 => ?_) (fun g15 => ?_)
      · replace H := H.1 g15
        refine tr_seq ?_
        refine tr_region ?_
        refine tr_p (y_assign rfl) rfl rfl ?_
        refine tr_nil ?_
        refine tr_thenN ?_
        refine tr_ret ?_
        refine tr_thenR ?_
        exact tr_ret1 rfl rfl ⟨_, rfl, H⟩
      · replace H := H.2 g15
        refine tr_skip ?_
        refine tr_thenN ?_
        exact tr_join [(1, (.pointer x1))] ⟨rfl, trivial⟩ ⟨_, rfl, H⟩
    · refine tr_region ?_
      refine tr_p (y_move rfl) rfl rfl ?_
      refine tr_p (y_pnil_eql Try.runUnderlying25 rfl rfl) rfl rfl ?_
      refine tr_p (y_move rfl) rfl rfl ?_
      refine tr_split (t := 9) rfl (fun g16 => ?_) (fun g16 => ?_)
      · replace H := H.1 g16
        refine tr_s rfl rfl ?_
        refine tr_s rfl rfl ?_
        refine tr_s rfl rfl ?_
        refine tr_p (y_pick_t rfl rfl) rfl rfl ?_
        refine tr_nil ?_
        refine tr_thenN ?_
        exact tr_join [(1, (.pointer r2)), (13, (.bool true))] ⟨rfl, rfl, trivial⟩ ⟨_, _, rfl, H⟩
      · replace H := H.2 g16
        refine tr_p (y_move rfl) rfl rfl ?_
        refine tr_e (e_call Try.call26 rfl (F.chain_Chain_int_All_ok H)) rfl rfl ?_
        rintro r18 h17 ⟨_, rfl, H⟩
        obtain ⟨e19, H⟩ := H
        refine tr_p (y_vnil_eql Try.runUnderlying45 rfl rfl e19) rfl rfl ?_
        refine tr_p (y_pick_f rfl rfl) rfl rfl ?_
        refine tr_nil ?_
        refine tr_thenN ?_
        exact tr_join [(1, (.pointer r2)), (13, (.bool (isNilF r18)))] ⟨rfl, rfl, trivial⟩ ⟨_, _, rfl, H⟩

def F.spatelaw5_within.j1 (Q : Int → H → Prop) (x5 : Int) (h : H) : Prop :=
  Q x5 h
/-- spate/spatelaw5.within -/
def F.spatelaw5_within (p0 : Int) (p1 : Int) (h : H) (Q : Int → H → Prop) : Prop :=
  (p1 : Int) ≠ 0 ∧
  ((decide ((Int.tmod p0 p1) < 0)) = true →
  F.spatelaw5_within.j1 Q (IntKind.wrap .i64 ((Int.tmod p0 p1) + p1)) h) ∧
  ((decide ((Int.tmod p0 p1) < 0)) = false →
  F.spatelaw5_within.j1 Q (Int.tmod p0 p1) h)
theorem F.spatelaw5_within_ok {p0 : Int} {p1 : Int} {h : H} {Q : Int → H → Prop} (H : F.spatelaw5_within p0 p1 h Q) : Fn PP 21 ([(.int .i64 p0), (.int .i64 p1)] : List Value).toArray h fun r h' => ∃ r0, r = (.int .i64 r0) ∧ Q r0 h' := by
  unfold F.spatelaw5_within at H
  refine fn_of Try.func21 Try.ntmps21 rfl rfl fun w0 => ?_
  refine tr_sub [(0, (.int .i64 p0)), (1, (.int .i64 p1))] ⟨rfl, rfl, trivial⟩ ?_
  refine tr_seq ?_
  refine tr_region ?_
  refine tr_p (y_assign rfl) rfl rfl ?_
  refine tr_nil ?_
  refine tr_thenN ?_
  refine tr_seq ?_
  refine tr_region ?_
  refine tr_p (y_move rfl) rfl rfl ?_
  refine tr_p (y_move rfl) rfl rfl ?_
  obtain ⟨e1, H⟩ := H
  refine tr_p (y_rem rfl rfl e1) rfl rfl ?_
  refine tr_p (y_assign rfl) rfl rfl ?_
  refine tr_nil ?_
  refine tr_thenN ?_
  refine tr_seq_j (fun L' h => ∃ (x5 : Int), L' = [(5, (.int .i64 x5))] ∧ F.spatelaw5_within.j1 Q x5 h) ?_ ?_
  · rintro L' h ⟨x5, rfl, H⟩
    unfold F.spatelaw5_within.j1 at H
    refine tr_seq ?_
    refine tr_region ?_
    refine tr_p (y_move rfl) rfl rfl ?_
    refine tr_p (y_assign rfl) rfl rfl ?_
    refine tr_nil ?_
    refine tr_thenN ?_
    refine tr_ret ?_
    exact tr_ret1 rfl rfl ⟨_, rfl, H⟩
  · refine tr_seq ?_
    refine tr_region ?_
    refine tr_p (y_move rfl) rfl rfl ?_
    refine tr_p (y_lss rfl rfl) rfl rfl ?_
    refine tr_nil ?_
    refine tr_thenN ?_
    refine tr_cond rfl (fun g2 => ?_) (fun g2 => ?_)
    · replace H := H.1 g2
      refine tr_region ?_
      refine tr_p (y_move rfl) rfl rfl ?_
      refine tr_p (y_move rfl) rfl rfl ?_
      refine tr_p (y_add rfl rfl) rfl rfl ?_
      refine tr_p (y_assign rfl) rfl rfl ?_
      refine tr_nil ?_
      refine tr_thenN ?_
      exact tr_join [(5, (.int .i64 (IntKind.wrap .i64 ((Int.tmod p0 p1) + p1))))] ⟨rfl, trivial⟩ ⟨_, rfl, H⟩
    · replace H := H.2 g2
      refine tr_skip ?_
      refine tr_thenN ?_
      exact tr_join [(5, (.int .i64 (Int.tmod p0 p1)))] ⟨rfl, trivial⟩ ⟨_, rfl, H⟩

/-- (*spate/chain.Chain[int]).Newest -/
def F.chain_Chain_int_Newest (p0 : Option Addr) (h : H) (Q : Int → Int → Bool → H → Prop) : Prop :=
  nn p0 fun a1 =>
  ldL h (a1.add 0) fun y3 =>
  ((((y3.len : Int) == 0)) = true →
  Q 0 0 false h) ∧
  ((((y3.len : Int) == 0)) = false →
  nn p0 fun a6 =>
  ldL h (a6.add 0) fun y8 =>
  nn p0 fun a10 =>
  ldL h (a10.add 0) fun y12 =>
  idxA y8 (IntKind.wrap .i64 ((y12.len : Int) - 1)) 3 fun a14 =>
  ld_S_chain_version_int h a14 fun y16 =>
  new h (((⟨0, 0, false⟩ : S_chain_version_int) : S_chain_version_int).cells.toArray) ty_76 fun a19 h18 =>
  Cells h18 a14 y16.cells ∧
  cellH h18 (a10.add 0) = some y12.enc ∧
  cellH h18 (a6.add 0) = some y8.enc ∧
  stH h18 a19 y16.cells fun h23 =>
  ldI .i64 h23 (a19.add 1) fun y24 =>
  ldI .i64 h23 (a19.add 0) fun y26 =>
  ldB h23 (a19.add 2) fun y28 =>
  Q y24 y26 (!y28) h23)
theorem F.chain_Chain_int_Newest_ok {p0 : Option Addr} {h : H} {Q : Int → Int → Bool → H → Prop} (H : F.chain_Chain_int_Newest p0 h Q) : Fn PP 14 ([(.pointer p0)] : List Value).toArray h fun r h' => ∃ r0 r1 r2, r = .tuple #[(.int .i64 r0), (.int .i64 r1), (.bool r2)] ∧ Q r0 r1 r2 h' := by
  unfold F.chain_Chain_int_Newest at H
  refine fn_of Try.func14 Try.ntmps14 rfl rfl fun w0 => ?_
  refine tr_sub [(0, (.pointer p0))] ⟨rfl, trivial⟩ ?_
  refine tr_seq ?_
  refine tr_region ?_
  refine tr_p (y_assign rfl) rfl rfl ?_
  refine tr_p (y_assign rfl) rfl rfl ?_
  refine tr_p (y_assign rfl) rfl rfl ?_
  refine tr_nil ?_
  refine tr_thenN ?_
  refine tr_seq ?_
  refine tr_seq ?_
  refine tr_region ?_
  refine tr_p (y_move rfl) rfl rfl ?_
  obtain ⟨a1, e2, H⟩ := H
  refine tr_p (f_nn rfl e2) rfl rfl ?_
  refine tr_p (y_fa (off := 0) Try.runUnderlying74 fo_74_0 rfl) rfl rfl ?_
  obtain ⟨y3, k4, H⟩ := H
  refine tr_h (y_ld Try.isAgg72 rfl) k4 rfl rfl ?_
  refine tr_p (y_len (ts := #[]) Try.runUnderlying72 (o := y3.ptr) (n := y3.len) (cap := y3.cap) rfl) rfl rfl ?_
  refine tr_p (y_eql rfl rfl) rfl rfl ?_
  refine tr_nil ?_
  refine tr_thenN ?_
  refine tr_cond rfl (fun g5 => ?_) (fun g5 => ?_)
  · replace H := H.1 g5
    refine tr_seq ?_
    refine tr_region ?_
    refine tr_p (y_move rfl) rfl rfl ?_
    refine tr_p (y_assign rfl) rfl rfl ?_
    refine tr_p (y_assign rfl) rfl rfl ?_
    refine tr_p (y_assign rfl) rfl rfl ?_
    refine tr_nil ?_
    refine tr_thenN ?_
    refine tr_ret ?_
    refine tr_thenR ?_
    exact tr_ret3 rfl rfl rfl rfl ⟨_, _, _, rfl, H⟩
  · replace H := H.2 g5
    refine tr_skip ?_
    refine tr_thenN ?_
    refine tr_seq ?_
    refine tr_draw mixed [0, 1, 3, 7, 0, 16, 48, 112, 240, 496, 1023, 2047, 0, 8191] (by kernel_rfl) ?_
    refine g_p 0 1 rfl (by kernel_rfl) (y_move rfl) rfl rfl ?_
    obtain ⟨a6, e7, H⟩ := H
    refine g_p 1 3 rfl (by kernel_rfl) (f_nn rfl e7) rfl rfl ?_
    refine g_p 2 7 rfl (by kernel_rfl) (y_fa (off := 0) Try.runUnderlying74 fo_74_0 rfl) rfl rfl ?_
    obtain ⟨y8, k9, H⟩ := H
    refine g_h 3 15 rfl (by kernel_rfl) (y_ld Try.isAgg72 rfl) k9 rfl rfl ?_
    refine g_p 4 31 rfl (by kernel_rfl) (y_move rfl) rfl rfl ?_
    obtain ⟨a10, e11, H⟩ := H
    refine g_p 5 63 rfl (by kernel_rfl) (f_nn rfl e11) rfl rfl ?_
    refine g_p 6 127 rfl (by kernel_rfl) (y_fa (off := 0) Try.runUnderlying74 fo_74_0 rfl) rfl rfl ?_
    obtain ⟨y12, k13, H⟩ := H
    refine g_h 7 255 rfl (by kernel_rfl) (y_ld Try.isAgg72 rfl) k13 rfl rfl ?_
    refine g_p 8 511 rfl (by kernel_rfl) (y_len (ts := #[]) Try.runUnderlying72 (o := y12.ptr) (n := y12.len) (cap := y12.cap) rfl) rfl rfl ?_
    refine g_p 9 1023 rfl (by kernel_rfl) (y_sub rfl rfl) rfl rfl ?_
    obtain ⟨a14, e15, H⟩ := H
    refine g_p 10 2047 rfl (by kernel_rfl) (f_idx (s := y8) Try.runUnderlying72 Try.sizeOf76 rfl rfl e15) rfl rfl ?_
    obtain ⟨y16, k17, H⟩ := H
    refine g_h 11 4095 rfl (by kernel_rfl) (y_ldS Try.isAgg76 Try.sizeOf76 rfl rfl) k17 rfl rfl ?_
    refine g_e 12 8191 [(11, fun h => Cells h a14 y16.cells), (7, fun h => cellH h (a10.add 0) = some y12.enc), (3, fun h => cellH h (a6.add 0) = some y8.enc)] (by kernel_rfl) rfl (by kernel_rfl) (f_alloc (cs := ((⟨0, 0, false⟩ : S_chain_version_int) : S_chain_version_int).cells.toArray) Try.zeroValue76 rfl H) rfl rfl ?_
    rintro _ h18 ⟨a19, rfl, H⟩
    obtain ⟨k20, k21, k22, H⟩ := H
    refine ⟨And.intro k20 (And.intro k21 (And.intro k22 trivial)), ?_⟩
    refine g_e 13 16383 [] (by kernel_rfl) rfl (by kernel_rfl) (f_store (vs := y16.cells) Try.sizeOf76 rfl rfl cellsOfStruct rfl (by intro v hv; exact ones_S_chain_version_int _ v hv) H) rfl rfl ?_
    rintro _ h23 ⟨rfl, H⟩
    refine ⟨trivial, ?_⟩
    refine g_d (by kernel_rfl) ?_
    refine tr_thenN ?_
    refine tr_seq ?_
    refine tr_draw mixed [0, 1, 0, 4, 0, 16, 48, 3, 143, 511] (by kernel_rfl) ?_
    refine g_p 0 1 rfl (by kernel_rfl) (y_fa (off := 1) Try.runUnderlying76 fo_76_1 rfl) rfl rfl ?_
    obtain ⟨y24, k25, H⟩ := H
    refine g_h 1 3 rfl (by kernel_rfl) (y_ld Try.isAgg3 rfl) k25 rfl rfl ?_
    refine g_p 2 7 rfl (by kernel_rfl) (y_fa (off := 0) Try.runUnderlying76 fo_76_0 rfl) rfl rfl ?_
    obtain ⟨y26, k27, H⟩ := H
    refine g_h 3 15 rfl (by kernel_rfl) (y_ld Try.isAgg3 rfl) k27 rfl rfl ?_
    refine g_p 4 31 rfl (by kernel_rfl) (y_fa (off := 2) Try.runUnderlying76 fo_76_2 rfl) rfl rfl ?_
    obtain ⟨y28, k29, H⟩ := H
    refine g_h 5 63 rfl (by kernel_rfl) (y_ld Try.isAgg4 rfl) k29 rfl rfl ?_
    refine g_p 6 127 rfl (by kernel_rfl) (y_not rfl) rfl rfl ?_
    refine g_p 7 255 rfl (by kernel_rfl) (y_assign rfl) rfl rfl ?_
    refine g_p 8 511 rfl (by kernel_rfl) (y_assign rfl) rfl rfl ?_
    refine g_p 9 1023 rfl (by kernel_rfl) (y_assign rfl) rfl rfl ?_
    refine g_d (by kernel_rfl) ?_
    refine tr_thenN ?_
    refine tr_ret ?_
    exact tr_ret3 rfl rfl rfl rfl ⟨_, _, _, rfl, H⟩

/-- (*spate/chain.Chain[int]).Kill -/
def F.chain_Chain_int_Kill (p0 : Option Addr) (p1 : Int) (h : H) (Q : Int → Int → H → Prop) : Prop :=
  F.chain_Chain_int_may p0 p1 h fun r2 h1 =>
  (((r2 != 0)) = true →
  Q 0 r2 h1) ∧
  (((r2 != 0)) = false →
  F.chain_Chain_int_Newest p0 h1 fun r5 r6 r7 h4 =>
  ((!r7) = true →
  Q 0 44 h4) ∧
  ((!r7) = false →
  F.chain_Chain_int_lay p0 (⟨p1, 0, true⟩ : S_chain_version_int) h4 fun r10 h9 =>
  Q r10 0 h9))
theorem F.chain_Chain_int_Kill_ok {p0 : Option Addr} {p1 : Int} {h : H} {Q : Int → Int → H → Prop} (H : F.chain_Chain_int_Kill p0 p1 h Q) : Fn PP 22 ([(.pointer p0), (.int .i64 p1)] : List Value).toArray h fun r h' => ∃ r0 r1, r = .tuple #[(.int .i64 r0), (.int .i64 r1)] ∧ Q r0 r1 h' := by
  unfold F.chain_Chain_int_Kill at H
  refine fn_of Try.func22 Try.ntmps22 rfl rfl fun w0 => ?_
  refine tr_sub [(0, (.pointer p0)), (1, (.int .i64 p1))] ⟨rfl, rfl, trivial⟩ ?_
  refine tr_seq ?_
  refine tr_region ?_
  refine tr_p (y_assign rfl) rfl rfl ?_
  refine tr_p (y_assign rfl) rfl rfl ?_
  refine tr_nil ?_
  refine tr_thenN ?_
  refine tr_seq ?_
  refine tr_seq ?_
  refine tr_region ?_
  refine tr_p (y_move rfl) rfl rfl ?_
  refine tr_p (y_move rfl) rfl rfl ?_
  refine tr_e (e_call Try.call40 rfl (F.chain_Chain_int_may_ok H)) rfl rfl ?_
  rintro _ h1 ⟨r2, rfl, H⟩
  refine tr_p (y_assign rfl) rfl rfl ?_
  refine tr_nil ?_
  refine tr_thenN ?_
  refine tr_seq ?_
  refine tr_region ?_
  refine tr_p (y_move rfl) rfl rfl ?_
  refine tr_p (y_neq rfl rfl) rfl rfl ?_
  refine tr_nil ?_
  refine tr_thenN ?_
  refine tr_cond rfl (fun g3 => ?_) (fun g3 => ?_)
  · replace H := H.1 g3
    refine tr_seq ?_
    refine tr_region ?_
    refine tr_p (y_move rfl) rfl rfl ?_
    refine tr_p (y_assign rfl) rfl rfl ?_
    refine tr_p (y_assign rfl) rfl rfl ?_
    refine tr_nil ?_
    refine tr_thenN ?_
    refine tr_ret ?_
    refine tr_thenR ?_
    exact tr_ret2 rfl rfl rfl ⟨_, _, rfl, H⟩
  · replace H := H.2 g3
    refine tr_skip ?_
    refine tr_thenN ?_
    refine tr_seq ?_
    refine tr_seq ?_
    refine tr_region ?_
    refine tr_p (y_move rfl) rfl rfl ?_
    refine tr_e (e_call Try.call14 rfl (F.chain_Chain_int_Newest_ok H)) rfl rfl ?_
    rintro _ h4 ⟨r5, r6, r7, rfl, H⟩
    refine tr_p (y_move rfl) rfl rfl ?_
    refine tr_p (y_ext rfl rfl) rfl rfl ?_
    refine tr_p (y_ext rfl rfl) rfl rfl ?_
    refine tr_p (y_ext rfl rfl) rfl rfl ?_
    refine tr_p (y_assign rfl) rfl rfl ?_
    refine tr_p (y_assign rfl) rfl rfl ?_
    refine tr_p (y_assign rfl) rfl rfl ?_
    refine tr_nil ?_
    refine tr_thenN ?_
    refine tr_seq ?_
    refine tr_region ?_
    refine tr_p (y_move rfl) rfl rfl ?_
    refine tr_p (y_not rfl) rfl rfl ?_
    refine tr_nil ?_
    refine tr_thenN ?_
    refine tr_cond rfl (fun g8 => ?_) (fun g8 => ?_)
    · replace H := H.1 g8
      refine tr_seq ?_
      refine tr_region ?_
      refine tr_p (y_assign rfl) rfl rfl ?_
      refine tr_p (y_assign rfl) rfl rfl ?_
      refine tr_nil ?_
      refine tr_thenN ?_
      refine tr_ret ?_
      refine tr_thenR ?_
      exact tr_ret2 rfl rfl rfl ⟨_, _, rfl, H⟩
    · replace H := H.2 g8
      refine tr_skip ?_
      refine tr_thenN ?_
      refine tr_seq ?_
      refine tr_region ?_
      refine tr_p (y_move rfl) rfl rfl ?_
      refine tr_p (y_move rfl) rfl rfl ?_
      refine tr_p (f_build rfl (bd_76_0_2 p1 true)) rfl rfl ?_
      refine tr_e (e_call Try.call41 rfl (F.chain_Chain_int_lay_ok H)) rfl rfl ?_
      rintro _ h9 ⟨r10, rfl, H⟩
      refine tr_p (y_assign rfl) rfl rfl ?_
      refine tr_p (y_assign rfl) rfl rfl ?_
      refine tr_nil ?_
      refine tr_thenN ?_
      refine tr_ret ?_
      exact tr_ret2 rfl rfl rfl ⟨_, _, rfl, H⟩

def F.spatelaw5_was.j2 (Q : Bool → H → Prop) (x9 : Int) (x10 : Int) (x11 : Bool) (h : H) : Prop :=
  (x11 = true →
  Q ((x10 == x9)) h) ∧
  (x11 = false →
  Q false h)
def F.spatelaw5_was.j3 (Q : Bool → H → Prop) (x9 : Int) (x10 : Int) (x11 : Bool) (x49 : Bool) (h : H) : Prop :=
  (x49 = true →
  ((!x11) = true →
  Q ((x10 == 0)) h) ∧
  ((!x11) = false →
  Q false h)) ∧
  (x49 = false →
  F.spatelaw5_was.j2 Q x9 x10 x11 h)
def F.spatelaw5_was.j1 (Q : Bool → H → Prop) (x3 : Int) (x9 : Int) (x10 : Int) (x11 : Bool) (h : H) : Prop :=
  (((x9 == 0)) = true →
  F.spatelaw5_was.j3 Q x9 x10 x11 true h) ∧
  (((x9 == 0)) = false →
  (x3 : Int) ≠ 0 ∧
  F.spatelaw5_was.j3 Q x9 x10 x11 (((Int.tmod x9 x3) == 0)) h)
def F.spatelaw5_was.j4 (Q : Bool → H → Prop) (x2 : Int) (x3 : Int) (x9 : Int) (x10 : Int) (x11 : Bool) (x13 : Int) (x38 : Bool) (h : H) : Prop :=
  (x38 = true →
  (x2 : Int) ≠ 0 ∧
  F.spatelaw5_was.j1 Q x3 (IntKind.wrap .i64 (Int.tdiv x13 x2)) x10 x11 h) ∧
  (x38 = false →
  F.spatelaw5_was.j1 Q x3 x9 x10 x11 h)
/-- spate/spatelaw5.was -/
def F.spatelaw5_was (p0 : Option Addr) (p1 : Int) (p2 : Int) (p3 : Int) (h : H) (Q : Bool → H → Prop) : Prop :=
  (p2 : Int) ≠ 0 ∧
  F.chain_Chain_int_At p0 p1 h fun r3 r4 h2 =>
  F.chain_Chain_int_Newest p0 h2 fun r6 r7 r8 h5 =>
  ((decide (r7 > 0)) = true →
  (p2 : Int) ≠ 0 ∧
  F.spatelaw5_was.j4 Q p2 p3 (IntKind.wrap .i64 (Int.tdiv p1 p2)) r3 r4 r7 (decide ((IntKind.wrap .i64 (Int.tdiv p1 p2)) > (IntKind.wrap .i64 (Int.tdiv r7 p2)))) h5) ∧
  ((decide (r7 > 0)) = false →
  F.spatelaw5_was.j4 Q p2 p3 (IntKind.wrap .i64 (Int.tdiv p1 p2)) r3 r4 r7 false h5)
theorem F.spatelaw5_was_ok {p0 : Option Addr} {p1 : Int} {p2 : Int} {p3 : Int} {h : H} {Q : Bool → H → Prop} (H : F.spatelaw5_was p0 p1 p2 p3 h Q) : Fn PP 30 ([(.pointer p0), (.int .i64 p1), (.int .i64 p2), (.int .i64 p3)] : List Value).toArray h fun r h' => ∃ r0, r = (.bool r0) ∧ Q r0 h' := by
  unfold F.spatelaw5_was at H
  refine fn_of Try.func30 Try.ntmps30 rfl rfl fun w0 => ?_
  refine tr_sub [(0, (.pointer p0)), (1, (.int .i64 p1)), (2, (.int .i64 p2)), (3, (.int .i64 p3))] ⟨rfl, rfl, rfl, rfl, trivial⟩ ?_
  refine tr_seq ?_
  refine tr_region ?_
  refine tr_p (y_assign rfl) rfl rfl ?_
  refine tr_nil ?_
  refine tr_thenN ?_
  refine tr_seq ?_
  refine tr_region ?_
  refine tr_p (y_move rfl) rfl rfl ?_
  refine tr_p (y_move rfl) rfl rfl ?_
  obtain ⟨e1, H⟩ := H
  refine tr_p (y_quo rfl rfl e1) rfl rfl ?_
  refine tr_p (y_assign rfl) rfl rfl ?_
  refine tr_nil ?_
  refine tr_thenN ?_
  refine tr_seq ?_
  refine tr_region ?_
  refine tr_p (y_move rfl) rfl rfl ?_
  refine tr_p (y_move rfl) rfl rfl ?_
  refine tr_e (e_call Try.call24 rfl (F.chain_Chain_int_At_ok H)) rfl rfl ?_
  rintro _ h2 ⟨r3, r4, rfl, H⟩
  refine tr_p (y_move rfl) rfl rfl ?_
  refine tr_p (y_ext rfl rfl) rfl rfl ?_
  refine tr_p (y_ext rfl rfl) rfl rfl ?_
  refine tr_p (y_assign rfl) rfl rfl ?_
  refine tr_p (y_assign rfl) rfl rfl ?_
  refine tr_nil ?_
  refine tr_thenN ?_
  refine tr_seq ?_
  refine tr_region ?_
  refine tr_p (y_move rfl) rfl rfl ?_
  refine tr_e (e_call Try.call14 rfl (F.chain_Chain_int_Newest_ok H)) rfl rfl ?_
  rintro _ h5 ⟨r6, r7, r8, rfl, H⟩
  refine tr_p (y_move rfl) rfl rfl ?_
  refine tr_p (y_ext rfl rfl) rfl rfl ?_
  refine tr_p (y_ext rfl rfl) rfl rfl ?_
  refine tr_p (y_ext rfl rfl) rfl rfl ?_
  refine tr_p (y_assign rfl) rfl rfl ?_
  refine tr_p (y_assign rfl) rfl rfl ?_
  refine tr_p (y_assign rfl) rfl rfl ?_
  refine tr_nil ?_
  refine tr_thenN ?_
  refine tr_seq_j (fun L' h => ∃ (x3 : Int) (x9 : Int) (x10 : Int) (x11 : Bool), L' = [(3, (.int .i64 x3)), (9, (.int .i64 x9)), (10, (.int .i64 x10)), (11, (.bool x11))] ∧ F.spatelaw5_was.j1 Q x3 x9 x10 x11 h) ?_ ?_
  · rintro L' h ⟨x3, x9, x10, x11, rfl, H⟩
    unfold F.spatelaw5_was.j1 at H
    refine tr_seq_j (fun L' h => ∃ (x9 : Int) (x10 : Int) (x11 : Bool), L' = [(9, (.int .i64 x9)), (10, (.int .i64 x10)), (11, (.bool x11))] ∧ F.spatelaw5_was.j2 Q x9 x10 x11 h) ?_ ?_
    · rintro L' h ⟨x9, x10, x11, rfl, H⟩
      unfold F.spatelaw5_was.j2 at H
      refine tr_seq ?_
      refine tr_region ?_
      refine tr_p (y_move rfl) rfl rfl ?_
      refine tr_p (y_move rfl) rfl rfl ?_
      refine tr_split (t := 57) rfl (fun g9 => ?_) (fun g9 => ?_)
      · replace H := H.1 g9
        refine tr_p (y_move rfl) rfl rfl ?_
        refine tr_p (y_move rfl) rfl rfl ?_
        refine tr_p (y_eql rfl rfl) rfl rfl ?_
        refine tr_p (y_pick_t rfl rfl) rfl rfl ?_
        refine tr_p (y_assign rfl) rfl rfl ?_
        refine tr_nil ?_
        refine tr_thenN ?_
        refine tr_ret ?_
        exact tr_ret1 rfl rfl ⟨_, rfl, H⟩
      · replace H := H.2 g9
        refine tr_s rfl rfl ?_
        refine tr_s rfl rfl ?_
        refine tr_s rfl rfl ?_
        refine tr_p (y_pick_f rfl rfl) rfl rfl ?_
        refine tr_p (y_assign rfl) rfl rfl ?_
        refine tr_nil ?_
        refine tr_thenN ?_
        refine tr_ret ?_
        exact tr_ret1 rfl rfl ⟨_, rfl, H⟩
    · refine tr_seq_j (fun L' h => ∃ (x9 : Int) (x10 : Int) (x11 : Bool) (x49 : Bool), L' = [(9, (.int .i64 x9)), (10, (.int .i64 x10)), (11, (.bool x11)), (49, (.bool x49))] ∧ F.spatelaw5_was.j3 Q x9 x10 x11 x49 h) ?_ ?_
      · rintro L' h ⟨x9, x10, x11, x49, rfl, H⟩
        unfold F.spatelaw5_was.j3 at H
        refine tr_cond rfl (fun g10 => ?_) (fun g10 => ?_)
        · replace H := H.1 g10
          refine tr_seq ?_
          refine tr_region ?_
          refine tr_p (y_move rfl) rfl rfl ?_
          refine tr_p (y_not rfl) rfl rfl ?_
          refine tr_p (y_move rfl) rfl rfl ?_
          refine tr_split (t := 52) rfl (fun g11 => ?_) (fun g11 => ?_)
          · replace H := H.1 g11
            refine tr_p (y_move rfl) rfl rfl ?_
            refine tr_p (y_eql rfl rfl) rfl rfl ?_
            refine tr_p (y_pick_t rfl rfl) rfl rfl ?_
            refine tr_p (y_assign rfl) rfl rfl ?_
            refine tr_nil ?_
            refine tr_thenN ?_
            refine tr_ret ?_
            refine tr_thenR ?_
            exact tr_ret1 rfl rfl ⟨_, rfl, H⟩
          · replace H := H.2 g11
            refine tr_s rfl rfl ?_
            refine tr_s rfl rfl ?_
            refine tr_p (y_pick_f rfl rfl) rfl rfl ?_
            refine tr_p (y_assign rfl) rfl rfl ?_
            refine tr_nil ?_
            refine tr_thenN ?_
            refine tr_ret ?_
            refine tr_thenR ?_
            exact tr_ret1 rfl rfl ⟨_, rfl, H⟩
        · replace H := H.2 g10
          refine tr_skip ?_
          refine tr_thenN ?_
          exact tr_join [(9, (.int .i64 x9)), (10, (.int .i64 x10)), (11, (.bool x11))] ⟨rfl, rfl, rfl, trivial⟩ ⟨_, _, _, rfl, H⟩
      · refine tr_region ?_
        refine tr_p (y_move rfl) rfl rfl ?_
        refine tr_p (y_eql rfl rfl) rfl rfl ?_
        refine tr_p (y_move rfl) rfl rfl ?_
        refine tr_split (t := 44) rfl (fun g12 => ?_) (fun g12 => ?_)
        · replace H := H.1 g12
          refine tr_s rfl rfl ?_
          refine tr_s rfl rfl ?_
          refine tr_s rfl rfl ?_
          refine tr_s rfl rfl ?_
          refine tr_p (y_pick_t rfl rfl) rfl rfl ?_
          refine tr_nil ?_
          refine tr_thenN ?_
          exact tr_join [(9, (.int .i64 x9)), (10, (.int .i64 x10)), (11, (.bool x11)), (49, (.bool true))] ⟨rfl, rfl, rfl, rfl, trivial⟩ ⟨_, _, _, _, rfl, H⟩
        · replace H := H.2 g12
          refine tr_p (y_move rfl) rfl rfl ?_
          refine tr_p (y_move rfl) rfl rfl ?_
          obtain ⟨e13, H⟩ := H
          refine tr_p (y_rem rfl rfl e13) rfl rfl ?_
          refine tr_p (y_eql rfl rfl) rfl rfl ?_
          refine tr_p (y_pick_f rfl rfl) rfl rfl ?_
          refine tr_nil ?_
          refine tr_thenN ?_
          exact tr_join [(9, (.int .i64 x9)), (10, (.int .i64 x10)), (11, (.bool x11)), (49, (.bool (((Int.tmod x9 x3) == 0))))] ⟨rfl, rfl, rfl, rfl, trivial⟩ ⟨_, _, _, _, rfl, H⟩
  · refine tr_seq_j (fun L' h => ∃ (x2 : Int) (x3 : Int) (x9 : Int) (x10 : Int) (x11 : Bool) (x13 : Int) (x38 : Bool), L' = [(2, (.int .i64 x2)), (3, (.int .i64 x3)), (9, (.int .i64 x9)), (10, (.int .i64 x10)), (11, (.bool x11)), (13, (.int .i64 x13)), (38, (.bool x38))] ∧ F.spatelaw5_was.j4 Q x2 x3 x9 x10 x11 x13 x38 h) ?_ ?_
    · rintro L' h ⟨x2, x3, x9, x10, x11, x13, x38, rfl, H⟩
      unfold F.spatelaw5_was.j4 at H
      refine tr_cond rfl (fun g14 => ?_) (fun g14 => ?_)
      · replace H := H.1 g14
        refine tr_region ?_
        refine tr_p (y_move rfl) rfl rfl ?_
        refine tr_p (y_move rfl) rfl rfl ?_
        obtain ⟨e15, H⟩ := H
        refine tr_p (y_quo rfl rfl e15) rfl rfl ?_
        refine tr_p (y_assign rfl) rfl rfl ?_
        refine tr_nil ?_
        refine tr_thenN ?_
        exact tr_join [(3, (.int .i64 x3)), (9, (.int .i64 (IntKind.wrap .i64 (Int.tdiv x13 x2)))), (10, (.int .i64 x10)), (11, (.bool x11))] ⟨rfl, rfl, rfl, rfl, trivial⟩ ⟨_, _, _, _, rfl, H⟩
      · replace H := H.2 g14
        refine tr_skip ?_
        refine tr_thenN ?_
        exact tr_join [(3, (.int .i64 x3)), (9, (.int .i64 x9)), (10, (.int .i64 x10)), (11, (.bool x11))] ⟨rfl, rfl, rfl, rfl, trivial⟩ ⟨_, _, _, _, rfl, H⟩
    · refine tr_region ?_
      refine tr_p (y_move rfl) rfl rfl ?_
      refine tr_p (y_gtr rfl rfl) rfl rfl ?_
      refine tr_p (y_move rfl) rfl rfl ?_
      refine tr_split (t := 32) rfl (fun g16 => ?_) (fun g16 => ?_)
      · replace H := H.1 g16
        refine tr_p (y_move rfl) rfl rfl ?_
        refine tr_p (y_move rfl) rfl rfl ?_
        refine tr_p (y_move rfl) rfl rfl ?_
        obtain ⟨e17, H⟩ := H
        refine tr_p (y_quo rfl rfl e17) rfl rfl ?_
        refine tr_p (y_gtr rfl rfl) rfl rfl ?_
        refine tr_p (y_pick_t rfl rfl) rfl rfl ?_
        refine tr_nil ?_
        refine tr_thenN ?_
        exact tr_join [(2, (.int .i64 p2)), (3, (.int .i64 p3)), (9, (.int .i64 (IntKind.wrap .i64 (Int.tdiv p1 p2)))), (10, (.int .i64 r3)), (11, (.bool r4)), (13, (.int .i64 r7)), (38, (.bool (decide ((IntKind.wrap .i64 (Int.tdiv p1 p2)) > (IntKind.wrap .i64 (Int.tdiv r7 p2))))))] ⟨rfl, rfl, rfl, rfl, rfl, rfl, rfl, trivial⟩ ⟨_, _, _, _, _, _, _, rfl, H⟩
      · replace H := H.2 g16
        refine tr_s rfl rfl ?_
        refine tr_s rfl rfl ?_
        refine tr_s rfl rfl ?_
        refine tr_s rfl rfl ?_
        refine tr_s rfl rfl ?_
        refine tr_p (y_pick_f rfl rfl) rfl rfl ?_
        refine tr_nil ?_
        refine tr_thenN ?_
        exact tr_join [(2, (.int .i64 p2)), (3, (.int .i64 p3)), (9, (.int .i64 (IntKind.wrap .i64 (Int.tdiv p1 p2)))), (10, (.int .i64 r3)), (11, (.bool r4)), (13, (.int .i64 r7)), (38, (.bool false))] ⟨rfl, rfl, rfl, rfl, rfl, rfl, rfl, trivial⟩ ⟨_, _, _, _, _, _, _, rfl, H⟩

def F.chain_Chain_int_Prune.j3 (Q : Int → H → Prop) (x0 : Option Addr) (x5 : Int) (x10 : Sl) (h : H) : Prop :=
  nn x0 fun a45 =>
  stH h (a45.add 0) [x10.enc] fun h47 =>
  Q (IntKind.wrap .i64 (x5 - (x10.len : Int))) h47
def F.chain_Chain_int_Prune.j4 (Q : Int → H → Prop) (x0 : Option Addr) (x5 : Int) (x10 : Sl) (x68 : Bool) (h : H) : Prop :=
  (x68 = true →
  F.chain_Chain_int_Prune.j3 Q x0 x5 (⟨none, 0, 0⟩ : Sl) h) ∧
  (x68 = false →
  F.chain_Chain_int_Prune.j3 Q x0 x5 x10 h)
def F.chain_Chain_int_Prune.l2 (Q : Int → H → Prop) : Nat → (Option Addr) → Int → Sl → Sl → Sl → Int → Int → H → Prop
  | 0, _, _, _, _, _, _, _, _ => False
  | m + 1, x0, x5, x6, x10, x44, x45, x46, h =>
    ((decide (x46 < x45)) = true →
    idxA x44 x46 3 fun a27 =>
    ld_S_chain_version_int h a27 fun y29 =>
    new h (((⟨0, 0, false⟩ : S_chain_version_int) : S_chain_version_int).cells.toArray) ty_76 fun a32 h31 =>
    stH h31 a32 y29.cells fun h33 =>
    idxA x6 x46 1 fun a34 =>
    ldB h33 a34 fun y36 =>
    (y36 = true →
    ld_S_chain_version_int h33 a32 fun y39 =>
    newL h33 ((y39.cells).toArray) ty_76 1 fun s42 h41 =>
    runL PP (Builtin.append_ #[72, 72] 72 #[x10.enc, s42.enc]) h41 fun s44 h43 =>
    (F.chain_Chain_int_Prune.l2 Q m) x0 x5 x6 s44 x44 x45 (IntKind.wrap .i64 (x46 + 1)) h43) ∧
    (y36 = false →
    (F.chain_Chain_int_Prune.l2 Q m) x0 x5 x6 x10 x44 x45 (IntKind.wrap .i64 (x46 + 1)) h33)) ∧
    ((decide (x46 < x45)) = false →
    ((((x10.len : Int) == 1)) = true →
    idxA x10 0 3 fun a50 =>
    ldB h (a50.add 2) fun y52 =>
    F.chain_Chain_int_Prune.j4 Q x0 x5 x10 y52 h) ∧
    ((((x10.len : Int) == 1)) = false →
    F.chain_Chain_int_Prune.j4 Q x0 x5 x10 false h))
def F.chain_Chain_int_Prune.l1 (Q : Int → H → Prop) : Nat → (Option Addr) → Int → Sl → Sl → Int → Int → H → Prop
  | 0, _, _, _, _, _, _, _ => False
  | m + 1, x0, x5, x6, x26, x27, x28, h =>
    ((decide (x28 < x27)) = true →
    idxA x26 x28 1 fun a12 =>
    ldI .i64 h a12 fun y14 =>
    F.chain_Chain_int_place x0 y14 h fun r17 h16 =>
    ((decide (r17 ≥ 0)) = true →
    idxA x6 r17 1 fun a19 =>
    stH h16 a19 [(.bool true)] fun h21 =>
    (F.chain_Chain_int_Prune.l1 Q m) x0 x5 x6 x26 x27 (IntKind.wrap .i64 (x28 + 1)) h21) ∧
    ((decide (r17 ≥ 0)) = false →
    (F.chain_Chain_int_Prune.l1 Q m) x0 x5 x6 x26 x27 (IntKind.wrap .i64 (x28 + 1)) h16)) ∧
    ((decide (x28 < x27)) = false →
    nn x0 fun a22 =>
    ldL h (a22.add 0) fun y24 =>
    ∃ m, F.chain_Chain_int_Prune.l2 Q m x0 x5 x6 (⟨none, 0, 0⟩ : Sl) y24 (y24.len : Int) 0 h)
/-- (*spate/chain.Chain[int]).Prune -/
def F.chain_Chain_int_Prune (p0 : Option Addr) (p1 : Sl) (h : H) (Q : Int → H → Prop) : Prop :=
  nn p0 fun a1 =>
  ldL h (a1.add 0) fun y3 =>
  ((((y3.len : Int) == 0)) = true →
  Q 0 h) ∧
  ((((y3.len : Int) == 0)) = false →
  runL PP (Instr.makeSlice 77 (.int .i64 (y3.len : Int)) (.int .i64 (y3.len : Int))) h fun s7 h6 =>
  idxA s7 (IntKind.wrap .i64 ((y3.len : Int) - 1)) 1 fun a8 =>
  stH h6 a8 [(.bool true)] fun h10 =>
  ∃ m, F.chain_Chain_int_Prune.l1 Q m p0 (y3.len : Int) s7 p1 (p1.len : Int) 0 h10)
theorem F.chain_Chain_int_Prune_ok {p0 : Option Addr} {p1 : Sl} {h : H} {Q : Int → H → Prop} (H : F.chain_Chain_int_Prune p0 p1 h Q) : Fn PP 17 ([(.pointer p0), p1.enc] : List Value).toArray h fun r h' => ∃ r0, r = (.int .i64 r0) ∧ Q r0 h' := by
  unfold F.chain_Chain_int_Prune at H
  refine fn_of Try.func17 Try.ntmps17 rfl rfl fun w0 => ?_
  refine tr_sub [(0, (.pointer p0)), (1, p1.enc)] ⟨rfl, rfl, trivial⟩ ?_
  refine tr_seq ?_
  refine tr_region ?_
  refine tr_p (y_assign rfl) rfl rfl ?_
  refine tr_nil ?_
  refine tr_thenN ?_
  refine tr_seq ?_
  refine tr_region ?_
  refine tr_p (y_move rfl) rfl rfl ?_
  obtain ⟨a1, e2, H⟩ := H
  refine tr_p (f_nn rfl e2) rfl rfl ?_
  refine tr_p (y_fa (off := 0) Try.runUnderlying74 fo_74_0 rfl) rfl rfl ?_
  obtain ⟨y3, k4, H⟩ := H
  refine tr_h (y_ld Try.isAgg72 rfl) k4 rfl rfl ?_
  refine tr_p (y_len (ts := #[]) Try.runUnderlying72 (o := y3.ptr) (n := y3.len) (cap := y3.cap) rfl) rfl rfl ?_
  refine tr_p (y_assign rfl) rfl rfl ?_
  refine tr_nil ?_
  refine tr_thenN ?_
  refine tr_seq ?_
  refine tr_seq ?_
  refine tr_region ?_
  refine tr_p (y_move rfl) rfl rfl ?_
  refine tr_p (y_eql rfl rfl) rfl rfl ?_
  refine tr_nil ?_
  refine tr_thenN ?_
  refine tr_cond rfl (fun g5 => ?_) (fun g5 => ?_)
  · replace H := H.1 g5
    refine tr_seq ?_
    refine tr_region ?_
    refine tr_p (y_assign rfl) rfl rfl ?_
    refine tr_nil ?_
    refine tr_thenN ?_
    refine tr_ret ?_
    refine tr_thenR ?_
    exact tr_ret1 rfl rfl ⟨_, rfl, H⟩
  · replace H := H.2 g5
    refine tr_skip ?_
    refine tr_thenN ?_
    refine tr_seq ?_
    refine tr_region ?_
    refine tr_p (y_move rfl) rfl rfl ?_
    refine tr_e (f_make rfl rfl H) rfl rfl ?_
    rintro _ h6 ⟨s7, rfl, H⟩
    refine tr_p (y_assign rfl) rfl rfl ?_
    refine tr_nil ?_
    refine tr_thenN ?_
    refine tr_seq ?_
    refine tr_region ?_
    refine tr_p (y_move rfl) rfl rfl ?_
    refine tr_p (y_move rfl) rfl rfl ?_
    refine tr_p (y_sub rfl rfl) rfl rfl ?_
    obtain ⟨a8, e9, H⟩ := H
    refine tr_p (f_idx (s := s7) Try.runUnderlying77 Try.sizeOf4 rfl rfl e9) rfl rfl ?_
    refine tr_e (f_store (vs := [(.bool true)]) Try.sizeOf4 rfl rfl rfl rfl (one1 rfl) H) rfl rfl ?_
    rintro _ h10 ⟨rfl, H⟩
    refine tr_nil ?_
    refine tr_thenN ?_
    refine tr_seq ?_
    refine tr_seq ?_
    refine tr_region ?_
    refine tr_p (y_move rfl) rfl rfl ?_
    refine tr_p (y_len (ts := #[]) Try.runUnderlying24 (o := p1.ptr) (n := p1.len) (cap := p1.cap) rfl) rfl rfl ?_
    refine tr_p (y_move rfl) rfl rfl ?_
    refine tr_nil ?_
    refine tr_thenN ?_
    refine tr_block ?_
    obtain ⟨m55, H⟩ := H
    refine tr_sub [(0, (.pointer p0)), (5, (.int .i64 (y3.len : Int))), (6, s7.enc), (26, p1.enc), (27, (.int .i64 (p1.len : Int))), (28, (.int .i64 0))] ⟨rfl, rfl, rfl, rfl, rfl, rfl, trivial⟩ ?_
    refine tr_loop_j (fun m L' h => ∃ (x0 : Option Addr) (x5 : Int) (x6 : Sl) (x26 : Sl) (x27 : Int) (x28 : Int), L' = [(0, (.pointer x0)), (5, (.int .i64 x5)), (6, x6.enc), (26, x26.enc), (27, (.int .i64 x27)), (28, (.int .i64 x28))] ∧ F.chain_Chain_int_Prune.l1 Q m x0 x5 x6 x26 x27 x28 h) ?_ ?_ m55 ⟨_, _, _, _, _, _, rfl, H⟩
    · rintro L' h ⟨_, _, _, _, _, _, _, H⟩; exact H
    · rintro m L' h ⟨x0, x5, x6, x26, x27, x28, rfl, H⟩
      unfold F.chain_Chain_int_Prune.l1 at H
      refine tr_seq ?_
      refine tr_region ?_
      refine tr_p (y_lss rfl rfl) rfl rfl ?_
      refine tr_nil ?_
      refine tr_thenN ?_
      refine tr_seq ?_
      refine tr_cond rfl (fun g11 => ?_) (fun g11 => ?_)
      · replace H := H.1 g11
        refine tr_skip ?_
        refine tr_thenN ?_
        refine tr_seq ?_
        refine tr_block ?_
        refine tr_seq ?_
        refine tr_region ?_
        obtain ⟨a12, e13, H⟩ := H
        refine tr_p (f_idx (s := x26) Try.runUnderlying24 Try.sizeOf3 rfl rfl e13) rfl rfl ?_
        obtain ⟨y14, k15, H⟩ := H
        refine tr_h (y_ld Try.isAgg3 rfl) k15 rfl rfl ?_
        refine tr_p (y_assign rfl) rfl rfl ?_
        refine tr_nil ?_
        refine tr_thenN ?_
        refine tr_seq ?_
        refine tr_region ?_
        refine tr_p (y_move rfl) rfl rfl ?_
        refine tr_p (y_move rfl) rfl rfl ?_
        refine tr_e (e_call Try.call38 rfl (F.chain_Chain_int_place_ok H)) rfl rfl ?_
        rintro _ h16 ⟨r17, rfl, H⟩
        refine tr_p (y_assign rfl) rfl rfl ?_
        refine tr_nil ?_
        refine tr_thenN ?_
        refine tr_seq ?_
        refine tr_region ?_
        refine tr_p (y_move rfl) rfl rfl ?_
        refine tr_p (y_geq rfl rfl) rfl rfl ?_
        refine tr_nil ?_
        refine tr_thenN ?_
        refine tr_cond rfl (fun g18 => ?_) (fun g18 => ?_)
        · replace H := H.1 g18
          refine tr_region ?_
          refine tr_p (y_move rfl) rfl rfl ?_
          refine tr_p (y_move rfl) rfl rfl ?_
          obtain ⟨a19, e20, H⟩ := H
          refine tr_p (f_idx (s := x6) Try.runUnderlying77 Try.sizeOf4 rfl rfl e20) rfl rfl ?_
          refine tr_e (f_store (vs := [(.bool true)]) Try.sizeOf4 rfl rfl rfl rfl (one1 rfl) H) rfl rfl ?_
          rintro _ h21 ⟨rfl, H⟩
          refine tr_nil ?_
          refine tr_blockN ?_
          refine tr_thenN ?_
          refine tr_region ?_
          refine tr_p (y_add rfl rfl) rfl rfl ?_
          refine tr_p (y_move rfl) rfl rfl ?_
          refine tr_nil ?_
          refine tr_thenN ?_
          exact tr_join [(0, (.pointer x0)), (5, (.int .i64 x5)), (6, x6.enc), (26, x26.enc), (27, (.int .i64 x27)), (28, (.int .i64 (IntKind.wrap .i64 (x28 + 1))))] ⟨rfl, rfl, rfl, rfl, rfl, rfl, trivial⟩ ⟨_, _, _, _, _, _, rfl, H⟩
        · replace H := H.2 g18
          refine tr_skip ?_
          refine tr_blockN ?_
          refine tr_thenN ?_
          refine tr_region ?_
          refine tr_p (y_add rfl rfl) rfl rfl ?_
          refine tr_p (y_move rfl) rfl rfl ?_
          refine tr_nil ?_
          refine tr_thenN ?_
          exact tr_join [(0, (.pointer x0)), (5, (.int .i64 x5)), (6, x6.enc), (26, x26.enc), (27, (.int .i64 x27)), (28, (.int .i64 (IntKind.wrap .i64 (x28 + 1))))] ⟨rfl, rfl, rfl, rfl, rfl, rfl, trivial⟩ ⟨_, _, _, _, _, _, rfl, H⟩
      · replace H := H.2 g11
        refine tr_exit ?_
        refine tr_thenE ?_
        refine tr_thenE ?_
        refine tr_hit ?_
        refine tr_thenN ?_
        refine tr_seq ?_
        refine tr_region ?_
        refine tr_p (y_assign rfl) rfl rfl ?_
        refine tr_nil ?_
        refine tr_thenN ?_
        refine tr_seq ?_
        refine tr_seq ?_
        refine tr_region ?_
        refine tr_p (y_move rfl) rfl rfl ?_
        obtain ⟨a22, e23, H⟩ := H
        refine tr_p (f_nn rfl e23) rfl rfl ?_
        refine tr_p (y_fa (off := 0) Try.runUnderlying74 fo_74_0 rfl) rfl rfl ?_
        obtain ⟨y24, k25, H⟩ := H
        refine tr_h (y_ld Try.isAgg72 rfl) k25 rfl rfl ?_
        refine tr_p (y_len (ts := #[]) Try.runUnderlying72 (o := y24.ptr) (n := y24.len) (cap := y24.cap) rfl) rfl rfl ?_
        refine tr_p (y_move rfl) rfl rfl ?_
        refine tr_nil ?_
        refine tr_thenN ?_
        refine tr_block ?_
        obtain ⟨m54, H⟩ := H
        refine tr_sub [(0, (.pointer x0)), (5, (.int .i64 x5)), (6, x6.enc), (10, (⟨none, 0, 0⟩ : Sl).enc), (44, y24.enc), (45, (.int .i64 (y24.len : Int))), (46, (.int .i64 0))] ⟨rfl, rfl, rfl, rfl, rfl, rfl, rfl, trivial⟩ ?_
        refine tr_loop_j (fun m L' h => ∃ (x0 : Option Addr) (x5 : Int) (x6 : Sl) (x10 : Sl) (x44 : Sl) (x45 : Int) (x46 : Int), L' = [(0, (.pointer x0)), (5, (.int .i64 x5)), (6, x6.enc), (10, x10.enc), (44, x44.enc), (45, (.int .i64 x45)), (46, (.int .i64 x46))] ∧ F.chain_Chain_int_Prune.l2 Q m x0 x5 x6 x10 x44 x45 x46 h) ?_ ?_ m54 ⟨_, _, _, _, _, _, _, rfl, H⟩
        · rintro L' h ⟨_, _, _, _, _, _, _, _, H⟩; exact H
        · rintro m L' h ⟨x0, x5, x6, x10, x44, x45, x46, rfl, H⟩
          unfold F.chain_Chain_int_Prune.l2 at H
          refine tr_seq ?_
          refine tr_region ?_
          refine tr_p (y_lss rfl rfl) rfl rfl ?_
          refine tr_nil ?_
          refine tr_thenN ?_
          refine tr_seq ?_
          refine tr_cond rfl (fun g26 => ?_) (fun g26 => ?_)
          · replace H := H.1 g26
            refine tr_skip ?_
            refine tr_thenN ?_
            refine tr_seq ?_
            refine tr_block ?_
            refine tr_seq ?_
            refine tr_region ?_
            refine tr_p (y_move rfl) rfl rfl ?_
            obtain ⟨a27, e28, H⟩ := H
            refine tr_p (f_idx (s := x44) Try.runUnderlying72 Try.sizeOf76 rfl rfl e28) rfl rfl ?_
            obtain ⟨y29, k30, H⟩ := H
            refine tr_h (y_ldS Try.isAgg76 Try.sizeOf76 rfl rfl) k30 rfl rfl ?_
            refine tr_e (f_alloc (cs := ((⟨0, 0, false⟩ : S_chain_version_int) : S_chain_version_int).cells.toArray) Try.zeroValue76 rfl H) rfl rfl ?_
            rintro _ h31 ⟨a32, rfl, H⟩
            refine tr_p (y_assign rfl) rfl rfl ?_
            refine tr_e (f_store (vs := y29.cells) Try.sizeOf76 rfl rfl cellsOfStruct rfl (by intro v hv; exact ones_S_chain_version_int _ v hv) H) rfl rfl ?_
            rintro _ h33 ⟨rfl, H⟩
            refine tr_nil ?_
            refine tr_thenN ?_
            refine tr_seq ?_
            refine tr_region ?_
            refine tr_p (y_move rfl) rfl rfl ?_
            refine tr_p (y_move rfl) rfl rfl ?_
            obtain ⟨a34, e35, H⟩ := H
            refine tr_p (f_idx (s := x6) Try.runUnderlying77 Try.sizeOf4 rfl rfl e35) rfl rfl ?_
            obtain ⟨y36, k37, H⟩ := H
            refine tr_h (y_ld Try.isAgg4 rfl) k37 rfl rfl ?_
            refine tr_nil ?_
            refine tr_thenN ?_
            refine tr_cond rfl (fun g38 => ?_) (fun g38 => ?_)
            · replace H := H.1 g38
              refine tr_region ?_
              refine tr_p (y_move rfl) rfl rfl ?_
              obtain ⟨y39, k40, H⟩ := H
              refine tr_h (y_ldS Try.isAgg76 Try.sizeOf76 rfl rfl) k40 rfl rfl ?_
              refine tr_e (f_buildL (cs := (y39.cells).toArray) rfl rfl (bl_72_1_0 y39) H) rfl rfl ?_
              rintro _ h41 ⟨s42, rfl, H⟩
              refine tr_e (f_app rfl H) rfl rfl ?_
              rintro _ h43 ⟨s44, rfl, H⟩
              refine tr_p (y_assign rfl) rfl rfl ?_
              refine tr_nil ?_
              refine tr_blockN ?_
              refine tr_thenN ?_
              refine tr_region ?_
              refine tr_p (y_add rfl rfl) rfl rfl ?_
              refine tr_p (y_move rfl) rfl rfl ?_
              refine tr_nil ?_
              refine tr_thenN ?_
              exact tr_join [(0, (.pointer x0)), (5, (.int .i64 x5)), (6, x6.enc), (10, s44.enc), (44, x44.enc), (45, (.int .i64 x45)), (46, (.int .i64 (IntKind.wrap .i64 (x46 + 1))))] ⟨rfl, rfl, rfl, rfl, rfl, rfl, rfl, trivial⟩ ⟨_, _, _, _, _, _, _, rfl, H⟩
            · replace H := H.2 g38
              refine tr_skip ?_
              refine tr_blockN ?_
              refine tr_thenN ?_
              refine tr_region ?_
              refine tr_p (y_add rfl rfl) rfl rfl ?_
              refine tr_p (y_move rfl) rfl rfl ?_
              refine tr_nil ?_
              refine tr_thenN ?_
              exact tr_join [(0, (.pointer x0)), (5, (.int .i64 x5)), (6, x6.enc), (10, x10.enc), (44, x44.enc), (45, (.int .i64 x45)), (46, (.int .i64 (IntKind.wrap .i64 (x46 + 1))))] ⟨rfl, rfl, rfl, rfl, rfl, rfl, rfl, trivial⟩ ⟨_, _, _, _, _, _, _, rfl, H⟩
          · replace H := H.2 g26
            refine tr_exit ?_
            refine tr_thenE ?_
            refine tr_thenE ?_
            refine tr_hit ?_
            refine tr_thenN ?_
            refine tr_seq_j (fun L' h => ∃ (x0 : Option Addr) (x5 : Int) (x10 : Sl), L' = [(0, (.pointer x0)), (5, (.int .i64 x5)), (10, x10.enc)] ∧ F.chain_Chain_int_Prune.j3 Q x0 x5 x10 h) ?_ ?_
            · rintro L' h ⟨x0, x5, x10, rfl, H⟩
              unfold F.chain_Chain_int_Prune.j3 at H
              refine tr_seq ?_
              refine tr_region ?_
              refine tr_p (y_move rfl) rfl rfl ?_
              refine tr_p (y_move rfl) rfl rfl ?_
              obtain ⟨a45, e46, H⟩ := H
              refine tr_p (f_nn rfl e46) rfl rfl ?_
              refine tr_p (y_fa (off := 0) Try.runUnderlying74 fo_74_0 rfl) rfl rfl ?_
              refine tr_e (f_store (vs := [x10.enc]) Try.sizeOf72 rfl rfl rfl rfl (one1 rfl) H) rfl rfl ?_
              rintro _ h47 ⟨rfl, H⟩
              refine tr_nil ?_
              refine tr_thenN ?_
              refine tr_seq ?_
              refine tr_region ?_
              refine tr_p (y_move rfl) rfl rfl ?_
              refine tr_p (y_move rfl) rfl rfl ?_
              refine tr_p (y_len (ts := #[]) Try.runUnderlying72 (o := x10.ptr) (n := x10.len) (cap := x10.cap) rfl) rfl rfl ?_
              refine tr_p (y_sub rfl rfl) rfl rfl ?_
              refine tr_p (y_assign rfl) rfl rfl ?_
              refine tr_nil ?_
              refine tr_thenN ?_
              refine tr_ret ?_
              exact tr_ret1 rfl rfl ⟨_, rfl, H⟩
            · refine tr_seq_j (fun L' h => ∃ (x0 : Option Addr) (x5 : Int) (x10 : Sl) (x68 : Bool), L' = [(0, (.pointer x0)), (5, (.int .i64 x5)), (10, x10.enc), (68, (.bool x68))] ∧ F.chain_Chain_int_Prune.j4 Q x0 x5 x10 x68 h) ?_ ?_
              · rintro L' h ⟨x0, x5, x10, x68, rfl, H⟩
                unfold F.chain_Chain_int_Prune.j4 at H
                refine tr_cond rfl (fun g48 => ?_) (fun g48 => ?_)
                · replace H := H.1 g48
                  refine tr_region ?_
                  refine tr_p (y_assign rfl) rfl rfl ?_
                  refine tr_nil ?_
                  refine tr_thenN ?_
                  exact tr_join [(0, (.pointer x0)), (5, (.int .i64 x5)), (10, (⟨none, 0, 0⟩ : Sl).enc)] ⟨rfl, rfl, rfl, trivial⟩ ⟨_, _, _, rfl, H⟩
                · replace H := H.2 g48
                  refine tr_skip ?_
                  refine tr_thenN ?_
                  exact tr_join [(0, (.pointer x0)), (5, (.int .i64 x5)), (10, x10.enc)] ⟨rfl, rfl, rfl, trivial⟩ ⟨_, _, _, rfl, H⟩
              · refine tr_region ?_
                refine tr_p (y_move rfl) rfl rfl ?_
                refine tr_p (y_len (ts := #[]) Try.runUnderlying72 (o := x10.ptr) (n := x10.len) (cap := x10.cap) rfl) rfl rfl ?_
                refine tr_p (y_eql rfl rfl) rfl rfl ?_
                refine tr_p (y_move rfl) rfl rfl ?_
                refine tr_split (t := 63) rfl (fun g49 => ?_) (fun g49 => ?_)
                · replace H := H.1 g49
                  refine tr_p (y_move rfl) rfl rfl ?_
                  obtain ⟨a50, e51, H⟩ := H
                  refine tr_p (f_idx (s := x10) Try.runUnderlying72 Try.sizeOf76 rfl rfl e51) rfl rfl ?_
                  refine tr_p (y_fa (off := 2) Try.runUnderlying76 fo_76_2 rfl) rfl rfl ?_
                  obtain ⟨y52, k53, H⟩ := H
                  refine tr_h (y_ld Try.isAgg4 rfl) k53 rfl rfl ?_
                  refine tr_p (y_pick_t rfl rfl) rfl rfl ?_
                  refine tr_nil ?_
                  refine tr_thenN ?_
                  exact tr_join [(0, (.pointer x0)), (5, (.int .i64 x5)), (10, x10.enc), (68, (.bool y52))] ⟨rfl, rfl, rfl, rfl, trivial⟩ ⟨_, _, _, _, rfl, H⟩
                · replace H := H.2 g49
                  refine tr_s rfl rfl ?_
                  refine tr_s rfl rfl ?_
                  refine tr_s rfl rfl ?_
                  refine tr_s rfl rfl ?_
                  refine tr_p (y_pick_f rfl rfl) rfl rfl ?_
                  refine tr_nil ?_
                  refine tr_thenN ?_
                  exact tr_join [(0, (.pointer x0)), (5, (.int .i64 x5)), (10, x10.enc), (68, (.bool false))] ⟨rfl, rfl, rfl, rfl, trivial⟩ ⟨_, _, _, _, rfl, H⟩

def F.spatelaw5_ChainLong.j2 (Q : Bool → H → Prop) (C1 : Int → Int → Int → Int → Int → (Option Addr) → Int → H → Prop) (x0 : Int) (x1 : Int) (x2 : Int) (x3 : Int) (x4 : Int) (x11 : Option Addr) (x12 : Int) (h : H) : Prop :=
  C1 x0 x1 x2 x3 x4 x11 (IntKind.wrap .i64 (x12 + 1)) h
def F.spatelaw5_ChainLong.j4 (Q : Bool → H → Prop) (C1 : Int → Int → Int → Int → Int → (Option Addr) → Int → H → Prop) (x0 : Int) (x1 : Int) (x2 : Int) (x3 : Int) (x4 : Int) (x11 : Option Addr) (x12 : Int) (x73 : Bool) (h : H) : Prop :=
  (x73 = true →
  Q false h) ∧
  (x73 = false →
  F.spatelaw5_ChainLong.j2 Q C1 x0 x1 x2 x3 x4 x11 x12 h)
def F.spatelaw5_ChainLong.j3 (Q : Bool → H → Prop) (C1 : Int → Int → Int → Int → Int → (Option Addr) → Int → H → Prop) (x0 : Int) (x1 : Int) (x2 : Int) (x3 : Int) (x4 : Int) (x11 : Option Addr) (x12 : Int) (h : H) : Prop :=
  (x2 : Int) ≠ 0 ∧
  ((((Int.tmod x12 x2) == 0)) = true →
  F.chain_Chain_int_Kill x11 (IntKind.wrap .i64 (x12 * x1)) h fun r23 r24 h22 =>
  (((r23 != 0)) = true →
  F.spatelaw5_ChainLong.j4 Q C1 x0 x1 x2 x3 x4 x11 x12 true h22) ∧
  (((r23 != 0)) = false →
  F.spatelaw5_ChainLong.j4 Q C1 x0 x1 x2 x3 x4 x11 x12 ((r24 != 0)) h22)) ∧
  ((((Int.tmod x12 x2) == 0)) = false →
  F.spatelaw5_ChainLong.j2 Q C1 x0 x1 x2 x3 x4 x11 x12 h)
def F.spatelaw5_ChainLong.j5 (Q : Bool → H → Prop) (C1 : Int → Int → Int → Int → Int → (Option Addr) → Int → H → Prop) (x0 : Int) (x1 : Int) (x2 : Int) (x3 : Int) (x4 : Int) (x11 : Option Addr) (x12 : Int) (x55 : Bool) (h : H) : Prop :=
  (x55 = true →
  Q false h) ∧
  (x55 = false →
  F.spatelaw5_ChainLong.j3 Q C1 x0 x1 x2 x3 x4 x11 x12 h)
def F.spatelaw5_ChainLong.l9 (Q : Bool → H → Prop) : Nat → Int → Int → Int → (Option Addr) → Sl → Int → H → Prop
  | 0, _, _, _, _, _, _, _ => False
  | m + 1, x0, x1, x2, x11, x15, x19, h =>
    ((decide (x19 < (x15.len : Int))) = true →
    idxA x15 x19 1 fun a48 =>
    ldI .i64 h a48 fun y50 =>
    F.spatelaw5_was x11 y50 x1 x2 h fun r53 h52 =>
    ((!r53) = true →
    Q false h52) ∧
    ((!r53) = false →
    (F.spatelaw5_ChainLong.l9 Q m) x0 x1 x2 x11 x15 (IntKind.wrap .i64 (x19 + 1)) h52)) ∧
    ((decide (x19 < (x15.len : Int))) = false →
    (((x0 == 0)) = true →
    Q true h) ∧
    (((x0 == 0)) = false →
    F.chain_Chain_int_Len x11 h fun r57 h56 =>
    (((r57 == 0)) = true →
    (x2 : Int) ≠ 0 ∧
    ((((Int.tmod x0 x2) == 0)) = true →
    Q true h56) ∧
    ((((Int.tmod x0 x2) == 0)) = false →
    F.spatelaw5_was x11 (IntKind.wrap .i64 ((IntKind.wrap .i64 (x0 * x1)) + 7)) x1 x2 h56 fun r62 h61 =>
    (r62 = true →
    Q true h61) ∧
    (r62 = false →
    (x2 : Int) ≠ 0 ∧
    Q (((Int.tmod x0 x2) == 0)) h61))) ∧
    (((r57 == 0)) = false →
    F.spatelaw5_was x11 (IntKind.wrap .i64 ((IntKind.wrap .i64 (x0 * x1)) + 7)) x1 x2 h56 fun r66 h65 =>
    (r66 = true →
    Q true h65) ∧
    (r66 = false →
    (x2 : Int) ≠ 0 ∧
    Q (((Int.tmod x0 x2) == 0)) h65))))
def F.spatelaw5_ChainLong.j8 (Q : Bool → H → Prop) (x0 : Int) (x1 : Int) (x2 : Int) (x11 : Option Addr) (x15 : Sl) (h : H) : Prop :=
  ∃ m, F.spatelaw5_ChainLong.l9 Q m x0 x1 x2 x11 x15 0 h
def F.spatelaw5_ChainLong.j10 (Q : Bool → H → Prop) (x0 : Int) (x1 : Int) (x2 : Int) (x11 : Option Addr) (x15 : Sl) (x122 : Bool) (h : H) : Prop :=
  (x122 = true →
  Q false h) ∧
  (x122 = false →
  F.spatelaw5_ChainLong.j8 Q x0 x1 x2 x11 x15 h)
def F.spatelaw5_ChainLong.l7 (Q : Bool → H → Prop) : Nat → Int → Int → Int → (Option Addr) → Sl → Int → H → Prop
  | 0, _, _, _, _, _, _, _ => False
  | m + 1, x0, x1, x2, x11, x15, x17, h =>
    ((decide (x17 < (x15.len : Int))) = true →
    idxA x15 x17 1 fun a38 =>
    ldI .i64 h a38 fun y40 =>
    F.spatelaw5_was x11 y40 x1 x2 h fun r43 h42 =>
    ((!r43) = true →
    Q false h42) ∧
    ((!r43) = false →
    (F.spatelaw5_ChainLong.l7 Q m) x0 x1 x2 x11 x15 (IntKind.wrap .i64 (x17 + 1)) h42)) ∧
    ((decide (x17 < (x15.len : Int))) = false →
    F.chain_Chain_int_Prune x11 x15 h fun r46 h45 =>
    F.chain_Chain_int_Len x11 h45 fun r72 h71 =>
    (((r72 != (IntKind.wrap .i64 (x0 - r46)))) = true →
    F.spatelaw5_ChainLong.j10 Q x0 x1 x2 x11 x15 true h71) ∧
    (((r72 != (IntKind.wrap .i64 (x0 - r46)))) = false →
    F.chain_Chain_int_Len x11 h71 fun r75 h74 =>
    F.spatelaw5_ChainLong.j10 Q x0 x1 x2 x11 x15 (decide (r75 > (IntKind.wrap .i64 ((x15.len : Int) + 1)))) h74))
def F.spatelaw5_ChainLong.l6 (Q : Bool → H → Prop) : Nat → Int → Int → Int → Int → (Option Addr) → Sl → Int → H → Prop
  | 0, _, _, _, _, _, _, _, _ => False
  | m + 1, x0, x1, x2, x3, x11, x15, x16, h =>
    ((decide (x16 < (IntKind.wrap .i64 (x0 * x1)))) = true →
    newL h #[(.int .i64 x16)] ty_3 1 fun s34 h33 =>
    runL PP (Builtin.append_ #[24, 24] 24 #[x15.enc, s34.enc]) h33 fun s36 h35 =>
    (F.spatelaw5_ChainLong.l6 Q m) x0 x1 x2 x3 x11 s36 (IntKind.wrap .i64 (x16 + x3)) h35) ∧
    ((decide (x16 < (IntKind.wrap .i64 (x0 * x1)))) = false →
    ∃ m, F.spatelaw5_ChainLong.l7 Q m x0 x1 x2 x11 x15 0 h)
def F.spatelaw5_ChainLong.l1 (Q : Bool → H → Prop) : Nat → Int → Int → Int → Int → Int → (Option Addr) → Int → H → Prop
  | 0, _, _, _, _, _, _, _, _ => False
  | m + 1, x0, x1, x2, x3, x4, x11, x12, h =>
    ((decide (x12 ≤ x0)) = true →
    F.chain_Chain_int_Put x11 (IntKind.wrap .i64 (x12 * x1)) x12 h fun r18 r19 h17 =>
    (((r18 != 1)) = true →
    F.spatelaw5_ChainLong.j5 Q (F.spatelaw5_ChainLong.l1 Q m) x0 x1 x2 x3 x4 x11 x12 true h17) ∧
    (((r18 != 1)) = false →
    F.spatelaw5_ChainLong.j5 Q (F.spatelaw5_ChainLong.l1 Q m) x0 x1 x2 x3 x4 x11 x12 ((r19 != 0)) h17)) ∧
    ((decide (x12 ≤ x0)) = false →
    F.chain_Chain_int_Len x11 h fun r30 h29 =>
    (((r30 != x0)) = true →
    Q false h29) ∧
    (((r30 != x0)) = false →
    ∃ m, F.spatelaw5_ChainLong.l6 Q m x0 x1 x2 x3 x11 (⟨none, 0, 0⟩ : Sl) x4 h29))
/-- spate/spatelaw5.ChainLong -/
def F.spatelaw5_ChainLong (p0 : Int) (p1 : Int) (p2 : Int) (p3 : Int) (p4 : Int) (h : H) (Q : Bool → H → Prop) : Prop :=
  F.spatelaw5_known  h fun r2 h1 =>
  ((!r2) = true →
  Q false h1) ∧
  ((!r2) = false →
  F.spatelaw5_within p0 3000 h1 fun r5 h4 =>
  F.spatelaw5_within p1 5 h4 fun r7 h6 =>
  F.spatelaw5_within p2 9 h6 fun r9 h8 =>
  F.spatelaw5_within p3 400 h8 fun r11 h10 =>
  F.spatelaw5_within p4 400 h10 fun r13 h12 =>
  F.chain_New_int  h12 fun r15 h14 =>
  ∃ m, F.spatelaw5_ChainLong.l1 Q m r5 (IntKind.wrap .i64 (1 + r7)) (IntKind.wrap .i64 (2 + r9)) (IntKind.wrap .i64 (1 + r11)) r13 r15 1 h14)
theorem F.spatelaw5_ChainLong_ok {p0 : Int} {p1 : Int} {p2 : Int} {p3 : Int} {p4 : Int} {h : H} {Q : Bool → H → Prop} (H : F.spatelaw5_ChainLong p0 p1 p2 p3 p4 h Q) : Fn PP 7 ([(.int .i64 p0), (.int .i64 p1), (.int .i64 p2), (.int .i64 p3), (.int .i64 p4)] : List Value).toArray h fun r h' => ∃ r0, r = (.bool r0) ∧ Q r0 h' := by
  unfold F.spatelaw5_ChainLong at H
  refine fn_of Try.func7 Try.ntmps7 rfl rfl fun w0 => ?_
  refine tr_sub [(0, (.int .i64 p0)), (1, (.int .i64 p1)), (2, (.int .i64 p2)), (3, (.int .i64 p3)), (4, (.int .i64 p4))] ⟨rfl, rfl, rfl, rfl, rfl, trivial⟩ ?_
  refine tr_seq ?_
  refine tr_region ?_
  refine tr_p (y_assign rfl) rfl rfl ?_
  refine tr_nil ?_
  refine tr_thenN ?_
  refine tr_seq ?_
  refine tr_seq ?_
  refine tr_region ?_
  refine tr_e (e_call Try.call11 rfl (F.spatelaw5_known_ok H)) rfl rfl ?_
  rintro _ h1 ⟨r2, rfl, H⟩
  refine tr_p (y_not rfl) rfl rfl ?_
  refine tr_nil ?_
  refine tr_thenN ?_
  refine tr_cond rfl (fun g3 => ?_) (fun g3 => ?_)
  · replace H := H.1 g3
    refine tr_seq ?_
    refine tr_region ?_
    refine tr_p (y_assign rfl) rfl rfl ?_
    refine tr_nil ?_
    refine tr_thenN ?_
    refine tr_ret ?_
    refine tr_thenR ?_
    exact tr_ret1 rfl rfl ⟨_, rfl, H⟩
  · replace H := H.2 g3
    refine tr_skip ?_
    refine tr_thenN ?_
    refine tr_seq ?_
    refine tr_region ?_
    refine tr_p (y_move rfl) rfl rfl ?_
    refine tr_e (e_call Try.call21 rfl (F.spatelaw5_within_ok H)) rfl rfl ?_
    rintro _ h4 ⟨r5, rfl, H⟩
    refine tr_p (y_assign rfl) rfl rfl ?_
    refine tr_nil ?_
    refine tr_thenN ?_
    refine tr_seq ?_
    refine tr_region ?_
    refine tr_p (y_move rfl) rfl rfl ?_
    refine tr_e (e_call Try.call21 rfl (F.spatelaw5_within_ok H)) rfl rfl ?_
    rintro _ h6 ⟨r7, rfl, H⟩
    refine tr_p (y_add rfl rfl) rfl rfl ?_
    refine tr_p (y_assign rfl) rfl rfl ?_
    refine tr_nil ?_
    refine tr_thenN ?_
    refine tr_seq ?_
    refine tr_region ?_
    refine tr_p (y_move rfl) rfl rfl ?_
    refine tr_e (e_call Try.call21 rfl (F.spatelaw5_within_ok H)) rfl rfl ?_
    rintro _ h8 ⟨r9, rfl, H⟩
    refine tr_p (y_add rfl rfl) rfl rfl ?_
    refine tr_p (y_assign rfl) rfl rfl ?_
    refine tr_nil ?_
    refine tr_thenN ?_
    refine tr_seq ?_
    refine tr_region ?_
    refine tr_p (y_move rfl) rfl rfl ?_
    refine tr_e (e_call Try.call21 rfl (F.spatelaw5_within_ok H)) rfl rfl ?_
    rintro _ h10 ⟨r11, rfl, H⟩
    refine tr_p (y_add rfl rfl) rfl rfl ?_
    refine tr_p (y_assign rfl) rfl rfl ?_
    refine tr_nil ?_
    refine tr_thenN ?_
    refine tr_seq ?_
    refine tr_region ?_
    refine tr_p (y_move rfl) rfl rfl ?_
    refine tr_e (e_call Try.call21 rfl (F.spatelaw5_within_ok H)) rfl rfl ?_
    rintro _ h12 ⟨r13, rfl, H⟩
    refine tr_p (y_assign rfl) rfl rfl ?_
    refine tr_nil ?_
    refine tr_thenN ?_
    refine tr_seq ?_
    refine tr_region ?_
    refine tr_e (e_call Try.call29 rfl (F.chain_New_int_ok H)) rfl rfl ?_
    rintro _ h14 ⟨r15, rfl, H⟩
    refine tr_p (y_assign rfl) rfl rfl ?_
    refine tr_nil ?_
    refine tr_thenN ?_
    refine tr_seq ?_
    refine tr_seq ?_
    refine tr_region ?_
    refine tr_p (y_assign rfl) rfl rfl ?_
    refine tr_nil ?_
    refine tr_thenN ?_
    refine tr_block ?_
    obtain ⟨m78, H⟩ := H
    refine tr_sub [(0, (.int .i64 r5)), (1, (.int .i64 (IntKind.wrap .i64 (1 + r7)))), (2, (.int .i64 (IntKind.wrap .i64 (2 + r9)))), (3, (.int .i64 (IntKind.wrap .i64 (1 + r11)))), (4, (.int .i64 r13)), (11, (.pointer r15)), (12, (.int .i64 1))] ⟨rfl, rfl, rfl, rfl, rfl, rfl, rfl, trivial⟩ ?_
    refine tr_loop_j (fun m L' h => ∃ (x0 : Int) (x1 : Int) (x2 : Int) (x3 : Int) (x4 : Int) (x11 : Option Addr) (x12 : Int), L' = [(0, (.int .i64 x0)), (1, (.int .i64 x1)), (2, (.int .i64 x2)), (3, (.int .i64 x3)), (4, (.int .i64 x4)), (11, (.pointer x11)), (12, (.int .i64 x12))] ∧ F.spatelaw5_ChainLong.l1 Q m x0 x1 x2 x3 x4 x11 x12 h) ?_ ?_ m78 ⟨_, _, _, _, _, _, _, rfl, H⟩
    · rintro L' h ⟨_, _, _, _, _, _, _, _, H⟩; exact H
    · rintro m L' h ⟨x0, x1, x2, x3, x4, x11, x12, rfl, H⟩
      unfold F.spatelaw5_ChainLong.l1 at H
      refine tr_seq ?_
      refine tr_seq ?_
      refine tr_region ?_
      refine tr_p (y_move rfl) rfl rfl ?_
      refine tr_p (y_move rfl) rfl rfl ?_
      refine tr_p (y_leq rfl rfl) rfl rfl ?_
      refine tr_nil ?_
      refine tr_thenN ?_
      refine tr_cond rfl (fun g16 => ?_) (fun g16 => ?_)
      · replace H := H.1 g16
        refine tr_skip ?_
        refine tr_thenN ?_
        refine tr_seq_j (fun L' h => ∃ (x0 : Int) (x1 : Int) (x2 : Int) (x3 : Int) (x4 : Int) (x11 : Option Addr) (x12 : Int), L' = [(0, (.int .i64 x0)), (1, (.int .i64 x1)), (2, (.int .i64 x2)), (3, (.int .i64 x3)), (4, (.int .i64 x4)), (11, (.pointer x11)), (12, (.int .i64 x12))] ∧ F.spatelaw5_ChainLong.j2 Q (F.spatelaw5_ChainLong.l1 Q m) x0 x1 x2 x3 x4 x11 x12 h) ?_ ?_
        · rintro L' h ⟨x0, x1, x2, x3, x4, x11, x12, rfl, H⟩
          unfold F.spatelaw5_ChainLong.j2 at H
          refine tr_region ?_
          refine tr_p (y_move rfl) rfl rfl ?_
          refine tr_p (y_add rfl rfl) rfl rfl ?_
          refine tr_p (y_assign rfl) rfl rfl ?_
          refine tr_nil ?_
          refine tr_thenN ?_
          exact tr_join [(0, (.int .i64 x0)), (1, (.int .i64 x1)), (2, (.int .i64 x2)), (3, (.int .i64 x3)), (4, (.int .i64 x4)), (11, (.pointer x11)), (12, (.int .i64 (IntKind.wrap .i64 (x12 + 1))))] ⟨rfl, rfl, rfl, rfl, rfl, rfl, rfl, trivial⟩ ⟨_, _, _, _, _, _, _, rfl, H⟩
        · refine tr_block ?_
          refine tr_seq ?_
          refine tr_region ?_
          refine tr_p (y_move rfl) rfl rfl ?_
          refine tr_p (y_move rfl) rfl rfl ?_
          refine tr_p (y_move rfl) rfl rfl ?_
          refine tr_p (y_mul rfl rfl) rfl rfl ?_
          refine tr_p (y_move rfl) rfl rfl ?_
          refine tr_e (e_call Try.call23 rfl (F.chain_Chain_int_Put_ok H)) rfl rfl ?_
          rintro _ h17 ⟨r18, r19, rfl, H⟩
          refine tr_p (y_move rfl) rfl rfl ?_
          refine tr_p (y_ext rfl rfl) rfl rfl ?_
          refine tr_p (y_ext rfl rfl) rfl rfl ?_
          refine tr_p (y_assign rfl) rfl rfl ?_
          refine tr_p (y_assign rfl) rfl rfl ?_
          refine tr_nil ?_
          refine tr_thenN ?_
          refine tr_seq_j (fun L' h => ∃ (x0 : Int) (x1 : Int) (x2 : Int) (x3 : Int) (x4 : Int) (x11 : Option Addr) (x12 : Int), L' = [(0, (.int .i64 x0)), (1, (.int .i64 x1)), (2, (.int .i64 x2)), (3, (.int .i64 x3)), (4, (.int .i64 x4)), (11, (.pointer x11)), (12, (.int .i64 x12))] ∧ F.spatelaw5_ChainLong.j3 Q (F.spatelaw5_ChainLong.l1 Q m) x0 x1 x2 x3 x4 x11 x12 h) ?_ ?_
          · rintro L' h ⟨x0, x1, x2, x3, x4, x11, x12, rfl, H⟩
            unfold F.spatelaw5_ChainLong.j3 at H
            refine tr_seq ?_
            refine tr_region ?_
            refine tr_p (y_move rfl) rfl rfl ?_
            refine tr_p (y_move rfl) rfl rfl ?_
            obtain ⟨e20, H⟩ := H
            refine tr_p (y_rem rfl rfl e20) rfl rfl ?_
            refine tr_p (y_eql rfl rfl) rfl rfl ?_
            refine tr_nil ?_
            refine tr_thenN ?_
            refine tr_cond rfl (fun g21 => ?_) (fun g21 => ?_)
            · replace H := H.1 g21
              refine tr_seq ?_
              refine tr_region ?_
              refine tr_p (y_move rfl) rfl rfl ?_
              refine tr_p (y_move rfl) rfl rfl ?_
              refine tr_p (y_move rfl) rfl rfl ?_
              refine tr_p (y_mul rfl rfl) rfl rfl ?_
              refine tr_e (e_call Try.call22 rfl (F.chain_Chain_int_Kill_ok H)) rfl rfl ?_
              rintro _ h22 ⟨r23, r24, rfl, H⟩
              refine tr_p (y_move rfl) rfl rfl ?_
              refine tr_p (y_ext rfl rfl) rfl rfl ?_
              refine tr_p (y_ext rfl rfl) rfl rfl ?_
              refine tr_p (y_assign rfl) rfl rfl ?_
              refine tr_p (y_assign rfl) rfl rfl ?_
              refine tr_nil ?_
              refine tr_thenN ?_
              refine tr_seq_j (fun L' h => ∃ (x0 : Int) (x1 : Int) (x2 : Int) (x3 : Int) (x4 : Int) (x11 : Option Addr) (x12 : Int) (x73 : Bool), L' = [(0, (.int .i64 x0)), (1, (.int .i64 x1)), (2, (.int .i64 x2)), (3, (.int .i64 x3)), (4, (.int .i64 x4)), (11, (.pointer x11)), (12, (.int .i64 x12)), (73, (.bool x73))] ∧ F.spatelaw5_ChainLong.j4 Q (F.spatelaw5_ChainLong.l1 Q m) x0 x1 x2 x3 x4 x11 x12 x73 h) ?_ ?_
              · rintro L' h ⟨x0, x1, x2, x3, x4, x11, x12, x73, rfl, H⟩
                unfold F.spatelaw5_ChainLong.j4 at H
                refine tr_cond rfl (fun g25 => ?_) (fun g25 => ?_)
                · replace H := H.1 g25
                  refine tr_seq ?_
                  refine tr_region ?_
                  refine tr_p (y_assign rfl) rfl rfl ?_
                  refine tr_nil ?_
                  refine tr_thenN ?_
                  refine tr_ret ?_
                  refine tr_blockR ?_
                  refine tr_thenR ?_
                  refine tr_thenR ?_
                  refine tr_blockR ?_
                  refine tr_thenR ?_
                  exact tr_ret1 rfl rfl ⟨_, rfl, H⟩
                · replace H := H.2 g25
                  refine tr_skip ?_
                  refine tr_blockN ?_
                  refine tr_thenN ?_
                  exact tr_join [(0, (.int .i64 x0)), (1, (.int .i64 x1)), (2, (.int .i64 x2)), (3, (.int .i64 x3)), (4, (.int .i64 x4)), (11, (.pointer x11)), (12, (.int .i64 x12))] ⟨rfl, rfl, rfl, rfl, rfl, rfl, rfl, trivial⟩ ⟨_, _, _, _, _, _, _, rfl, H⟩
              · refine tr_region ?_
                refine tr_p (y_move rfl) rfl rfl ?_
                refine tr_p (y_neq rfl rfl) rfl rfl ?_
                refine tr_p (y_move rfl) rfl rfl ?_
                refine tr_split (t := 70) rfl (fun g26 => ?_) (fun g26 => ?_)
                · replace H := H.1 g26
                  refine tr_s rfl rfl ?_
                  refine tr_s rfl rfl ?_
                  refine tr_p (y_pick_t rfl rfl) rfl rfl ?_
                  refine tr_nil ?_
                  refine tr_thenN ?_
                  exact tr_join [(0, (.int .i64 x0)), (1, (.int .i64 x1)), (2, (.int .i64 x2)), (3, (.int .i64 x3)), (4, (.int .i64 x4)), (11, (.pointer x11)), (12, (.int .i64 x12)), (73, (.bool true))] ⟨rfl, rfl, rfl, rfl, rfl, rfl, rfl, rfl, trivial⟩ ⟨_, _, _, _, _, _, _, _, rfl, H⟩
                · replace H := H.2 g26
                  refine tr_p (y_move rfl) rfl rfl ?_
                  refine tr_p (y_neq rfl rfl) rfl rfl ?_
                  refine tr_p (y_pick_f rfl rfl) rfl rfl ?_
                  refine tr_nil ?_
                  refine tr_thenN ?_
                  exact tr_join [(0, (.int .i64 x0)), (1, (.int .i64 x1)), (2, (.int .i64 x2)), (3, (.int .i64 x3)), (4, (.int .i64 x4)), (11, (.pointer x11)), (12, (.int .i64 x12)), (73, (.bool ((r24 != 0))))] ⟨rfl, rfl, rfl, rfl, rfl, rfl, rfl, rfl, trivial⟩ ⟨_, _, _, _, _, _, _, _, rfl, H⟩
            · replace H := H.2 g21
              refine tr_skip ?_
              refine tr_blockN ?_
              refine tr_thenN ?_
              exact tr_join [(0, (.int .i64 x0)), (1, (.int .i64 x1)), (2, (.int .i64 x2)), (3, (.int .i64 x3)), (4, (.int .i64 x4)), (11, (.pointer x11)), (12, (.int .i64 x12))] ⟨rfl, rfl, rfl, rfl, rfl, rfl, rfl, trivial⟩ ⟨_, _, _, _, _, _, _, rfl, H⟩
          · refine tr_seq_j (fun L' h => ∃ (x0 : Int) (x1 : Int) (x2 : Int) (x3 : Int) (x4 : Int) (x11 : Option Addr) (x12 : Int) (x55 : Bool), L' = [(0, (.int .i64 x0)), (1, (.int .i64 x1)), (2, (.int .i64 x2)), (3, (.int .i64 x3)), (4, (.int .i64 x4)), (11, (.pointer x11)), (12, (.int .i64 x12)), (55, (.bool x55))] ∧ F.spatelaw5_ChainLong.j5 Q (F.spatelaw5_ChainLong.l1 Q m) x0 x1 x2 x3 x4 x11 x12 x55 h) ?_ ?_
            · rintro L' h ⟨x0, x1, x2, x3, x4, x11, x12, x55, rfl, H⟩
              unfold F.spatelaw5_ChainLong.j5 at H
              refine tr_cond rfl (fun g27 => ?_) (fun g27 => ?_)
              · replace H := H.1 g27
                refine tr_seq ?_
                refine tr_region ?_
                refine tr_p (y_assign rfl) rfl rfl ?_
                refine tr_nil ?_
                refine tr_thenN ?_
                refine tr_ret ?_
                refine tr_thenR ?_
                refine tr_blockR ?_
                refine tr_thenR ?_
                refine tr_thenR ?_
                refine tr_blockR ?_
                refine tr_thenR ?_
                exact tr_ret1 rfl rfl ⟨_, rfl, H⟩
              · replace H := H.2 g27
                refine tr_skip ?_
                refine tr_thenN ?_
                exact tr_join [(0, (.int .i64 x0)), (1, (.int .i64 x1)), (2, (.int .i64 x2)), (3, (.int .i64 x3)), (4, (.int .i64 x4)), (11, (.pointer x11)), (12, (.int .i64 x12))] ⟨rfl, rfl, rfl, rfl, rfl, rfl, rfl, trivial⟩ ⟨_, _, _, _, _, _, _, rfl, H⟩
            · refine tr_region ?_
              refine tr_p (y_move rfl) rfl rfl ?_
              refine tr_p (y_neq rfl rfl) rfl rfl ?_
              refine tr_p (y_move rfl) rfl rfl ?_
              refine tr_split (t := 52) rfl (fun g28 => ?_) (fun g28 => ?_)
              · replace H := H.1 g28
                refine tr_s rfl rfl ?_
                refine tr_s rfl rfl ?_
                refine tr_p (y_pick_t rfl rfl) rfl rfl ?_
                refine tr_nil ?_
                refine tr_thenN ?_
                exact tr_join [(0, (.int .i64 x0)), (1, (.int .i64 x1)), (2, (.int .i64 x2)), (3, (.int .i64 x3)), (4, (.int .i64 x4)), (11, (.pointer x11)), (12, (.int .i64 x12)), (55, (.bool true))] ⟨rfl, rfl, rfl, rfl, rfl, rfl, rfl, rfl, trivial⟩ ⟨_, _, _, _, _, _, _, _, rfl, H⟩
              · replace H := H.2 g28
                refine tr_p (y_move rfl) rfl rfl ?_
                refine tr_p (y_neq rfl rfl) rfl rfl ?_
                refine tr_p (y_pick_f rfl rfl) rfl rfl ?_
                refine tr_nil ?_
                refine tr_thenN ?_
                exact tr_join [(0, (.int .i64 x0)), (1, (.int .i64 x1)), (2, (.int .i64 x2)), (3, (.int .i64 x3)), (4, (.int .i64 x4)), (11, (.pointer x11)), (12, (.int .i64 x12)), (55, (.bool ((r19 != 0))))] ⟨rfl, rfl, rfl, rfl, rfl, rfl, rfl, rfl, trivial⟩ ⟨_, _, _, _, _, _, _, _, rfl, H⟩
      · replace H := H.2 g16
        refine tr_exit ?_
        refine tr_thenE ?_
        refine tr_thenE ?_
        refine tr_hit ?_
        refine tr_thenN ?_
        refine tr_seq ?_
        refine tr_seq ?_
        refine tr_region ?_
        refine tr_p (y_move rfl) rfl rfl ?_
        refine tr_e (e_call Try.call16 rfl (F.chain_Chain_int_Len_ok H)) rfl rfl ?_
        rintro _ h29 ⟨r30, rfl, H⟩
        refine tr_p (y_move rfl) rfl rfl ?_
        refine tr_p (y_neq rfl rfl) rfl rfl ?_
        refine tr_nil ?_
        refine tr_thenN ?_
        refine tr_cond rfl (fun g31 => ?_) (fun g31 => ?_)
        · replace H := H.1 g31
          refine tr_seq ?_
          refine tr_region ?_
          refine tr_p (y_assign rfl) rfl rfl ?_
          refine tr_nil ?_
          refine tr_thenN ?_
          refine tr_ret ?_
          refine tr_thenR ?_
          exact tr_ret1 rfl rfl ⟨_, rfl, H⟩
        · replace H := H.2 g31
          refine tr_skip ?_
          refine tr_thenN ?_
          refine tr_seq ?_
          refine tr_region ?_
          refine tr_p (y_assign rfl) rfl rfl ?_
          refine tr_nil ?_
          refine tr_thenN ?_
          refine tr_seq ?_
          refine tr_seq ?_
          refine tr_region ?_
          refine tr_p (y_move rfl) rfl rfl ?_
          refine tr_p (y_assign rfl) rfl rfl ?_
          refine tr_nil ?_
          refine tr_thenN ?_
          refine tr_block ?_
          obtain ⟨m77, H⟩ := H
          refine tr_sub [(0, (.int .i64 x0)), (1, (.int .i64 x1)), (2, (.int .i64 x2)), (3, (.int .i64 x3)), (11, (.pointer x11)), (15, (⟨none, 0, 0⟩ : Sl).enc), (16, (.int .i64 x4))] ⟨rfl, rfl, rfl, rfl, rfl, rfl, rfl, trivial⟩ ?_
          refine tr_loop_j (fun m L' h => ∃ (x0 : Int) (x1 : Int) (x2 : Int) (x3 : Int) (x11 : Option Addr) (x15 : Sl) (x16 : Int), L' = [(0, (.int .i64 x0)), (1, (.int .i64 x1)), (2, (.int .i64 x2)), (3, (.int .i64 x3)), (11, (.pointer x11)), (15, x15.enc), (16, (.int .i64 x16))] ∧ F.spatelaw5_ChainLong.l6 Q m x0 x1 x2 x3 x11 x15 x16 h) ?_ ?_ m77 ⟨_, _, _, _, _, _, _, rfl, H⟩
          · rintro L' h ⟨_, _, _, _, _, _, _, _, H⟩; exact H
          · rintro m L' h ⟨x0, x1, x2, x3, x11, x15, x16, rfl, H⟩
            unfold F.spatelaw5_ChainLong.l6 at H
            refine tr_seq ?_
            refine tr_seq ?_
            refine tr_region ?_
            refine tr_p (y_move rfl) rfl rfl ?_
            refine tr_p (y_move rfl) rfl rfl ?_
            refine tr_p (y_move rfl) rfl rfl ?_
            refine tr_p (y_mul rfl rfl) rfl rfl ?_
            refine tr_p (y_lss rfl rfl) rfl rfl ?_
            refine tr_nil ?_
            refine tr_thenN ?_
            refine tr_cond rfl (fun g32 => ?_) (fun g32 => ?_)
            · replace H := H.1 g32
              refine tr_skip ?_
              refine tr_thenN ?_
              refine tr_seq ?_
              refine tr_block ?_
              refine tr_region ?_
              refine tr_p (y_move rfl) rfl rfl ?_
              refine tr_p (y_move rfl) rfl rfl ?_
              refine tr_e (f_buildL (cs := #[(.int .i64 x16)]) rfl rfl (bl_24_1_0 x16) H) rfl rfl ?_
              rintro _ h33 ⟨s34, rfl, H⟩
              refine tr_e (f_app rfl H) rfl rfl ?_
              rintro _ h35 ⟨s36, rfl, H⟩
              refine tr_p (y_assign rfl) rfl rfl ?_
              refine tr_nil ?_
              refine tr_blockN ?_
              refine tr_thenN ?_
              refine tr_region ?_
              refine tr_p (y_move rfl) rfl rfl ?_
              refine tr_p (y_move rfl) rfl rfl ?_
              refine tr_p (y_add rfl rfl) rfl rfl ?_
              refine tr_p (y_assign rfl) rfl rfl ?_
              refine tr_nil ?_
              refine tr_thenN ?_
              exact tr_join [(0, (.int .i64 x0)), (1, (.int .i64 x1)), (2, (.int .i64 x2)), (3, (.int .i64 x3)), (11, (.pointer x11)), (15, s36.enc), (16, (.int .i64 (IntKind.wrap .i64 (x16 + x3))))] ⟨rfl, rfl, rfl, rfl, rfl, rfl, rfl, trivial⟩ ⟨_, _, _, _, _, _, _, rfl, H⟩
            · replace H := H.2 g32
              refine tr_exit ?_
              refine tr_thenE ?_
              refine tr_thenE ?_
              refine tr_hit ?_
              refine tr_thenN ?_
              refine tr_seq ?_
              refine tr_seq ?_
              refine tr_region ?_
              refine tr_p (y_assign rfl) rfl rfl ?_
              refine tr_nil ?_
              refine tr_thenN ?_
              refine tr_block ?_
              obtain ⟨m76, H⟩ := H
              refine tr_sub [(0, (.int .i64 x0)), (1, (.int .i64 x1)), (2, (.int .i64 x2)), (11, (.pointer x11)), (15, x15.enc), (17, (.int .i64 0))] ⟨rfl, rfl, rfl, rfl, rfl, rfl, trivial⟩ ?_
              refine tr_loop_j (fun m L' h => ∃ (x0 : Int) (x1 : Int) (x2 : Int) (x11 : Option Addr) (x15 : Sl) (x17 : Int), L' = [(0, (.int .i64 x0)), (1, (.int .i64 x1)), (2, (.int .i64 x2)), (11, (.pointer x11)), (15, x15.enc), (17, (.int .i64 x17))] ∧ F.spatelaw5_ChainLong.l7 Q m x0 x1 x2 x11 x15 x17 h) ?_ ?_ m76 ⟨_, _, _, _, _, _, rfl, H⟩
              · rintro L' h ⟨_, _, _, _, _, _, _, H⟩; exact H
              · rintro m L' h ⟨x0, x1, x2, x11, x15, x17, rfl, H⟩
                unfold F.spatelaw5_ChainLong.l7 at H
                refine tr_seq ?_
                refine tr_seq ?_
                refine tr_region ?_
                refine tr_p (y_move rfl) rfl rfl ?_
                refine tr_p (y_move rfl) rfl rfl ?_
                refine tr_p (y_len (ts := #[]) Try.runUnderlying24 (o := x15.ptr) (n := x15.len) (cap := x15.cap) rfl) rfl rfl ?_
                refine tr_p (y_lss rfl rfl) rfl rfl ?_
                refine tr_nil ?_
                refine tr_thenN ?_
                refine tr_cond rfl (fun g37 => ?_) (fun g37 => ?_)
                · replace H := H.1 g37
                  refine tr_skip ?_
                  refine tr_thenN ?_
                  refine tr_seq ?_
                  refine tr_block ?_
                  refine tr_seq ?_
                  refine tr_region ?_
                  refine tr_p (y_move rfl) rfl rfl ?_
                  refine tr_p (y_move rfl) rfl rfl ?_
                  refine tr_p (y_move rfl) rfl rfl ?_
                  obtain ⟨a38, e39, H⟩ := H
                  refine tr_p (f_idx (s := x15) Try.runUnderlying24 Try.sizeOf3 rfl rfl e39) rfl rfl ?_
                  obtain ⟨y40, k41, H⟩ := H
                  refine tr_h (y_ld Try.isAgg3 rfl) k41 rfl rfl ?_
                  refine tr_p (y_move rfl) rfl rfl ?_
                  refine tr_p (y_move rfl) rfl rfl ?_
                  refine tr_e (e_call Try.call30 rfl (F.spatelaw5_was_ok H)) rfl rfl ?_
                  rintro _ h42 ⟨r43, rfl, H⟩
                  refine tr_p (y_not rfl) rfl rfl ?_
                  refine tr_nil ?_
                  refine tr_thenN ?_
                  refine tr_cond rfl (fun g44 => ?_) (fun g44 => ?_)
                  · replace H := H.1 g44
                    refine tr_seq ?_
                    refine tr_region ?_
                    refine tr_p (y_assign rfl) rfl rfl ?_
                    refine tr_nil ?_
                    refine tr_thenN ?_
                    refine tr_ret ?_
                    refine tr_blockR ?_
                    refine tr_thenR ?_
                    refine tr_thenR ?_
                    refine tr_blockR ?_
                    refine tr_thenR ?_
                    exact tr_ret1 rfl rfl ⟨_, rfl, H⟩
                  · replace H := H.2 g44
                    refine tr_skip ?_
                    refine tr_blockN ?_
                    refine tr_thenN ?_
                    refine tr_region ?_
                    refine tr_p (y_move rfl) rfl rfl ?_
                    refine tr_p (y_add rfl rfl) rfl rfl ?_
                    refine tr_p (y_assign rfl) rfl rfl ?_
                    refine tr_nil ?_
                    refine tr_thenN ?_
                    exact tr_join [(0, (.int .i64 x0)), (1, (.int .i64 x1)), (2, (.int .i64 x2)), (11, (.pointer x11)), (15, x15.enc), (17, (.int .i64 (IntKind.wrap .i64 (x17 + 1))))] ⟨rfl, rfl, rfl, rfl, rfl, rfl, trivial⟩ ⟨_, _, _, _, _, _, rfl, H⟩
                · replace H := H.2 g37
                  refine tr_exit ?_
                  refine tr_thenE ?_
                  refine tr_thenE ?_
                  refine tr_hit ?_
                  refine tr_thenN ?_
                  refine tr_seq ?_
                  refine tr_region ?_
                  refine tr_p (y_move rfl) rfl rfl ?_
                  refine tr_p (y_move rfl) rfl rfl ?_
                  refine tr_e (e_call Try.call17 rfl (F.chain_Chain_int_Prune_ok H)) rfl rfl ?_
                  rintro _ h45 ⟨r46, rfl, H⟩
                  refine tr_p (y_assign rfl) rfl rfl ?_
                  refine tr_nil ?_
                  refine tr_thenN ?_
                  refine tr_seq_j (fun L' h => ∃ (x0 : Int) (x1 : Int) (x2 : Int) (x11 : Option Addr) (x15 : Sl), L' = [(0, (.int .i64 x0)), (1, (.int .i64 x1)), (2, (.int .i64 x2)), (11, (.pointer x11)), (15, x15.enc)] ∧ F.spatelaw5_ChainLong.j8 Q x0 x1 x2 x11 x15 h) ?_ ?_
                  · rintro L' h ⟨x0, x1, x2, x11, x15, rfl, H⟩
                    unfold F.spatelaw5_ChainLong.j8 at H
                    refine tr_seq ?_
                    refine tr_seq ?_
                    refine tr_region ?_
                    refine tr_p (y_assign rfl) rfl rfl ?_
                    refine tr_nil ?_
                    refine tr_thenN ?_
                    refine tr_block ?_
                    obtain ⟨m69, H⟩ := H
                    refine tr_sub [(0, (.int .i64 x0)), (1, (.int .i64 x1)), (2, (.int .i64 x2)), (11, (.pointer x11)), (15, x15.enc), (19, (.int .i64 0))] ⟨rfl, rfl, rfl, rfl, rfl, rfl, trivial⟩ ?_
                    refine tr_loop_j (fun m L' h => ∃ (x0 : Int) (x1 : Int) (x2 : Int) (x11 : Option Addr) (x15 : Sl) (x19 : Int), L' = [(0, (.int .i64 x0)), (1, (.int .i64 x1)), (2, (.int .i64 x2)), (11, (.pointer x11)), (15, x15.enc), (19, (.int .i64 x19))] ∧ F.spatelaw5_ChainLong.l9 Q m x0 x1 x2 x11 x15 x19 h) ?_ ?_ m69 ⟨_, _, _, _, _, _, rfl, H⟩
                    · rintro L' h ⟨_, _, _, _, _, _, _, H⟩; exact H
                    · rintro m L' h ⟨x0, x1, x2, x11, x15, x19, rfl, H⟩
                      unfold F.spatelaw5_ChainLong.l9 at H
                      refine tr_seq ?_
                      refine tr_seq ?_
                      refine tr_region ?_
                      refine tr_p (y_move rfl) rfl rfl ?_
                      refine tr_p (y_move rfl) rfl rfl ?_
                      refine tr_p (y_len (ts := #[]) Try.runUnderlying24 (o := x15.ptr) (n := x15.len) (cap := x15.cap) rfl) rfl rfl ?_
                      refine tr_p (y_lss rfl rfl) rfl rfl ?_
                      refine tr_nil ?_
                      refine tr_thenN ?_
                      refine tr_cond rfl (fun g47 => ?_) (fun g47 => ?_)
                      · replace H := H.1 g47
                        refine tr_skip ?_
                        refine tr_thenN ?_
                        refine tr_seq ?_
                        refine tr_block ?_
                        refine tr_seq ?_
                        refine tr_region ?_
                        refine tr_p (y_move rfl) rfl rfl ?_
                        refine tr_p (y_move rfl) rfl rfl ?_
                        refine tr_p (y_move rfl) rfl rfl ?_
                        obtain ⟨a48, e49, H⟩ := H
                        refine tr_p (f_idx (s := x15) Try.runUnderlying24 Try.sizeOf3 rfl rfl e49) rfl rfl ?_
                        obtain ⟨y50, k51, H⟩ := H
                        refine tr_h (y_ld Try.isAgg3 rfl) k51 rfl rfl ?_
                        refine tr_p (y_move rfl) rfl rfl ?_
                        refine tr_p (y_move rfl) rfl rfl ?_
                        refine tr_e (e_call Try.call30 rfl (F.spatelaw5_was_ok H)) rfl rfl ?_
                        rintro _ h52 ⟨r53, rfl, H⟩
                        refine tr_p (y_not rfl) rfl rfl ?_
                        refine tr_nil ?_
                        refine tr_thenN ?_
                        refine tr_cond rfl (fun g54 => ?_) (fun g54 => ?_)
                        · replace H := H.1 g54
                          refine tr_seq ?_
                          refine tr_region ?_
                          refine tr_p (y_assign rfl) rfl rfl ?_
                          refine tr_nil ?_
                          refine tr_thenN ?_
                          refine tr_ret ?_
                          refine tr_blockR ?_
                          refine tr_thenR ?_
                          refine tr_thenR ?_
                          refine tr_blockR ?_
                          refine tr_thenR ?_
                          exact tr_ret1 rfl rfl ⟨_, rfl, H⟩
                        · replace H := H.2 g54
                          refine tr_skip ?_
                          refine tr_blockN ?_
                          refine tr_thenN ?_
                          refine tr_region ?_
                          refine tr_p (y_move rfl) rfl rfl ?_
                          refine tr_p (y_add rfl rfl) rfl rfl ?_
                          refine tr_p (y_assign rfl) rfl rfl ?_
                          refine tr_nil ?_
                          refine tr_thenN ?_
                          exact tr_join [(0, (.int .i64 x0)), (1, (.int .i64 x1)), (2, (.int .i64 x2)), (11, (.pointer x11)), (15, x15.enc), (19, (.int .i64 (IntKind.wrap .i64 (x19 + 1))))] ⟨rfl, rfl, rfl, rfl, rfl, rfl, trivial⟩ ⟨_, _, _, _, _, _, rfl, H⟩
                      · replace H := H.2 g47
                        refine tr_exit ?_
                        refine tr_thenE ?_
                        refine tr_thenE ?_
                        refine tr_hit ?_
                        refine tr_thenN ?_
                        refine tr_seq ?_
                        refine tr_region ?_
                        refine tr_p (y_move rfl) rfl rfl ?_
                        refine tr_p (y_eql rfl rfl) rfl rfl ?_
                        refine tr_p (y_move rfl) rfl rfl ?_
                        refine tr_split (t := 140) rfl (fun g55 => ?_) (fun g55 => ?_)
                        · replace H := H.1 g55
                          refine tr_s rfl rfl ?_
                          refine tr_s rfl rfl ?_
                          refine tr_s rfl rfl ?_
                          refine tr_s rfl rfl ?_
                          refine tr_s rfl rfl ?_
                          refine tr_s rfl rfl ?_
                          refine tr_s rfl rfl ?_
                          refine tr_s rfl rfl ?_
                          refine tr_s rfl rfl ?_
                          refine tr_p (y_pick_t rfl rfl) rfl rfl ?_
                          refine tr_p (y_move rfl) rfl rfl ?_
                          refine tr_s rfl rfl ?_
                          refine tr_s rfl rfl ?_
                          refine tr_s rfl rfl ?_
                          refine tr_s rfl rfl ?_
                          refine tr_s rfl rfl ?_
                          refine tr_s rfl rfl ?_
                          refine tr_s rfl rfl ?_
                          refine tr_s rfl rfl ?_
                          refine tr_p (y_pick_t rfl rfl) rfl rfl ?_
                          refine tr_p (y_move rfl) rfl rfl ?_
                          refine tr_s rfl rfl ?_
                          refine tr_s rfl rfl ?_
                          refine tr_s rfl rfl ?_
                          refine tr_s rfl rfl ?_
                          refine tr_p (y_pick_t rfl rfl) rfl rfl ?_
                          refine tr_p (y_assign rfl) rfl rfl ?_
                          refine tr_nil ?_
                          refine tr_thenN ?_
                          refine tr_ret ?_
                          exact tr_ret1 rfl rfl ⟨_, rfl, H⟩
                        · replace H := H.2 g55
                          refine tr_p (y_move rfl) rfl rfl ?_
                          refine tr_e (e_call Try.call16 rfl (F.chain_Chain_int_Len_ok H)) rfl rfl ?_
                          rintro _ h56 ⟨r57, rfl, H⟩
                          refine tr_p (y_eql rfl rfl) rfl rfl ?_
                          refine tr_p (y_move rfl) rfl rfl ?_
                          refine tr_split (t := 144) rfl (fun g58 => ?_) (fun g58 => ?_)
                          · replace H := H.1 g58
                            refine tr_p (y_move rfl) rfl rfl ?_
                            refine tr_p (y_move rfl) rfl rfl ?_
                            obtain ⟨e59, H⟩ := H
                            refine tr_p (y_rem rfl rfl e59) rfl rfl ?_
                            refine tr_p (y_eql rfl rfl) rfl rfl ?_
                            refine tr_p (y_pick_t rfl rfl) rfl rfl ?_
                            refine tr_p (y_pick_f rfl rfl) rfl rfl ?_
                            refine tr_p (y_move rfl) rfl rfl ?_
                            refine tr_split (t := 151) rfl (fun g60 => ?_) (fun g60 => ?_)
                            · replace H := H.1 g60
                              refine tr_s rfl rfl ?_
                              refine tr_s rfl rfl ?_
                              refine tr_s rfl rfl ?_
                              refine tr_s rfl rfl ?_
                              refine tr_s rfl rfl ?_
                              refine tr_s rfl rfl ?_
                              refine tr_s rfl rfl ?_
                              refine tr_s rfl rfl ?_
                              refine tr_p (y_pick_t rfl rfl) rfl rfl ?_
                              refine tr_p (y_move rfl) rfl rfl ?_
                              refine tr_s rfl rfl ?_
                              refine tr_s rfl rfl ?_
                              refine tr_s rfl rfl ?_
                              refine tr_s rfl rfl ?_
                              refine tr_p (y_pick_t rfl rfl) rfl rfl ?_
                              refine tr_p (y_assign rfl) rfl rfl ?_
                              refine tr_nil ?_
                              refine tr_thenN ?_
                              refine tr_ret ?_
                              exact tr_ret1 rfl rfl ⟨_, rfl, H⟩
                            · replace H := H.2 g60
                              refine tr_p (y_move rfl) rfl rfl ?_
                              refine tr_p (y_move rfl) rfl rfl ?_
                              refine tr_p (y_move rfl) rfl rfl ?_
                              refine tr_p (y_mul rfl rfl) rfl rfl ?_
                              refine tr_p (y_add rfl rfl) rfl rfl ?_
                              refine tr_p (y_move rfl) rfl rfl ?_
                              refine tr_p (y_move rfl) rfl rfl ?_
                              refine tr_e (e_call Try.call30 rfl (F.spatelaw5_was_ok H)) rfl rfl ?_
                              rintro _ h61 ⟨r62, rfl, H⟩
                              refine tr_p (y_pick_f rfl rfl) rfl rfl ?_
                              refine tr_p (y_move rfl) rfl rfl ?_
                              refine tr_split (t := 161) rfl (fun g63 => ?_) (fun g63 => ?_)
                              · replace H := H.1 g63
                                refine tr_s rfl rfl ?_
                                refine tr_s rfl rfl ?_
                                refine tr_s rfl rfl ?_
                                refine tr_s rfl rfl ?_
                                refine tr_p (y_pick_t rfl rfl) rfl rfl ?_
                                refine tr_p (y_assign rfl) rfl rfl ?_
                                refine tr_nil ?_
                                refine tr_thenN ?_
                                refine tr_ret ?_
                                exact tr_ret1 rfl rfl ⟨_, rfl, H⟩
                              · replace H := H.2 g63
                                refine tr_p (y_move rfl) rfl rfl ?_
                                refine tr_p (y_move rfl) rfl rfl ?_
                                obtain ⟨e64, H⟩ := H
                                refine tr_p (y_rem rfl rfl e64) rfl rfl ?_
                                refine tr_p (y_eql rfl rfl) rfl rfl ?_
                                refine tr_p (y_pick_f rfl rfl) rfl rfl ?_
                                refine tr_p (y_assign rfl) rfl rfl ?_
                                refine tr_nil ?_
                                refine tr_thenN ?_
                                refine tr_ret ?_
                                exact tr_ret1 rfl rfl ⟨_, rfl, H⟩
                          · replace H := H.2 g58
                            refine tr_s rfl rfl ?_
                            refine tr_s rfl rfl ?_
                            refine tr_s rfl rfl ?_
                            refine tr_s rfl rfl ?_
                            refine tr_p (y_pick_f rfl rfl) rfl rfl ?_
                            refine tr_p (y_pick_f rfl rfl) rfl rfl ?_
                            refine tr_p (y_move rfl) rfl rfl ?_
                            refine tr_p (y_move rfl) rfl rfl ?_
                            refine tr_p (y_move rfl) rfl rfl ?_
                            refine tr_p (y_move rfl) rfl rfl ?_
                            refine tr_p (y_mul rfl rfl) rfl rfl ?_
                            refine tr_p (y_add rfl rfl) rfl rfl ?_
                            refine tr_p (y_move rfl) rfl rfl ?_
                            refine tr_p (y_move rfl) rfl rfl ?_
                            refine tr_e (e_call Try.call30 rfl (F.spatelaw5_was_ok H)) rfl rfl ?_
                            rintro _ h65 ⟨r66, rfl, H⟩
                            refine tr_p (y_pick_f rfl rfl) rfl rfl ?_
                            refine tr_p (y_move rfl) rfl rfl ?_
                            refine tr_split (t := 161) rfl (fun g67 => ?_) (fun g67 => ?_)
                            · replace H := H.1 g67
                              refine tr_s rfl rfl ?_
                              refine tr_s rfl rfl ?_
                              refine tr_s rfl rfl ?_
                              refine tr_s rfl rfl ?_
                              refine tr_p (y_pick_t rfl rfl) rfl rfl ?_
                              refine tr_p (y_assign rfl) rfl rfl ?_
                              refine tr_nil ?_
                              refine tr_thenN ?_
                              refine tr_ret ?_
                              exact tr_ret1 rfl rfl ⟨_, rfl, H⟩
                            · replace H := H.2 g67
                              refine tr_p (y_move rfl) rfl rfl ?_
                              refine tr_p (y_move rfl) rfl rfl ?_
                              obtain ⟨e68, H⟩ := H
                              refine tr_p (y_rem rfl rfl e68) rfl rfl ?_
                              refine tr_p (y_eql rfl rfl) rfl rfl ?_
                              refine tr_p (y_pick_f rfl rfl) rfl rfl ?_
                              refine tr_p (y_assign rfl) rfl rfl ?_
                              refine tr_nil ?_
                              refine tr_thenN ?_
                              refine tr_ret ?_
                              exact tr_ret1 rfl rfl ⟨_, rfl, H⟩
                  · refine tr_seq_j (fun L' h => ∃ (x0 : Int) (x1 : Int) (x2 : Int) (x11 : Option Addr) (x15 : Sl) (x122 : Bool), L' = [(0, (.int .i64 x0)), (1, (.int .i64 x1)), (2, (.int .i64 x2)), (11, (.pointer x11)), (15, x15.enc), (122, (.bool x122))] ∧ F.spatelaw5_ChainLong.j10 Q x0 x1 x2 x11 x15 x122 h) ?_ ?_
                    · rintro L' h ⟨x0, x1, x2, x11, x15, x122, rfl, H⟩
                      unfold F.spatelaw5_ChainLong.j10 at H
                      refine tr_cond rfl (fun g70 => ?_) (fun g70 => ?_)
                      · replace H := H.1 g70
                        refine tr_seq ?_
                        refine tr_region ?_
                        refine tr_p (y_assign rfl) rfl rfl ?_
                        refine tr_nil ?_
                        refine tr_thenN ?_
                        refine tr_ret ?_
                        refine tr_thenR ?_
                        exact tr_ret1 rfl rfl ⟨_, rfl, H⟩
                      · replace H := H.2 g70
                        refine tr_skip ?_
                        refine tr_thenN ?_
                        exact tr_join [(0, (.int .i64 x0)), (1, (.int .i64 x1)), (2, (.int .i64 x2)), (11, (.pointer x11)), (15, x15.enc)] ⟨rfl, rfl, rfl, rfl, rfl, trivial⟩ ⟨_, _, _, _, _, rfl, H⟩
                    · refine tr_region ?_
                      refine tr_p (y_move rfl) rfl rfl ?_
                      refine tr_e (e_call Try.call16 rfl (F.chain_Chain_int_Len_ok H)) rfl rfl ?_
                      rintro _ h71 ⟨r72, rfl, H⟩
                      refine tr_p (y_move rfl) rfl rfl ?_
                      refine tr_p (y_move rfl) rfl rfl ?_
                      refine tr_p (y_sub rfl rfl) rfl rfl ?_
                      refine tr_p (y_neq rfl rfl) rfl rfl ?_
                      refine tr_p (y_move rfl) rfl rfl ?_
                      refine tr_split (t := 115) rfl (fun g73 => ?_) (fun g73 => ?_)
                      · replace H := H.1 g73
                        refine tr_s rfl rfl ?_
                        refine tr_s rfl rfl ?_
                        refine tr_s rfl rfl ?_
                        refine tr_s rfl rfl ?_
                        refine tr_s rfl rfl ?_
                        refine tr_s rfl rfl ?_
                        refine tr_p (y_pick_t rfl rfl) rfl rfl ?_
                        refine tr_nil ?_
                        refine tr_thenN ?_
                        exact tr_join [(0, (.int .i64 x0)), (1, (.int .i64 x1)), (2, (.int .i64 x2)), (11, (.pointer x11)), (15, x15.enc), (122, (.bool true))] ⟨rfl, rfl, rfl, rfl, rfl, rfl, trivial⟩ ⟨_, _, _, _, _, _, rfl, H⟩
                      · replace H := H.2 g73
                        refine tr_p (y_move rfl) rfl rfl ?_
                        refine tr_e (e_call Try.call16 rfl (F.chain_Chain_int_Len_ok H)) rfl rfl ?_
                        rintro _ h74 ⟨r75, rfl, H⟩
                        refine tr_p (y_move rfl) rfl rfl ?_
                        refine tr_p (y_len (ts := #[]) Try.runUnderlying24 (o := x15.ptr) (n := x15.len) (cap := x15.cap) rfl) rfl rfl ?_
                        refine tr_p (y_add rfl rfl) rfl rfl ?_
                        refine tr_p (y_gtr rfl rfl) rfl rfl ?_
                        refine tr_p (y_pick_f rfl rfl) rfl rfl ?_
                        refine tr_nil ?_
                        refine tr_thenN ?_
                        exact tr_join [(0, (.int .i64 x0)), (1, (.int .i64 x1)), (2, (.int .i64 x2)), (11, (.pointer x11)), (15, x15.enc), (122, (.bool (decide (r75 > (IntKind.wrap .i64 ((x15.len : Int) + 1))))))] ⟨rfl, rfl, rfl, rfl, rfl, rfl, trivial⟩ ⟨_, _, _, _, _, _, rfl, H⟩

end Go.Proofs.Ytapomjhjpejimaa.V
