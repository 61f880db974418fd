/- Printed by a program of this session (gen.py): Go functions as Lean functions over the heap, and that the Go code does what they say; no condition. -/
import Derived.Test.YtapomjhjpejimaaGlh
namespace Go.Proofs.Ytapomjhjpejimaa.V
open Go
set_option linter.unusedVariables false
set_option maxRecDepth 100000
/-- spate/spatelaw5.ChainNames -/
def F.spatelaw5_ChainNames  (h : H) (Q : Bool → H → Prop) : Prop :=
  Q true h
theorem F.spatelaw5_ChainNames_ok  {h : H} {Q : Bool → H → Prop} (H : F.spatelaw5_ChainNames  h Q) : Fn PP 3 ([] : List Value).toArray h fun r h' => ∃ r0, r = (.bool r0) ∧ Q r0 h' := by
  unfold F.spatelaw5_ChainNames at H
  refine fn_of Try.func3 Try.ntmps3 rfl rfl fun w0 => ?_
  refine tr_sub [] trivial ?_
  refine tr_seq ?_
  refine tr_region ?_
  refine tr_p (y_assign rfl) rfl rfl ?_
  refine tr_nil ?_
  refine tr_thenN ?_
  refine tr_seq ?_
  refine tr_region ?_
  refine tr_p (y_assign rfl) rfl rfl ?_
  refine tr_nil ?_
  refine tr_thenN ?_
  refine tr_ret ?_
  exact tr_ret1 rfl rfl ⟨_, rfl, H⟩

/-- spate/chain.New[int] -/
def F.chain_New_int  (h : H) (Q : (Option Addr) → H → Prop) : Prop :=
  new h ((⟨(⟨none, 0, 0⟩ : Sl)⟩ : S_chain_Chain_int).cells.toArray) ty_74 fun a2 h1 =>
  Q (some a2) h1
theorem F.chain_New_int_ok  {h : H} {Q : (Option Addr) → H → Prop} (H : F.chain_New_int  h Q) : Fn PP 29 ([] : List Value).toArray h fun r h' => ∃ r0, r = (.pointer r0) ∧ Q r0 h' := by
  unfold F.chain_New_int at H
  refine fn_of Try.func29 Try.ntmps29 rfl rfl fun w0 => ?_
  refine tr_sub [] trivial ?_
  refine tr_seq ?_
  refine tr_region ?_
  refine tr_p (y_assign rfl) rfl rfl ?_
  refine tr_nil ?_
  refine tr_thenN ?_
  refine tr_seq ?_
  refine tr_region ?_
  refine tr_p (f_build rfl (bd_74_ )) rfl rfl ?_
  refine tr_e (f_box (cs := (⟨(⟨none, 0, 0⟩ : Sl)⟩ : S_chain_Chain_int).cells.toArray) rfl rfl H) rfl rfl ?_
  rintro _ h1 ⟨a2, rfl, H⟩
  refine tr_p (y_assign rfl) rfl rfl ?_
  refine tr_nil ?_
  refine tr_thenN ?_
  refine tr_ret ?_
  exact tr_ret1 rfl rfl ⟨_, rfl, H⟩

def F.chain_Chain_int_may.j2 (Q : Int → H → Prop) (x12 : Bool) (h : H) : Prop :=
  (x12 = true →
  Q 32 h) ∧
  (x12 = false →
  Q 0 h)
def F.chain_Chain_int_may.j1 (Q : Int → H → Prop) (x0 : Option Addr) (x1 : Int) (x5 : Bool) (h : H) : Prop :=
  (x5 = true →
  Q 1 h) ∧
  (x5 = false →
  nn x0 fun a3 =>
  ldL h (a3.add 0) fun y5 =>
  ((decide ((y5.len : Int) > 0)) = true →
  nn x0 fun a8 =>
  ldL h (a8.add 0) fun y10 =>
  nn x0 fun a12 =>
  ldL h (a12.add 0) fun y14 =>
  idxA y10 (IntKind.wrap .i64 ((y14.len : Int) - 1)) 3 fun a16 =>
  ldI .i64 h (a16.add 0) fun y18 =>
  F.chain_Chain_int_may.j2 Q (decide (x1 < y18)) h) ∧
  ((decide ((y5.len : Int) > 0)) = false →
  F.chain_Chain_int_may.j2 Q false h))
/-- (*spate/chain.Chain[int]).may -/
def F.chain_Chain_int_may (p0 : Option Addr) (p1 : Int) (h : H) (Q : Int → H → Prop) : Prop :=
  ((decide (p1 < 1)) = true →
  F.chain_Chain_int_may.j1 Q p0 p1 true h) ∧
  ((decide (p1 < 1)) = false →
  F.chain_Chain_int_may.j1 Q p0 p1 (decide (p1 > 1099511627776)) h)
theorem F.chain_Chain_int_may_ok {p0 : Option Addr} {p1 : Int} {h : H} {Q : Int → H → Prop} (H : F.chain_Chain_int_may p0 p1 h Q) : Fn PP 40 ([(.pointer p0), (.int .i64 p1)] : List Value).toArray h fun r h' => ∃ r0, r = (.int .i64 r0) ∧ Q r0 h' := by
  unfold F.chain_Chain_int_may at H
  refine fn_of Try.func40 Try.ntmps40 rfl rfl fun w0 => ?_
  refine tr_sub [(0, (.pointer p0)), (1, (.int .i64 p1))] ⟨rfl, rfl, trivial⟩ ?_
  refine tr_seq ?_
  refine tr_region ?_
  refine tr_p (y_assign rfl) rfl rfl ?_
  refine tr_nil ?_
  refine tr_thenN ?_
  refine tr_seq ?_
  refine tr_block ?_
  refine tr_seq_j (fun L' h => ∃ (x0 : Option Addr) (x1 : Int) (x5 : Bool), L' = [(0, (.pointer x0)), (1, (.int .i64 x1)), (5, (.bool x5))] ∧ F.chain_Chain_int_may.j1 Q x0 x1 x5 h) ?_ ?_
  · rintro L' h ⟨x0, x1, x5, rfl, H⟩
    unfold F.chain_Chain_int_may.j1 at H
    refine tr_cond rfl (fun g1 => ?_) (fun g1 => ?_)
    · replace H := H.1 g1
      refine tr_seq ?_
      refine tr_region ?_
      refine tr_p (y_assign rfl) rfl rfl ?_
      refine tr_nil ?_
      refine tr_thenN ?_
      refine tr_ret ?_
      refine tr_blockR ?_
      refine tr_thenR ?_
      exact tr_ret1 rfl rfl ⟨_, rfl, H⟩
    · replace H := H.2 g1
      refine tr_seq_j (fun L' h => ∃ (x12 : Bool), L' = [(12, (.bool x12))] ∧ F.chain_Chain_int_may.j2 Q x12 h) ?_ ?_
      · rintro L' h ⟨x12, rfl, H⟩
        unfold F.chain_Chain_int_may.j2 at H
        refine tr_cond rfl (fun g2 => ?_) (fun g2 => ?_)
        · replace H := H.1 g2
          refine tr_seq ?_
          refine tr_region ?_
          refine tr_p (y_assign rfl) rfl rfl ?_
          refine tr_nil ?_
          refine tr_thenN ?_
          refine tr_ret ?_
          refine tr_blockR ?_
          refine tr_thenR ?_
          exact tr_ret1 rfl rfl ⟨_, rfl, H⟩
        · replace H := H.2 g2
          refine tr_skip ?_
          refine tr_blockN ?_
          refine tr_thenN ?_
          refine tr_seq ?_
          refine tr_region ?_
          refine tr_p (y_assign rfl) rfl rfl ?_
          refine tr_nil ?_
          refine tr_thenN ?_
          refine tr_ret ?_
          exact tr_ret1 rfl rfl ⟨_, rfl, H⟩
      · refine tr_draw mixed [0, 1, 3, 7, 15, 31, 63, 127, 127, 383, 895, 1919, 127, 4223, 12415, 28799, 61567, 127103, 262015, 524159, 1048447, 2097151, 4194303, 8388607] (by kernel_rfl) ?_
        refine g_p 0 1 rfl (by kernel_rfl) (y_move rfl) rfl rfl ?_
        obtain ⟨a3, e4, H⟩ := H
        refine g_p 1 3 rfl (by kernel_rfl) (f_nn rfl e4) rfl rfl ?_
        refine g_p 2 7 rfl (by kernel_rfl) (y_fa (off := 0) Try.runUnderlying74 fo_74_0 rfl) rfl rfl ?_
        obtain ⟨y5, k6, H⟩ := H
        refine g_h 3 15 rfl (by kernel_rfl) (y_ld Try.isAgg72 rfl) k6 rfl rfl ?_
        refine g_p 4 31 rfl (by kernel_rfl) (y_len (ts := #[]) Try.runUnderlying72 (o := y5.ptr) (n := y5.len) (cap := y5.cap) rfl) rfl rfl ?_
        refine g_p 5 63 rfl (by kernel_rfl) (y_gtr rfl rfl) rfl rfl ?_
        refine g_p 6 127 rfl (by kernel_rfl) (y_move rfl) rfl rfl ?_
        refine g_split (t := 19) rfl (fun g7 => ?_) (fun g7 => ?_)
        · replace H := H.1 g7
          refine g_p 7 255 rfl (by kernel_rfl) (y_move rfl) rfl rfl ?_
          refine g_p 8 511 rfl (by kernel_rfl) (y_move rfl) rfl rfl ?_
          obtain ⟨a8, e9, H⟩ := H
          refine g_p 9 1023 rfl (by kernel_rfl) (f_nn rfl e9) rfl rfl ?_
          refine g_p 10 2047 rfl (by kernel_rfl) (y_fa (off := 0) Try.runUnderlying74 fo_74_0 rfl) rfl rfl ?_
          obtain ⟨y10, k11, H⟩ := H
          refine g_h 11 4095 rfl (by kernel_rfl) (y_ld Try.isAgg72 rfl) k11 rfl rfl ?_
          refine g_p 12 8191 rfl (by kernel_rfl) (y_move rfl) rfl rfl ?_
          obtain ⟨a12, e13, H⟩ := H
          refine g_p 13 16383 rfl (by kernel_rfl) (f_nn rfl e13) rfl rfl ?_
          refine g_p 14 32767 rfl (by kernel_rfl) (y_fa (off := 0) Try.runUnderlying74 fo_74_0 rfl) rfl rfl ?_
          obtain ⟨y14, k15, H⟩ := H
          refine g_h 15 65535 rfl (by kernel_rfl) (y_ld Try.isAgg72 rfl) k15 rfl rfl ?_
          refine g_p 16 131071 rfl (by kernel_rfl) (y_len (ts := #[]) Try.runUnderlying72 (o := y14.ptr) (n := y14.len) (cap := y14.cap) rfl) rfl rfl ?_
          refine g_p 17 262143 rfl (by kernel_rfl) (y_sub rfl rfl) rfl rfl ?_
          obtain ⟨a16, e17, H⟩ := H
          refine g_p 18 524287 rfl (by kernel_rfl) (f_idx (s := y10) Try.runUnderlying72 Try.sizeOf76 rfl rfl e17) rfl rfl ?_
          refine g_p 19 1048575 rfl (by kernel_rfl) (y_fa (off := 0) Try.runUnderlying76 fo_76_0 rfl) rfl rfl ?_
          obtain ⟨y18, k19, H⟩ := H
          refine g_h 20 2097151 rfl (by kernel_rfl) (y_ld Try.isAgg3 rfl) k19 rfl rfl ?_
          refine g_p 21 4194303 rfl (by kernel_rfl) (y_lss rfl rfl) rfl rfl ?_
          refine g_p 22 8388607 rfl (by kernel_rfl) (y_pick_t rfl rfl) rfl rfl ?_
          refine g_p 23 16777215 rfl (by kernel_rfl) (y_assign rfl) rfl rfl ?_
          refine g_d (by kernel_rfl) ?_
          refine tr_thenN ?_
          exact tr_join [(12, (.bool (decide (x1 < y18))))] ⟨rfl, trivial⟩ ⟨_, rfl, H⟩
        · replace H := H.2 g7
          refine g_s 7 255 rfl (by kernel_rfl) rfl rfl ?_
          refine g_s 8 511 rfl (by kernel_rfl) rfl rfl ?_
          refine g_s 9 1023 rfl (by kernel_rfl) rfl rfl ?_
          refine g_s 10 2047 rfl (by kernel_rfl) rfl rfl ?_
          refine g_s 11 4095 rfl (by kernel_rfl) rfl rfl ?_
          refine g_s 12 8191 rfl (by kernel_rfl) rfl rfl ?_
          refine g_s 13 16383 rfl (by kernel_rfl) rfl rfl ?_
          refine g_s 14 32767 rfl (by kernel_rfl) rfl rfl ?_
          refine g_s 15 65535 rfl (by kernel_rfl) rfl rfl ?_
          refine g_s 16 131071 rfl (by kernel_rfl) rfl rfl ?_
          refine g_s 17 262143 rfl (by kernel_rfl) rfl rfl ?_
          refine g_s 18 524287 rfl (by kernel_rfl) rfl rfl ?_
          refine g_s 19 1048575 rfl (by kernel_rfl) rfl rfl ?_
          refine g_s 20 2097151 rfl (by kernel_rfl) rfl rfl ?_
          refine g_s 21 4194303 rfl (by kernel_rfl) rfl rfl ?_
          refine g_p 22 8388607 rfl (by kernel_rfl) (y_pick_f rfl rfl) rfl rfl ?_
          refine g_p 23 16777215 rfl (by kernel_rfl) (y_assign rfl) rfl rfl ?_
          refine g_d (by kernel_rfl) ?_
          refine tr_thenN ?_
          exact tr_join [(12, (.bool false))] ⟨rfl, trivial⟩ ⟨_, rfl, H⟩
  · refine tr_region ?_
    refine tr_p (y_move rfl) rfl rfl ?_
    refine tr_p (y_lss rfl rfl) rfl rfl ?_
    refine tr_p (y_move rfl) rfl rfl ?_
    refine tr_split (t := 8) rfl (fun g20 => ?_) (fun g20 => ?_)
    · replace H := H.1 g20
      refine tr_s rfl rfl ?_
      refine tr_s rfl rfl ?_
      refine tr_p (y_pick_t rfl rfl) rfl rfl ?_
      refine tr_p (y_assign rfl) rfl rfl ?_
      refine tr_nil ?_
      refine tr_thenN ?_
      exact tr_join [(0, (.pointer p0)), (1, (.int .i64 p1)), (5, (.bool true))] ⟨rfl, rfl, rfl, trivial⟩ ⟨_, _, _, rfl, H⟩
    · replace H := H.2 g20
      refine tr_p (y_move rfl) rfl rfl ?_
      refine tr_p (y_gtr rfl rfl) rfl rfl ?_
      refine tr_p (y_pick_f rfl rfl) rfl rfl ?_
      refine tr_p (y_assign rfl) rfl rfl ?_
      refine tr_nil ?_
      refine tr_thenN ?_
      exact tr_join [(0, (.pointer p0)), (1, (.int .i64 p1)), (5, (.bool (decide (p1 > 1099511627776))))] ⟨rfl, rfl, rfl, trivial⟩ ⟨_, _, _, rfl, H⟩

def F.chain_Chain_int_lay.j1 (Q : Int → H → Prop) (x0 : Option Addr) (x3 : Addr) (h : H) : Prop :=
  nn x0 fun a3 =>
  ldL h (a3.add 0) fun y5 =>
  ld_S_chain_version_int h x3 fun y7 =>
  newL h ((y7.cells).toArray) ty_76 1 fun s10 h9 =>
  cellH h9 (a3.add 0) = some y5.enc ∧
  runL PP (Builtin.append_ #[72, 72] 72 #[y5.enc, s10.enc]) h9 fun s13 h12 =>
  nn x0 fun a14 =>
  stH h12 (a14.add 0) [s13.enc] fun h16 =>
  Q 1 h16
def F.chain_Chain_int_lay.j2 (Q : Int → H → Prop) (x0 : Option Addr) (x3 : Addr) (x5 : Int) (x26 : Bool) (h : H) : Prop :=
  (x26 = true →
  nn x0 fun a22 =>
  ldL h (a22.add 0) fun y24 =>
  ld_S_chain_version_int h x3 fun y26 =>
  idxA y24 (IntKind.wrap .i64 (x5 - 1)) 3 fun a28 =>
  stH h a28 y26.cells fun h30 =>
  Q 0 h30) ∧
  (x26 = false →
  F.chain_Chain_int_lay.j1 Q x0 x3 h)
/-- (*spate/chain.Chain[int]).lay -/
def F.chain_Chain_int_lay (p0 : Option Addr) (p1 : S_chain_version_int) (h : H) (Q : Int → H → Prop) : Prop :=
  new h p1.cells.toArray ty_76 fun a2 h1 =>
  nn p0 fun a17 =>
  ldL h1 (a17.add 0) fun y19 =>
  ((decide ((y19.len : Int) > 0)) = true →
  nn p0 fun a32 =>
  ldL h1 (a32.add 0) fun y34 =>
  idxA y34 (IntKind.wrap .i64 ((y19.len : Int) - 1)) 3 fun a36 =>
  ldI .i64 h1 (a36.add 0) fun y38 =>
  ldI .i64 h1 (a2.add 0) fun y40 =>
  F.chain_Chain_int_lay.j2 Q p0 a2 (y19.len : Int) ((y38 == y40)) h1) ∧
  ((decide ((y19.len : Int) > 0)) = false →
  F.chain_Chain_int_lay.j2 Q p0 a2 (y19.len : Int) false h1)
theorem F.chain_Chain_int_lay_ok {p0 : Option Addr} {p1 : S_chain_version_int} {h : H} {Q : Int → H → Prop} (H : F.chain_Chain_int_lay p0 p1 h Q) : Fn PP 41 ([(.pointer p0), (.agg p1.cells.toArray)] : List Value).toArray h fun r h' => ∃ r0, r = (.int .i64 r0) ∧ Q r0 h' := by
  unfold F.chain_Chain_int_lay at H
  refine fn_of Try.func41 Try.ntmps41 rfl rfl fun w0 => ?_
  refine tr_sub [(0, (.pointer p0)), (1, (.agg p1.cells.toArray))] ⟨rfl, rfl, trivial⟩ ?_
  refine tr_seq ?_
  refine tr_region ?_
  refine tr_e (f_box (cs := p1.cells.toArray) rfl rfl H) rfl rfl ?_
  rintro _ h1 ⟨a2, rfl, H⟩
  refine tr_p (y_assign rfl) rfl rfl ?_
  refine tr_nil ?_
  refine tr_thenN ?_
  refine tr_seq_j (fun L' h => ∃ (x0 : Option Addr) (x3 : Addr), L' = [(0, (.pointer x0)), (3, (.pointer (some x3)))] ∧ F.chain_Chain_int_lay.j1 Q x0 x3 h) ?_ ?_
  · rintro L' h ⟨x0, x3, rfl, H⟩
    unfold F.chain_Chain_int_lay.j1 at H
    refine tr_seq ?_
    refine tr_draw mixed [0, 0, 2, 6, 14, 0, 32, 126, 255, 511, 1023] (by kernel_rfl) ?_
    refine g_p 0 1 rfl (by kernel_rfl) (y_move rfl) rfl rfl ?_
    refine g_p 1 3 rfl (by kernel_rfl) (y_move rfl) rfl rfl ?_
    obtain ⟨a3, e4, H⟩ := H
    refine g_p 2 7 rfl (by kernel_rfl) (f_nn rfl e4) rfl rfl ?_
    refine g_p 3 15 rfl (by kernel_rfl) (y_fa (off := 0) Try.runUnderlying74 fo_74_0 rfl) rfl rfl ?_
    obtain ⟨y5, k6, H⟩ := H
    refine g_h 4 31 rfl (by kernel_rfl) (y_ld Try.isAgg72 rfl) k6 rfl rfl ?_
    obtain ⟨y7, k8, H⟩ := H
    refine g_h 5 63 rfl (by kernel_rfl) (y_ldS Try.isAgg76 Try.sizeOf76 rfl rfl) k8 rfl rfl ?_
    refine g_e 6 127 [(4, fun h => cellH h (a3.add 0) = some y5.enc)] (by kernel_rfl) rfl (by kernel_rfl) (f_buildL (cs := (y7.cells).toArray) rfl rfl (bl_72_1_0 y7) H) rfl rfl ?_
    rintro _ h9 ⟨s10, rfl, H⟩
    obtain ⟨k11, H⟩ := H
    refine ⟨And.intro k11 trivial, ?_⟩
    refine g_e 7 255 [] (by kernel_rfl) rfl (by kernel_rfl) (f_app rfl H) rfl rfl ?_
    rintro _ h12 ⟨s13, rfl, H⟩
    refine ⟨trivial, ?_⟩
    obtain ⟨a14, e15, H⟩ := H
    refine g_p 8 511 rfl (by kernel_rfl) (f_nn rfl e15) rfl rfl ?_
    refine g_p 9 1023 rfl (by kernel_rfl) (y_fa (off := 0) Try.runUnderlying74 fo_74_0 rfl) rfl rfl ?_
    refine g_e 10 2047 [] (by kernel_rfl) rfl (by kernel_rfl) (f_store (vs := [s13.enc]) Try.sizeOf72 rfl rfl rfl rfl (one1 rfl) H) rfl rfl ?_
    rintro _ h16 ⟨rfl, H⟩
    refine ⟨trivial, ?_⟩
    refine g_d (by kernel_rfl) ?_
    refine tr_thenN ?_
    refine tr_seq ?_
    refine tr_region ?_
    refine tr_p (y_assign rfl) rfl rfl ?_
    refine tr_nil ?_
    refine tr_thenN ?_
    refine tr_ret ?_
    exact tr_ret1 rfl rfl ⟨_, rfl, H⟩
  · refine tr_seq ?_
    refine tr_region ?_
    refine tr_p (y_move rfl) rfl rfl ?_
    obtain ⟨a17, e18, H⟩ := H
    refine tr_p (f_nn rfl e18) rfl rfl ?_
    refine tr_p (y_fa (off := 0) Try.runUnderlying74 fo_74_0 rfl) rfl rfl ?_
    obtain ⟨y19, k20, H⟩ := H
    refine tr_h (y_ld Try.isAgg72 rfl) k20 rfl rfl ?_
    refine tr_p (y_len (ts := #[]) Try.runUnderlying72 (o := y19.ptr) (n := y19.len) (cap := y19.cap) rfl) rfl rfl ?_
    refine tr_p (y_assign rfl) rfl rfl ?_
    refine tr_nil ?_
    refine tr_thenN ?_
    refine tr_seq_j (fun L' h => ∃ (x0 : Option Addr) (x3 : Addr) (x5 : Int) (x26 : Bool), L' = [(0, (.pointer x0)), (3, (.pointer (some x3))), (5, (.int .i64 x5)), (26, (.bool x26))] ∧ F.chain_Chain_int_lay.j2 Q x0 x3 x5 x26 h) ?_ ?_
    · rintro L' h ⟨x0, x3, x5, x26, rfl, H⟩
      unfold F.chain_Chain_int_lay.j2 at H
      refine tr_cond rfl (fun g21 => ?_) (fun g21 => ?_)
      · replace H := H.1 g21
        refine tr_seq ?_
        refine tr_draw mixed [0, 1, 3, 7, 0, 16, 0, 127, 255] (by kernel_rfl) ?_
        refine g_p 0 1 rfl (by kernel_rfl) (y_move rfl) rfl rfl ?_
        obtain ⟨a22, e23, H⟩ := H
        refine g_p 1 3 rfl (by kernel_rfl) (f_nn rfl e23) rfl rfl ?_
        refine g_p 2 7 rfl (by kernel_rfl) (y_fa (off := 0) Try.runUnderlying74 fo_74_0 rfl) rfl rfl ?_
        obtain ⟨y24, k25, H⟩ := H
        refine g_h 3 15 rfl (by kernel_rfl) (y_ld Try.isAgg72 rfl) k25 rfl rfl ?_
        refine g_p 4 31 rfl (by kernel_rfl) (y_move rfl) rfl rfl ?_
        refine g_p 5 63 rfl (by kernel_rfl) (y_sub rfl rfl) rfl rfl ?_
        obtain ⟨y26, k27, H⟩ := H
        refine g_h 6 127 rfl (by kernel_rfl) (y_ldS Try.isAgg76 Try.sizeOf76 rfl rfl) k27 rfl rfl ?_
        obtain ⟨a28, e29, H⟩ := H
        refine g_p 7 255 rfl (by kernel_rfl) (f_idx (s := y24) Try.runUnderlying72 Try.sizeOf76 rfl rfl e29) rfl rfl ?_
        refine g_e 8 511 [] (by kernel_rfl) rfl (by kernel_rfl) (f_store (vs := y26.cells) Try.sizeOf76 rfl rfl cellsOfStruct rfl (by intro v hv; exact ones_S_chain_version_int _ v hv) H) rfl rfl ?_
        rintro _ h30 ⟨rfl, H⟩
        refine ⟨trivial, ?_⟩
        refine g_d (by kernel_rfl) ?_
        refine tr_thenN ?_
        refine tr_seq ?_
        refine tr_region ?_
        refine tr_p (y_assign rfl) rfl rfl ?_
        refine tr_nil ?_
        refine tr_thenN ?_
        refine tr_ret ?_
        refine tr_thenR ?_
        exact tr_ret1 rfl rfl ⟨_, rfl, H⟩
      · replace H := H.2 g21
        refine tr_skip ?_
        refine tr_thenN ?_
        exact tr_join [(0, (.pointer x0)), (3, (.pointer (some x3)))] ⟨rfl, rfl, trivial⟩ ⟨_, _, rfl, H⟩
    · refine tr_draw mixed [0, 1, 3, 7, 15, 31, 63, 7, 135, 511, 1023, 2047, 7, 4103, 16383, 32767] (by kernel_rfl) ?_
      refine g_p 0 1 rfl (by kernel_rfl) (y_move rfl) rfl rfl ?_
      refine g_p 1 3 rfl (by kernel_rfl) (y_gtr rfl rfl) rfl rfl ?_
      refine g_p 2 7 rfl (by kernel_rfl) (y_move rfl) rfl rfl ?_
      refine g_split (t := 13) rfl (fun g31 => ?_) (fun g31 => ?_)
      · replace H := H.1 g31
        refine g_p 3 15 rfl (by kernel_rfl) (y_move rfl) rfl rfl ?_
        obtain ⟨a32, e33, H⟩ := H
        refine g_p 4 31 rfl (by kernel_rfl) (f_nn rfl e33) rfl rfl ?_
        refine g_p 5 63 rfl (by kernel_rfl) (y_fa (off := 0) Try.runUnderlying74 fo_74_0 rfl) rfl rfl ?_
        obtain ⟨y34, k35, H⟩ := H
        refine g_h 6 127 rfl (by kernel_rfl) (y_ld Try.isAgg72 rfl) k35 rfl rfl ?_
        refine g_p 7 255 rfl (by kernel_rfl) (y_move rfl) rfl rfl ?_
        refine g_p 8 511 rfl (by kernel_rfl) (y_sub rfl rfl) rfl rfl ?_
        obtain ⟨a36, e37, H⟩ := H
        refine g_p 9 1023 rfl (by kernel_rfl) (f_idx (s := y34) Try.runUnderlying72 Try.sizeOf76 rfl rfl e37) rfl rfl ?_
        refine g_p 10 2047 rfl (by kernel_rfl) (y_fa (off := 0) Try.runUnderlying76 fo_76_0 rfl) rfl rfl ?_
        obtain ⟨y38, k39, H⟩ := H
        refine g_h 11 4095 rfl (by kernel_rfl) (y_ld Try.isAgg3 rfl) k39 rfl rfl ?_
        refine g_p 12 8191 rfl (by kernel_rfl) (y_fa (off := 0) Try.runUnderlying76 fo_76_0 rfl) rfl rfl ?_
        obtain ⟨y40, k41, H⟩ := H
        refine g_h 13 16383 rfl (by kernel_rfl) (y_ld Try.isAgg3 rfl) k41 rfl rfl ?_
        refine g_p 14 32767 rfl (by kernel_rfl) (y_eql rfl rfl) rfl rfl ?_
        refine g_p 15 65535 rfl (by kernel_rfl) (y_pick_t rfl rfl) rfl rfl ?_
        refine g_d (by kernel_rfl) ?_
        refine tr_thenN ?_
        exact tr_join [(0, (.pointer p0)), (3, (.pointer (some a2))), (5, (.int .i64 (y19.len : Int))), (26, (.bool ((y38 == y40))))] ⟨rfl, rfl, rfl, rfl, trivial⟩ ⟨_, _, _, _, rfl, H⟩
      · replace H := H.2 g31
        refine g_s 3 15 rfl (by kernel_rfl) rfl rfl ?_
        refine g_s 4 31 rfl (by kernel_rfl) rfl rfl ?_
        refine g_s 5 63 rfl (by kernel_rfl) rfl rfl ?_
        refine g_s 6 127 rfl (by kernel_rfl) rfl rfl ?_
        refine g_s 7 255 rfl (by kernel_rfl) rfl rfl ?_
        refine g_s 8 511 rfl (by kernel_rfl) rfl rfl ?_
        refine g_s 9 1023 rfl (by kernel_rfl) rfl rfl ?_
        refine g_s 10 2047 rfl (by kernel_rfl) rfl rfl ?_
        refine g_s 11 4095 rfl (by kernel_rfl) rfl rfl ?_
        refine g_s 12 8191 rfl (by kernel_rfl) rfl rfl ?_
        refine g_s 13 16383 rfl (by kernel_rfl) rfl rfl ?_
        refine g_s 14 32767 rfl (by kernel_rfl) rfl rfl ?_
        refine g_p 15 65535 rfl (by kernel_rfl) (y_pick_f rfl rfl) rfl rfl ?_
        refine g_d (by kernel_rfl) ?_
        refine tr_thenN ?_
        exact tr_join [(0, (.pointer p0)), (3, (.pointer (some a2))), (5, (.int .i64 (y19.len : Int))), (26, (.bool false))] ⟨rfl, rfl, rfl, rfl, trivial⟩ ⟨_, _, _, _, rfl, H⟩

/-- (*spate/chain.Chain[int]).Put -/
def F.chain_Chain_int_Put (p0 : Option Addr) (p1 : Int) (p2 : Int) (h : H) (Q : Int → Int → H → Prop) : Prop :=
  F.chain_Chain_int_may p0 p1 h fun r2 h1 =>
  (((r2 != 0)) = true →
  Q 0 r2 h1) ∧
  (((r2 != 0)) = false →
  F.chain_Chain_int_lay p0 (⟨p1, p2, false⟩ : S_chain_version_int) h1 fun r5 h4 =>
  Q r5 0 h4)
theorem F.chain_Chain_int_Put_ok {p0 : Option Addr} {p1 : Int} {p2 : Int} {h : H} {Q : Int → Int → H → Prop} (H : F.chain_Chain_int_Put p0 p1 p2 h Q) : Fn PP 23 ([(.pointer p0), (.int .i64 p1), (.int .i64 p2)] : List Value).toArray h fun r h' => ∃ r0 r1, r = .tuple #[(.int .i64 r0), (.int .i64 r1)] ∧ Q r0 r1 h' := by
  unfold F.chain_Chain_int_Put at H
  refine fn_of Try.func23 Try.ntmps23 rfl rfl fun w0 => ?_
  refine tr_sub [(0, (.pointer p0)), (1, (.int .i64 p1)), (2, (.int .i64 p2))] ⟨rfl, rfl, rfl, trivial⟩ ?_
  refine tr_seq ?_
  refine tr_region ?_
  refine tr_p (y_assign rfl) rfl rfl ?_
  refine tr_p (y_assign rfl) rfl rfl ?_
  refine tr_nil ?_
  refine tr_thenN ?_
  refine tr_seq ?_
  refine tr_seq ?_
  refine tr_region ?_
  refine tr_p (y_move rfl) rfl rfl ?_
  refine tr_p (y_move rfl) rfl rfl ?_
  refine tr_e (e_call Try.call40 rfl (F.chain_Chain_int_may_ok H)) rfl rfl ?_
  rintro _ h1 ⟨r2, rfl, H⟩
  refine tr_p (y_assign rfl) rfl rfl ?_
  refine tr_nil ?_
  refine tr_thenN ?_
  refine tr_seq ?_
  refine tr_region ?_
  refine tr_p (y_move rfl) rfl rfl ?_
  refine tr_p (y_neq rfl rfl) rfl rfl ?_
  refine tr_nil ?_
  refine tr_thenN ?_
  refine tr_cond rfl (fun g3 => ?_) (fun g3 => ?_)
  · replace H := H.1 g3
    refine tr_seq ?_
    refine tr_region ?_
    refine tr_p (y_move rfl) rfl rfl ?_
    refine tr_p (y_assign rfl) rfl rfl ?_
    refine tr_p (y_assign rfl) rfl rfl ?_
    refine tr_nil ?_
    refine tr_thenN ?_
    refine tr_ret ?_
    refine tr_thenR ?_
    exact tr_ret2 rfl rfl rfl ⟨_, _, rfl, H⟩
  · replace H := H.2 g3
    refine tr_skip ?_
    refine tr_thenN ?_
    refine tr_seq ?_
    refine tr_region ?_
    refine tr_p (y_move rfl) rfl rfl ?_
    refine tr_p (y_move rfl) rfl rfl ?_
    refine tr_p (y_move rfl) rfl rfl ?_
    refine tr_p (f_build rfl (bd_76_0_1 p1 p2)) rfl rfl ?_
    refine tr_e (e_call Try.call41 rfl (F.chain_Chain_int_lay_ok H)) rfl rfl ?_
    rintro _ h4 ⟨r5, rfl, H⟩
    refine tr_p (y_assign rfl) rfl rfl ?_
    refine tr_p (y_assign rfl) rfl rfl ?_
    refine tr_nil ?_
    refine tr_thenN ?_
    refine tr_ret ?_
    exact tr_ret2 rfl rfl rfl ⟨_, _, rfl, H⟩

def F.slices_BinarySearchFunc_Slchain_version_int_chain_version_int_int.l1 (Q : Int → Bool → H → Prop) : Nat → Sl → Int → Value → Int → Int → Int → H → Prop
  | 0, _, _, _, _, _, _, _ => False
  | q1 + 1, x0, x1, x2, x8, x9, x10, h =>
    ((decide (x9 < x10)) = true →
    0 ≤ (1 : Int) ∧
    idxA x0 (IntKind.wrap .i64 (Int.fdiv (IntKind.wrap .u64 (IntKind.wrap .i64 (x9 + x10))) (2 ^ (min (1 : Int).toNat (IntKind.bits .u64)) : Int))) 3 fun a3 =>
    ld_S_chain_version_int h a3 fun y5 =>
    CV PP x2 [(.agg y5.cells.toArray), (.int .i64 x1)] h fun u h7 => ∃ (r8 : Int), u = (.int .i64 r8) ∧
    ((decide (r8 < 0)) = true →
    (F.slices_BinarySearchFunc_Slchain_version_int_chain_version_int_int.l1 Q q1) x0 x1 x2 x8 (IntKind.wrap .i64 ((IntKind.wrap .i64 (Int.fdiv (IntKind.wrap .u64 (IntKind.wrap .i64 (x9 + x10))) (2 ^ (min (1 : Int).toNat (IntKind.bits .u64)) : Int))) + 1)) x10 h7) ∧
    ((decide (r8 < 0)) = false →
    (F.slices_BinarySearchFunc_Slchain_version_int_chain_version_int_int.l1 Q q1) x0 x1 x2 x8 x9 (IntKind.wrap .i64 (Int.fdiv (IntKind.wrap .u64 (IntKind.wrap .i64 (x9 + x10))) (2 ^ (min (1 : Int).toNat (IntKind.bits .u64)) : Int))) h7)) ∧
    ((decide (x9 < x10)) = false →
    ((decide (x9 < x8)) = true →
    idxA x0 x9 3 fun a11 =>
    ld_S_chain_version_int h a11 fun y13 =>
    CV PP x2 [(.agg y13.cells.toArray), (.int .i64 x1)] h fun u h15 => ∃ (r16 : Int), u = (.int .i64 r16) ∧
    Q x9 ((r16 == 0)) h15) ∧
    ((decide (x9 < x8)) = false →
    Q x9 false h))
/-- slices.BinarySearchFunc[[]spate/chain.version[int],spate/chain.version[int],int] -/
def F.slices_BinarySearchFunc_Slchain_version_int_chain_version_int_int (p0 : Sl) (p1 : Int) (p2 : Value) (h : H) (Q : Int → Bool → H → Prop) : Prop :=
  ∃ m, F.slices_BinarySearchFunc_Slchain_version_int_chain_version_int_int.l1 Q m p0 p1 p2 (p0.len : Int) 0 (p0.len : Int) h
theorem F.slices_BinarySearchFunc_Slchain_version_int_chain_version_int_int_ok {p0 : Sl} {p1 : Int} {p2 : Value} {h : H} {Q : Int → Bool → H → Prop} (H : F.slices_BinarySearchFunc_Slchain_version_int_chain_version_int_int p0 p1 p2 h Q) : Fn PP 59 ([p0.enc, (.int .i64 p1), p2] : List Value).toArray h fun r h' => ∃ r0 r1, r = .tuple #[(.int .i64 r0), (.bool r1)] ∧ Q r0 r1 h' := by
  unfold F.slices_BinarySearchFunc_Slchain_version_int_chain_version_int_int at H
  refine fn_of Try.func59 Try.ntmps59 rfl rfl fun w0 => ?_
  refine tr_sub [(0, p0.enc), (1, (.int .i64 p1)), (2, p2)] ⟨rfl, rfl, rfl, trivial⟩ ?_
  refine tr_seq ?_
  refine tr_region ?_
  refine tr_p (y_assign rfl) rfl rfl ?_
  refine tr_p (y_assign rfl) rfl rfl ?_
  refine tr_nil ?_
  refine tr_thenN ?_
  refine tr_seq ?_
  refine tr_region ?_
  refine tr_p (y_move rfl) rfl rfl ?_
  refine tr_p (y_len (ts := #[]) Try.runUnderlying72 (o := p0.ptr) (n := p0.len) (cap := p0.cap) rfl) rfl rfl ?_
  refine tr_p (y_assign rfl) rfl rfl ?_
  refine tr_nil ?_
  refine tr_thenN ?_
  refine tr_seq ?_
  refine tr_region ?_
  refine tr_p (y_move rfl) rfl rfl ?_
  refine tr_p (y_assign rfl) rfl rfl ?_
  refine tr_p (y_assign rfl) rfl rfl ?_
  refine tr_nil ?_
  refine tr_thenN ?_
  refine tr_seq ?_
  refine tr_block ?_
  obtain ⟨m17, H⟩ := H
  refine tr_sub [(0, p0.enc), (1, (.int .i64 p1)), (2, p2), (8, (.int .i64 (p0.len : Int))), (9, (.int .i64 0)), (10, (.int .i64 (p0.len : Int)))] ⟨rfl, rfl, rfl, rfl, rfl, rfl, trivial⟩ ?_
  refine tr_loop_j (fun m L' h => ∃ (x0 : Sl) (x1 : Int) (x2 : Value) (x8 : Int) (x9 : Int) (x10 : Int), L' = [(0, x0.enc), (1, (.int .i64 x1)), (2, x2), (8, (.int .i64 x8)), (9, (.int .i64 x9)), (10, (.int .i64 x10))] ∧ F.slices_BinarySearchFunc_Slchain_version_int_chain_version_int_int.l1 Q m x0 x1 x2 x8 x9 x10 h) ?_ ?_ m17 ⟨_, _, _, _, _, _, rfl, H⟩
  · rintro L' h ⟨_, _, _, _, _, _, _, H⟩; exact H
  · rintro q1 L' h ⟨x0, x1, x2, x8, x9, x10, rfl, H⟩
    unfold F.slices_BinarySearchFunc_Slchain_version_int_chain_version_int_int.l1 at H
    refine tr_seq ?_
    refine tr_seq ?_
    refine tr_region ?_
    refine tr_p (y_move rfl) rfl rfl ?_
    refine tr_p (y_move rfl) rfl rfl ?_
    refine tr_p (y_lss rfl rfl) rfl rfl ?_
    refine tr_nil ?_
    refine tr_thenN ?_
    refine tr_cond rfl (fun g1 => ?_) (fun g1 => ?_)
    · replace H := H.1 g1
      refine tr_skip ?_
      refine tr_thenN ?_
      refine tr_block ?_
      refine tr_seq ?_
      refine tr_region ?_
      refine tr_p (y_move rfl) rfl rfl ?_
      refine tr_p (y_move rfl) rfl rfl ?_
      refine tr_p (y_add rfl rfl) rfl rfl ?_
      refine tr_p (y_cvt Try.runUnderlying3 Try.runUnderlying106 rfl) rfl rfl ?_
      obtain ⟨e2, H⟩ := H
      refine tr_p (y_shr rfl rfl e2) rfl rfl ?_
      refine tr_p (y_cvt Try.runUnderlying106 Try.runUnderlying3 rfl) rfl rfl ?_
      refine tr_p (y_assign rfl) rfl rfl ?_
      refine tr_nil ?_
      refine tr_thenN ?_
      refine tr_seq ?_
      refine tr_region ?_
      refine tr_p (y_move rfl) rfl rfl ?_
      refine tr_p (y_move rfl) rfl rfl ?_
      refine tr_p (y_move rfl) rfl rfl ?_
      obtain ⟨a3, e4, H⟩ := H
      refine tr_p (f_idx (s := x0) Try.runUnderlying72 Try.sizeOf76 rfl rfl e4) rfl rfl ?_
      obtain ⟨y5, k6, H⟩ := H
      refine tr_h (y_ldS Try.isAgg76 Try.sizeOf76 rfl rfl) k6 rfl rfl ?_
      refine tr_p (y_move rfl) rfl rfl ?_
      refine tr_e (e_callD rfl rfl H) rfl rfl ?_
      rintro _ h7 ⟨r8, rfl, H⟩
      refine tr_p (y_lss rfl rfl) rfl rfl ?_
      refine tr_nil ?_
      refine tr_thenN ?_
      refine tr_cond rfl (fun g9 => ?_) (fun g9 => ?_)
      · replace H := H.1 g9
        refine tr_region ?_
        refine tr_p (y_move rfl) rfl rfl ?_
        refine tr_p (y_add rfl rfl) rfl rfl ?_
        refine tr_p (y_assign rfl) rfl rfl ?_
        refine tr_nil ?_
        refine tr_blockN ?_
        refine tr_thenN ?_
        exact tr_join [(0, x0.enc), (1, (.int .i64 x1)), (2, x2), (8, (.int .i64 x8)), (9, (.int .i64 (IntKind.wrap .i64 ((IntKind.wrap .i64 (Int.fdiv (IntKind.wrap .u64 (IntKind.wrap .i64 (x9 + x10))) (2 ^ (min (1 : Int).toNat (IntKind.bits .u64)) : Int))) + 1)))), (10, (.int .i64 x10))] ⟨rfl, rfl, rfl, rfl, rfl, rfl, trivial⟩ ⟨_, _, _, _, _, _, rfl, H⟩
      · replace H := H.2 g9
        refine tr_region ?_
        refine tr_p (y_move rfl) rfl rfl ?_
        refine tr_p (y_assign rfl) rfl rfl ?_
        refine tr_nil ?_
        refine tr_blockN ?_
        refine tr_thenN ?_
        exact tr_join [(0, x0.enc), (1, (.int .i64 x1)), (2, x2), (8, (.int .i64 x8)), (9, (.int .i64 x9)), (10, (.int .i64 (IntKind.wrap .i64 (Int.fdiv (IntKind.wrap .u64 (IntKind.wrap .i64 (x9 + x10))) (2 ^ (min (1 : Int).toNat (IntKind.bits .u64)) : Int)))))] ⟨rfl, rfl, rfl, rfl, rfl, rfl, trivial⟩ ⟨_, _, _, _, _, _, rfl, H⟩
    · replace H := H.2 g1
      refine tr_exit ?_
      refine tr_thenE ?_
      refine tr_thenE ?_
      refine tr_hit ?_
      refine tr_thenN ?_
      refine tr_seq ?_
      refine tr_region ?_
      refine tr_p (y_move rfl) rfl rfl ?_
      refine tr_p (y_move rfl) rfl rfl ?_
      refine tr_p (y_move rfl) rfl rfl ?_
      refine tr_p (y_lss rfl rfl) rfl rfl ?_
      refine tr_p (y_move rfl) rfl rfl ?_
      refine tr_split (t := 39) rfl (fun g10 => ?_) (fun g10 => ?_)
      · replace H := H.1 g10
        refine tr_p (y_move rfl) rfl rfl ?_
        refine tr_p (y_move rfl) rfl rfl ?_
        refine tr_p (y_move rfl) rfl rfl ?_
        obtain ⟨a11, e12, H⟩ := H
        refine tr_p (f_idx (s := x0) Try.runUnderlying72 Try.sizeOf76 rfl rfl e12) rfl rfl ?_
        obtain ⟨y13, k14, H⟩ := H
        refine tr_h (y_ldS Try.isAgg76 Try.sizeOf76 rfl rfl) k14 rfl rfl ?_
        refine tr_p (y_move rfl) rfl rfl ?_
        refine tr_e (e_callD rfl rfl H) rfl rfl ?_
        rintro _ h15 ⟨r16, rfl, H⟩
        refine tr_p (y_eql rfl rfl) rfl rfl ?_
        refine tr_p (y_pick_t rfl rfl) rfl rfl ?_
        refine tr_p (y_assign rfl) rfl rfl ?_
        refine tr_p (y_assign rfl) rfl rfl ?_
        refine tr_nil ?_
        refine tr_thenN ?_
        refine tr_ret ?_
        exact tr_ret2 rfl rfl rfl ⟨_, _, rfl, H⟩
      · replace H := H.2 g10
        refine tr_s rfl rfl ?_
        refine tr_s rfl rfl ?_
        refine tr_s rfl rfl ?_
        refine tr_s rfl rfl ?_
        refine tr_s rfl rfl ?_
        refine tr_s rfl rfl ?_
        refine tr_s rfl rfl ?_
        refine tr_s rfl rfl ?_
        refine tr_p (y_pick_f rfl rfl) rfl rfl ?_
        refine tr_p (y_assign rfl) rfl rfl ?_
        refine tr_p (y_assign rfl) rfl rfl ?_
        refine tr_nil ?_
        refine tr_thenN ?_
        refine tr_ret ?_
        exact tr_ret2 rfl rfl rfl ⟨_, _, rfl, H⟩

/-- (*spate/chain.Chain[int]).place$1 -/
def F.chain_Chain_int_place_1 (p0 : S_chain_version_int) (p1 : Int) (h : H) (Q : Int → H → Prop) : Prop :=
  new h p0.cells.toArray ty_76 fun a2 h1 =>
  ldI .i64 h1 (a2.add 0) fun y3 =>
  ((decide (y3 ≤ p1)) = true →
  Q (-1) h1) ∧
  ((decide (y3 ≤ p1)) = false →
  Q 1 h1)
theorem F.chain_Chain_int_place_1_ok {p0 : S_chain_version_int} {p1 : Int} {h : H} {Q : Int → H → Prop} (H : F.chain_Chain_int_place_1 p0 p1 h Q) : Fn PP 60 ([(.agg p0.cells.toArray), (.int .i64 p1)] : List Value).toArray h fun r h' => ∃ r0, r = (.int .i64 r0) ∧ Q r0 h' := by
  unfold F.chain_Chain_int_place_1 at H
  refine fn_of Try.func60 Try.ntmps60 rfl rfl fun w0 => ?_
  refine tr_sub [(0, (.agg p0.cells.toArray)), (1, (.int .i64 p1))] ⟨rfl, rfl, trivial⟩ ?_
  refine tr_seq ?_
  refine tr_region ?_
  refine tr_e (f_box (cs := p0.cells.toArray) rfl rfl H) rfl rfl ?_
  rintro _ h1 ⟨a2, rfl, H⟩
  refine tr_p (y_assign rfl) rfl rfl ?_
  refine tr_nil ?_
  refine tr_thenN ?_
  refine tr_seq ?_
  refine tr_seq ?_
  refine tr_region ?_
  refine tr_p (y_fa (off := 0) Try.runUnderlying76 fo_76_0 rfl) rfl rfl ?_
  obtain ⟨y3, k4, H⟩ := H
  refine tr_h (y_ld Try.isAgg3 rfl) k4 rfl rfl ?_
  refine tr_p (y_move rfl) rfl rfl ?_
  refine tr_p (y_leq rfl rfl) rfl rfl ?_
  refine tr_nil ?_
  refine tr_thenN ?_
  refine tr_cond rfl (fun g5 => ?_) (fun g5 => ?_)
  · replace H := H.1 g5
    refine tr_seq ?_
    refine tr_region ?_
    refine tr_p (y_assign rfl) rfl rfl ?_
    refine tr_nil ?_
    refine tr_thenN ?_
    refine tr_ret ?_
    refine tr_thenR ?_
    exact tr_ret1 rfl rfl ⟨_, rfl, H⟩
  · replace H := H.2 g5
    refine tr_skip ?_
    refine tr_thenN ?_
    refine tr_seq ?_
    refine tr_region ?_
    refine tr_p (y_assign rfl) rfl rfl ?_
    refine tr_nil ?_
    refine tr_thenN ?_
    refine tr_ret ?_
    exact tr_ret1 rfl rfl ⟨_, rfl, H⟩

/-- (*spate/chain.Chain[int]).place -/
def F.chain_Chain_int_place (p0 : Option Addr) (p1 : Int) (h : H) (Q : Int → H → Prop) : Prop :=
  nn p0 fun a1 =>
  ldL h (a1.add 0) fun y3 =>
  F.slices_BinarySearchFunc_Slchain_version_int_chain_version_int_int y3 p1 (.func (.func 60) #[] #[]) h fun r6 r7 h5 =>
  Q (IntKind.wrap .i64 (r6 - 1)) h5
theorem F.chain_Chain_int_place_ok {p0 : Option Addr} {p1 : Int} {h : H} {Q : Int → H → Prop} (H : F.chain_Chain_int_place p0 p1 h Q) : Fn PP 38 ([(.pointer p0), (.int .i64 p1)] : List Value).toArray h fun r h' => ∃ r0, r = (.int .i64 r0) ∧ Q r0 h' := by
  unfold F.chain_Chain_int_place at H
  refine fn_of Try.func38 Try.ntmps38 rfl rfl fun w0 => ?_
  refine tr_sub [(0, (.pointer p0)), (1, (.int .i64 p1))] ⟨rfl, rfl, trivial⟩ ?_
  refine tr_seq ?_
  refine tr_region ?_
  refine tr_p (y_assign rfl) rfl rfl ?_
  refine tr_nil ?_
  refine tr_thenN ?_
  refine tr_seq ?_
  refine tr_region ?_
  refine tr_p (y_move rfl) rfl rfl ?_
  obtain ⟨a1, e2, H⟩ := H
  refine tr_p (f_nn rfl e2) rfl rfl ?_
  refine tr_p (y_fa (off := 0) Try.runUnderlying74 fo_74_0 rfl) rfl rfl ?_
  obtain ⟨y3, k4, H⟩ := H
  refine tr_h (y_ld Try.isAgg72 rfl) k4 rfl rfl ?_
  refine tr_p (y_move rfl) rfl rfl ?_
  refine tr_e (e_call Try.call59 rfl (F.slices_BinarySearchFunc_Slchain_version_int_chain_version_int_int_ok H)) rfl rfl ?_
  rintro _ h5 ⟨r6, r7, rfl, H⟩
  refine tr_p (y_move rfl) rfl rfl ?_
  refine tr_p (y_ext rfl rfl) rfl rfl ?_
  refine tr_p (y_ext rfl rfl) rfl rfl ?_
  refine tr_p (y_assign rfl) rfl rfl ?_
  refine tr_p (y_assign rfl) rfl rfl ?_
  refine tr_nil ?_
  refine tr_thenN ?_
  refine tr_seq ?_
  refine tr_region ?_
  refine tr_p (y_move rfl) rfl rfl ?_
  refine tr_p (y_sub rfl rfl) rfl rfl ?_
  refine tr_p (y_assign rfl) rfl rfl ?_
  refine tr_nil ?_
  refine tr_thenN ?_
  refine tr_ret ?_
  exact tr_ret1 rfl rfl ⟨_, rfl, H⟩

def F.chain_Chain_int_At.j1 (Q : Int → Bool → H → Prop) (x4 : Int) (h : H) : Prop :=
  Q x4 false h
def F.chain_Chain_int_At.j2 (Q : Int → Bool → H → Prop) (x0 : Option Addr) (x4 : Int) (x6 : Int) (x22 : Bool) (h : H) : Prop :=
  (x22 = true →
  nn x0 fun a4 =>
  ldL h (a4.add 0) fun y6 =>
  idxA y6 x6 3 fun a8 =>
  ldI .i64 h (a8.add 1) fun y10 =>
  Q y10 true h) ∧
  (x22 = false →
  F.chain_Chain_int_At.j1 Q x4 h)
/-- (*spate/chain.Chain[int]).At -/
def F.chain_Chain_int_At (p0 : Option Addr) (p1 : Int) (h : H) (Q : Int → Bool → H → Prop) : Prop :=
  F.chain_Chain_int_place p0 p1 h fun r2 h1 =>
  ((decide (r2 ≥ 0)) = true →
  nn p0 fun a13 =>
  ldL h1 (a13.add 0) fun y15 =>
  idxA y15 r2 3 fun a17 =>
  ldB h1 (a17.add 2) fun y19 =>
  F.chain_Chain_int_At.j2 Q p0 0 r2 (!y19) h1) ∧
  ((decide (r2 ≥ 0)) = false →
  F.chain_Chain_int_At.j2 Q p0 0 r2 false h1)
theorem F.chain_Chain_int_At_ok {p0 : Option Addr} {p1 : Int} {h : H} {Q : Int → Bool → H → Prop} (H : F.chain_Chain_int_At p0 p1 h Q) : Fn PP 24 ([(.pointer p0), (.int .i64 p1)] : List Value).toArray h fun r h' => ∃ r0 r1, r = .tuple #[(.int .i64 r0), (.bool r1)] ∧ Q r0 r1 h' := by
  unfold F.chain_Chain_int_At at H
  refine fn_of Try.func24 Try.ntmps24 rfl rfl fun w0 => ?_
  refine tr_sub [(0, (.pointer p0)), (1, (.int .i64 p1))] ⟨rfl, rfl, trivial⟩ ?_
  refine tr_seq ?_
  refine tr_region ?_
  refine tr_p (y_assign rfl) rfl rfl ?_
  refine tr_p (y_assign rfl) rfl rfl ?_
  refine tr_nil ?_
  refine tr_thenN ?_
  refine tr_seq_j (fun L' h => ∃ (x4 : Int), L' = [(4, (.int .i64 x4))] ∧ F.chain_Chain_int_At.j1 Q x4 h) ?_ ?_
  · rintro L' h ⟨x4, rfl, H⟩
    unfold F.chain_Chain_int_At.j1 at H
    refine tr_seq ?_
    refine tr_region ?_
    refine tr_p (y_move rfl) rfl rfl ?_
    refine tr_p (y_assign rfl) rfl rfl ?_
    refine tr_p (y_assign rfl) rfl rfl ?_
    refine tr_nil ?_
    refine tr_thenN ?_
    refine tr_ret ?_
    exact tr_ret2 rfl rfl rfl ⟨_, _, rfl, H⟩
  · refine tr_seq ?_
    refine tr_region ?_
    refine tr_p (y_move rfl) rfl rfl ?_
    refine tr_p (y_move rfl) rfl rfl ?_
    refine tr_e (e_call Try.call38 rfl (F.chain_Chain_int_place_ok H)) rfl rfl ?_
    rintro _ h1 ⟨r2, rfl, H⟩
    refine tr_p (y_assign rfl) rfl rfl ?_
    refine tr_nil ?_
    refine tr_thenN ?_
    refine tr_seq_j (fun L' h => ∃ (x0 : Option Addr) (x4 : Int) (x6 : Int) (x22 : Bool), L' = [(0, (.pointer x0)), (4, (.int .i64 x4)), (6, (.int .i64 x6)), (22, (.bool x22))] ∧ F.chain_Chain_int_At.j2 Q x0 x4 x6 x22 h) ?_ ?_
    · rintro L' h ⟨x0, x4, x6, x22, rfl, H⟩
      unfold F.chain_Chain_int_At.j2 at H
      refine tr_cond rfl (fun g3 => ?_) (fun g3 => ?_)
      · replace H := H.1 g3
        refine tr_seq ?_
        refine tr_region ?_
        refine tr_p (y_move rfl) rfl rfl ?_
        obtain ⟨a4, e5, H⟩ := H
        refine tr_p (f_nn rfl e5) rfl rfl ?_
        refine tr_p (y_fa (off := 0) Try.runUnderlying74 fo_74_0 rfl) rfl rfl ?_
        obtain ⟨y6, k7, H⟩ := H
        refine tr_h (y_ld Try.isAgg72 rfl) k7 rfl rfl ?_
        refine tr_p (y_move rfl) rfl rfl ?_
        obtain ⟨a8, e9, H⟩ := H
        refine tr_p (f_idx (s := y6) Try.runUnderlying72 Try.sizeOf76 rfl rfl e9) rfl rfl ?_
        refine tr_p (y_fa (off := 1) Try.runUnderlying76 fo_76_1 rfl) rfl rfl ?_
        obtain ⟨y10, k11, H⟩ := H
        refine tr_h (y_ld Try.isAgg3 rfl) k11 rfl rfl ?_
        refine tr_p (y_assign rfl) rfl rfl ?_
        refine tr_p (y_assign rfl) rfl rfl ?_
        refine tr_nil ?_
        refine tr_thenN ?_
        refine tr_ret ?_
        refine tr_thenR ?_
        exact tr_ret2 rfl rfl rfl ⟨_, _, rfl, H⟩
      · replace H := H.2 g3
        refine tr_skip ?_
        refine tr_thenN ?_
        exact tr_join [(4, (.int .i64 x4))] ⟨rfl, trivial⟩ ⟨_, rfl, H⟩
    · refine tr_region ?_
      refine tr_p (y_move rfl) rfl rfl ?_
      refine tr_p (y_geq rfl rfl) rfl rfl ?_
      refine tr_p (y_move rfl) rfl rfl ?_
      refine tr_split (t := 12) rfl (fun g12 => ?_) (fun g12 => ?_)
      · replace H := H.1 g12
        refine tr_p (y_move rfl) rfl rfl ?_
        obtain ⟨a13, e14, H⟩ := H
        refine tr_p (f_nn rfl e14) rfl rfl ?_
        refine tr_p (y_fa (off := 0) Try.runUnderlying74 fo_74_0 rfl) rfl rfl ?_
        obtain ⟨y15, k16, H⟩ := H
        refine tr_h (y_ld Try.isAgg72 rfl) k16 rfl rfl ?_
        refine tr_p (y_move rfl) rfl rfl ?_
        obtain ⟨a17, e18, H⟩ := H
        refine tr_p (f_idx (s := y15) Try.runUnderlying72 Try.sizeOf76 rfl rfl e18) rfl rfl ?_
        refine tr_p (y_fa (off := 2) Try.runUnderlying76 fo_76_2 rfl) rfl rfl ?_
        obtain ⟨y19, k20, H⟩ := H
        refine tr_h (y_ld Try.isAgg4 rfl) k20 rfl rfl ?_
        refine tr_p (y_not rfl) rfl rfl ?_
        refine tr_p (y_pick_t rfl rfl) rfl rfl ?_
        refine tr_nil ?_
        refine tr_thenN ?_
        exact tr_join [(0, (.pointer p0)), (4, (.int .i64 0)), (6, (.int .i64 r2)), (22, (.bool (!y19)))] ⟨rfl, rfl, rfl, rfl, trivial⟩ ⟨_, _, _, _, rfl, H⟩
      · replace H := H.2 g12
        refine tr_s rfl rfl ?_
        refine tr_s rfl rfl ?_
        refine tr_s rfl rfl ?_
        refine tr_s rfl rfl ?_
        refine tr_s rfl rfl ?_
        refine tr_s rfl rfl ?_
        refine tr_s rfl rfl ?_
        refine tr_s rfl rfl ?_
        refine tr_s rfl rfl ?_
        refine tr_p (y_pick_f rfl rfl) rfl rfl ?_
        refine tr_nil ?_
        refine tr_thenN ?_
        exact tr_join [(0, (.pointer p0)), (4, (.int .i64 0)), (6, (.int .i64 r2)), (22, (.bool false))] ⟨rfl, rfl, rfl, rfl, trivial⟩ ⟨_, _, _, _, rfl, H⟩

/-- (*spate/chain.Chain[int]).Len -/
def F.chain_Chain_int_Len (p0 : Option Addr) (h : H) (Q : Int → H → Prop) : Prop :=
  nn p0 fun a1 =>
  ldL h (a1.add 0) fun y3 =>
  Q (y3.len : Int) h
theorem F.chain_Chain_int_Len_ok {p0 : Option Addr} {h : H} {Q : Int → H → Prop} (H : F.chain_Chain_int_Len p0 h Q) : Fn PP 16 ([(.pointer p0)] : List Value).toArray h fun r h' => ∃ r0, r = (.int .i64 r0) ∧ Q r0 h' := by
  unfold F.chain_Chain_int_Len at H
  refine fn_of Try.func16 Try.ntmps16 rfl rfl fun w0 => ?_
  refine tr_sub [(0, (.pointer p0))] ⟨rfl, trivial⟩ ?_
  refine tr_seq ?_
  refine tr_region ?_
  refine tr_p (y_assign rfl) rfl rfl ?_
  refine tr_nil ?_
  refine tr_thenN ?_
  refine tr_seq ?_
  refine tr_region ?_
  refine tr_p (y_move rfl) rfl rfl ?_
  obtain ⟨a1, e2, H⟩ := H
  refine tr_p (f_nn rfl e2) rfl rfl ?_
  refine tr_p (y_fa (off := 0) Try.runUnderlying74 fo_74_0 rfl) rfl rfl ?_
  obtain ⟨y3, k4, H⟩ := H
  refine tr_h (y_ld Try.isAgg72 rfl) k4 rfl rfl ?_
  refine tr_p (y_len (ts := #[]) Try.runUnderlying72 (o := y3.ptr) (n := y3.len) (cap := y3.cap) rfl) rfl rfl ?_
  refine tr_p (y_assign rfl) rfl rfl ?_
  refine tr_nil ?_
  refine tr_thenN ?_
  refine tr_ret ?_
  exact tr_ret1 rfl rfl ⟨_, rfl, H⟩

/-- slices.Clone[[]spate/chain.version[int],spate/chain.version[int]] -/
def F.slices_Clone_Slchain_version_int_chain_version_int (p0 : Sl) (h : H) (Q : Sl → H → Prop) : Prop :=
  (p0.ptr.isNone = true →
  Q (⟨none, 0, 0⟩ : Sl) h) ∧
  (p0.ptr.isNone = false →
  newL h (([]).toArray) ty_76 0 fun s3 h2 =>
  runL PP (Builtin.append_ #[72, 72] 72 #[s3.enc, p0.enc]) h2 fun s5 h4 =>
  Q s5 h4)
theorem F.slices_Clone_Slchain_version_int_chain_version_int_ok {p0 : Sl} {h : H} {Q : Sl → H → Prop} (H : F.slices_Clone_Slchain_version_int_chain_version_int p0 h Q) : Fn PP 42 ([p0.enc] : List Value).toArray h fun r h' => ∃ r0, r = r0.enc ∧ Q r0 h' := by
  unfold F.slices_Clone_Slchain_version_int_chain_version_int at H
  refine fn_of Try.func42 Try.ntmps42 rfl rfl fun w0 => ?_
  refine tr_sub [(0, p0.enc)] ⟨rfl, trivial⟩ ?_
  refine tr_seq ?_
  refine tr_region ?_
  refine tr_p (y_assign rfl) rfl rfl ?_
  refine tr_nil ?_
  refine tr_thenN ?_
  refine tr_seq ?_
  refine tr_seq ?_
  refine tr_region ?_
  refine tr_p (y_move rfl) rfl rfl ?_
  refine tr_p (y_lnil_eql Try.runUnderlying72 (s := p0) rfl rfl) rfl rfl ?_
  refine tr_nil ?_
  refine tr_thenN ?_
  refine tr_cond rfl (fun g1 => ?_) (fun g1 => ?_)
  · replace H := H.1 g1
    refine tr_seq ?_
    refine tr_region ?_
    refine tr_p (y_assign rfl) rfl rfl ?_
    refine tr_nil ?_
    refine tr_thenN ?_
    refine tr_ret ?_
    refine tr_thenR ?_
    exact tr_ret1 rfl rfl ⟨_, rfl, H⟩
  · replace H := H.2 g1
    refine tr_skip ?_
    refine tr_thenN ?_
    refine tr_seq ?_
    refine tr_region ?_
    refine tr_e (f_buildL (cs := ([]).toArray) rfl rfl (bl_72_0_) H) rfl rfl ?_
    rintro _ h2 ⟨s3, rfl, H⟩
    refine tr_p (y_move rfl) rfl rfl ?_
    refine tr_e (f_app rfl H) rfl rfl ?_
    rintro _ h4 ⟨s5, rfl, H⟩
    refine tr_p (y_assign rfl) rfl rfl ?_
    refine tr_nil ?_
    refine tr_thenN ?_
    refine tr_ret ?_
    exact tr_ret1 rfl rfl ⟨_, rfl, H⟩

def F.chain_Chain_int_All_1.l1 (Q : H → Prop) : Nat → Value → Sl → Int → Int → H → Prop
  | 0, _, _, _, _, _ => False
  | q1 + 1, x0, x5, x6, x7, h =>
    ((decide (x7 < x6)) = true →
    idxA x5 x7 3 fun a4 =>
    ld_S_chain_version_int h a4 fun y6 =>
    new h (((⟨0, 0, false⟩ : S_chain_version_int) : S_chain_version_int).cells.toArray) ty_76 fun a9 h8 =>
    stH h8 a9 y6.cells fun h10 =>
    ldI .i64 h10 (a9.add 0) fun y11 =>
    ldB h10 (a9.add 2) fun y13 =>
    CV PP x0 [(.int .i64 y11), (.bool (!y13))] h10 fun u h15 => ∃ (r16 : Bool), u = (.bool r16) ∧
    ((!r16) = true →
    Q h15) ∧
    ((!r16) = false →
    (F.chain_Chain_int_All_1.l1 Q q1) x0 x5 x6 (IntKind.wrap .i64 (x7 + 1)) h15)) ∧
    ((decide (x7 < x6)) = false →
    Q h)
/-- (*spate/chain.Chain[int]).All$1 -/
def F.chain_Chain_int_All_1 (p0 : Value) (p1 : Addr) (h : H) (Q : H → Prop) : Prop :=
  ldL h p1 fun y1 =>
  ∃ m, F.chain_Chain_int_All_1.l1 Q m p0 y1 (y1.len : Int) 0 h
theorem F.chain_Chain_int_All_1_ok {p0 : Value} {p1 : Addr} {h : H} {Q : H → Prop} (H : F.chain_Chain_int_All_1 p0 p1 h Q) : Fn PP 43 ([p0, (.pointer (some p1))] : List Value).toArray h fun r h' => r = .tuple #[] ∧ Q  h' := by
  unfold F.chain_Chain_int_All_1 at H
  refine fn_of Try.func43 Try.ntmps43 rfl rfl fun w0 => ?_
  refine tr_sub [(0, p0), (1, (.pointer (some p1)))] ⟨rfl, rfl, trivial⟩ ?_
  refine tr_seq ?_
  refine tr_region ?_
  obtain ⟨y1, k2, H⟩ := H
  refine tr_h (y_ld Try.isAgg72 rfl) k2 rfl rfl ?_
  refine tr_p (y_len (ts := #[]) Try.runUnderlying72 (o := y1.ptr) (n := y1.len) (cap := y1.cap) rfl) rfl rfl ?_
  refine tr_p (y_move rfl) rfl rfl ?_
  refine tr_nil ?_
  refine tr_thenN ?_
  refine tr_block ?_
  obtain ⟨m18, H⟩ := H
  refine tr_sub [(0, p0), (5, y1.enc), (6, (.int .i64 (y1.len : Int))), (7, (.int .i64 0))] ⟨rfl, rfl, rfl, rfl, trivial⟩ ?_
  refine tr_loop_j (fun m L' h => ∃ (x0 : Value) (x5 : Sl) (x6 : Int) (x7 : Int), L' = [(0, x0), (5, x5.enc), (6, (.int .i64 x6)), (7, (.int .i64 x7))] ∧ F.chain_Chain_int_All_1.l1 Q m x0 x5 x6 x7 h) ?_ ?_ m18 ⟨_, _, _, _, rfl, H⟩
  · rintro L' h ⟨_, _, _, _, _, H⟩; exact H
  · rintro q1 L' h ⟨x0, x5, x6, x7, rfl, H⟩
    unfold F.chain_Chain_int_All_1.l1 at H
    refine tr_seq ?_
    refine tr_region ?_
    refine tr_p (y_lss rfl rfl) rfl rfl ?_
    refine tr_nil ?_
    refine tr_thenN ?_
    refine tr_seq ?_
    refine tr_cond rfl (fun g3 => ?_) (fun g3 => ?_)
    · replace H := H.1 g3
      refine tr_skip ?_
      refine tr_thenN ?_
      refine tr_seq ?_
      refine tr_block ?_
      refine tr_seq ?_
      refine tr_region ?_
      obtain ⟨a4, e5, H⟩ := H
      refine tr_p (f_idx (s := x5) Try.runUnderlying72 Try.sizeOf76 rfl rfl e5) rfl rfl ?_
      obtain ⟨y6, k7, H⟩ := H
      refine tr_h (y_ldS Try.isAgg76 Try.sizeOf76 rfl rfl) k7 rfl rfl ?_
      refine tr_e (f_alloc (cs := ((⟨0, 0, false⟩ : S_chain_version_int) : S_chain_version_int).cells.toArray) Try.zeroValue76 rfl H) rfl rfl ?_
      rintro _ h8 ⟨a9, rfl, H⟩
      refine tr_e (f_store (vs := y6.cells) Try.sizeOf76 rfl rfl cellsOfStruct rfl (by intro v hv; exact ones_S_chain_version_int _ v hv) H) rfl rfl ?_
      rintro _ h10 ⟨rfl, H⟩
      refine tr_nil ?_
      refine tr_thenN ?_
      refine tr_seq ?_
      refine tr_region ?_
      refine tr_p (y_move rfl) rfl rfl ?_
      refine tr_p (y_fa (off := 0) Try.runUnderlying76 fo_76_0 rfl) rfl rfl ?_
      obtain ⟨y11, k12, H⟩ := H
      refine tr_h (y_ld Try.isAgg3 rfl) k12 rfl rfl ?_
      refine tr_p (y_fa (off := 2) Try.runUnderlying76 fo_76_2 rfl) rfl rfl ?_
      obtain ⟨y13, k14, H⟩ := H
      refine tr_h (y_ld Try.isAgg4 rfl) k14 rfl rfl ?_
      refine tr_p (y_not rfl) rfl rfl ?_
      refine tr_e (e_callD rfl rfl H) rfl rfl ?_
      rintro _ h15 ⟨r16, rfl, H⟩
      refine tr_p (y_not rfl) rfl rfl ?_
      refine tr_nil ?_
      refine tr_thenN ?_
      refine tr_cond rfl (fun g17 => ?_) (fun g17 => ?_)
      · replace H := H.1 g17
        refine tr_ret ?_
        refine tr_blockR ?_
        refine tr_thenR ?_
        refine tr_thenR ?_
        refine tr_blockR ?_
        exact tr_ret0 rfl ⟨rfl, H⟩
      · replace H := H.2 g17
        refine tr_skip ?_
        refine tr_blockN ?_
        refine tr_thenN ?_
        refine tr_region ?_
        refine tr_p (y_add rfl rfl) rfl rfl ?_
        refine tr_p (y_move rfl) rfl rfl ?_
        refine tr_nil ?_
        refine tr_thenN ?_
        exact tr_join [(0, x0), (5, x5.enc), (6, (.int .i64 x6)), (7, (.int .i64 (IntKind.wrap .i64 (x7 + 1))))] ⟨rfl, rfl, rfl, rfl, trivial⟩ ⟨_, _, _, _, rfl, H⟩
    · replace H := H.2 g3
      refine tr_exit ?_
      refine tr_thenE ?_
      refine tr_thenE ?_
      refine tr_hit ?_
      exact tr_end0 rfl ⟨rfl, H⟩

/-- (*spate/chain.Chain[int]).All -/
def F.chain_Chain_int_All (p0 : Option Addr) (h : H) (Q : Value → H → Prop) : Prop :=
  nn p0 fun a1 =>
  ldL h (a1.add 0) fun y3 =>
  F.slices_Clone_Slchain_version_int_chain_version_int y3 h fun r6 h5 =>
  new h5 #[(⟨none, 0, 0⟩ : Sl).enc] ty_72 fun a8 h7 =>
  stH h7 a8 [r6.enc] fun h9 =>
  Q (.func (.func 43) #[] #[(.pointer (some a8))]) h9
theorem F.chain_Chain_int_All_ok {p0 : Option Addr} {h : H} {Q : Value → H → Prop} (H : F.chain_Chain_int_All p0 h Q) : Fn PP 26 ([(.pointer p0)] : List Value).toArray h fun r h' => ∃ r0, r = r0 ∧ Q r0 h' := by
  unfold F.chain_Chain_int_All at H
  refine fn_of Try.func26 Try.ntmps26 rfl rfl fun w0 => ?_
  refine tr_sub [(0, (.pointer p0))] ⟨rfl, trivial⟩ ?_
  refine tr_seq ?_
  refine tr_region ?_
  refine tr_p (y_assign rfl) rfl rfl ?_
  refine tr_nil ?_
  refine tr_thenN ?_
  refine tr_seq ?_
  refine tr_region ?_
  refine tr_p (y_move rfl) rfl rfl ?_
  obtain ⟨a1, e2, H⟩ := H
  refine tr_p (f_nn rfl e2) rfl rfl ?_
  refine tr_p (y_fa (off := 0) Try.runUnderlying74 fo_74_0 rfl) rfl rfl ?_
  obtain ⟨y3, k4, H⟩ := H
  refine tr_h (y_ld Try.isAgg72 rfl) k4 rfl rfl ?_
  refine tr_e (e_call Try.call42 rfl (F.slices_Clone_Slchain_version_int_chain_version_int_ok H)) rfl rfl ?_
  rintro _ h5 ⟨r6, rfl, H⟩
  refine tr_e (f_alloc (cs := #[(⟨none, 0, 0⟩ : Sl).enc]) Try.zeroValue72 rfl H) rfl rfl ?_
  rintro _ h7 ⟨a8, rfl, H⟩
  refine tr_e (f_store (vs := [r6.enc]) Try.sizeOf72 rfl rfl rfl rfl (one1 rfl) H) rfl rfl ?_
  rintro _ h9 ⟨rfl, H⟩
  refine tr_nil ?_
  refine tr_thenN ?_
  refine tr_seq ?_
  refine tr_region ?_
  refine tr_p (y_fn rfl rfl) rfl rfl ?_
  refine tr_p (y_assign rfl) rfl rfl ?_
  refine tr_nil ?_
  refine tr_thenN ?_
  refine tr_ret ?_
  exact tr_ret1 rfl rfl ⟨_, rfl, H⟩

def F.spatelaw5_known.j1 (Q : Bool → H → Prop) (x1 : Option Addr) (h : H) : Prop :=
  F.chain_Chain_int_Put x1 3 7 h fun r4 r5 h3 =>
  F.chain_Chain_int_At x1 4 h3 fun r7 r8 h6 =>
  (((r4 == 1)) = true →
  (((r5 == 0)) = true →
  (((r7 == 7)) = true →
  (r8 = true →
  F.chain_Chain_int_Len x1 h6 fun r14 h13 =>
  Q ((r14 == 1)) h13) ∧
  (r8 = false →
  Q false h6)) ∧
  (((r7 == 7)) = false →
  Q false h6)) ∧
  (((r5 == 0)) = false →
  Q false h6)) ∧
  (((r4 == 1)) = false →
  Q false h6)
def F.spatelaw5_known.j2 (Q : Bool → H → Prop) (x1 : Option Addr) (x13 : Bool) (h : H) : Prop :=
  (x13 = true →
  Q false h) ∧
  (x13 = false →
  F.spatelaw5_known.j1 Q x1 h)
/-- spate/spatelaw5.known -/
def F.spatelaw5_known  (h : H) (Q : Bool → H → Prop) : Prop :=
  F.chain_New_int  h fun r2 h1 =>
  (r2.isNone = true →
  F.spatelaw5_known.j2 Q r2 true h1) ∧
  (r2.isNone = false →
  F.chain_Chain_int_All r2 h1 fun r18 h17 =>
  (r18 = .nilFunc ∨ isF r18) ∧
  F.spatelaw5_known.j2 Q r2 (isNilF r18) h17)
theorem F.spatelaw5_known_ok  {h : H} {Q : Bool → H → Prop} (H : F.spatelaw5_known  h Q) : Fn PP 11 ([] : List Value).toArray h fun r h' => ∃ r0, r = (.bool r0) ∧ Q r0 h' := by
  unfold F.spatelaw5_known at H
  refine fn_of Try.func11 Try.ntmps11 rfl rfl fun w0 => ?_
  refine tr_sub [] trivial ?_
  refine tr_seq ?_
  refine tr_region ?_
  refine tr_p (y_assign rfl) rfl rfl ?_
  refine tr_nil ?_
  refine tr_thenN ?_
  refine tr_seq ?_
  refine tr_region ?_
  refine tr_e (e_call Try.call29 rfl (F.chain_New_int_ok H)) rfl rfl ?_
  rintro _ h1 ⟨r2, rfl, H⟩
  refine tr_p (y_assign rfl) rfl rfl ?_
  refine tr_nil ?_
  refine tr_thenN ?_
  refine tr_seq_j (fun L' h => ∃ (x1 : Option Addr), L' = [(1, (.pointer x1))] ∧ F.spatelaw5_known.j1 Q x1 h) ?_ ?_
  · rintro L' h ⟨x1, rfl, H⟩
    unfold F.spatelaw5_known.j1 at H
    refine tr_seq ?_
    refine tr_region ?_
    refine tr_p (y_move rfl) rfl rfl ?_
    refine tr_e (e_call Try.call23 rfl (F.chain_Chain_int_Put_ok H)) rfl rfl ?_
    rintro _ h3 ⟨r4, r5, rfl, H⟩
    refine tr_p (y_move rfl) rfl rfl ?_
    refine tr_p (y_ext rfl rfl) rfl rfl ?_
    refine tr_p (y_ext rfl rfl) rfl rfl ?_
    refine tr_p (y_assign rfl) rfl rfl ?_
    refine tr_p (y_assign rfl) rfl rfl ?_
    refine tr_nil ?_
    refine tr_thenN ?_
    refine tr_seq ?_
    refine tr_region ?_
    refine tr_p (y_move rfl) rfl rfl ?_
    refine tr_e (e_call Try.call24 rfl (F.chain_Chain_int_At_ok H)) rfl rfl ?_
    rintro _ h6 ⟨r7, r8, rfl, H⟩
    refine tr_p (y_move rfl) rfl rfl ?_
    refine tr_p (y_ext rfl rfl) rfl rfl ?_
    refine tr_p (y_ext rfl rfl) rfl rfl ?_
    refine tr_p (y_assign rfl) rfl rfl ?_
    refine tr_p (y_assign rfl) rfl rfl ?_
    refine tr_nil ?_
    refine tr_thenN ?_
    refine tr_seq ?_
    refine tr_region ?_
    refine tr_p (y_move rfl) rfl rfl ?_
    refine tr_p (y_eql rfl rfl) rfl rfl ?_
    refine tr_p (y_move rfl) rfl rfl ?_
    refine tr_split (t := 26) rfl (fun g9 => ?_) (fun g9 => ?_)
    · replace H := H.1 g9
      refine tr_p (y_move rfl) rfl rfl ?_
      refine tr_p (y_eql rfl rfl) rfl rfl ?_
      refine tr_p (y_pick_t rfl rfl) rfl rfl ?_
      refine tr_p (y_move rfl) rfl rfl ?_
      refine tr_split (t := 30) rfl (fun g10 => ?_) (fun g10 => ?_)
      · replace H := H.1 g10
        refine tr_p (y_move rfl) rfl rfl ?_
        refine tr_p (y_eql rfl rfl) rfl rfl ?_
        refine tr_p (y_pick_t rfl rfl) rfl rfl ?_
        refine tr_p (y_move rfl) rfl rfl ?_
        refine tr_split (t := 34) rfl (fun g11 => ?_) (fun g11 => ?_)
        · replace H := H.1 g11
          refine tr_p (y_move rfl) rfl rfl ?_
          refine tr_p (y_pick_t rfl rfl) rfl rfl ?_
          refine tr_p (y_move rfl) rfl rfl ?_
          refine tr_split (t := 37) rfl (fun g12 => ?_) (fun g12 => ?_)
          · replace H := H.1 g12
            refine tr_p (y_move rfl) rfl rfl ?_
            refine tr_e (e_call Try.call16 rfl (F.chain_Chain_int_Len_ok H)) rfl rfl ?_
            rintro _ h13 ⟨r14, rfl, H⟩
            refine tr_p (y_eql rfl rfl) rfl rfl ?_
            refine tr_p (y_pick_t rfl rfl) rfl rfl ?_
            refine tr_p (y_assign rfl) rfl rfl ?_
            refine tr_nil ?_
            refine tr_thenN ?_
            refine tr_ret ?_
            exact tr_ret1 rfl rfl ⟨_, rfl, H⟩
          · replace H := H.2 g12
            refine tr_s rfl rfl ?_
            refine tr_s rfl rfl ?_
            refine tr_s rfl rfl ?_
            refine tr_p (y_pick_f rfl rfl) rfl rfl ?_
            refine tr_p (y_assign rfl) rfl rfl ?_
            refine tr_nil ?_
            refine tr_thenN ?_
            refine tr_ret ?_
            exact tr_ret1 rfl rfl ⟨_, rfl, H⟩
        · replace H := H.2 g11
          refine tr_s rfl rfl ?_
          refine tr_p (y_pick_f rfl rfl) rfl rfl ?_
          refine tr_p (y_move rfl) rfl rfl ?_
          refine tr_s rfl rfl ?_
          refine tr_s rfl rfl ?_
          refine tr_s rfl rfl ?_
          refine tr_p (y_pick_f rfl rfl) rfl rfl ?_
          refine tr_p (y_assign rfl) rfl rfl ?_
          refine tr_nil ?_
          refine tr_thenN ?_
          refine tr_ret ?_
          exact tr_ret1 rfl rfl ⟨_, rfl, H⟩
      · replace H := H.2 g10
        refine tr_s rfl rfl ?_
        refine tr_s rfl rfl ?_
        refine tr_p (y_pick_f rfl rfl) rfl rfl ?_
        refine tr_p (y_move rfl) rfl rfl ?_
        refine tr_s rfl rfl ?_
        refine tr_p (y_pick_f rfl rfl) rfl rfl ?_
        refine tr_p (y_move rfl) rfl rfl ?_
        refine tr_s rfl rfl ?_
        refine tr_s rfl rfl ?_
        refine tr_s rfl rfl ?_
        refine tr_p (y_pick_f rfl rfl) rfl rfl ?_
        refine tr_p (y_assign rfl) rfl rfl ?_
        refine tr_nil ?_
        refine tr_thenN ?_
        refine tr_ret ?_
        exact tr_ret1 rfl rfl ⟨_, rfl, H⟩
    · replace H := H.2 g9
      refine tr_s rfl rfl ?_
      refine tr_s rfl rfl ?_
      refine tr_p (y_pick_f rfl rfl) rfl rfl ?_
      refine tr_p (y_move rfl) rfl rfl ?_
      refine tr_s rfl rfl ?_
      refine tr_s rfl rfl ?_
      refine tr_p (y_pick_f rfl rfl) rfl rfl ?_
      refine tr_p (y_move rfl) rfl rfl ?_
      refine tr_s rfl rfl ?_
      refine tr_p (y_pick_f rfl rfl) rfl rfl ?_
      refine tr_p (y_move rfl) rfl rfl ?_
      refine tr_s rfl rfl ?_
      refine tr_s rfl rfl ?_
      refine tr_s rfl rfl ?_
      refine tr_p (y_pick_f rfl rfl) rfl rfl ?_
      refine tr_p (y_assign rfl) rfl rfl ?_
      refine tr_nil ?_
      refine tr_thenN ?_
      refine tr_ret ?_
      exact tr_ret1 rfl rfl ⟨_, rfl, H⟩
  · refine tr_seq_j (fun L' h => ∃ (x1 : Option Addr) (x13 : Bool), L' = [(1, (.pointer x1)), (13, (.bool x13))] ∧ F.spatelaw5_known.j2 Q x1 x13 h) ?_ ?_
    · rintro L' h ⟨x1, x13, rfl, H⟩
      unfold F.spatelaw5_known.j2 at H
      refine tr_cond rfl (fun g15 => ?_) (fun g15 => ?_)
      · replace H := H.1 g15
        refine tr_seq ?_
        refine tr_region ?_
        refine tr_p (y_assign rfl) rfl rfl ?_
        refine tr_nil ?_
        refine tr_thenN ?_
        refine tr_ret ?_
        refine tr_thenR ?_
        exact tr_ret1 rfl rfl ⟨_, rfl, H⟩
      · replace H := H.2 g15
        refine tr_skip ?_
        refine tr_thenN ?_
        exact tr_join [(1, (.pointer x1))] ⟨rfl, trivial⟩ ⟨_, rfl, H⟩
    · refine tr_region ?_
      refine tr_p (y_move rfl) rfl rfl ?_
      refine tr_p (y_pnil_eql Try.runUnderlying25 rfl rfl) rfl rfl ?_
      refine tr_p (y_move rfl) rfl rfl ?_
      refine tr_split (t := 9) rfl (fun g16 => ?_) (fun g16 => ?_)
      · replace H := H.1 g16
        refine tr_s rfl rfl ?_
        refine tr_s rfl rfl ?_
        refine tr_s rfl rfl ?_
        refine tr_p (y_pick_t rfl rfl) rfl rfl ?_
        refine tr_nil ?_
        refine tr_thenN ?_
        exact tr_join [(1, (.pointer r2)), (13, (.bool true))] ⟨rfl, rfl, trivial⟩ ⟨_, _, rfl, H⟩
      · replace H := H.2 g16
        refine tr_p (y_move rfl) rfl rfl ?_
        refine tr_e (e_call Try.call26 rfl (F.chain_Chain_int_All_ok H)) rfl rfl ?_
        rintro r18 h17 ⟨_, rfl, H⟩
        obtain ⟨e19, H⟩ := H
        refine tr_p (y_vnil_eql Try.runUnderlying45 rfl rfl e19) rfl rfl ?_
        refine tr_p (y_pick_f rfl rfl) rfl rfl ?_
        refine tr_nil ?_
        refine tr_thenN ?_
        exact tr_join [(1, (.pointer r2)), (13, (.bool (isNilF r18)))] ⟨rfl, rfl, trivial⟩ ⟨_, _, rfl, H⟩

/-- (*spate/chain.Chain[int]).Newest -/
def F.chain_Chain_int_Newest (p0 : Option Addr) (h : H) (Q : Int → Int → Bool → H → Prop) : Prop :=
  nn p0 fun a1 =>
  ldL h (a1.add 0) fun y3 =>
  ((((y3.len : Int) == 0)) = true →
  Q 0 0 false h) ∧
  ((((y3.len : Int) == 0)) = false →
  nn p0 fun a6 =>
  ldL h (a6.add 0) fun y8 =>
  nn p0 fun a10 =>
  ldL h (a10.add 0) fun y12 =>
  idxA y8 (IntKind.wrap .i64 ((y12.len : Int) - 1)) 3 fun a14 =>
  ld_S_chain_version_int h a14 fun y16 =>
  new h (((⟨0, 0, false⟩ : S_chain_version_int) : S_chain_version_int).cells.toArray) ty_76 fun a19 h18 =>
  Cells h18 a14 y16.cells ∧
  cellH h18 (a10.add 0) = some y12.enc ∧
  cellH h18 (a6.add 0) = some y8.enc ∧
  stH h18 a19 y16.cells fun h23 =>
  ldI .i64 h23 (a19.add 1) fun y24 =>
  ldI .i64 h23 (a19.add 0) fun y26 =>
  ldB h23 (a19.add 2) fun y28 =>
  Q y24 y26 (!y28) h23)
theorem F.chain_Chain_int_Newest_ok {p0 : Option Addr} {h : H} {Q : Int → Int → Bool → H → Prop} (H : F.chain_Chain_int_Newest p0 h Q) : Fn PP 14 ([(.pointer p0)] : List Value).toArray h fun r h' => ∃ r0 r1 r2, r = .tuple #[(.int .i64 r0), (.int .i64 r1), (.bool r2)] ∧ Q r0 r1 r2 h' := by
  unfold F.chain_Chain_int_Newest at H
  refine fn_of Try.func14 Try.ntmps14 rfl rfl fun w0 => ?_
  refine tr_sub [(0, (.pointer p0))] ⟨rfl, trivial⟩ ?_
  refine tr_seq ?_
  refine tr_region ?_
  refine tr_p (y_assign rfl) rfl rfl ?_
  refine tr_p (y_assign rfl) rfl rfl ?_
  refine tr_p (y_assign rfl) rfl rfl ?_
  refine tr_nil ?_
  refine tr_thenN ?_
  refine tr_seq ?_
  refine tr_seq ?_
  refine tr_region ?_
  refine tr_p (y_move rfl) rfl rfl ?_
  obtain ⟨a1, e2, H⟩ := H
  refine tr_p (f_nn rfl e2) rfl rfl ?_
  refine tr_p (y_fa (off := 0) Try.runUnderlying74 fo_74_0 rfl) rfl rfl ?_
  obtain ⟨y3, k4, H⟩ := H
  refine tr_h (y_ld Try.isAgg72 rfl) k4 rfl rfl ?_
  refine tr_p (y_len (ts := #[]) Try.runUnderlying72 (o := y3.ptr) (n := y3.len) (cap := y3.cap) rfl) rfl rfl ?_
  refine tr_p (y_eql rfl rfl) rfl rfl ?_
  refine tr_nil ?_
  refine tr_thenN ?_
  refine tr_cond rfl (fun g5 => ?_) (fun g5 => ?_)
  · replace H := H.1 g5
    refine tr_seq ?_
    refine tr_region ?_
    refine tr_p (y_move rfl) rfl rfl ?_
    refine tr_p (y_assign rfl) rfl rfl ?_
    refine tr_p (y_assign rfl) rfl rfl ?_
    refine tr_p (y_assign rfl) rfl rfl ?_
    refine tr_nil ?_
    refine tr_thenN ?_
    refine tr_ret ?_
    refine tr_thenR ?_
    exact tr_ret3 rfl rfl rfl rfl ⟨_, _, _, rfl, H⟩
  · replace H := H.2 g5
    refine tr_skip ?_
    refine tr_thenN ?_
    refine tr_seq ?_
    refine tr_draw mixed [0, 1, 3, 7, 0, 16, 48, 112, 240, 496, 1023, 2047, 0, 8191] (by kernel_rfl) ?_
    refine g_p 0 1 rfl (by kernel_rfl) (y_move rfl) rfl rfl ?_
    obtain ⟨a6, e7, H⟩ := H
    refine g_p 1 3 rfl (by kernel_rfl) (f_nn rfl e7) rfl rfl ?_
    refine g_p 2 7 rfl (by kernel_rfl) (y_fa (off := 0) Try.runUnderlying74 fo_74_0 rfl) rfl rfl ?_
    obtain ⟨y8, k9, H⟩ := H
    refine g_h 3 15 rfl (by kernel_rfl) (y_ld Try.isAgg72 rfl) k9 rfl rfl ?_
    refine g_p 4 31 rfl (by kernel_rfl) (y_move rfl) rfl rfl ?_
    obtain ⟨a10, e11, H⟩ := H
    refine g_p 5 63 rfl (by kernel_rfl) (f_nn rfl e11) rfl rfl ?_
    refine g_p 6 127 rfl (by kernel_rfl) (y_fa (off := 0) Try.runUnderlying74 fo_74_0 rfl) rfl rfl ?_
    obtain ⟨y12, k13, H⟩ := H
    refine g_h 7 255 rfl (by kernel_rfl) (y_ld Try.isAgg72 rfl) k13 rfl rfl ?_
    refine g_p 8 511 rfl (by kernel_rfl) (y_len (ts := #[]) Try.runUnderlying72 (o := y12.ptr) (n := y12.len) (cap := y12.cap) rfl) rfl rfl ?_
    refine g_p 9 1023 rfl (by kernel_rfl) (y_sub rfl rfl) rfl rfl ?_
    obtain ⟨a14, e15, H⟩ := H
    refine g_p 10 2047 rfl (by kernel_rfl) (f_idx (s := y8) Try.runUnderlying72 Try.sizeOf76 rfl rfl e15) rfl rfl ?_
    obtain ⟨y16, k17, H⟩ := H
    refine g_h 11 4095 rfl (by kernel_rfl) (y_ldS Try.isAgg76 Try.sizeOf76 rfl rfl) k17 rfl rfl ?_
    refine g_e 12 8191 [(11, fun h => Cells h a14 y16.cells), (7, fun h => cellH h (a10.add 0) = some y12.enc), (3, fun h => cellH h (a6.add 0) = some y8.enc)] (by kernel_rfl) rfl (by kernel_rfl) (f_alloc (cs := ((⟨0, 0, false⟩ : S_chain_version_int) : S_chain_version_int).cells.toArray) Try.zeroValue76 rfl H) rfl rfl ?_
    rintro _ h18 ⟨a19, rfl, H⟩
    obtain ⟨k20, k21, k22, H⟩ := H
    refine ⟨And.intro k20 (And.intro k21 (And.intro k22 trivial)), ?_⟩
    refine g_e 13 16383 [] (by kernel_rfl) rfl (by kernel_rfl) (f_store (vs := y16.cells) Try.sizeOf76 rfl rfl cellsOfStruct rfl (by intro v hv; exact ones_S_chain_version_int _ v hv) H) rfl rfl ?_
    rintro _ h23 ⟨rfl, H⟩
    refine ⟨trivial, ?_⟩
    refine g_d (by kernel_rfl) ?_
    refine tr_thenN ?_
    refine tr_seq ?_
    refine tr_draw mixed [0, 1, 0, 4, 0, 16, 48, 3, 143, 511] (by kernel_rfl) ?_
    refine g_p 0 1 rfl (by kernel_rfl) (y_fa (off := 1) Try.runUnderlying76 fo_76_1 rfl) rfl rfl ?_
    obtain ⟨y24, k25, H⟩ := H
    refine g_h 1 3 rfl (by kernel_rfl) (y_ld Try.isAgg3 rfl) k25 rfl rfl ?_
    refine g_p 2 7 rfl (by kernel_rfl) (y_fa (off := 0) Try.runUnderlying76 fo_76_0 rfl) rfl rfl ?_
    obtain ⟨y26, k27, H⟩ := H
    refine g_h 3 15 rfl (by kernel_rfl) (y_ld Try.isAgg3 rfl) k27 rfl rfl ?_
    refine g_p 4 31 rfl (by kernel_rfl) (y_fa (off := 2) Try.runUnderlying76 fo_76_2 rfl) rfl rfl ?_
    obtain ⟨y28, k29, H⟩ := H
    refine g_h 5 63 rfl (by kernel_rfl) (y_ld Try.isAgg4 rfl) k29 rfl rfl ?_
    refine g_p 6 127 rfl (by kernel_rfl) (y_not rfl) rfl rfl ?_
    refine g_p 7 255 rfl (by kernel_rfl) (y_assign rfl) rfl rfl ?_
    refine g_p 8 511 rfl (by kernel_rfl) (y_assign rfl) rfl rfl ?_
    refine g_p 9 1023 rfl (by kernel_rfl) (y_assign rfl) rfl rfl ?_
    refine g_d (by kernel_rfl) ?_
    refine tr_thenN ?_
    refine tr_ret ?_
    exact tr_ret3 rfl rfl rfl rfl ⟨_, _, _, rfl, H⟩

/-- (*spate/chain.Chain[int]).Kill -/
def F.chain_Chain_int_Kill (p0 : Option Addr) (p1 : Int) (h : H) (Q : Int → Int → H → Prop) : Prop :=
  F.chain_Chain_int_may p0 p1 h fun r2 h1 =>
  (((r2 != 0)) = true →
  Q 0 r2 h1) ∧
  (((r2 != 0)) = false →
  F.chain_Chain_int_Newest p0 h1 fun r5 r6 r7 h4 =>
  ((!r7) = true →
  Q 0 44 h4) ∧
  ((!r7) = false →
  F.chain_Chain_int_lay p0 (⟨p1, 0, true⟩ : S_chain_version_int) h4 fun r10 h9 =>
  Q r10 0 h9))
theorem F.chain_Chain_int_Kill_ok {p0 : Option Addr} {p1 : Int} {h : H} {Q : Int → Int → H → Prop} (H : F.chain_Chain_int_Kill p0 p1 h Q) : Fn PP 22 ([(.pointer p0), (.int .i64 p1)] : List Value).toArray h fun r h' => ∃ r0 r1, r = .tuple #[(.int .i64 r0), (.int .i64 r1)] ∧ Q r0 r1 h' := by
  unfold F.chain_Chain_int_Kill at H
  refine fn_of Try.func22 Try.ntmps22 rfl rfl fun w0 => ?_
  refine tr_sub [(0, (.pointer p0)), (1, (.int .i64 p1))] ⟨rfl, rfl, trivial⟩ ?_
  refine tr_seq ?_
  refine tr_region ?_
  refine tr_p (y_assign rfl) rfl rfl ?_
  refine tr_p (y_assign rfl) rfl rfl ?_
  refine tr_nil ?_
  refine tr_thenN ?_
  refine tr_seq ?_
  refine tr_seq ?_
  refine tr_region ?_
  refine tr_p (y_move rfl) rfl rfl ?_
  refine tr_p (y_move rfl) rfl rfl ?_
  refine tr_e (e_call Try.call40 rfl (F.chain_Chain_int_may_ok H)) rfl rfl ?_
  rintro _ h1 ⟨r2, rfl, H⟩
  refine tr_p (y_assign rfl) rfl rfl ?_
  refine tr_nil ?_
  refine tr_thenN ?_
  refine tr_seq ?_
  refine tr_region ?_
  refine tr_p (y_move rfl) rfl rfl ?_
  refine tr_p (y_neq rfl rfl) rfl rfl ?_
  refine tr_nil ?_
  refine tr_thenN ?_
  refine tr_cond rfl (fun g3 => ?_) (fun g3 => ?_)
  · replace H := H.1 g3
    refine tr_seq ?_
    refine tr_region ?_
    refine tr_p (y_move rfl) rfl rfl ?_
    refine tr_p (y_assign rfl) rfl rfl ?_
    refine tr_p (y_assign rfl) rfl rfl ?_
    refine tr_nil ?_
    refine tr_thenN ?_
    refine tr_ret ?_
    refine tr_thenR ?_
    exact tr_ret2 rfl rfl rfl ⟨_, _, rfl, H⟩
  · replace H := H.2 g3
    refine tr_skip ?_
    refine tr_thenN ?_
    refine tr_seq ?_
    refine tr_seq ?_
    refine tr_region ?_
    refine tr_p (y_move rfl) rfl rfl ?_
    refine tr_e (e_call Try.call14 rfl (F.chain_Chain_int_Newest_ok H)) rfl rfl ?_
    rintro _ h4 ⟨r5, r6, r7, rfl, H⟩
    refine tr_p (y_move rfl) rfl rfl ?_
    refine tr_p (y_ext rfl rfl) rfl rfl ?_
    refine tr_p (y_ext rfl rfl) rfl rfl ?_
    refine tr_p (y_ext rfl rfl) rfl rfl ?_
    refine tr_p (y_assign rfl) rfl rfl ?_
    refine tr_p (y_assign rfl) rfl rfl ?_
    refine tr_p (y_assign rfl) rfl rfl ?_
    refine tr_nil ?_
    refine tr_thenN ?_
    refine tr_seq ?_
    refine tr_region ?_
    refine tr_p (y_move rfl) rfl rfl ?_
    refine tr_p (y_not rfl) rfl rfl ?_
    refine tr_nil ?_
    refine tr_thenN ?_
    refine tr_cond rfl (fun g8 => ?_) (fun g8 => ?_)
    · replace H := H.1 g8
      refine tr_seq ?_
      refine tr_region ?_
      refine tr_p (y_assign rfl) rfl rfl ?_
      refine tr_p (y_assign rfl) rfl rfl ?_
      refine tr_nil ?_
      refine tr_thenN ?_
      refine tr_ret ?_
      refine tr_thenR ?_
      exact tr_ret2 rfl rfl rfl ⟨_, _, rfl, H⟩
    · replace H := H.2 g8
      refine tr_skip ?_
      refine tr_thenN ?_
      refine tr_seq ?_
      refine tr_region ?_
      refine tr_p (y_move rfl) rfl rfl ?_
      refine tr_p (y_move rfl) rfl rfl ?_
      refine tr_p (f_build rfl (bd_76_0_2 p1 true)) rfl rfl ?_
      refine tr_e (e_call Try.call41 rfl (F.chain_Chain_int_lay_ok H)) rfl rfl ?_
      rintro _ h9 ⟨r10, rfl, H⟩
      refine tr_p (y_assign rfl) rfl rfl ?_
      refine tr_p (y_assign rfl) rfl rfl ?_
      refine tr_nil ?_
      refine tr_thenN ?_
      refine tr_ret ?_
      exact tr_ret2 rfl rfl rfl ⟨_, _, rfl, H⟩

def F.spatelaw5_within.j1 (Q : Int → H → Prop) (x5 : Int) (h : H) : Prop :=
  Q x5 h
/-- spate/spatelaw5.within -/
def F.spatelaw5_within (p0 : Int) (p1 : Int) (h : H) (Q : Int → H → Prop) : Prop :=
  (p1 : Int) ≠ 0 ∧
  ((decide ((Int.tmod p0 p1) < 0)) = true →
  F.spatelaw5_within.j1 Q (IntKind.wrap .i64 ((Int.tmod p0 p1) + p1)) h) ∧
  ((decide ((Int.tmod p0 p1) < 0)) = false →
  F.spatelaw5_within.j1 Q (Int.tmod p0 p1) h)
theorem F.spatelaw5_within_ok {p0 : Int} {p1 : Int} {h : H} {Q : Int → H → Prop} (H : F.spatelaw5_within p0 p1 h Q) : Fn PP 21 ([(.int .i64 p0), (.int .i64 p1)] : List Value).toArray h fun r h' => ∃ r0, r = (.int .i64 r0) ∧ Q r0 h' := by
  unfold F.spatelaw5_within at H
  refine fn_of Try.func21 Try.ntmps21 rfl rfl fun w0 => ?_
  refine tr_sub [(0, (.int .i64 p0)), (1, (.int .i64 p1))] ⟨rfl, rfl, trivial⟩ ?_
  refine tr_seq ?_
  refine tr_region ?_
  refine tr_p (y_assign rfl) rfl rfl ?_
  refine tr_nil ?_
  refine tr_thenN ?_
  refine tr_seq ?_
  refine tr_region ?_
  refine tr_p (y_move rfl) rfl rfl ?_
  refine tr_p (y_move rfl) rfl rfl ?_
  obtain ⟨e1, H⟩ := H
  refine tr_p (y_rem rfl rfl e1) rfl rfl ?_
  refine tr_p (y_assign rfl) rfl rfl ?_
  refine tr_nil ?_
  refine tr_thenN ?_
  refine tr_seq_j (fun L' h => ∃ (x5 : Int), L' = [(5, (.int .i64 x5))] ∧ F.spatelaw5_within.j1 Q x5 h) ?_ ?_
  · rintro L' h ⟨x5, rfl, H⟩
    unfold F.spatelaw5_within.j1 at H
    refine tr_seq ?_
    refine tr_region ?_
    refine tr_p (y_move rfl) rfl rfl ?_
    refine tr_p (y_assign rfl) rfl rfl ?_
    refine tr_nil ?_
    refine tr_thenN ?_
    refine tr_ret ?_
    exact tr_ret1 rfl rfl ⟨_, rfl, H⟩
  · refine tr_seq ?_
    refine tr_region ?_
    refine tr_p (y_move rfl) rfl rfl ?_
    refine tr_p (y_lss rfl rfl) rfl rfl ?_
    refine tr_nil ?_
    refine tr_thenN ?_
    refine tr_cond rfl (fun g2 => ?_) (fun g2 => ?_)
    · replace H := H.1 g2
      refine tr_region ?_
      refine tr_p (y_move rfl) rfl rfl ?_
      refine tr_p (y_move rfl) rfl rfl ?_
      refine tr_p (y_add rfl rfl) rfl rfl ?_
      refine tr_p (y_assign rfl) rfl rfl ?_
      refine tr_nil ?_
      refine tr_thenN ?_
      exact tr_join [(5, (.int .i64 (IntKind.wrap .i64 ((Int.tmod p0 p1) + p1))))] ⟨rfl, trivial⟩ ⟨_, rfl, H⟩
    · replace H := H.2 g2
      refine tr_skip ?_
      refine tr_thenN ?_
      exact tr_join [(5, (.int .i64 (Int.tmod p0 p1)))] ⟨rfl, trivial⟩ ⟨_, rfl, H⟩

/-- spate/spatelaw5.held -/
def F.spatelaw5_held (p0 : Sl) (h : H) (Q : Sl → H → Prop) : Prop :=
  ((decide ((p0.len : Int) > 200)) = true →
  cutL p0 0 200 1 fun s3 =>
  Q s3 h) ∧
  ((decide ((p0.len : Int) > 200)) = false →
  Q p0 h)
theorem F.spatelaw5_held_ok {p0 : Sl} {h : H} {Q : Sl → H → Prop} (H : F.spatelaw5_held p0 h Q) : Fn PP 13 ([p0.enc] : List Value).toArray h fun r h' => ∃ r0, r = r0.enc ∧ Q r0 h' := by
  unfold F.spatelaw5_held at H
  refine fn_of Try.func13 Try.ntmps13 rfl rfl fun w0 => ?_
  refine tr_sub [(0, p0.enc)] ⟨rfl, trivial⟩ ?_
  refine tr_seq ?_
  refine tr_region ?_
  refine tr_p (y_assign rfl) rfl rfl ?_
  refine tr_nil ?_
  refine tr_thenN ?_
  refine tr_seq ?_
  refine tr_seq ?_
  refine tr_region ?_
  refine tr_p (y_move rfl) rfl rfl ?_
  refine tr_p (y_len (ts := #[]) Try.runUnderlying24 (o := p0.ptr) (n := p0.len) (cap := p0.cap) rfl) rfl rfl ?_
  refine tr_p (y_gtr rfl rfl) rfl rfl ?_
  refine tr_nil ?_
  refine tr_thenN ?_
  refine tr_cond rfl (fun g1 => ?_) (fun g1 => ?_)
  · replace H := H.1 g1
    refine tr_seq ?_
    refine tr_region ?_
    refine tr_p (y_move rfl) rfl rfl ?_
    obtain ⟨s3, e2, H⟩ := H
    refine tr_p (f_cutL (s := p0) none (some (.i64, 200)) Try.runUnderlying24 Try.sizeOf3 rfl rfl rfl e2) rfl rfl ?_
    refine tr_p (y_assign rfl) rfl rfl ?_
    refine tr_nil ?_
    refine tr_thenN ?_
    refine tr_ret ?_
    refine tr_thenR ?_
    exact tr_ret1 rfl rfl ⟨_, rfl, H⟩
  · replace H := H.2 g1
    refine tr_skip ?_
    refine tr_thenN ?_
    refine tr_seq ?_
    refine tr_region ?_
    refine tr_p (y_move rfl) rfl rfl ?_
    refine tr_p (y_assign rfl) rfl rfl ?_
    refine tr_nil ?_
    refine tr_thenN ?_
    refine tr_ret ?_
    exact tr_ret1 rfl rfl ⟨_, rfl, H⟩

def F.chain_Chain_int_Prune.j3 (Q : Int → H → Prop) (x0 : Option Addr) (x5 : Int) (x10 : Sl) (h : H) : Prop :=
  nn x0 fun a45 =>
  stH h (a45.add 0) [x10.enc] fun h47 =>
  Q (IntKind.wrap .i64 (x5 - (x10.len : Int))) h47
def F.chain_Chain_int_Prune.j4 (Q : Int → H → Prop) (x0 : Option Addr) (x5 : Int) (x10 : Sl) (x68 : Bool) (h : H) : Prop :=
  (x68 = true →
  F.chain_Chain_int_Prune.j3 Q x0 x5 (⟨none, 0, 0⟩ : Sl) h) ∧
  (x68 = false →
  F.chain_Chain_int_Prune.j3 Q x0 x5 x10 h)
def F.chain_Chain_int_Prune.l2 (Q : Int → H → Prop) : Nat → (Option Addr) → Int → Sl → Sl → Sl → Int → Int → H → Prop
  | 0, _, _, _, _, _, _, _, _ => False
  | q2 + 1, x0, x5, x6, x10, x44, x45, x46, h =>
    ((decide (x46 < x45)) = true →
    idxA x44 x46 3 fun a27 =>
    ld_S_chain_version_int h a27 fun y29 =>
    new h (((⟨0, 0, false⟩ : S_chain_version_int) : S_chain_version_int).cells.toArray) ty_76 fun a32 h31 =>
    stH h31 a32 y29.cells fun h33 =>
    idxA x6 x46 1 fun a34 =>
    ldB h33 a34 fun y36 =>
    (y36 = true →
    ld_S_chain_version_int h33 a32 fun y39 =>
    newL h33 ((y39.cells).toArray) ty_76 1 fun s42 h41 =>
    runL PP (Builtin.append_ #[72, 72] 72 #[x10.enc, s42.enc]) h41 fun s44 h43 =>
    (F.chain_Chain_int_Prune.l2 Q q2) x0 x5 x6 s44 x44 x45 (IntKind.wrap .i64 (x46 + 1)) h43) ∧
    (y36 = false →
    (F.chain_Chain_int_Prune.l2 Q q2) x0 x5 x6 x10 x44 x45 (IntKind.wrap .i64 (x46 + 1)) h33)) ∧
    ((decide (x46 < x45)) = false →
    ((((x10.len : Int) == 1)) = true →
    idxA x10 0 3 fun a50 =>
    ldB h (a50.add 2) fun y52 =>
    F.chain_Chain_int_Prune.j4 Q x0 x5 x10 y52 h) ∧
    ((((x10.len : Int) == 1)) = false →
    F.chain_Chain_int_Prune.j4 Q x0 x5 x10 false h))
def F.chain_Chain_int_Prune.l1 (Q : Int → H → Prop) : Nat → (Option Addr) → Int → Sl → Sl → Int → Int → H → Prop
  | 0, _, _, _, _, _, _, _ => False
  | q1 + 1, x0, x5, x6, x26, x27, x28, h =>
    ((decide (x28 < x27)) = true →
    idxA x26 x28 1 fun a12 =>
    ldI .i64 h a12 fun y14 =>
    F.chain_Chain_int_place x0 y14 h fun r17 h16 =>
    ((decide (r17 ≥ 0)) = true →
    idxA x6 r17 1 fun a19 =>
    stH h16 a19 [(.bool true)] fun h21 =>
    (F.chain_Chain_int_Prune.l1 Q q1) x0 x5 x6 x26 x27 (IntKind.wrap .i64 (x28 + 1)) h21) ∧
    ((decide (r17 ≥ 0)) = false →
    (F.chain_Chain_int_Prune.l1 Q q1) x0 x5 x6 x26 x27 (IntKind.wrap .i64 (x28 + 1)) h16)) ∧
    ((decide (x28 < x27)) = false →
    nn x0 fun a22 =>
    ldL h (a22.add 0) fun y24 =>
    ∃ m, F.chain_Chain_int_Prune.l2 Q m x0 x5 x6 (⟨none, 0, 0⟩ : Sl) y24 (y24.len : Int) 0 h)
/-- (*spate/chain.Chain[int]).Prune -/
def F.chain_Chain_int_Prune (p0 : Option Addr) (p1 : Sl) (h : H) (Q : Int → H → Prop) : Prop :=
  nn p0 fun a1 =>
  ldL h (a1.add 0) fun y3 =>
  ((((y3.len : Int) == 0)) = true →
  Q 0 h) ∧
  ((((y3.len : Int) == 0)) = false →
  runL PP (Instr.makeSlice 77 (.int .i64 (y3.len : Int)) (.int .i64 (y3.len : Int))) h fun s7 h6 =>
  idxA s7 (IntKind.wrap .i64 ((y3.len : Int) - 1)) 1 fun a8 =>
  stH h6 a8 [(.bool true)] fun h10 =>
  ∃ m, F.chain_Chain_int_Prune.l1 Q m p0 (y3.len : Int) s7 p1 (p1.len : Int) 0 h10)
theorem F.chain_Chain_int_Prune_ok {p0 : Option Addr} {p1 : Sl} {h : H} {Q : Int → H → Prop} (H : F.chain_Chain_int_Prune p0 p1 h Q) : Fn PP 17 ([(.pointer p0), p1.enc] : List Value).toArray h fun r h' => ∃ r0, r = (.int .i64 r0) ∧ Q r0 h' := by
  unfold F.chain_Chain_int_Prune at H
  refine fn_of Try.func17 Try.ntmps17 rfl rfl fun w0 => ?_
  refine tr_sub [(0, (.pointer p0)), (1, p1.enc)] ⟨rfl, rfl, trivial⟩ ?_
  refine tr_seq ?_
  refine tr_region ?_
  refine tr_p (y_assign rfl) rfl rfl ?_
  refine tr_nil ?_
  refine tr_thenN ?_
  refine tr_seq ?_
  refine tr_region ?_
  refine tr_p (y_move rfl) rfl rfl ?_
  obtain ⟨a1, e2, H⟩ := H
  refine tr_p (f_nn rfl e2) rfl rfl ?_
  refine tr_p (y_fa (off := 0) Try.runUnderlying74 fo_74_0 rfl) rfl rfl ?_
  obtain ⟨y3, k4, H⟩ := H
  refine tr_h (y_ld Try.isAgg72 rfl) k4 rfl rfl ?_
  refine tr_p (y_len (ts := #[]) Try.runUnderlying72 (o := y3.ptr) (n := y3.len) (cap := y3.cap) rfl) rfl rfl ?_
  refine tr_p (y_assign rfl) rfl rfl ?_
  refine tr_nil ?_
  refine tr_thenN ?_
  refine tr_seq ?_
  refine tr_seq ?_
  refine tr_region ?_
  refine tr_p (y_move rfl) rfl rfl ?_
  refine tr_p (y_eql rfl rfl) rfl rfl ?_
  refine tr_nil ?_
  refine tr_thenN ?_
  refine tr_cond rfl (fun g5 => ?_) (fun g5 => ?_)
  · replace H := H.1 g5
    refine tr_seq ?_
    refine tr_region ?_
    refine tr_p (y_assign rfl) rfl rfl ?_
    refine tr_nil ?_
    refine tr_thenN ?_
    refine tr_ret ?_
    refine tr_thenR ?_
    exact tr_ret1 rfl rfl ⟨_, rfl, H⟩
  · replace H := H.2 g5
    refine tr_skip ?_
    refine tr_thenN ?_
    refine tr_seq ?_
    refine tr_region ?_
    refine tr_p (y_move rfl) rfl rfl ?_
    refine tr_e (f_make rfl rfl H) rfl rfl ?_
    rintro _ h6 ⟨s7, rfl, H⟩
    refine tr_p (y_assign rfl) rfl rfl ?_
    refine tr_nil ?_
    refine tr_thenN ?_
    refine tr_seq ?_
    refine tr_region ?_
    refine tr_p (y_move rfl) rfl rfl ?_
    refine tr_p (y_move rfl) rfl rfl ?_
    refine tr_p (y_sub rfl rfl) rfl rfl ?_
    obtain ⟨a8, e9, H⟩ := H
    refine tr_p (f_idx (s := s7) Try.runUnderlying77 Try.sizeOf4 rfl rfl e9) rfl rfl ?_
    refine tr_e (f_store (vs := [(.bool true)]) Try.sizeOf4 rfl rfl rfl rfl (one1 rfl) H) rfl rfl ?_
    rintro _ h10 ⟨rfl, H⟩
    refine tr_nil ?_
    refine tr_thenN ?_
    refine tr_seq ?_
    refine tr_seq ?_
    refine tr_region ?_
    refine tr_p (y_move rfl) rfl rfl ?_
    refine tr_p (y_len (ts := #[]) Try.runUnderlying24 (o := p1.ptr) (n := p1.len) (cap := p1.cap) rfl) rfl rfl ?_
    refine tr_p (y_move rfl) rfl rfl ?_
    refine tr_nil ?_
    refine tr_thenN ?_
    refine tr_block ?_
    obtain ⟨m55, H⟩ := H
    refine tr_sub [(0, (.pointer p0)), (5, (.int .i64 (y3.len : Int))), (6, s7.enc), (26, p1.enc), (27, (.int .i64 (p1.len : Int))), (28, (.int .i64 0))] ⟨rfl, rfl, rfl, rfl, rfl, rfl, trivial⟩ ?_
    refine tr_loop_j (fun m L' h => ∃ (x0 : Option Addr) (x5 : Int) (x6 : Sl) (x26 : Sl) (x27 : Int) (x28 : Int), L' = [(0, (.pointer x0)), (5, (.int .i64 x5)), (6, x6.enc), (26, x26.enc), (27, (.int .i64 x27)), (28, (.int .i64 x28))] ∧ F.chain_Chain_int_Prune.l1 Q m x0 x5 x6 x26 x27 x28 h) ?_ ?_ m55 ⟨_, _, _, _, _, _, rfl, H⟩
    · rintro L' h ⟨_, _, _, _, _, _, _, H⟩; exact H
    · rintro q1 L' h ⟨x0, x5, x6, x26, x27, x28, rfl, H⟩
      unfold F.chain_Chain_int_Prune.l1 at H
      refine tr_seq ?_
      refine tr_region ?_
      refine tr_p (y_lss rfl rfl) rfl rfl ?_
      refine tr_nil ?_
      refine tr_thenN ?_
      refine tr_seq ?_
      refine tr_cond rfl (fun g11 => ?_) (fun g11 => ?_)
      · replace H := H.1 g11
        refine tr_skip ?_
        refine tr_thenN ?_
        refine tr_seq ?_
        refine tr_block ?_
        refine tr_seq ?_
        refine tr_region ?_
        obtain ⟨a12, e13, H⟩ := H
        refine tr_p (f_idx (s := x26) Try.runUnderlying24 Try.sizeOf3 rfl rfl e13) rfl rfl ?_
        obtain ⟨y14, k15, H⟩ := H
        refine tr_h (y_ld Try.isAgg3 rfl) k15 rfl rfl ?_
        refine tr_p (y_assign rfl) rfl rfl ?_
        refine tr_nil ?_
        refine tr_thenN ?_
        refine tr_seq ?_
        refine tr_region ?_
        refine tr_p (y_move rfl) rfl rfl ?_
        refine tr_p (y_move rfl) rfl rfl ?_
        refine tr_e (e_call Try.call38 rfl (F.chain_Chain_int_place_ok H)) rfl rfl ?_
        rintro _ h16 ⟨r17, rfl, H⟩
        refine tr_p (y_assign rfl) rfl rfl ?_
        refine tr_nil ?_
        refine tr_thenN ?_
        refine tr_seq ?_
        refine tr_region ?_
        refine tr_p (y_move rfl) rfl rfl ?_
        refine tr_p (y_geq rfl rfl) rfl rfl ?_
        refine tr_nil ?_
        refine tr_thenN ?_
        refine tr_cond rfl (fun g18 => ?_) (fun g18 => ?_)
        · replace H := H.1 g18
          refine tr_region ?_
          refine tr_p (y_move rfl) rfl rfl ?_
          refine tr_p (y_move rfl) rfl rfl ?_
          obtain ⟨a19, e20, H⟩ := H
          refine tr_p (f_idx (s := x6) Try.runUnderlying77 Try.sizeOf4 rfl rfl e20) rfl rfl ?_
          refine tr_e (f_store (vs := [(.bool true)]) Try.sizeOf4 rfl rfl rfl rfl (one1 rfl) H) rfl rfl ?_
          rintro _ h21 ⟨rfl, H⟩
          refine tr_nil ?_
          refine tr_blockN ?_
          refine tr_thenN ?_
          refine tr_region ?_
          refine tr_p (y_add rfl rfl) rfl rfl ?_
          refine tr_p (y_move rfl) rfl rfl ?_
          refine tr_nil ?_
          refine tr_thenN ?_
          exact tr_join [(0, (.pointer x0)), (5, (.int .i64 x5)), (6, x6.enc), (26, x26.enc), (27, (.int .i64 x27)), (28, (.int .i64 (IntKind.wrap .i64 (x28 + 1))))] ⟨rfl, rfl, rfl, rfl, rfl, rfl, trivial⟩ ⟨_, _, _, _, _, _, rfl, H⟩
        · replace H := H.2 g18
          refine tr_skip ?_
          refine tr_blockN ?_
          refine tr_thenN ?_
          refine tr_region ?_
          refine tr_p (y_add rfl rfl) rfl rfl ?_
          refine tr_p (y_move rfl) rfl rfl ?_
          refine tr_nil ?_
          refine tr_thenN ?_
          exact tr_join [(0, (.pointer x0)), (5, (.int .i64 x5)), (6, x6.enc), (26, x26.enc), (27, (.int .i64 x27)), (28, (.int .i64 (IntKind.wrap .i64 (x28 + 1))))] ⟨rfl, rfl, rfl, rfl, rfl, rfl, trivial⟩ ⟨_, _, _, _, _, _, rfl, H⟩
      · replace H := H.2 g11
        refine tr_exit ?_
        refine tr_thenE ?_
        refine tr_thenE ?_
        refine tr_hit ?_
        refine tr_thenN ?_
        refine tr_seq ?_
        refine tr_region ?_
        refine tr_p (y_assign rfl) rfl rfl ?_
        refine tr_nil ?_
        refine tr_thenN ?_
        refine tr_seq ?_
        refine tr_seq ?_
        refine tr_region ?_
        refine tr_p (y_move rfl) rfl rfl ?_
        obtain ⟨a22, e23, H⟩ := H
        refine tr_p (f_nn rfl e23) rfl rfl ?_
        refine tr_p (y_fa (off := 0) Try.runUnderlying74 fo_74_0 rfl) rfl rfl ?_
        obtain ⟨y24, k25, H⟩ := H
        refine tr_h (y_ld Try.isAgg72 rfl) k25 rfl rfl ?_
        refine tr_p (y_len (ts := #[]) Try.runUnderlying72 (o := y24.ptr) (n := y24.len) (cap := y24.cap) rfl) rfl rfl ?_
        refine tr_p (y_move rfl) rfl rfl ?_
        refine tr_nil ?_
        refine tr_thenN ?_
        refine tr_block ?_
        obtain ⟨m54, H⟩ := H
        refine tr_sub [(0, (.pointer x0)), (5, (.int .i64 x5)), (6, x6.enc), (10, (⟨none, 0, 0⟩ : Sl).enc), (44, y24.enc), (45, (.int .i64 (y24.len : Int))), (46, (.int .i64 0))] ⟨rfl, rfl, rfl, rfl, rfl, rfl, rfl, trivial⟩ ?_
        refine tr_loop_j (fun m L' h => ∃ (x0 : Option Addr) (x5 : Int) (x6 : Sl) (x10 : Sl) (x44 : Sl) (x45 : Int) (x46 : Int), L' = [(0, (.pointer x0)), (5, (.int .i64 x5)), (6, x6.enc), (10, x10.enc), (44, x44.enc), (45, (.int .i64 x45)), (46, (.int .i64 x46))] ∧ F.chain_Chain_int_Prune.l2 Q m x0 x5 x6 x10 x44 x45 x46 h) ?_ ?_ m54 ⟨_, _, _, _, _, _, _, rfl, H⟩
        · rintro L' h ⟨_, _, _, _, _, _, _, _, H⟩; exact H
        · rintro q2 L' h ⟨x0, x5, x6, x10, x44, x45, x46, rfl, H⟩
          unfold F.chain_Chain_int_Prune.l2 at H
          refine tr_seq ?_
          refine tr_region ?_
          refine tr_p (y_lss rfl rfl) rfl rfl ?_
          refine tr_nil ?_
          refine tr_thenN ?_
          refine tr_seq ?_
          refine tr_cond rfl (fun g26 => ?_) (fun g26 => ?_)
          · replace H := H.1 g26
            refine tr_skip ?_
            refine tr_thenN ?_
            refine tr_seq ?_
            refine tr_block ?_
            refine tr_seq ?_
            refine tr_region ?_
            refine tr_p (y_move rfl) rfl rfl ?_
            obtain ⟨a27, e28, H⟩ := H
            refine tr_p (f_idx (s := x44) Try.runUnderlying72 Try.sizeOf76 rfl rfl e28) rfl rfl ?_
            obtain ⟨y29, k30, H⟩ := H
            refine tr_h (y_ldS Try.isAgg76 Try.sizeOf76 rfl rfl) k30 rfl rfl ?_
            refine tr_e (f_alloc (cs := ((⟨0, 0, false⟩ : S_chain_version_int) : S_chain_version_int).cells.toArray) Try.zeroValue76 rfl H) rfl rfl ?_
            rintro _ h31 ⟨a32, rfl, H⟩
            refine tr_p (y_assign rfl) rfl rfl ?_
            refine tr_e (f_store (vs := y29.cells) Try.sizeOf76 rfl rfl cellsOfStruct rfl (by intro v hv; exact ones_S_chain_version_int _ v hv) H) rfl rfl ?_
            rintro _ h33 ⟨rfl, H⟩
            refine tr_nil ?_
            refine tr_thenN ?_
            refine tr_seq ?_
            refine tr_region ?_
            refine tr_p (y_move rfl) rfl rfl ?_
            refine tr_p (y_move rfl) rfl rfl ?_
            obtain ⟨a34, e35, H⟩ := H
            refine tr_p (f_idx (s := x6) Try.runUnderlying77 Try.sizeOf4 rfl rfl e35) rfl rfl ?_
            obtain ⟨y36, k37, H⟩ := H
            refine tr_h (y_ld Try.isAgg4 rfl) k37 rfl rfl ?_
            refine tr_nil ?_
            refine tr_thenN ?_
            refine tr_cond rfl (fun g38 => ?_) (fun g38 => ?_)
            · replace H := H.1 g38
              refine tr_region ?_
              refine tr_p (y_move rfl) rfl rfl ?_
              obtain ⟨y39, k40, H⟩ := H
              refine tr_h (y_ldS Try.isAgg76 Try.sizeOf76 rfl rfl) k40 rfl rfl ?_
              refine tr_e (f_buildL (cs := (y39.cells).toArray) rfl rfl (bl_72_1_0 y39) H) rfl rfl ?_
              rintro _ h41 ⟨s42, rfl, H⟩
              refine tr_e (f_app rfl H) rfl rfl ?_
              rintro _ h43 ⟨s44, rfl, H⟩
              refine tr_p (y_assign rfl) rfl rfl ?_
              refine tr_nil ?_
              refine tr_blockN ?_
              refine tr_thenN ?_
              refine tr_region ?_
              refine tr_p (y_add rfl rfl) rfl rfl ?_
              refine tr_p (y_move rfl) rfl rfl ?_
              refine tr_nil ?_
              refine tr_thenN ?_
              exact tr_join [(0, (.pointer x0)), (5, (.int .i64 x5)), (6, x6.enc), (10, s44.enc), (44, x44.enc), (45, (.int .i64 x45)), (46, (.int .i64 (IntKind.wrap .i64 (x46 + 1))))] ⟨rfl, rfl, rfl, rfl, rfl, rfl, rfl, trivial⟩ ⟨_, _, _, _, _, _, _, rfl, H⟩
            · replace H := H.2 g38
              refine tr_skip ?_
              refine tr_blockN ?_
              refine tr_thenN ?_
              refine tr_region ?_
              refine tr_p (y_add rfl rfl) rfl rfl ?_
              refine tr_p (y_move rfl) rfl rfl ?_
              refine tr_nil ?_
              refine tr_thenN ?_
              exact tr_join [(0, (.pointer x0)), (5, (.int .i64 x5)), (6, x6.enc), (10, x10.enc), (44, x44.enc), (45, (.int .i64 x45)), (46, (.int .i64 (IntKind.wrap .i64 (x46 + 1))))] ⟨rfl, rfl, rfl, rfl, rfl, rfl, rfl, trivial⟩ ⟨_, _, _, _, _, _, _, rfl, H⟩
          · replace H := H.2 g26
            refine tr_exit ?_
            refine tr_thenE ?_
            refine tr_thenE ?_
            refine tr_hit ?_
            refine tr_thenN ?_
            refine tr_seq_j (fun L' h => ∃ (x0 : Option Addr) (x5 : Int) (x10 : Sl), L' = [(0, (.pointer x0)), (5, (.int .i64 x5)), (10, x10.enc)] ∧ F.chain_Chain_int_Prune.j3 Q x0 x5 x10 h) ?_ ?_
            · rintro L' h ⟨x0, x5, x10, rfl, H⟩
              unfold F.chain_Chain_int_Prune.j3 at H
              refine tr_seq ?_
              refine tr_region ?_
              refine tr_p (y_move rfl) rfl rfl ?_
              refine tr_p (y_move rfl) rfl rfl ?_
              obtain ⟨a45, e46, H⟩ := H
              refine tr_p (f_nn rfl e46) rfl rfl ?_
              refine tr_p (y_fa (off := 0) Try.runUnderlying74 fo_74_0 rfl) rfl rfl ?_
              refine tr_e (f_store (vs := [x10.enc]) Try.sizeOf72 rfl rfl rfl rfl (one1 rfl) H) rfl rfl ?_
              rintro _ h47 ⟨rfl, H⟩
              refine tr_nil ?_
              refine tr_thenN ?_
              refine tr_seq ?_
              refine tr_region ?_
              refine tr_p (y_move rfl) rfl rfl ?_
              refine tr_p (y_move rfl) rfl rfl ?_
              refine tr_p (y_len (ts := #[]) Try.runUnderlying72 (o := x10.ptr) (n := x10.len) (cap := x10.cap) rfl) rfl rfl ?_
              refine tr_p (y_sub rfl rfl) rfl rfl ?_
              refine tr_p (y_assign rfl) rfl rfl ?_
              refine tr_nil ?_
              refine tr_thenN ?_
              refine tr_ret ?_
              exact tr_ret1 rfl rfl ⟨_, rfl, H⟩
            · refine tr_seq_j (fun L' h => ∃ (x0 : Option Addr) (x5 : Int) (x10 : Sl) (x68 : Bool), L' = [(0, (.pointer x0)), (5, (.int .i64 x5)), (10, x10.enc), (68, (.bool x68))] ∧ F.chain_Chain_int_Prune.j4 Q x0 x5 x10 x68 h) ?_ ?_
              · rintro L' h ⟨x0, x5, x10, x68, rfl, H⟩
                unfold F.chain_Chain_int_Prune.j4 at H
                refine tr_cond rfl (fun g48 => ?_) (fun g48 => ?_)
                · replace H := H.1 g48
                  refine tr_region ?_
                  refine tr_p (y_assign rfl) rfl rfl ?_
                  refine tr_nil ?_
                  refine tr_thenN ?_
                  exact tr_join [(0, (.pointer x0)), (5, (.int .i64 x5)), (10, (⟨none, 0, 0⟩ : Sl).enc)] ⟨rfl, rfl, rfl, trivial⟩ ⟨_, _, _, rfl, H⟩
                · replace H := H.2 g48
                  refine tr_skip ?_
                  refine tr_thenN ?_
                  exact tr_join [(0, (.pointer x0)), (5, (.int .i64 x5)), (10, x10.enc)] ⟨rfl, rfl, rfl, trivial⟩ ⟨_, _, _, rfl, H⟩
              · refine tr_region ?_
                refine tr_p (y_move rfl) rfl rfl ?_
                refine tr_p (y_len (ts := #[]) Try.runUnderlying72 (o := x10.ptr) (n := x10.len) (cap := x10.cap) rfl) rfl rfl ?_
                refine tr_p (y_eql rfl rfl) rfl rfl ?_
                refine tr_p (y_move rfl) rfl rfl ?_
                refine tr_split (t := 63) rfl (fun g49 => ?_) (fun g49 => ?_)
                · replace H := H.1 g49
                  refine tr_p (y_move rfl) rfl rfl ?_
                  obtain ⟨a50, e51, H⟩ := H
                  refine tr_p (f_idx (s := x10) Try.runUnderlying72 Try.sizeOf76 rfl rfl e51) rfl rfl ?_
                  refine tr_p (y_fa (off := 2) Try.runUnderlying76 fo_76_2 rfl) rfl rfl ?_
                  obtain ⟨y52, k53, H⟩ := H
                  refine tr_h (y_ld Try.isAgg4 rfl) k53 rfl rfl ?_
                  refine tr_p (y_pick_t rfl rfl) rfl rfl ?_
                  refine tr_nil ?_
                  refine tr_thenN ?_
                  exact tr_join [(0, (.pointer x0)), (5, (.int .i64 x5)), (10, x10.enc), (68, (.bool y52))] ⟨rfl, rfl, rfl, rfl, trivial⟩ ⟨_, _, _, _, rfl, H⟩
                · replace H := H.2 g49
                  refine tr_s rfl rfl ?_
                  refine tr_s rfl rfl ?_
                  refine tr_s rfl rfl ?_
                  refine tr_s rfl rfl ?_
                  refine tr_p (y_pick_f rfl rfl) rfl rfl ?_
                  refine tr_nil ?_
                  refine tr_thenN ?_
                  exact tr_join [(0, (.pointer x0)), (5, (.int .i64 x5)), (10, x10.enc), (68, (.bool false))] ⟨rfl, rfl, rfl, rfl, trivial⟩ ⟨_, _, _, _, rfl, H⟩

/-- spate/spatelaw5.do -/
def F.spatelaw5_do (p0 : Option Addr) (p1 : S_spatelaw5_Step) (h : H) (Q : H → Prop) : Prop :=
  new h p1.cells.toArray ty_50 fun a2 h1 =>
  F.chain_Chain_int_Newest p0 h1 fun r4 r5 r6 h3 =>
  ldI .i64 h3 (a2.add 0) fun y7 =>
  (((y7 == 1)) = true →
  ldI .i64 h3 (a2.add 1) fun y10 =>
  ldI .i64 h3 (a2.add 2) fun y12 =>
  F.chain_Chain_int_Put p0 y10 y12 h3 fun r15 r16 h14 =>
  Q h14) ∧
  (((y7 == 1)) = false →
  (((y7 == 2)) = true →
  ldI .i64 h3 (a2.add 1) fun y18 =>
  F.chain_Chain_int_Kill p0 y18 h3 fun r21 r22 h20 =>
  Q h20) ∧
  (((y7 == 2)) = false →
  (((y7 == 7)) = true →
  ldI .i64 h3 (a2.add 1) fun y24 =>
  ldI .i64 h3 (a2.add 2) fun y26 =>
  F.spatelaw5_within y24 9 h3 fun r29 h28 =>
  cellH h28 (a2.add 2) = some (.int .i64 y26) ∧
  F.chain_Chain_int_Put p0 (IntKind.wrap .i64 ((IntKind.wrap .i64 (r5 + r29)) - 1)) y26 h28 fun r32 r33 h31 =>
  Q h31) ∧
  (((y7 == 7)) = false →
  (((y7 == 8)) = true →
  ldI .i64 h3 (a2.add 1) fun y35 =>
  F.spatelaw5_within y35 9 h3 fun r38 h37 =>
  F.chain_Chain_int_Kill p0 (IntKind.wrap .i64 ((IntKind.wrap .i64 (r5 + r38)) - 1)) h37 fun r40 r41 h39 =>
  Q h39) ∧
  (((y7 == 8)) = false →
  (((y7 == 4)) = true →
  ldL h3 (a2.add 3) fun y43 =>
  F.spatelaw5_held y43 h3 fun r46 h45 =>
  F.chain_Chain_int_Prune p0 r46 h45 fun r48 h47 =>
  Q h47) ∧
  (((y7 == 4)) = false →
  Q h3)))))
theorem F.spatelaw5_do_ok {p0 : Option Addr} {p1 : S_spatelaw5_Step} {h : H} {Q : H → Prop} (H : F.spatelaw5_do p0 p1 h Q) : Fn PP 28 ([(.pointer p0), (.agg p1.cells.toArray)] : List Value).toArray h fun r h' => r = .tuple #[] ∧ Q  h' := by
  unfold F.spatelaw5_do at H
  refine fn_of Try.func28 Try.ntmps28 rfl rfl fun w0 => ?_
  refine tr_sub [(0, (.pointer p0)), (1, (.agg p1.cells.toArray))] ⟨rfl, rfl, trivial⟩ ?_
  refine tr_seq ?_
  refine tr_region ?_
  refine tr_e (f_box (cs := p1.cells.toArray) rfl rfl H) rfl rfl ?_
  rintro _ h1 ⟨a2, rfl, H⟩
  refine tr_nil ?_
  refine tr_thenN ?_
  refine tr_seq ?_
  refine tr_region ?_
  refine tr_p (y_move rfl) rfl rfl ?_
  refine tr_e (e_call Try.call14 rfl (F.chain_Chain_int_Newest_ok H)) rfl rfl ?_
  rintro _ h3 ⟨r4, r5, r6, rfl, H⟩
  refine tr_p (y_move rfl) rfl rfl ?_
  refine tr_p (y_ext rfl rfl) rfl rfl ?_
  refine tr_p (y_ext rfl rfl) rfl rfl ?_
  refine tr_p (y_ext rfl rfl) rfl rfl ?_
  refine tr_p (y_assign rfl) rfl rfl ?_
  refine tr_p (y_assign rfl) rfl rfl ?_
  refine tr_p (y_assign rfl) rfl rfl ?_
  refine tr_nil ?_
  refine tr_thenN ?_
  refine tr_seq ?_
  refine tr_region ?_
  refine tr_p (y_fa (off := 0) Try.runUnderlying50 fo_50_0 rfl) rfl rfl ?_
  obtain ⟨y7, k8, H⟩ := H
  refine tr_h (y_ld Try.isAgg3 rfl) k8 rfl rfl ?_
  refine tr_nil ?_
  refine tr_thenN ?_
  refine tr_block ?_
  refine tr_seq ?_
  refine tr_region ?_
  refine tr_p (y_eql rfl rfl) rfl rfl ?_
  refine tr_p (y_assign rfl) rfl rfl ?_
  refine tr_nil ?_
  refine tr_thenN ?_
  refine tr_cond rfl (fun g9 => ?_) (fun g9 => ?_)
  · replace H := H.1 g9
    refine tr_region ?_
    refine tr_p (y_move rfl) rfl rfl ?_
    refine tr_p (y_fa (off := 1) Try.runUnderlying50 fo_50_1 rfl) rfl rfl ?_
    obtain ⟨y10, k11, H⟩ := H
    refine tr_h (y_ld Try.isAgg3 rfl) k11 rfl rfl ?_
    refine tr_p (y_fa (off := 2) Try.runUnderlying50 fo_50_2 rfl) rfl rfl ?_
    obtain ⟨y12, k13, H⟩ := H
    refine tr_h (y_ld Try.isAgg3 rfl) k13 rfl rfl ?_
    refine tr_e (e_call Try.call23 rfl (F.chain_Chain_int_Put_ok H)) rfl rfl ?_
    rintro _ h14 ⟨r15, r16, rfl, H⟩
    refine tr_nil ?_
    refine tr_blockN ?_
    exact tr_end0 rfl ⟨rfl, H⟩
  · replace H := H.2 g9
    refine tr_seq ?_
    refine tr_region ?_
    refine tr_p (y_eql rfl rfl) rfl rfl ?_
    refine tr_p (y_assign rfl) rfl rfl ?_
    refine tr_nil ?_
    refine tr_thenN ?_
    refine tr_cond rfl (fun g17 => ?_) (fun g17 => ?_)
    · replace H := H.1 g17
      refine tr_region ?_
      refine tr_p (y_move rfl) rfl rfl ?_
      refine tr_p (y_fa (off := 1) Try.runUnderlying50 fo_50_1 rfl) rfl rfl ?_
      obtain ⟨y18, k19, H⟩ := H
      refine tr_h (y_ld Try.isAgg3 rfl) k19 rfl rfl ?_
      refine tr_e (e_call Try.call22 rfl (F.chain_Chain_int_Kill_ok H)) rfl rfl ?_
      rintro _ h20 ⟨r21, r22, rfl, H⟩
      refine tr_nil ?_
      refine tr_blockN ?_
      exact tr_end0 rfl ⟨rfl, H⟩
    · replace H := H.2 g17
      refine tr_seq ?_
      refine tr_region ?_
      refine tr_p (y_eql rfl rfl) rfl rfl ?_
      refine tr_p (y_assign rfl) rfl rfl ?_
      refine tr_nil ?_
      refine tr_thenN ?_
      refine tr_cond rfl (fun g23 => ?_) (fun g23 => ?_)
      · replace H := H.1 g23
        refine tr_draw mixed [0, 0, 0, 4, 12, 30, 62, 0, 128, 511] (by kernel_rfl) ?_
        refine g_p 0 1 rfl (by kernel_rfl) (y_move rfl) rfl rfl ?_
        refine g_p 1 3 rfl (by kernel_rfl) (y_move rfl) rfl rfl ?_
        refine g_p 2 7 rfl (by kernel_rfl) (y_fa (off := 1) Try.runUnderlying50 fo_50_1 rfl) rfl rfl ?_
        obtain ⟨y24, k25, H⟩ := H
        refine g_h 3 15 rfl (by kernel_rfl) (y_ld Try.isAgg3 rfl) k25 rfl rfl ?_
        refine g_p 7 143 rfl (by kernel_rfl) (y_fa (off := 2) Try.runUnderlying50 fo_50_2 rfl) rfl rfl ?_
        obtain ⟨y26, k27, H⟩ := H
        refine g_h 8 399 rfl (by kernel_rfl) (y_ld Try.isAgg3 rfl) k27 rfl rfl ?_
        refine g_e 4 415 [(8, fun h => cellH h (a2.add 2) = some (.int .i64 y26))] (by kernel_rfl) rfl (by kernel_rfl) (e_call Try.call21 rfl (F.spatelaw5_within_ok H)) rfl rfl ?_
        rintro _ h28 ⟨r29, rfl, H⟩
        obtain ⟨k30, H⟩ := H
        refine ⟨And.intro k30 trivial, ?_⟩
        refine g_p 5 447 rfl (by kernel_rfl) (y_add rfl rfl) rfl rfl ?_
        refine g_p 6 511 rfl (by kernel_rfl) (y_sub rfl rfl) rfl rfl ?_
        refine g_e 9 1023 [] (by kernel_rfl) rfl (by kernel_rfl) (e_call Try.call23 rfl (F.chain_Chain_int_Put_ok H)) rfl rfl ?_
        rintro _ h31 ⟨r32, r33, rfl, H⟩
        refine ⟨trivial, ?_⟩
        refine g_d (by kernel_rfl) ?_
        refine tr_blockN ?_
        exact tr_end0 rfl ⟨rfl, H⟩
      · replace H := H.2 g23
        refine tr_seq ?_
        refine tr_region ?_
        refine tr_p (y_eql rfl rfl) rfl rfl ?_
        refine tr_p (y_assign rfl) rfl rfl ?_
        refine tr_nil ?_
        refine tr_thenN ?_
        refine tr_cond rfl (fun g34 => ?_) (fun g34 => ?_)
        · replace H := H.1 g34
          refine tr_region ?_
          refine tr_p (y_move rfl) rfl rfl ?_
          refine tr_p (y_move rfl) rfl rfl ?_
          refine tr_p (y_fa (off := 1) Try.runUnderlying50 fo_50_1 rfl) rfl rfl ?_
          obtain ⟨y35, k36, H⟩ := H
          refine tr_h (y_ld Try.isAgg3 rfl) k36 rfl rfl ?_
          refine tr_e (e_call Try.call21 rfl (F.spatelaw5_within_ok H)) rfl rfl ?_
          rintro _ h37 ⟨r38, rfl, H⟩
          refine tr_p (y_add rfl rfl) rfl rfl ?_
          refine tr_p (y_sub rfl rfl) rfl rfl ?_
          refine tr_e (e_call Try.call22 rfl (F.chain_Chain_int_Kill_ok H)) rfl rfl ?_
          rintro _ h39 ⟨r40, r41, rfl, H⟩
          refine tr_nil ?_
          refine tr_blockN ?_
          exact tr_end0 rfl ⟨rfl, H⟩
        · replace H := H.2 g34
          refine tr_seq ?_
          refine tr_region ?_
          refine tr_p (y_eql rfl rfl) rfl rfl ?_
          refine tr_p (y_assign rfl) rfl rfl ?_
          refine tr_nil ?_
          refine tr_thenN ?_
          refine tr_cond rfl (fun g42 => ?_) (fun g42 => ?_)
          · replace H := H.1 g42
            refine tr_region ?_
            refine tr_p (y_move rfl) rfl rfl ?_
            refine tr_p (y_fa (off := 3) Try.runUnderlying50 fo_50_3 rfl) rfl rfl ?_
            obtain ⟨y43, k44, H⟩ := H
            refine tr_h (y_ld Try.isAgg24 rfl) k44 rfl rfl ?_
            refine tr_e (e_call Try.call13 rfl (F.spatelaw5_held_ok H)) rfl rfl ?_
            rintro _ h45 ⟨r46, rfl, H⟩
            refine tr_e (e_call Try.call17 rfl (F.chain_Chain_int_Prune_ok H)) rfl rfl ?_
            rintro _ h47 ⟨r48, rfl, H⟩
            refine tr_nil ?_
            refine tr_blockN ?_
            exact tr_end0 rfl ⟨rfl, H⟩
          · replace H := H.2 g42
            refine tr_skip ?_
            refine tr_blockN ?_
            exact tr_end0 rfl ⟨rfl, H⟩

def F.spatelaw5_open.j2 (Q : (Option Addr) → H → Prop) (C1 : Sl → (Option Addr) → Int → H → Prop) (x0 : Sl) (x3 : Option Addr) (x4 : Int) (h : H) : Prop :=
  idxA x0 x4 4 fun a3 =>
  ld_S_spatelaw5_Step h a3 fun y5 =>
  F.spatelaw5_do x3 y5 h fun h7 =>
  C1 x0 x3 (IntKind.wrap .i64 (x4 + 1)) h7
def F.spatelaw5_open.j3 (Q : (Option Addr) → H → Prop) (C1 : Sl → (Option Addr) → Int → H → Prop) (x0 : Sl) (x3 : Option Addr) (x4 : Int) (x13 : Bool) (h : H) : Prop :=
  (x13 = true →
  F.spatelaw5_open.j2 Q C1 x0 x3 x4 h) ∧
  (x13 = false →
  Q x3 h)
def F.spatelaw5_open.l1 (Q : (Option Addr) → H → Prop) : Nat → Sl → (Option Addr) → Int → H → Prop
  | 0, _, _, _, _ => False
  | q1 + 1, x0, x3, x4, h =>
    ((decide (x4 < (x0.len : Int))) = true →
    F.spatelaw5_open.j3 Q (F.spatelaw5_open.l1 Q q1) x0 x3 x4 (decide (x4 < 2000)) h) ∧
    ((decide (x4 < (x0.len : Int))) = false →
    F.spatelaw5_open.j3 Q (F.spatelaw5_open.l1 Q q1) x0 x3 x4 false h)
/-- spate/spatelaw5.open -/
def F.spatelaw5_open (p0 : Sl) (h : H) (Q : (Option Addr) → H → Prop) : Prop :=
  F.chain_New_int  h fun r2 h1 =>
  ∃ m, F.spatelaw5_open.l1 Q m p0 r2 0 h1
theorem F.spatelaw5_open_ok {p0 : Sl} {h : H} {Q : (Option Addr) → H → Prop} (H : F.spatelaw5_open p0 h Q) : Fn PP 12 ([p0.enc] : List Value).toArray h fun r h' => ∃ r0, r = (.pointer r0) ∧ Q r0 h' := by
  unfold F.spatelaw5_open at H
  refine fn_of Try.func12 Try.ntmps12 rfl rfl fun w0 => ?_
  refine tr_sub [(0, p0.enc)] ⟨rfl, trivial⟩ ?_
  refine tr_seq ?_
  refine tr_region ?_
  refine tr_p (y_assign rfl) rfl rfl ?_
  refine tr_nil ?_
  refine tr_thenN ?_
  refine tr_seq ?_
  refine tr_region ?_
  refine tr_e (e_call Try.call29 rfl (F.chain_New_int_ok H)) rfl rfl ?_
  rintro _ h1 ⟨r2, rfl, H⟩
  refine tr_p (y_assign rfl) rfl rfl ?_
  refine tr_nil ?_
  refine tr_thenN ?_
  refine tr_seq ?_
  refine tr_seq ?_
  refine tr_region ?_
  refine tr_p (y_assign rfl) rfl rfl ?_
  refine tr_nil ?_
  refine tr_thenN ?_
  refine tr_block ?_
  obtain ⟨m10, H⟩ := H
  refine tr_sub [(0, p0.enc), (3, (.pointer r2)), (4, (.int .i64 0))] ⟨rfl, rfl, rfl, trivial⟩ ?_
  refine tr_loop_j (fun m L' h => ∃ (x0 : Sl) (x3 : Option Addr) (x4 : Int), L' = [(0, x0.enc), (3, (.pointer x3)), (4, (.int .i64 x4))] ∧ F.spatelaw5_open.l1 Q m x0 x3 x4 h) ?_ ?_ m10 ⟨_, _, _, rfl, H⟩
  · rintro L' h ⟨_, _, _, _, H⟩; exact H
  · rintro q1 L' h ⟨x0, x3, x4, rfl, H⟩
    unfold F.spatelaw5_open.l1 at H
    refine tr_seq_j (fun L' h => ∃ (x0 : Sl) (x3 : Option Addr) (x4 : Int), L' = [(0, x0.enc), (3, (.pointer x3)), (4, (.int .i64 x4))] ∧ F.spatelaw5_open.j2 Q (F.spatelaw5_open.l1 Q q1) x0 x3 x4 h) ?_ ?_
    · rintro L' h ⟨x0, x3, x4, rfl, H⟩
      unfold F.spatelaw5_open.j2 at H
      refine tr_seq ?_
      refine tr_block ?_
      refine tr_region ?_
      refine tr_p (y_move rfl) rfl rfl ?_
      refine tr_p (y_move rfl) rfl rfl ?_
      refine tr_p (y_move rfl) rfl rfl ?_
      obtain ⟨a3, e4, H⟩ := H
      refine tr_p (f_idx (s := x0) Try.runUnderlying23 Try.sizeOf50 rfl rfl e4) rfl rfl ?_
      obtain ⟨y5, k6, H⟩ := H
      refine tr_h (y_ldS Try.isAgg50 Try.sizeOf50 rfl rfl) k6 rfl rfl ?_
      refine tr_e (e_call Try.call28 rfl (F.spatelaw5_do_ok H)) rfl rfl ?_
      rintro _ h7 ⟨rfl, H⟩
      refine tr_nil ?_
      refine tr_blockN ?_
      refine tr_thenN ?_
      refine tr_region ?_
      refine tr_p (y_move rfl) rfl rfl ?_
      refine tr_p (y_add rfl rfl) rfl rfl ?_
      refine tr_p (y_assign rfl) rfl rfl ?_
      refine tr_nil ?_
      refine tr_thenN ?_
      exact tr_join [(0, x0.enc), (3, (.pointer x3)), (4, (.int .i64 (IntKind.wrap .i64 (x4 + 1))))] ⟨rfl, rfl, rfl, trivial⟩ ⟨_, _, _, rfl, H⟩
    · refine tr_seq_j (fun L' h => ∃ (x0 : Sl) (x3 : Option Addr) (x4 : Int) (x13 : Bool), L' = [(0, x0.enc), (3, (.pointer x3)), (4, (.int .i64 x4)), (13, (.bool x13))] ∧ F.spatelaw5_open.j3 Q (F.spatelaw5_open.l1 Q q1) x0 x3 x4 x13 h) ?_ ?_
      · rintro L' h ⟨x0, x3, x4, x13, rfl, H⟩
        unfold F.spatelaw5_open.j3 at H
        refine tr_cond rfl (fun g8 => ?_) (fun g8 => ?_)
        · replace H := H.1 g8
          refine tr_skip ?_
          refine tr_thenN ?_
          exact tr_join [(0, x0.enc), (3, (.pointer x3)), (4, (.int .i64 x4))] ⟨rfl, rfl, rfl, trivial⟩ ⟨_, _, _, rfl, H⟩
        · replace H := H.2 g8
          refine tr_exit ?_
          refine tr_thenE ?_
          refine tr_thenE ?_
          refine tr_hit ?_
          refine tr_thenN ?_
          refine tr_seq ?_
          refine tr_region ?_
          refine tr_p (y_move rfl) rfl rfl ?_
          refine tr_p (y_assign rfl) rfl rfl ?_
          refine tr_nil ?_
          refine tr_thenN ?_
          refine tr_ret ?_
          exact tr_ret1 rfl rfl ⟨_, rfl, H⟩
      · refine tr_region ?_
        refine tr_p (y_move rfl) rfl rfl ?_
        refine tr_p (y_move rfl) rfl rfl ?_
        refine tr_p (y_len (ts := #[]) Try.runUnderlying23 (o := x0.ptr) (n := x0.len) (cap := x0.cap) rfl) rfl rfl ?_
        refine tr_p (y_lss rfl rfl) rfl rfl ?_
        refine tr_p (y_move rfl) rfl rfl ?_
        refine tr_split (t := 10) rfl (fun g9 => ?_) (fun g9 => ?_)
        · replace H := H.1 g9
          refine tr_p (y_move rfl) rfl rfl ?_
          refine tr_p (y_lss rfl rfl) rfl rfl ?_
          refine tr_p (y_pick_t rfl rfl) rfl rfl ?_
          refine tr_nil ?_
          refine tr_thenN ?_
          exact tr_join [(0, x0.enc), (3, (.pointer x3)), (4, (.int .i64 x4)), (13, (.bool (decide (x4 < 2000))))] ⟨rfl, rfl, rfl, rfl, trivial⟩ ⟨_, _, _, _, rfl, H⟩
        · replace H := H.2 g9
          refine tr_s rfl rfl ?_
          refine tr_s rfl rfl ?_
          refine tr_p (y_pick_f rfl rfl) rfl rfl ?_
          refine tr_nil ?_
          refine tr_thenN ?_
          exact tr_join [(0, x0.enc), (3, (.pointer x3)), (4, (.int .i64 x4)), (13, (.bool false))] ⟨rfl, rfl, rfl, rfl, trivial⟩ ⟨_, _, _, _, rfl, H⟩

def F.spatelaw5_at.j2 (Q : Sl → H → Prop) (C1 : (Option Addr) → Sl → Sl → Int → H → Prop) (x0 : Option Addr) (x1 : Sl) (x5 : Sl) (x6 : Int) (h : H) : Prop :=
  C1 x0 x1 x5 (IntKind.wrap .i64 (x6 + 1)) h
def F.spatelaw5_at.j3 (Q : Sl → H → Prop) (C1 : (Option Addr) → Sl → Sl → Int → H → Prop) (x0 : Option Addr) (x1 : Sl) (x5 : Sl) (x6 : Int) (x7 : Int) (x9 : Int) (h : H) : Prop :=
  newL h #[(.int .i64 x7), (.int .i64 x9)] ty_3 2 fun s10 h9 =>
  runL PP (Builtin.append_ #[24, 24] 24 #[x5.enc, s10.enc]) h9 fun s12 h11 =>
  F.spatelaw5_at.j2 Q C1 x0 x1 s12 x6 h11
def F.spatelaw5_at.l1 (Q : Sl → H → Prop) : Nat → (Option Addr) → Sl → Sl → Int → H → Prop
  | 0, _, _, _, _, _ => False
  | q1 + 1, x0, x1, x5, x6, h =>
    ((decide (x6 < (x1.len : Int))) = true →
    idxA x1 x6 1 fun a2 =>
    ldI .i64 h a2 fun y4 =>
    F.chain_Chain_int_At x0 y4 h fun r7 r8 h6 =>
    (r8 = true →
    F.spatelaw5_at.j3 Q (F.spatelaw5_at.l1 Q q1) x0 x1 x5 x6 r7 1 h6) ∧
    (r8 = false →
    F.spatelaw5_at.j3 Q (F.spatelaw5_at.l1 Q q1) x0 x1 x5 x6 r7 0 h6)) ∧
    ((decide (x6 < (x1.len : Int))) = false →
    Q x5 h)
/-- spate/spatelaw5.at -/
def F.spatelaw5_at (p0 : Option Addr) (p1 : Sl) (h : H) (Q : Sl → H → Prop) : Prop :=
  ∃ m, F.spatelaw5_at.l1 Q m p0 p1 (⟨none, 0, 0⟩ : Sl) 0 h
theorem F.spatelaw5_at_ok {p0 : Option Addr} {p1 : Sl} {h : H} {Q : Sl → H → Prop} (H : F.spatelaw5_at p0 p1 h Q) : Fn PP 15 ([(.pointer p0), p1.enc] : List Value).toArray h fun r h' => ∃ r0, r = r0.enc ∧ Q r0 h' := by
  unfold F.spatelaw5_at at H
  refine fn_of Try.func15 Try.ntmps15 rfl rfl fun w0 => ?_
  refine tr_sub [(0, (.pointer p0)), (1, p1.enc)] ⟨rfl, rfl, trivial⟩ ?_
  refine tr_seq ?_
  refine tr_region ?_
  refine tr_p (y_assign rfl) rfl rfl ?_
  refine tr_nil ?_
  refine tr_thenN ?_
  refine tr_seq ?_
  refine tr_region ?_
  refine tr_p (y_assign rfl) rfl rfl ?_
  refine tr_nil ?_
  refine tr_thenN ?_
  refine tr_seq ?_
  refine tr_seq ?_
  refine tr_region ?_
  refine tr_p (y_assign rfl) rfl rfl ?_
  refine tr_nil ?_
  refine tr_thenN ?_
  refine tr_block ?_
  obtain ⟨m14, H⟩ := H
  refine tr_sub [(0, (.pointer p0)), (1, p1.enc), (5, (⟨none, 0, 0⟩ : Sl).enc), (6, (.int .i64 0))] ⟨rfl, rfl, rfl, rfl, trivial⟩ ?_
  refine tr_loop_j (fun m L' h => ∃ (x0 : Option Addr) (x1 : Sl) (x5 : Sl) (x6 : Int), L' = [(0, (.pointer x0)), (1, x1.enc), (5, x5.enc), (6, (.int .i64 x6))] ∧ F.spatelaw5_at.l1 Q m x0 x1 x5 x6 h) ?_ ?_ m14 ⟨_, _, _, _, rfl, H⟩
  · rintro L' h ⟨_, _, _, _, _, H⟩; exact H
  · rintro q1 L' h ⟨x0, x1, x5, x6, rfl, H⟩
    unfold F.spatelaw5_at.l1 at H
    refine tr_seq ?_
    refine tr_seq ?_
    refine tr_region ?_
    refine tr_p (y_move rfl) rfl rfl ?_
    refine tr_p (y_move rfl) rfl rfl ?_
    refine tr_p (y_len (ts := #[]) Try.runUnderlying24 (o := x1.ptr) (n := x1.len) (cap := x1.cap) rfl) rfl rfl ?_
    refine tr_p (y_lss rfl rfl) rfl rfl ?_
    refine tr_nil ?_
    refine tr_thenN ?_
    refine tr_cond rfl (fun g1 => ?_) (fun g1 => ?_)
    · replace H := H.1 g1
      refine tr_skip ?_
      refine tr_thenN ?_
      refine tr_seq_j (fun L' h => ∃ (x0 : Option Addr) (x1 : Sl) (x5 : Sl) (x6 : Int), L' = [(0, (.pointer x0)), (1, x1.enc), (5, x5.enc), (6, (.int .i64 x6))] ∧ F.spatelaw5_at.j2 Q (F.spatelaw5_at.l1 Q q1) x0 x1 x5 x6 h) ?_ ?_
      · rintro L' h ⟨x0, x1, x5, x6, rfl, H⟩
        unfold F.spatelaw5_at.j2 at H
        refine tr_region ?_
        refine tr_p (y_move rfl) rfl rfl ?_
        refine tr_p (y_add rfl rfl) rfl rfl ?_
        refine tr_p (y_assign rfl) rfl rfl ?_
        refine tr_nil ?_
        refine tr_thenN ?_
        exact tr_join [(0, (.pointer x0)), (1, x1.enc), (5, x5.enc), (6, (.int .i64 (IntKind.wrap .i64 (x6 + 1))))] ⟨rfl, rfl, rfl, rfl, trivial⟩ ⟨_, _, _, _, rfl, H⟩
      · refine tr_block ?_
        refine tr_seq ?_
        refine tr_region ?_
        refine tr_p (y_move rfl) rfl rfl ?_
        refine tr_p (y_move rfl) rfl rfl ?_
        refine tr_p (y_move rfl) rfl rfl ?_
        obtain ⟨a2, e3, H⟩ := H
        refine tr_p (f_idx (s := x1) Try.runUnderlying24 Try.sizeOf3 rfl rfl e3) rfl rfl ?_
        obtain ⟨y4, k5, H⟩ := H
        refine tr_h (y_ld Try.isAgg3 rfl) k5 rfl rfl ?_
        refine tr_e (e_call Try.call24 rfl (F.chain_Chain_int_At_ok H)) rfl rfl ?_
        rintro _ h6 ⟨r7, r8, rfl, H⟩
        refine tr_p (y_move rfl) rfl rfl ?_
        refine tr_p (y_ext rfl rfl) rfl rfl ?_
        refine tr_p (y_ext rfl rfl) rfl rfl ?_
        refine tr_p (y_assign rfl) rfl rfl ?_
        refine tr_p (y_assign rfl) rfl rfl ?_
        refine tr_nil ?_
        refine tr_thenN ?_
        refine tr_seq ?_
        refine tr_region ?_
        refine tr_p (y_assign rfl) rfl rfl ?_
        refine tr_nil ?_
        refine tr_thenN ?_
        refine tr_seq_j (fun L' h => ∃ (x0 : Option Addr) (x1 : Sl) (x5 : Sl) (x6 : Int) (x7 : Int) (x9 : Int), L' = [(0, (.pointer x0)), (1, x1.enc), (5, x5.enc), (6, (.int .i64 x6)), (7, (.int .i64 x7)), (9, (.int .i64 x9))] ∧ F.spatelaw5_at.j3 Q (F.spatelaw5_at.l1 Q q1) x0 x1 x5 x6 x7 x9 h) ?_ ?_
        · rintro L' h ⟨x0, x1, x5, x6, x7, x9, rfl, H⟩
          unfold F.spatelaw5_at.j3 at H
          refine tr_region ?_
          refine tr_p (y_move rfl) rfl rfl ?_
          refine tr_p (y_move rfl) rfl rfl ?_
          refine tr_p (y_move rfl) rfl rfl ?_
          refine tr_e (f_buildL (cs := #[(.int .i64 x7), (.int .i64 x9)]) rfl rfl (bl_24_2_0_1 x7 x9) H) rfl rfl ?_
          rintro _ h9 ⟨s10, rfl, H⟩
          refine tr_e (f_app rfl H) rfl rfl ?_
          rintro _ h11 ⟨s12, rfl, H⟩
          refine tr_p (y_assign rfl) rfl rfl ?_
          refine tr_nil ?_
          refine tr_blockN ?_
          refine tr_thenN ?_
          exact tr_join [(0, (.pointer x0)), (1, x1.enc), (5, s12.enc), (6, (.int .i64 x6))] ⟨rfl, rfl, rfl, rfl, trivial⟩ ⟨_, _, _, _, rfl, H⟩
        · refine tr_seq ?_
          refine tr_region ?_
          refine tr_p (y_move rfl) rfl rfl ?_
          refine tr_nil ?_
          refine tr_thenN ?_
          refine tr_cond rfl (fun g13 => ?_) (fun g13 => ?_)
          · replace H := H.1 g13
            refine tr_region ?_
            refine tr_p (y_assign rfl) rfl rfl ?_
            refine tr_nil ?_
            refine tr_thenN ?_
            exact tr_join [(0, (.pointer x0)), (1, x1.enc), (5, x5.enc), (6, (.int .i64 x6)), (7, (.int .i64 r7)), (9, (.int .i64 1))] ⟨rfl, rfl, rfl, rfl, rfl, rfl, trivial⟩ ⟨_, _, _, _, _, _, rfl, H⟩
          · replace H := H.2 g13
            refine tr_skip ?_
            refine tr_thenN ?_
            exact tr_join [(0, (.pointer x0)), (1, x1.enc), (5, x5.enc), (6, (.int .i64 x6)), (7, (.int .i64 r7)), (9, (.int .i64 0))] ⟨rfl, rfl, rfl, rfl, rfl, rfl, trivial⟩ ⟨_, _, _, _, _, _, rfl, H⟩
    · replace H := H.2 g1
      refine tr_exit ?_
      refine tr_thenE ?_
      refine tr_thenE ?_
      refine tr_hit ?_
      refine tr_thenN ?_
      refine tr_seq ?_
      refine tr_region ?_
      refine tr_p (y_move rfl) rfl rfl ?_
      refine tr_p (y_assign rfl) rfl rfl ?_
      refine tr_nil ?_
      refine tr_thenN ?_
      refine tr_ret ?_
      exact tr_ret1 rfl rfl ⟨_, rfl, H⟩

/-- spate/spatelaw5.epochs -/
def F.spatelaw5_epochs (p0 : Option Addr) (h : H) (Q : Sl → H → Prop) : Prop :=
  new h #[(⟨none, 0, 0⟩ : Sl).enc] ty_24 fun a2 h1 =>
  F.chain_Chain_int_All p0 h1 fun r4 h3 =>
  (r4 = .nilFunc ∨ isF r4) ∧
  ((isNilF r4) = true →
  shuts ([] : List Nat) h3 fun h7 =>
  Q (⟨none, 0, 0⟩ : Sl) h7) ∧
  ((isNilF r4) = false →
  rng PP r4 h3 [] (fun bg1 l1 args h K1 J1 => ∃ (y1_11 : Int), ∃ (y1_12 : Bool), args = [(.int .i64 y1_11), (.bool y1_12)] ∧
    bg1 h fun h8 =>
    ldL h8 a2 fun y9 =>
    newL h8 #[(.int .i64 y1_11)] ty_3 1 fun s12 h11 =>
    runL PP (Builtin.append_ #[24, 24] 24 #[y9.enc, s12.enc]) h11 fun s14 h13 =>
    stH h13 a2 [s14.enc] fun h15 =>
    K1 h15) (fun h16 =>
    ldL h16 a2 fun y17 =>
    shuts (h3.size :: ([] : List Nat)) h16 fun h19 =>
    Q y17 h19) (fun jj h20 =>
    True))
theorem F.spatelaw5_epochs_ok {p0 : Option Addr} {h : H} {Q : Sl → H → Prop} (H : F.spatelaw5_epochs p0 h Q) : Fn PP 20 ([(.pointer p0)] : List Value).toArray h fun r h' => ∃ r0, r = r0.enc ∧ Q r0 h' := by
  unfold F.spatelaw5_epochs at H
  refine fn_ofM Try.func20 Try.ntmps20 rfl rfl fun w0 => ?_
  refine tr_sub [(0, (.pointer p0))] ⟨rfl, trivial⟩ ?_
  refine tr_seq ?_
  refine tr_region ?_
  refine tr_p (y_assign rfl) rfl rfl ?_
  refine tr_nil ?_
  refine tr_thenN ?_
  refine tr_seq ?_
  refine tr_region ?_
  refine tr_e (f_alloc (cs := #[(⟨none, 0, 0⟩ : Sl).enc]) Try.zeroValue24 rfl H) rfl rfl ?_
  rintro _ h1 ⟨a2, rfl, H⟩
  refine tr_nil ?_
  refine tr_thenN ?_
  refine tr_seq ?_
  refine tr_region ?_
  refine tr_p (y_move rfl) rfl rfl ?_
  refine tr_e (e_call Try.call26 rfl (F.chain_Chain_int_All_ok H)) rfl rfl ?_
  rintro r4 h3 ⟨_, rfl, H⟩
  refine tr_p (y_assign rfl) rfl rfl ?_
  refine tr_nil ?_
  refine tr_thenN ?_
  refine tr_seq ?_
  refine tr_seq ?_
  refine tr_region ?_
  refine tr_p (y_move rfl) rfl rfl ?_
  obtain ⟨e5, H⟩ := H
  refine tr_p (y_vnil_eql Try.runUnderlying45 rfl rfl e5) rfl rfl ?_
  refine tr_nil ?_
  refine tr_thenN ?_
  refine tr_cond rfl (fun g6 => ?_) (fun g6 => ?_)
  · replace H := H.1 g6
    refine tr_seq ?_
    refine tr_region ?_
    refine tr_p (y_assign rfl) rfl rfl ?_
    refine tr_nil ?_
    refine tr_thenN ?_
    refine tr_ret ?_
    refine tr_thenR ?_
    refine tr_shut ([] : List Nat) rfl H fun h7 H => ?_
    exact tr_ret1 rfl rfl ⟨_, rfl, H⟩
  · replace H := H.2 g6
    refine tr_skip ?_
    refine tr_thenN ?_
    refine tr_seq ?_
    refine tr_seq ?_
    refine tr_region ?_
    refine tr_p (y_move rfl) rfl rfl ?_
    refine tr_nil ?_
    refine tr_thenN ?_
    refine tr_block ?_
    refine tr_range rfl (by kernel_rfl) H ?_ ?_ ?_
    · intro bg1 l1 args h K1 J1 w1 hbg1 H
      obtain ⟨y1_11, y1_12, rfl, H⟩ := H
      refine ⟨rfl, ?_⟩
      refine tr_sub [(0, (.pointer p0)), (2, (⟨none, 0, 0⟩ : Sl).enc), (3, (.pointer (some a2))), (6, (.pointer p0)), (7, r4), (4, r4), (8, r4), (9, (.bool (isNilF r4))), (10, r4), (11, (.int .i64 y1_11)), (12, (.bool y1_12))] ⟨rfl, rfl, rfl, rfl, rfl, rfl, rfl, rfl, rfl, rfl, rfl, trivial⟩ ?_
      refine tr_region ?_
      refine tr_p (y_assign rfl) rfl rfl ?_
      refine tr_nil ?_
      refine tr_thenN ?_
      refine tr_bgn hbg1 H fun h8 H => ?_
      refine tr_block ?_
      refine tr_region ?_
      obtain ⟨y9, k10, H⟩ := H
      refine tr_h (y_ld Try.isAgg24 rfl) k10 rfl rfl ?_
      refine tr_p (y_move rfl) rfl rfl ?_
      refine tr_e (f_buildL (cs := #[(.int .i64 y1_11)]) rfl rfl (bl_24_1_0 y1_11) H) rfl rfl ?_
      rintro _ h11 ⟨s12, rfl, H⟩
      refine tr_e (f_app rfl H) rfl rfl ?_
      rintro _ h13 ⟨s14, rfl, H⟩
      refine tr_e (f_store (vs := [s14.enc]) Try.sizeOf24 rfl rfl rfl rfl (one1 rfl) H) rfl rfl ?_
      rintro _ h15 ⟨rfl, H⟩
      refine tr_nil ?_
      refine tr_blockN ?_
      exact tr_rN H
    · intro h16 H
      refine tr_blockN ?_
      refine tr_thenN ?_
      refine tr_seq ?_
      refine tr_region ?_
      obtain ⟨y17, k18, H⟩ := H
      refine tr_h (y_ld Try.isAgg24 rfl) k18 rfl rfl ?_
      refine tr_p (y_assign rfl) rfl rfl ?_
      refine tr_nil ?_
      refine tr_thenN ?_
      refine tr_ret ?_
      refine tr_shut (h3.size :: ([] : List Nat)) rfl H fun h19 H => ?_
      exact tr_ret1 rfl rfl ⟨_, rfl, H⟩
    · intro jj c h20 hjc H
      simp at hjc

def F.spatelaw5_same.l1 (Q : Bool → H → Prop) : Nat → Sl → Sl → Int → H → Prop
  | 0, _, _, _, _ => False
  | q1 + 1, x0, x1, x5, h =>
    ((decide (x5 < (x0.len : Int))) = true →
    idxA x0 x5 1 fun a3 =>
    ldI .i64 h a3 fun y5 =>
    idxA x1 x5 1 fun a7 =>
    ldI .i64 h a7 fun y9 =>
    (((y5 != y9)) = true →
    Q false h) ∧
    (((y5 != y9)) = false →
    (F.spatelaw5_same.l1 Q q1) x0 x1 (IntKind.wrap .i64 (x5 + 1)) h)) ∧
    ((decide (x5 < (x0.len : Int))) = false →
    Q true h)
/-- spate/spatelaw5.same -/
def F.spatelaw5_same (p0 : Sl) (p1 : Sl) (h : H) (Q : Bool → H → Prop) : Prop :=
  ((((p0.len : Int) != (p1.len : Int))) = true →
  Q false h) ∧
  ((((p0.len : Int) != (p1.len : Int))) = false →
  ∃ m, F.spatelaw5_same.l1 Q m p0 p1 0 h)
theorem F.spatelaw5_same_ok {p0 : Sl} {p1 : Sl} {h : H} {Q : Bool → H → Prop} (H : F.spatelaw5_same p0 p1 h Q) : Fn PP 18 ([p0.enc, p1.enc] : List Value).toArray h fun r h' => ∃ r0, r = (.bool r0) ∧ Q r0 h' := by
  unfold F.spatelaw5_same at H
  refine fn_of Try.func18 Try.ntmps18 rfl rfl fun w0 => ?_
  refine tr_sub [(0, p0.enc), (1, p1.enc)] ⟨rfl, rfl, trivial⟩ ?_
  refine tr_seq ?_
  refine tr_region ?_
  refine tr_p (y_assign rfl) rfl rfl ?_
  refine tr_nil ?_
  refine tr_thenN ?_
  refine tr_seq ?_
  refine tr_seq ?_
  refine tr_region ?_
  refine tr_p (y_move rfl) rfl rfl ?_
  refine tr_p (y_len (ts := #[]) Try.runUnderlying24 (o := p0.ptr) (n := p0.len) (cap := p0.cap) rfl) rfl rfl ?_
  refine tr_p (y_move rfl) rfl rfl ?_
  refine tr_p (y_len (ts := #[]) Try.runUnderlying24 (o := p1.ptr) (n := p1.len) (cap := p1.cap) rfl) rfl rfl ?_
  refine tr_p (y_neq rfl rfl) rfl rfl ?_
  refine tr_nil ?_
  refine tr_thenN ?_
  refine tr_cond rfl (fun g1 => ?_) (fun g1 => ?_)
  · replace H := H.1 g1
    refine tr_seq ?_
    refine tr_region ?_
    refine tr_p (y_assign rfl) rfl rfl ?_
    refine tr_nil ?_
    refine tr_thenN ?_
    refine tr_ret ?_
    refine tr_thenR ?_
    exact tr_ret1 rfl rfl ⟨_, rfl, H⟩
  · replace H := H.2 g1
    refine tr_skip ?_
    refine tr_thenN ?_
    refine tr_seq ?_
    refine tr_seq ?_
    refine tr_region ?_
    refine tr_p (y_assign rfl) rfl rfl ?_
    refine tr_nil ?_
    refine tr_thenN ?_
    refine tr_block ?_
    obtain ⟨m12, H⟩ := H
    refine tr_sub [(0, p0.enc), (1, p1.enc), (5, (.int .i64 0))] ⟨rfl, rfl, rfl, trivial⟩ ?_
    refine tr_loop_j (fun m L' h => ∃ (x0 : Sl) (x1 : Sl) (x5 : Int), L' = [(0, x0.enc), (1, x1.enc), (5, (.int .i64 x5))] ∧ F.spatelaw5_same.l1 Q m x0 x1 x5 h) ?_ ?_ m12 ⟨_, _, _, rfl, H⟩
    · rintro L' h ⟨_, _, _, _, H⟩; exact H
    · rintro q1 L' h ⟨x0, x1, x5, rfl, H⟩
      unfold F.spatelaw5_same.l1 at H
      refine tr_seq ?_
      refine tr_seq ?_
      refine tr_region ?_
      refine tr_p (y_move rfl) rfl rfl ?_
      refine tr_p (y_move rfl) rfl rfl ?_
      refine tr_p (y_len (ts := #[]) Try.runUnderlying24 (o := x0.ptr) (n := x0.len) (cap := x0.cap) rfl) rfl rfl ?_
      refine tr_p (y_lss rfl rfl) rfl rfl ?_
      refine tr_nil ?_
      refine tr_thenN ?_
      refine tr_cond rfl (fun g2 => ?_) (fun g2 => ?_)
      · replace H := H.1 g2
        refine tr_skip ?_
        refine tr_thenN ?_
        refine tr_seq ?_
        refine tr_block ?_
        refine tr_seq ?_
        refine tr_draw mixed [0, 0, 3, 7, 0, 0, 48, 112, 255] (by kernel_rfl) ?_
        refine g_p 0 1 rfl (by kernel_rfl) (y_move rfl) rfl rfl ?_
        refine g_p 1 3 rfl (by kernel_rfl) (y_move rfl) rfl rfl ?_
        obtain ⟨a3, e4, H⟩ := H
        refine g_p 2 7 rfl (by kernel_rfl) (f_idx (s := x0) Try.runUnderlying24 Try.sizeOf3 rfl rfl e4) rfl rfl ?_
        obtain ⟨y5, k6, H⟩ := H
        refine g_h 3 15 rfl (by kernel_rfl) (y_ld Try.isAgg3 rfl) k6 rfl rfl ?_
        refine g_p 4 31 rfl (by kernel_rfl) (y_move rfl) rfl rfl ?_
        refine g_p 5 63 rfl (by kernel_rfl) (y_move rfl) rfl rfl ?_
        obtain ⟨a7, e8, H⟩ := H
        refine g_p 6 127 rfl (by kernel_rfl) (f_idx (s := x1) Try.runUnderlying24 Try.sizeOf3 rfl rfl e8) rfl rfl ?_
        obtain ⟨y9, k10, H⟩ := H
        refine g_h 7 255 rfl (by kernel_rfl) (y_ld Try.isAgg3 rfl) k10 rfl rfl ?_
        refine g_p 8 511 rfl (by kernel_rfl) (y_neq rfl rfl) rfl rfl ?_
        refine g_d (by kernel_rfl) ?_
        refine tr_thenN ?_
        refine tr_cond rfl (fun g11 => ?_) (fun g11 => ?_)
        · replace H := H.1 g11
          refine tr_seq ?_
          refine tr_region ?_
          refine tr_p (y_assign rfl) rfl rfl ?_
          refine tr_nil ?_
          refine tr_thenN ?_
          refine tr_ret ?_
          refine tr_blockR ?_
          refine tr_thenR ?_
          refine tr_thenR ?_
          refine tr_blockR ?_
          refine tr_thenR ?_
          exact tr_ret1 rfl rfl ⟨_, rfl, H⟩
        · replace H := H.2 g11
          refine tr_skip ?_
          refine tr_blockN ?_
          refine tr_thenN ?_
          refine tr_region ?_
          refine tr_p (y_move rfl) rfl rfl ?_
          refine tr_p (y_add rfl rfl) rfl rfl ?_
          refine tr_p (y_assign rfl) rfl rfl ?_
          refine tr_nil ?_
          refine tr_thenN ?_
          exact tr_join [(0, x0.enc), (1, x1.enc), (5, (.int .i64 (IntKind.wrap .i64 (x5 + 1))))] ⟨rfl, rfl, rfl, trivial⟩ ⟨_, _, _, rfl, H⟩
      · replace H := H.2 g2
        refine tr_exit ?_
        refine tr_thenE ?_
        refine tr_thenE ?_
        refine tr_hit ?_
        refine tr_thenN ?_
        refine tr_seq ?_
        refine tr_region ?_
        refine tr_p (y_assign rfl) rfl rfl ?_
        refine tr_nil ?_
        refine tr_thenN ?_
        refine tr_ret ?_
        exact tr_ret1 rfl rfl ⟨_, rfl, H⟩

def F.spatelaw5_has.l1 (Q : Bool → H → Prop) : Nat → Sl → Int → Int → H → Prop
  | 0, _, _, _, _ => False
  | q1 + 1, x0, x1, x5, h =>
    ((decide (x5 < (x0.len : Int))) = true →
    idxA x0 x5 1 fun a2 =>
    ldI .i64 h a2 fun y4 =>
    (((y4 == x1)) = true →
    Q true h) ∧
    (((y4 == x1)) = false →
    (F.spatelaw5_has.l1 Q q1) x0 x1 (IntKind.wrap .i64 (x5 + 1)) h)) ∧
    ((decide (x5 < (x0.len : Int))) = false →
    Q false h)
/-- spate/spatelaw5.has -/
def F.spatelaw5_has (p0 : Sl) (p1 : Int) (h : H) (Q : Bool → H → Prop) : Prop :=
  ∃ m, F.spatelaw5_has.l1 Q m p0 p1 0 h
theorem F.spatelaw5_has_ok {p0 : Sl} {p1 : Int} {h : H} {Q : Bool → H → Prop} (H : F.spatelaw5_has p0 p1 h Q) : Fn PP 39 ([p0.enc, (.int .i64 p1)] : List Value).toArray h fun r h' => ∃ r0, r = (.bool r0) ∧ Q r0 h' := by
  unfold F.spatelaw5_has at H
  refine fn_of Try.func39 Try.ntmps39 rfl rfl fun w0 => ?_
  refine tr_sub [(0, p0.enc), (1, (.int .i64 p1))] ⟨rfl, rfl, trivial⟩ ?_
  refine tr_seq ?_
  refine tr_region ?_
  refine tr_p (y_assign rfl) rfl rfl ?_
  refine tr_nil ?_
  refine tr_thenN ?_
  refine tr_seq ?_
  refine tr_seq ?_
  refine tr_region ?_
  refine tr_p (y_assign rfl) rfl rfl ?_
  refine tr_nil ?_
  refine tr_thenN ?_
  refine tr_block ?_
  obtain ⟨m7, H⟩ := H
  refine tr_sub [(0, p0.enc), (1, (.int .i64 p1)), (5, (.int .i64 0))] ⟨rfl, rfl, rfl, trivial⟩ ?_
  refine tr_loop_j (fun m L' h => ∃ (x0 : Sl) (x1 : Int) (x5 : Int), L' = [(0, x0.enc), (1, (.int .i64 x1)), (5, (.int .i64 x5))] ∧ F.spatelaw5_has.l1 Q m x0 x1 x5 h) ?_ ?_ m7 ⟨_, _, _, rfl, H⟩
  · rintro L' h ⟨_, _, _, _, H⟩; exact H
  · rintro q1 L' h ⟨x0, x1, x5, rfl, H⟩
    unfold F.spatelaw5_has.l1 at H
    refine tr_seq ?_
    refine tr_seq ?_
    refine tr_region ?_
    refine tr_p (y_move rfl) rfl rfl ?_
    refine tr_p (y_move rfl) rfl rfl ?_
    refine tr_p (y_len (ts := #[]) Try.runUnderlying24 (o := x0.ptr) (n := x0.len) (cap := x0.cap) rfl) rfl rfl ?_
    refine tr_p (y_lss rfl rfl) rfl rfl ?_
    refine tr_nil ?_
    refine tr_thenN ?_
    refine tr_cond rfl (fun g1 => ?_) (fun g1 => ?_)
    · replace H := H.1 g1
      refine tr_skip ?_
      refine tr_thenN ?_
      refine tr_seq ?_
      refine tr_block ?_
      refine tr_seq ?_
      refine tr_region ?_
      refine tr_p (y_move rfl) rfl rfl ?_
      refine tr_p (y_move rfl) rfl rfl ?_
      obtain ⟨a2, e3, H⟩ := H
      refine tr_p (f_idx (s := x0) Try.runUnderlying24 Try.sizeOf3 rfl rfl e3) rfl rfl ?_
      obtain ⟨y4, k5, H⟩ := H
      refine tr_h (y_ld Try.isAgg3 rfl) k5 rfl rfl ?_
      refine tr_p (y_move rfl) rfl rfl ?_
      refine tr_p (y_eql rfl rfl) rfl rfl ?_
      refine tr_nil ?_
      refine tr_thenN ?_
      refine tr_cond rfl (fun g6 => ?_) (fun g6 => ?_)
      · replace H := H.1 g6
        refine tr_seq ?_
        refine tr_region ?_
        refine tr_p (y_assign rfl) rfl rfl ?_
        refine tr_nil ?_
        refine tr_thenN ?_
        refine tr_ret ?_
        refine tr_blockR ?_
        refine tr_thenR ?_
        refine tr_thenR ?_
        refine tr_blockR ?_
        refine tr_thenR ?_
        exact tr_ret1 rfl rfl ⟨_, rfl, H⟩
      · replace H := H.2 g6
        refine tr_skip ?_
        refine tr_blockN ?_
        refine tr_thenN ?_
        refine tr_region ?_
        refine tr_p (y_move rfl) rfl rfl ?_
        refine tr_p (y_add rfl rfl) rfl rfl ?_
        refine tr_p (y_assign rfl) rfl rfl ?_
        refine tr_nil ?_
        refine tr_thenN ?_
        exact tr_join [(0, x0.enc), (1, (.int .i64 x1)), (5, (.int .i64 (IntKind.wrap .i64 (x5 + 1))))] ⟨rfl, rfl, rfl, trivial⟩ ⟨_, _, _, rfl, H⟩
    · replace H := H.2 g1
      refine tr_exit ?_
      refine tr_thenE ?_
      refine tr_thenE ?_
      refine tr_hit ?_
      refine tr_thenN ?_
      refine tr_seq ?_
      refine tr_region ?_
      refine tr_p (y_assign rfl) rfl rfl ?_
      refine tr_nil ?_
      refine tr_thenN ?_
      refine tr_ret ?_
      exact tr_ret1 rfl rfl ⟨_, rfl, H⟩

def F.spatelaw5_unlike.j2 (Q : Int → H → Prop) (C1 : Sl → Int → Int → H → Prop) (x0 : Sl) (x3 : Int) (x4 : Int) (h : H) : Prop :=
  C1 x0 x3 (IntKind.wrap .i64 (x4 + 1)) h
def F.spatelaw5_unlike.l1 (Q : Int → H → Prop) : Nat → Sl → Int → Int → H → Prop
  | 0, _, _, _, _ => False
  | q1 + 1, x0, x3, x4, h =>
    ((decide (x4 < (x0.len : Int))) = true →
    cutL x0 0 x4 1 fun s3 =>
    idxA x0 x4 1 fun a4 =>
    ldI .i64 h a4 fun y6 =>
    F.spatelaw5_has s3 y6 h fun r9 h8 =>
    ((!r9) = true →
    F.spatelaw5_unlike.j2 Q (F.spatelaw5_unlike.l1 Q q1) x0 (IntKind.wrap .i64 (x3 + 1)) x4 h8) ∧
    ((!r9) = false →
    F.spatelaw5_unlike.j2 Q (F.spatelaw5_unlike.l1 Q q1) x0 x3 x4 h8)) ∧
    ((decide (x4 < (x0.len : Int))) = false →
    Q x3 h)
/-- spate/spatelaw5.unlike -/
def F.spatelaw5_unlike (p0 : Sl) (h : H) (Q : Int → H → Prop) : Prop :=
  ∃ m, F.spatelaw5_unlike.l1 Q m p0 0 0 h
theorem F.spatelaw5_unlike_ok {p0 : Sl} {h : H} {Q : Int → H → Prop} (H : F.spatelaw5_unlike p0 h Q) : Fn PP 19 ([p0.enc] : List Value).toArray h fun r h' => ∃ r0, r = (.int .i64 r0) ∧ Q r0 h' := by
  unfold F.spatelaw5_unlike at H
  refine fn_of Try.func19 Try.ntmps19 rfl rfl fun w0 => ?_
  refine tr_sub [(0, p0.enc)] ⟨rfl, trivial⟩ ?_
  refine tr_seq ?_
  refine tr_region ?_
  refine tr_p (y_assign rfl) rfl rfl ?_
  refine tr_nil ?_
  refine tr_thenN ?_
  refine tr_seq ?_
  refine tr_region ?_
  refine tr_p (y_assign rfl) rfl rfl ?_
  refine tr_nil ?_
  refine tr_thenN ?_
  refine tr_seq ?_
  refine tr_seq ?_
  refine tr_region ?_
  refine tr_p (y_assign rfl) rfl rfl ?_
  refine tr_nil ?_
  refine tr_thenN ?_
  refine tr_block ?_
  obtain ⟨m11, H⟩ := H
  refine tr_sub [(0, p0.enc), (3, (.int .i64 0)), (4, (.int .i64 0))] ⟨rfl, rfl, rfl, trivial⟩ ?_
  refine tr_loop_j (fun m L' h => ∃ (x0 : Sl) (x3 : Int) (x4 : Int), L' = [(0, x0.enc), (3, (.int .i64 x3)), (4, (.int .i64 x4))] ∧ F.spatelaw5_unlike.l1 Q m x0 x3 x4 h) ?_ ?_ m11 ⟨_, _, _, rfl, H⟩
  · rintro L' h ⟨_, _, _, _, H⟩; exact H
  · rintro q1 L' h ⟨x0, x3, x4, rfl, H⟩
    unfold F.spatelaw5_unlike.l1 at H
    refine tr_seq ?_
    refine tr_seq ?_
    refine tr_region ?_
    refine tr_p (y_move rfl) rfl rfl ?_
    refine tr_p (y_move rfl) rfl rfl ?_
    refine tr_p (y_len (ts := #[]) Try.runUnderlying24 (o := x0.ptr) (n := x0.len) (cap := x0.cap) rfl) rfl rfl ?_
    refine tr_p (y_lss rfl rfl) rfl rfl ?_
    refine tr_nil ?_
    refine tr_thenN ?_
    refine tr_cond rfl (fun g1 => ?_) (fun g1 => ?_)
    · replace H := H.1 g1
      refine tr_skip ?_
      refine tr_thenN ?_
      refine tr_seq_j (fun L' h => ∃ (x0 : Sl) (x3 : Int) (x4 : Int), L' = [(0, x0.enc), (3, (.int .i64 x3)), (4, (.int .i64 x4))] ∧ F.spatelaw5_unlike.j2 Q (F.spatelaw5_unlike.l1 Q q1) x0 x3 x4 h) ?_ ?_
      · rintro L' h ⟨x0, x3, x4, rfl, H⟩
        unfold F.spatelaw5_unlike.j2 at H
        refine tr_region ?_
        refine tr_p (y_move rfl) rfl rfl ?_
        refine tr_p (y_add rfl rfl) rfl rfl ?_
        refine tr_p (y_assign rfl) rfl rfl ?_
        refine tr_nil ?_
        refine tr_thenN ?_
        exact tr_join [(0, x0.enc), (3, (.int .i64 x3)), (4, (.int .i64 (IntKind.wrap .i64 (x4 + 1))))] ⟨rfl, rfl, rfl, trivial⟩ ⟨_, _, _, rfl, H⟩
      · refine tr_block ?_
        refine tr_seq ?_
        refine tr_draw mixed [0, 0, 3, 0, 0, 24, 56, 127, 255] (by kernel_rfl) ?_
        refine g_p 0 1 rfl (by kernel_rfl) (y_move rfl) rfl rfl ?_
        refine g_p 1 3 rfl (by kernel_rfl) (y_move rfl) rfl rfl ?_
        obtain ⟨s3, e2, H⟩ := H
        refine g_p 2 7 rfl (by kernel_rfl) (f_cutL (s := x0) none (some (.i64, x4)) Try.runUnderlying24 Try.sizeOf3 rfl rfl rfl e2) rfl rfl ?_
        refine g_p 3 15 rfl (by kernel_rfl) (y_move rfl) rfl rfl ?_
        refine g_p 4 31 rfl (by kernel_rfl) (y_move rfl) rfl rfl ?_
        obtain ⟨a4, e5, H⟩ := H
        refine g_p 5 63 rfl (by kernel_rfl) (f_idx (s := x0) Try.runUnderlying24 Try.sizeOf3 rfl rfl e5) rfl rfl ?_
        obtain ⟨y6, k7, H⟩ := H
        refine g_h 6 127 rfl (by kernel_rfl) (y_ld Try.isAgg3 rfl) k7 rfl rfl ?_
        refine g_e 7 255 [] (by kernel_rfl) rfl (by kernel_rfl) (e_call Try.call39 rfl (F.spatelaw5_has_ok H)) rfl rfl ?_
        rintro _ h8 ⟨r9, rfl, H⟩
        refine ⟨trivial, ?_⟩
        refine g_p 8 511 rfl (by kernel_rfl) (y_not rfl) rfl rfl ?_
        refine g_d (by kernel_rfl) ?_
        refine tr_thenN ?_
        refine tr_cond rfl (fun g10 => ?_) (fun g10 => ?_)
        · replace H := H.1 g10
          refine tr_region ?_
          refine tr_p (y_move rfl) rfl rfl ?_
          refine tr_p (y_add rfl rfl) rfl rfl ?_
          refine tr_p (y_assign rfl) rfl rfl ?_
          refine tr_nil ?_
          refine tr_blockN ?_
          refine tr_thenN ?_
          exact tr_join [(0, x0.enc), (3, (.int .i64 (IntKind.wrap .i64 (x3 + 1)))), (4, (.int .i64 x4))] ⟨rfl, rfl, rfl, trivial⟩ ⟨_, _, _, rfl, H⟩
        · replace H := H.2 g10
          refine tr_skip ?_
          refine tr_blockN ?_
          refine tr_thenN ?_
          exact tr_join [(0, x0.enc), (3, (.int .i64 x3)), (4, (.int .i64 x4))] ⟨rfl, rfl, rfl, trivial⟩ ⟨_, _, _, rfl, H⟩
    · replace H := H.2 g1
      refine tr_exit ?_
      refine tr_thenE ?_
      refine tr_thenE ?_
      refine tr_hit ?_
      refine tr_thenN ?_
      refine tr_seq ?_
      refine tr_region ?_
      refine tr_p (y_move rfl) rfl rfl ?_
      refine tr_p (y_assign rfl) rfl rfl ?_
      refine tr_nil ?_
      refine tr_thenN ?_
      refine tr_ret ?_
      exact tr_ret1 rfl rfl ⟨_, rfl, H⟩

def F.spatelaw5_ChainPrunes.j3 (Q : Bool → H → Prop) (C1 : Sl → (Option Addr) → Int → Sl → Int → H → Prop) (x1 : Sl) (x5 : Option Addr) (x7 : Int) (x13 : Sl) (x14 : Int) (h : H) : Prop :=
  C1 x1 x5 x7 x13 (IntKind.wrap .i64 (x14 + 1)) h
def F.spatelaw5_ChainPrunes.j4 (Q : Bool → H → Prop) (C1 : Sl → (Option Addr) → Int → Sl → Int → H → Prop) (x1 : Sl) (x5 : Option Addr) (x7 : Int) (x13 : Sl) (x14 : Int) (x102 : Bool) (h : H) : Prop :=
  (x102 = true →
  Q false h) ∧
  (x102 = false →
  F.spatelaw5_ChainPrunes.j3 Q C1 x1 x5 x7 x13 x14 h)
def F.spatelaw5_ChainPrunes.j5 (Q : Bool → H → Prop) (x1 : Sl) (x5 : Option Addr) (h : H) : Prop :=
  F.chain_Chain_int_Prune x5 x1 h fun r45 h44 =>
  (((r45 == 0)) = true →
  F.spatelaw5_epochs x5 h44 fun r48 h47 =>
  F.chain_Chain_int_Len x5 h47 fun r50 h49 =>
  Q (((r48.len : Int) == r50)) h49) ∧
  (((r45 == 0)) = false →
  Q false h44)
def F.spatelaw5_ChainPrunes.j6 (Q : Bool → H → Prop) (x1 : Sl) (x5 : Option Addr) (x115 : Bool) (h : H) : Prop :=
  (x115 = true →
  Q false h) ∧
  (x115 = false →
  F.spatelaw5_ChainPrunes.j5 Q x1 x5 h)
def F.spatelaw5_ChainPrunes.l2 (Q : Bool → H → Prop) : Nat → Sl → (Option Addr) → Int → Sl → Int → H → Prop
  | 0, _, _, _, _, _, _ => False
  | q2 + 1, x1, x5, x7, x13, x14, h =>
    ((decide (x14 < (x13.len : Int))) = true →
    idxA x13 x14 1 fun a26 =>
    ldI .i64 h a26 fun y28 =>
    ((decide (y28 > x7)) = true →
    F.spatelaw5_ChainPrunes.j4 Q (F.spatelaw5_ChainPrunes.l2 Q q2) x1 x5 x7 x13 x14 true h) ∧
    ((decide (y28 > x7)) = false →
    ((decide (x14 < (IntKind.wrap .i64 ((x13.len : Int) - 1)))) = true →
    idxA x13 x14 1 fun a32 =>
    ldI .i64 h a32 fun y34 =>
    idxA x13 (IntKind.wrap .i64 (x14 + 1)) 1 fun a36 =>
    ldI .i64 h a36 fun y38 =>
    F.spatelaw5_ChainPrunes.j4 Q (F.spatelaw5_ChainPrunes.l2 Q q2) x1 x5 x7 x13 x14 (decide (y34 ≥ y38)) h) ∧
    ((decide (x14 < (IntKind.wrap .i64 ((x13.len : Int) - 1)))) = false →
    F.spatelaw5_ChainPrunes.j4 Q (F.spatelaw5_ChainPrunes.l2 Q q2) x1 x5 x7 x13 x14 false h))) ∧
    ((decide (x14 < (x13.len : Int))) = false →
    F.chain_Chain_int_Newest x5 h fun r41 r42 r43 h40 =>
    ((((x13.len : Int) == 1)) = true →
    F.spatelaw5_ChainPrunes.j6 Q x1 x5 (!r43) h40) ∧
    ((((x13.len : Int) == 1)) = false →
    F.spatelaw5_ChainPrunes.j6 Q x1 x5 false h40))
def F.spatelaw5_ChainPrunes.j1 (Q : Bool → H → Prop) (x1 : Sl) (x5 : Option Addr) (x7 : Int) (h : H) : Prop :=
  F.spatelaw5_epochs x5 h fun r23 h22 =>
  ∃ m, F.spatelaw5_ChainPrunes.l2 Q m x1 x5 x7 r23 0 h22
def F.spatelaw5_ChainPrunes.j7 (Q : Bool → H → Prop) (x1 : Sl) (x5 : Option Addr) (x7 : Int) (x69 : Bool) (h : H) : Prop :=
  (x69 = true →
  Q false h) ∧
  (x69 = false →
  F.spatelaw5_ChainPrunes.j1 Q x1 x5 x7 h)
/-- spate/spatelaw5.ChainPrunes -/
def F.spatelaw5_ChainPrunes (p0 : Sl) (p1 : Sl) (h : H) (Q : Bool → H → Prop) : Prop :=
  F.spatelaw5_known  h fun r2 h1 =>
  ((!r2) = true →
  Q false h1) ∧
  ((!r2) = false →
  F.spatelaw5_open p0 h1 fun r5 h4 =>
  F.spatelaw5_held p1 h4 fun r7 h6 =>
  F.chain_Chain_int_Newest r5 h6 fun r9 r10 r11 h8 =>
  newL h8 #[(.int .i64 r10), (.int .i64 (IntKind.wrap .i64 (r10 + 1))), (.int .i64 1125899906842624)] ty_3 3 fun s13 h12 =>
  runL PP (Builtin.append_ #[24, 24] 24 #[s13.enc, r7.enc]) h12 fun s15 h14 =>
  F.spatelaw5_at r5 s15 h14 fun r17 h16 =>
  F.chain_Chain_int_Len r5 h16 fun r19 h18 =>
  F.chain_Chain_int_Prune r5 r7 h18 fun r21 h20 =>
  F.spatelaw5_at r5 s15 h20 fun r56 h55 =>
  F.spatelaw5_same r56 r17 h55 fun r58 h57 =>
  ((!r58) = true →
  F.spatelaw5_ChainPrunes.j7 Q r7 r5 r10 true h57) ∧
  ((!r58) = false →
  F.chain_Chain_int_Len r5 h57 fun r61 h60 =>
  (((r61 != (IntKind.wrap .i64 (r19 - r21)))) = true →
  F.spatelaw5_ChainPrunes.j7 Q r7 r5 r10 true h60) ∧
  (((r61 != (IntKind.wrap .i64 (r19 - r21)))) = false →
  ((decide (r21 < 0)) = true →
  F.spatelaw5_ChainPrunes.j7 Q r7 r5 r10 true h60) ∧
  ((decide (r21 < 0)) = false →
  F.chain_Chain_int_Len r5 h60 fun r65 h64 =>
  F.spatelaw5_unlike r7 h64 fun r67 h66 =>
  F.spatelaw5_ChainPrunes.j7 Q r7 r5 r10 (decide (r65 > (IntKind.wrap .i64 (r67 + 1)))) h66))))
theorem F.spatelaw5_ChainPrunes_ok {p0 : Sl} {p1 : Sl} {h : H} {Q : Bool → H → Prop} (H : F.spatelaw5_ChainPrunes p0 p1 h Q) : Fn PP 4 ([p0.enc, p1.enc] : List Value).toArray h fun r h' => ∃ r0, r = (.bool r0) ∧ Q r0 h' := by
  unfold F.spatelaw5_ChainPrunes at H
  refine fn_of Try.func4 Try.ntmps4 rfl rfl fun w0 => ?_
  refine tr_sub [(0, p0.enc), (1, p1.enc)] ⟨rfl, rfl, trivial⟩ ?_
  refine tr_seq ?_
  refine tr_region ?_
  refine tr_p (y_assign rfl) rfl rfl ?_
  refine tr_nil ?_
  refine tr_thenN ?_
  refine tr_seq ?_
  refine tr_seq ?_
  refine tr_region ?_
  refine tr_e (e_call Try.call11 rfl (F.spatelaw5_known_ok H)) rfl rfl ?_
  rintro _ h1 ⟨r2, rfl, H⟩
  refine tr_p (y_not rfl) rfl rfl ?_
  refine tr_nil ?_
  refine tr_thenN ?_
  refine tr_cond rfl (fun g3 => ?_) (fun g3 => ?_)
  · replace H := H.1 g3
    refine tr_seq ?_
    refine tr_region ?_
    refine tr_p (y_assign rfl) rfl rfl ?_
    refine tr_nil ?_
    refine tr_thenN ?_
    refine tr_ret ?_
    refine tr_thenR ?_
    exact tr_ret1 rfl rfl ⟨_, rfl, H⟩
  · replace H := H.2 g3
    refine tr_skip ?_
    refine tr_thenN ?_
    refine tr_seq ?_
    refine tr_region ?_
    refine tr_p (y_move rfl) rfl rfl ?_
    refine tr_e (e_call Try.call12 rfl (F.spatelaw5_open_ok H)) rfl rfl ?_
    rintro _ h4 ⟨r5, rfl, H⟩
    refine tr_p (y_assign rfl) rfl rfl ?_
    refine tr_nil ?_
    refine tr_thenN ?_
    refine tr_seq ?_
    refine tr_region ?_
    refine tr_p (y_move rfl) rfl rfl ?_
    refine tr_e (e_call Try.call13 rfl (F.spatelaw5_held_ok H)) rfl rfl ?_
    rintro _ h6 ⟨r7, rfl, H⟩
    refine tr_p (y_assign rfl) rfl rfl ?_
    refine tr_nil ?_
    refine tr_thenN ?_
    refine tr_seq ?_
    refine tr_region ?_
    refine tr_p (y_move rfl) rfl rfl ?_
    refine tr_e (e_call Try.call14 rfl (F.chain_Chain_int_Newest_ok H)) rfl rfl ?_
    rintro _ h8 ⟨r9, r10, r11, rfl, H⟩
    refine tr_p (y_move rfl) rfl rfl ?_
    refine tr_p (y_ext rfl rfl) rfl rfl ?_
    refine tr_p (y_ext rfl rfl) rfl rfl ?_
    refine tr_p (y_ext rfl rfl) rfl rfl ?_
    refine tr_p (y_assign rfl) rfl rfl ?_
    refine tr_p (y_assign rfl) rfl rfl ?_
    refine tr_p (y_assign rfl) rfl rfl ?_
    refine tr_nil ?_
    refine tr_thenN ?_
    refine tr_seq ?_
    refine tr_region ?_
    refine tr_p (y_move rfl) rfl rfl ?_
    refine tr_p (y_move rfl) rfl rfl ?_
    refine tr_p (y_add rfl rfl) rfl rfl ?_
    refine tr_e (f_buildL (cs := #[(.int .i64 r10), (.int .i64 (IntKind.wrap .i64 (r10 + 1))), (.int .i64 1125899906842624)]) rfl rfl (bl_24_3_0_1_2 r10 (IntKind.wrap .i64 (r10 + 1)) 1125899906842624) H) rfl rfl ?_
    rintro _ h12 ⟨s13, rfl, H⟩
    refine tr_p (y_move rfl) rfl rfl ?_
    refine tr_e (f_app rfl H) rfl rfl ?_
    rintro _ h14 ⟨s15, rfl, H⟩
    refine tr_p (y_assign rfl) rfl rfl ?_
    refine tr_nil ?_
    refine tr_thenN ?_
    refine tr_seq ?_
    refine tr_region ?_
    refine tr_p (y_move rfl) rfl rfl ?_
    refine tr_p (y_move rfl) rfl rfl ?_
    refine tr_e (e_call Try.call15 rfl (F.spatelaw5_at_ok H)) rfl rfl ?_
    rintro _ h16 ⟨r17, rfl, H⟩
    refine tr_p (y_assign rfl) rfl rfl ?_
    refine tr_nil ?_
    refine tr_thenN ?_
    refine tr_seq ?_
    refine tr_region ?_
    refine tr_p (y_move rfl) rfl rfl ?_
    refine tr_e (e_call Try.call16 rfl (F.chain_Chain_int_Len_ok H)) rfl rfl ?_
    rintro _ h18 ⟨r19, rfl, H⟩
    refine tr_p (y_assign rfl) rfl rfl ?_
    refine tr_nil ?_
    refine tr_thenN ?_
    refine tr_seq ?_
    refine tr_region ?_
    refine tr_p (y_move rfl) rfl rfl ?_
    refine tr_p (y_move rfl) rfl rfl ?_
    refine tr_e (e_call Try.call17 rfl (F.chain_Chain_int_Prune_ok H)) rfl rfl ?_
    rintro _ h20 ⟨r21, rfl, H⟩
    refine tr_p (y_assign rfl) rfl rfl ?_
    refine tr_nil ?_
    refine tr_thenN ?_
    refine tr_seq_j (fun L' h => ∃ (x1 : Sl) (x5 : Option Addr) (x7 : Int), L' = [(1, x1.enc), (5, (.pointer x5)), (7, (.int .i64 x7))] ∧ F.spatelaw5_ChainPrunes.j1 Q x1 x5 x7 h) ?_ ?_
    · rintro L' h ⟨x1, x5, x7, rfl, H⟩
      unfold F.spatelaw5_ChainPrunes.j1 at H
      refine tr_seq ?_
      refine tr_region ?_
      refine tr_p (y_move rfl) rfl rfl ?_
      refine tr_e (e_call Try.call20 rfl (F.spatelaw5_epochs_ok H)) rfl rfl ?_
      rintro _ h22 ⟨r23, rfl, H⟩
      refine tr_p (y_assign rfl) rfl rfl ?_
      refine tr_nil ?_
      refine tr_thenN ?_
      refine tr_seq ?_
      refine tr_seq ?_
      refine tr_region ?_
      refine tr_p (y_assign rfl) rfl rfl ?_
      refine tr_nil ?_
      refine tr_thenN ?_
      refine tr_block ?_
      obtain ⟨m53, H⟩ := H
      refine tr_sub [(1, x1.enc), (5, (.pointer x5)), (7, (.int .i64 x7)), (13, r23.enc), (14, (.int .i64 0))] ⟨rfl, rfl, rfl, rfl, rfl, trivial⟩ ?_
      refine tr_loop_j (fun m L' h => ∃ (x1 : Sl) (x5 : Option Addr) (x7 : Int) (x13 : Sl) (x14 : Int), L' = [(1, x1.enc), (5, (.pointer x5)), (7, (.int .i64 x7)), (13, x13.enc), (14, (.int .i64 x14))] ∧ F.spatelaw5_ChainPrunes.l2 Q m x1 x5 x7 x13 x14 h) ?_ ?_ m53 ⟨_, _, _, _, _, rfl, H⟩
      · rintro L' h ⟨_, _, _, _, _, _, H⟩; exact H
      · rintro q2 L' h ⟨x1, x5, x7, x13, x14, rfl, H⟩
        unfold F.spatelaw5_ChainPrunes.l2 at H
        refine tr_seq ?_
        refine tr_seq ?_
        refine tr_region ?_
        refine tr_p (y_move rfl) rfl rfl ?_
        refine tr_p (y_move rfl) rfl rfl ?_
        refine tr_p (y_len (ts := #[]) Try.runUnderlying24 (o := x13.ptr) (n := x13.len) (cap := x13.cap) rfl) rfl rfl ?_
        refine tr_p (y_lss rfl rfl) rfl rfl ?_
        refine tr_nil ?_
        refine tr_thenN ?_
        refine tr_cond rfl (fun g24 => ?_) (fun g24 => ?_)
        · replace H := H.1 g24
          refine tr_skip ?_
          refine tr_thenN ?_
          refine tr_seq_j (fun L' h => ∃ (x1 : Sl) (x5 : Option Addr) (x7 : Int) (x13 : Sl) (x14 : Int), L' = [(1, x1.enc), (5, (.pointer x5)), (7, (.int .i64 x7)), (13, x13.enc), (14, (.int .i64 x14))] ∧ F.spatelaw5_ChainPrunes.j3 Q (F.spatelaw5_ChainPrunes.l2 Q q2) x1 x5 x7 x13 x14 h) ?_ ?_
          · rintro L' h ⟨x1, x5, x7, x13, x14, rfl, H⟩
            unfold F.spatelaw5_ChainPrunes.j3 at H
            refine tr_region ?_
            refine tr_p (y_move rfl) rfl rfl ?_
            refine tr_p (y_add rfl rfl) rfl rfl ?_
            refine tr_p (y_assign rfl) rfl rfl ?_
            refine tr_nil ?_
            refine tr_thenN ?_
            exact tr_join [(1, x1.enc), (5, (.pointer x5)), (7, (.int .i64 x7)), (13, x13.enc), (14, (.int .i64 (IntKind.wrap .i64 (x14 + 1))))] ⟨rfl, rfl, rfl, rfl, rfl, trivial⟩ ⟨_, _, _, _, _, rfl, H⟩
          · refine tr_block ?_
            refine tr_seq_j (fun L' h => ∃ (x1 : Sl) (x5 : Option Addr) (x7 : Int) (x13 : Sl) (x14 : Int) (x102 : Bool), L' = [(1, x1.enc), (5, (.pointer x5)), (7, (.int .i64 x7)), (13, x13.enc), (14, (.int .i64 x14)), (102, (.bool x102))] ∧ F.spatelaw5_ChainPrunes.j4 Q (F.spatelaw5_ChainPrunes.l2 Q q2) x1 x5 x7 x13 x14 x102 h) ?_ ?_
            · rintro L' h ⟨x1, x5, x7, x13, x14, x102, rfl, H⟩
              unfold F.spatelaw5_ChainPrunes.j4 at H
              refine tr_cond rfl (fun g25 => ?_) (fun g25 => ?_)
              · replace H := H.1 g25
                refine tr_seq ?_
                refine tr_region ?_
                refine tr_p (y_assign rfl) rfl rfl ?_
                refine tr_nil ?_
                refine tr_thenN ?_
                refine tr_ret ?_
                refine tr_blockR ?_
                refine tr_thenR ?_
                refine tr_thenR ?_
                refine tr_blockR ?_
                refine tr_thenR ?_
                exact tr_ret1 rfl rfl ⟨_, rfl, H⟩
              · replace H := H.2 g25
                refine tr_skip ?_
                refine tr_blockN ?_
                refine tr_thenN ?_
                exact tr_join [(1, x1.enc), (5, (.pointer x5)), (7, (.int .i64 x7)), (13, x13.enc), (14, (.int .i64 x14))] ⟨rfl, rfl, rfl, rfl, rfl, trivial⟩ ⟨_, _, _, _, _, rfl, H⟩
            · refine tr_draw mixed [0, 0, 3, 7, 0, 31, 63, 127, 127, 383, 895, 2047, 4095, 8191, 8191, 32767, 65535, 8191, 8191, 270335, 925695, 1974271, 4194303, 8388607, 16777215] (by kernel_rfl) ?_
              refine g_p 0 1 rfl (by kernel_rfl) (y_move rfl) rfl rfl ?_
              refine g_p 1 3 rfl (by kernel_rfl) (y_move rfl) rfl rfl ?_
              obtain ⟨a26, e27, H⟩ := H
              refine g_p 2 7 rfl (by kernel_rfl) (f_idx (s := x13) Try.runUnderlying24 Try.sizeOf3 rfl rfl e27) rfl rfl ?_
              obtain ⟨y28, k29, H⟩ := H
              refine g_h 3 15 rfl (by kernel_rfl) (y_ld Try.isAgg3 rfl) k29 rfl rfl ?_
              refine g_p 4 31 rfl (by kernel_rfl) (y_move rfl) rfl rfl ?_
              refine g_p 5 63 rfl (by kernel_rfl) (y_gtr rfl rfl) rfl rfl ?_
              refine g_p 6 127 rfl (by kernel_rfl) (y_move rfl) rfl rfl ?_
              refine g_split (t := 84) rfl (fun g30 => ?_) (fun g30 => ?_)
              · replace H := H.1 g30
                refine g_s 7 255 rfl (by kernel_rfl) rfl rfl ?_
                refine g_s 8 511 rfl (by kernel_rfl) rfl rfl ?_
                refine g_s 9 1023 rfl (by kernel_rfl) rfl rfl ?_
                refine g_s 10 2047 rfl (by kernel_rfl) rfl rfl ?_
                refine g_s 11 4095 rfl (by kernel_rfl) rfl rfl ?_
                refine g_s 12 8191 rfl (by kernel_rfl) rfl rfl ?_
                refine g_s 13 16383 rfl (by kernel_rfl) rfl rfl ?_
                refine g_s 14 32767 rfl (by kernel_rfl) rfl rfl ?_
                refine g_s 15 65535 rfl (by kernel_rfl) rfl rfl ?_
                refine g_s 16 131071 rfl (by kernel_rfl) rfl rfl ?_
                refine g_s 17 262143 rfl (by kernel_rfl) rfl rfl ?_
                refine g_s 18 524287 rfl (by kernel_rfl) rfl rfl ?_
                refine g_s 19 1048575 rfl (by kernel_rfl) rfl rfl ?_
                refine g_s 20 2097151 rfl (by kernel_rfl) rfl rfl ?_
                refine g_s 21 4194303 rfl (by kernel_rfl) rfl rfl ?_
                refine g_s 22 8388607 rfl (by kernel_rfl) rfl rfl ?_
                refine g_s 23 16777215 rfl (by kernel_rfl) rfl rfl ?_
                refine g_p 24 33554431 rfl (by kernel_rfl) (y_pick_t rfl rfl) rfl rfl ?_
                refine g_d (by kernel_rfl) ?_
                refine tr_thenN ?_
                exact tr_join [(1, x1.enc), (5, (.pointer x5)), (7, (.int .i64 x7)), (13, x13.enc), (14, (.int .i64 x14)), (102, (.bool true))] ⟨rfl, rfl, rfl, rfl, rfl, rfl, trivial⟩ ⟨_, _, _, _, _, _, rfl, H⟩
              · replace H := H.2 g30
                refine g_p 7 255 rfl (by kernel_rfl) (y_move rfl) rfl rfl ?_
                refine g_p 8 511 rfl (by kernel_rfl) (y_move rfl) rfl rfl ?_
                refine g_p 9 1023 rfl (by kernel_rfl) (y_len (ts := #[]) Try.runUnderlying24 (o := x13.ptr) (n := x13.len) (cap := x13.cap) rfl) rfl rfl ?_
                refine g_p 10 2047 rfl (by kernel_rfl) (y_sub rfl rfl) rfl rfl ?_
                refine g_p 11 4095 rfl (by kernel_rfl) (y_lss rfl rfl) rfl rfl ?_
                refine g_p 12 8191 rfl (by kernel_rfl) (y_move rfl) rfl rfl ?_
                refine g_split (t := 90) rfl (fun g31 => ?_) (fun g31 => ?_)
                · replace H := H.1 g31
                  refine g_p 13 16383 rfl (by kernel_rfl) (y_move rfl) rfl rfl ?_
                  refine g_p 14 32767 rfl (by kernel_rfl) (y_move rfl) rfl rfl ?_
                  obtain ⟨a32, e33, H⟩ := H
                  refine g_p 15 65535 rfl (by kernel_rfl) (f_idx (s := x13) Try.runUnderlying24 Try.sizeOf3 rfl rfl e33) rfl rfl ?_
                  obtain ⟨y34, k35, H⟩ := H
                  refine g_h 16 131071 rfl (by kernel_rfl) (y_ld Try.isAgg3 rfl) k35 rfl rfl ?_
                  refine g_p 17 262143 rfl (by kernel_rfl) (y_move rfl) rfl rfl ?_
                  refine g_p 18 524287 rfl (by kernel_rfl) (y_move rfl) rfl rfl ?_
                  refine g_p 19 1048575 rfl (by kernel_rfl) (y_add rfl rfl) rfl rfl ?_
                  obtain ⟨a36, e37, H⟩ := H
                  refine g_p 20 2097151 rfl (by kernel_rfl) (f_idx (s := x13) Try.runUnderlying24 Try.sizeOf3 rfl rfl e37) rfl rfl ?_
                  obtain ⟨y38, k39, H⟩ := H
                  refine g_h 21 4194303 rfl (by kernel_rfl) (y_ld Try.isAgg3 rfl) k39 rfl rfl ?_
                  refine g_p 22 8388607 rfl (by kernel_rfl) (y_geq rfl rfl) rfl rfl ?_
                  refine g_p 23 16777215 rfl (by kernel_rfl) (y_pick_t rfl rfl) rfl rfl ?_
                  refine g_p 24 33554431 rfl (by kernel_rfl) (y_pick_f rfl rfl) rfl rfl ?_
                  refine g_d (by kernel_rfl) ?_
                  refine tr_thenN ?_
                  exact tr_join [(1, x1.enc), (5, (.pointer x5)), (7, (.int .i64 x7)), (13, x13.enc), (14, (.int .i64 x14)), (102, (.bool (decide (y34 ≥ y38))))] ⟨rfl, rfl, rfl, rfl, rfl, rfl, trivial⟩ ⟨_, _, _, _, _, _, rfl, H⟩
                · replace H := H.2 g31
                  refine g_s 13 16383 rfl (by kernel_rfl) rfl rfl ?_
                  refine g_s 14 32767 rfl (by kernel_rfl) rfl rfl ?_
                  refine g_s 15 65535 rfl (by kernel_rfl) rfl rfl ?_
                  refine g_s 16 131071 rfl (by kernel_rfl) rfl rfl ?_
                  refine g_s 17 262143 rfl (by kernel_rfl) rfl rfl ?_
                  refine g_s 18 524287 rfl (by kernel_rfl) rfl rfl ?_
                  refine g_s 19 1048575 rfl (by kernel_rfl) rfl rfl ?_
                  refine g_s 20 2097151 rfl (by kernel_rfl) rfl rfl ?_
                  refine g_s 21 4194303 rfl (by kernel_rfl) rfl rfl ?_
                  refine g_s 22 8388607 rfl (by kernel_rfl) rfl rfl ?_
                  refine g_p 23 16777215 rfl (by kernel_rfl) (y_pick_f rfl rfl) rfl rfl ?_
                  refine g_p 24 33554431 rfl (by kernel_rfl) (y_pick_f rfl rfl) rfl rfl ?_
                  refine g_d (by kernel_rfl) ?_
                  refine tr_thenN ?_
                  exact tr_join [(1, x1.enc), (5, (.pointer x5)), (7, (.int .i64 x7)), (13, x13.enc), (14, (.int .i64 x14)), (102, (.bool false))] ⟨rfl, rfl, rfl, rfl, rfl, rfl, trivial⟩ ⟨_, _, _, _, _, _, rfl, H⟩
        · replace H := H.2 g24
          refine tr_exit ?_
          refine tr_thenE ?_
          refine tr_thenE ?_
          refine tr_hit ?_
          refine tr_thenN ?_
          refine tr_seq ?_
          refine tr_region ?_
          refine tr_p (y_move rfl) rfl rfl ?_
          refine tr_e (e_call Try.call14 rfl (F.chain_Chain_int_Newest_ok H)) rfl rfl ?_
          rintro _ h40 ⟨r41, r42, r43, rfl, H⟩
          refine tr_p (y_move rfl) rfl rfl ?_
          refine tr_p (y_ext rfl rfl) rfl rfl ?_
          refine tr_p (y_ext rfl rfl) rfl rfl ?_
          refine tr_p (y_ext rfl rfl) rfl rfl ?_
          refine tr_p (y_assign rfl) rfl rfl ?_
          refine tr_p (y_assign rfl) rfl rfl ?_
          refine tr_p (y_assign rfl) rfl rfl ?_
          refine tr_nil ?_
          refine tr_thenN ?_
          refine tr_seq_j (fun L' h => ∃ (x1 : Sl) (x5 : Option Addr), L' = [(1, x1.enc), (5, (.pointer x5))] ∧ F.spatelaw5_ChainPrunes.j5 Q x1 x5 h) ?_ ?_
          · rintro L' h ⟨x1, x5, rfl, H⟩
            unfold F.spatelaw5_ChainPrunes.j5 at H
            refine tr_seq ?_
            refine tr_region ?_
            refine tr_p (y_move rfl) rfl rfl ?_
            refine tr_p (y_move rfl) rfl rfl ?_
            refine tr_e (e_call Try.call17 rfl (F.chain_Chain_int_Prune_ok H)) rfl rfl ?_
            rintro _ h44 ⟨r45, rfl, H⟩
            refine tr_p (y_eql rfl rfl) rfl rfl ?_
            refine tr_p (y_move rfl) rfl rfl ?_
            refine tr_split (t := 120) rfl (fun g46 => ?_) (fun g46 => ?_)
            · replace H := H.1 g46
              refine tr_p (y_move rfl) rfl rfl ?_
              refine tr_e (e_call Try.call20 rfl (F.spatelaw5_epochs_ok H)) rfl rfl ?_
              rintro _ h47 ⟨r48, rfl, H⟩
              refine tr_p (y_len (ts := #[]) Try.runUnderlying24 (o := r48.ptr) (n := r48.len) (cap := r48.cap) rfl) rfl rfl ?_
              refine tr_p (y_move rfl) rfl rfl ?_
              refine tr_e (e_call Try.call16 rfl (F.chain_Chain_int_Len_ok H)) rfl rfl ?_
              rintro _ h49 ⟨r50, rfl, H⟩
              refine tr_p (y_eql rfl rfl) rfl rfl ?_
              refine tr_p (y_pick_t rfl rfl) rfl rfl ?_
              refine tr_p (y_assign rfl) rfl rfl ?_
              refine tr_nil ?_
              refine tr_thenN ?_
              refine tr_ret ?_
              exact tr_ret1 rfl rfl ⟨_, rfl, H⟩
            · replace H := H.2 g46
              refine tr_s rfl rfl ?_
              refine tr_s rfl rfl ?_
              refine tr_s rfl rfl ?_
              refine tr_s rfl rfl ?_
              refine tr_s rfl rfl ?_
              refine tr_s rfl rfl ?_
              refine tr_p (y_pick_f rfl rfl) rfl rfl ?_
              refine tr_p (y_assign rfl) rfl rfl ?_
              refine tr_nil ?_
              refine tr_thenN ?_
              refine tr_ret ?_
              exact tr_ret1 rfl rfl ⟨_, rfl, H⟩
          · refine tr_seq_j (fun L' h => ∃ (x1 : Sl) (x5 : Option Addr) (x115 : Bool), L' = [(1, x1.enc), (5, (.pointer x5)), (115, (.bool x115))] ∧ F.spatelaw5_ChainPrunes.j6 Q x1 x5 x115 h) ?_ ?_
            · rintro L' h ⟨x1, x5, x115, rfl, H⟩
              unfold F.spatelaw5_ChainPrunes.j6 at H
              refine tr_cond rfl (fun g51 => ?_) (fun g51 => ?_)
              · replace H := H.1 g51
                refine tr_seq ?_
                refine tr_region ?_
                refine tr_p (y_assign rfl) rfl rfl ?_
                refine tr_nil ?_
                refine tr_thenN ?_
                refine tr_ret ?_
                refine tr_thenR ?_
                exact tr_ret1 rfl rfl ⟨_, rfl, H⟩
              · replace H := H.2 g51
                refine tr_skip ?_
                refine tr_thenN ?_
                exact tr_join [(1, x1.enc), (5, (.pointer x5))] ⟨rfl, rfl, trivial⟩ ⟨_, _, rfl, H⟩
            · refine tr_region ?_
              refine tr_p (y_move rfl) rfl rfl ?_
              refine tr_p (y_len (ts := #[]) Try.runUnderlying24 (o := x13.ptr) (n := x13.len) (cap := x13.cap) rfl) rfl rfl ?_
              refine tr_p (y_eql rfl rfl) rfl rfl ?_
              refine tr_p (y_move rfl) rfl rfl ?_
              refine tr_split (t := 112) rfl (fun g52 => ?_) (fun g52 => ?_)
              · replace H := H.1 g52
                refine tr_p (y_move rfl) rfl rfl ?_
                refine tr_p (y_not rfl) rfl rfl ?_
                refine tr_p (y_pick_t rfl rfl) rfl rfl ?_
                refine tr_nil ?_
                refine tr_thenN ?_
                exact tr_join [(1, x1.enc), (5, (.pointer x5)), (115, (.bool (!r43)))] ⟨rfl, rfl, rfl, trivial⟩ ⟨_, _, _, rfl, H⟩
              · replace H := H.2 g52
                refine tr_s rfl rfl ?_
                refine tr_s rfl rfl ?_
                refine tr_p (y_pick_f rfl rfl) rfl rfl ?_
                refine tr_nil ?_
                refine tr_thenN ?_
                exact tr_join [(1, x1.enc), (5, (.pointer x5)), (115, (.bool false))] ⟨rfl, rfl, rfl, trivial⟩ ⟨_, _, _, rfl, H⟩
    · refine tr_seq_j (fun L' h => ∃ (x1 : Sl) (x5 : Option Addr) (x7 : Int) (x69 : Bool), L' = [(1, x1.enc), (5, (.pointer x5)), (7, (.int .i64 x7)), (69, (.bool x69))] ∧ F.spatelaw5_ChainPrunes.j7 Q x1 x5 x7 x69 h) ?_ ?_
      · rintro L' h ⟨x1, x5, x7, x69, rfl, H⟩
        unfold F.spatelaw5_ChainPrunes.j7 at H
        refine tr_cond rfl (fun g54 => ?_) (fun g54 => ?_)
        · replace H := H.1 g54
          refine tr_seq ?_
          refine tr_region ?_
          refine tr_p (y_assign rfl) rfl rfl ?_
          refine tr_nil ?_
          refine tr_thenN ?_
          refine tr_ret ?_
          refine tr_thenR ?_
          exact tr_ret1 rfl rfl ⟨_, rfl, H⟩
        · replace H := H.2 g54
          refine tr_skip ?_
          refine tr_thenN ?_
          exact tr_join [(1, x1.enc), (5, (.pointer x5)), (7, (.int .i64 x7))] ⟨rfl, rfl, rfl, trivial⟩ ⟨_, _, _, rfl, H⟩
      · refine tr_region ?_
        refine tr_p (y_move rfl) rfl rfl ?_
        refine tr_p (y_move rfl) rfl rfl ?_
        refine tr_e (e_call Try.call15 rfl (F.spatelaw5_at_ok H)) rfl rfl ?_
        rintro _ h55 ⟨r56, rfl, H⟩
        refine tr_p (y_move rfl) rfl rfl ?_
        refine tr_e (e_call Try.call18 rfl (F.spatelaw5_same_ok H)) rfl rfl ?_
        rintro _ h57 ⟨r58, rfl, H⟩
        refine tr_p (y_not rfl) rfl rfl ?_
        refine tr_p (y_move rfl) rfl rfl ?_
        refine tr_split (t := 50) rfl (fun g59 => ?_) (fun g59 => ?_)
        · replace H := H.1 g59
          refine tr_s rfl rfl ?_
          refine tr_s rfl rfl ?_
          refine tr_s rfl rfl ?_
          refine tr_s rfl rfl ?_
          refine tr_s rfl rfl ?_
          refine tr_s rfl rfl ?_
          refine tr_p (y_pick_t rfl rfl) rfl rfl ?_
          refine tr_p (y_move rfl) rfl rfl ?_
          refine tr_s rfl rfl ?_
          refine tr_s rfl rfl ?_
          refine tr_p (y_pick_t rfl rfl) rfl rfl ?_
          refine tr_p (y_move rfl) rfl rfl ?_
          refine tr_s rfl rfl ?_
          refine tr_s rfl rfl ?_
          refine tr_s rfl rfl ?_
          refine tr_s rfl rfl ?_
          refine tr_s rfl rfl ?_
          refine tr_s rfl rfl ?_
          refine tr_p (y_pick_t rfl rfl) rfl rfl ?_
          refine tr_nil ?_
          refine tr_thenN ?_
          exact tr_join [(1, r7.enc), (5, (.pointer r5)), (7, (.int .i64 r10)), (69, (.bool true))] ⟨rfl, rfl, rfl, rfl, trivial⟩ ⟨_, _, _, _, rfl, H⟩
        · replace H := H.2 g59
          refine tr_p (y_move rfl) rfl rfl ?_
          refine tr_e (e_call Try.call16 rfl (F.chain_Chain_int_Len_ok H)) rfl rfl ?_
          rintro _ h60 ⟨r61, rfl, H⟩
          refine tr_p (y_move rfl) rfl rfl ?_
          refine tr_p (y_move rfl) rfl rfl ?_
          refine tr_p (y_sub rfl rfl) rfl rfl ?_
          refine tr_p (y_neq rfl rfl) rfl rfl ?_
          refine tr_p (y_pick_f rfl rfl) rfl rfl ?_
          refine tr_p (y_move rfl) rfl rfl ?_
          refine tr_split (t := 58) rfl (fun g62 => ?_) (fun g62 => ?_)
          · replace H := H.1 g62
            refine tr_s rfl rfl ?_
            refine tr_s rfl rfl ?_
            refine tr_p (y_pick_t rfl rfl) rfl rfl ?_
            refine tr_p (y_move rfl) rfl rfl ?_
            refine tr_s rfl rfl ?_
            refine tr_s rfl rfl ?_
            refine tr_s rfl rfl ?_
            refine tr_s rfl rfl ?_
            refine tr_s rfl rfl ?_
            refine tr_s rfl rfl ?_
            refine tr_p (y_pick_t rfl rfl) rfl rfl ?_
            refine tr_nil ?_
            refine tr_thenN ?_
            exact tr_join [(1, r7.enc), (5, (.pointer r5)), (7, (.int .i64 r10)), (69, (.bool true))] ⟨rfl, rfl, rfl, rfl, trivial⟩ ⟨_, _, _, _, rfl, H⟩
          · replace H := H.2 g62
            refine tr_p (y_move rfl) rfl rfl ?_
            refine tr_p (y_lss rfl rfl) rfl rfl ?_
            refine tr_p (y_pick_f rfl rfl) rfl rfl ?_
            refine tr_p (y_move rfl) rfl rfl ?_
            refine tr_split (t := 62) rfl (fun g63 => ?_) (fun g63 => ?_)
            · replace H := H.1 g63
              refine tr_s rfl rfl ?_
              refine tr_s rfl rfl ?_
              refine tr_s rfl rfl ?_
              refine tr_s rfl rfl ?_
              refine tr_s rfl rfl ?_
              refine tr_s rfl rfl ?_
              refine tr_p (y_pick_t rfl rfl) rfl rfl ?_
              refine tr_nil ?_
              refine tr_thenN ?_
              exact tr_join [(1, r7.enc), (5, (.pointer r5)), (7, (.int .i64 r10)), (69, (.bool true))] ⟨rfl, rfl, rfl, rfl, trivial⟩ ⟨_, _, _, _, rfl, H⟩
            · replace H := H.2 g63
              refine tr_p (y_move rfl) rfl rfl ?_
              refine tr_e (e_call Try.call16 rfl (F.chain_Chain_int_Len_ok H)) rfl rfl ?_
              rintro _ h64 ⟨r65, rfl, H⟩
              refine tr_p (y_move rfl) rfl rfl ?_
              refine tr_e (e_call Try.call19 rfl (F.spatelaw5_unlike_ok H)) rfl rfl ?_
              rintro _ h66 ⟨r67, rfl, H⟩
              refine tr_p (y_add rfl rfl) rfl rfl ?_
              refine tr_p (y_gtr rfl rfl) rfl rfl ?_
              refine tr_p (y_pick_f rfl rfl) rfl rfl ?_
              refine tr_nil ?_
              refine tr_thenN ?_
              exact tr_join [(1, r7.enc), (5, (.pointer r5)), (7, (.int .i64 r10)), (69, (.bool (decide (r65 > (IntKind.wrap .i64 (r67 + 1))))))] ⟨rfl, rfl, rfl, rfl, trivial⟩ ⟨_, _, _, _, rfl, H⟩

def F.spatelaw5_ChainOlder.j5 (Q : Bool → H → Prop) (x2 : Int) (x3 : Bool) (x9 : Option Addr) (x14 : Int) (x15 : Sl) (x17 : Sl) (x18 : Int) (x19 : Int) (x20 : Int) (x21 : Int) (x22 : Bool) (x23 : Int) (x24 : Int) (x25 : Bool) (x26 : Int) (h : H) : Prop :=
  (((x20 == 0)) = true →
  (((x19 == x26)) = true →
  F.chain_Chain_int_Len x9 h fun r41 h40 =>
  (((r41 == (IntKind.wrap .i64 (x18 + x19)))) = true →
  F.spatelaw5_at x9 x15 h40 fun r44 h43 =>
  F.spatelaw5_same r44 x17 h43 fun r46 h45 =>
  (r46 = true →
  ((!(x22 == x3)) = true →
  ((!(x25 == x3)) = true →
  (((x24 == x14)) = true →
  (x3 = true →
  (((x21 == 0)) = true →
  (((x23 == 0)) = true →
  Q true h45) ∧
  (((x23 == 0)) = false →
  ((!x3) = true →
  (((x21 == x2)) = true →
  Q ((x23 == x2)) h45) ∧
  (((x21 == x2)) = false →
  Q false h45)) ∧
  ((!x3) = false →
  Q false h45))) ∧
  (((x21 == 0)) = false →
  ((!x3) = true →
  (((x21 == x2)) = true →
  Q ((x23 == x2)) h45) ∧
  (((x21 == x2)) = false →
  Q false h45)) ∧
  ((!x3) = false →
  Q false h45))) ∧
  (x3 = false →
  ((!x3) = true →
  (((x21 == x2)) = true →
  Q ((x23 == x2)) h45) ∧
  (((x21 == x2)) = false →
  Q false h45)) ∧
  ((!x3) = false →
  Q false h45))) ∧
  (((x24 == x14)) = false →
  Q false h45)) ∧
  ((!(x25 == x3)) = false →
  Q false h45)) ∧
  ((!(x22 == x3)) = false →
  Q false h45)) ∧
  (r46 = false →
  Q false h45)) ∧
  (((r41 == (IntKind.wrap .i64 (x18 + x19)))) = false →
  Q false h40)) ∧
  (((x19 == x26)) = false →
  Q false h)) ∧
  (((x20 == 0)) = false →
  Q false h)
def F.spatelaw5_ChainOlder.j4 (Q : Bool → H → Prop) (x2 : Int) (x3 : Bool) (x9 : Option Addr) (x12 : Int) (x14 : Int) (x15 : Sl) (x17 : Sl) (x18 : Int) (x19 : Int) (x20 : Int) (h : H) : Prop :=
  F.chain_Chain_int_At x9 x14 h fun r32 r33 h31 =>
  F.chain_Chain_int_Newest x9 h31 fun r35 r36 r37 h34 =>
  (((x14 == x12)) = true →
  F.spatelaw5_ChainOlder.j5 Q x2 x3 x9 x14 x15 x17 x18 x19 x20 r32 r33 r35 r36 r37 0 h34) ∧
  (((x14 == x12)) = false →
  F.spatelaw5_ChainOlder.j5 Q x2 x3 x9 x14 x15 x17 x18 x19 x20 r32 r33 r35 r36 r37 1 h34)
def F.spatelaw5_ChainOlder.j6 (Q : Bool → H → Prop) (x2 : Int) (x3 : Bool) (x9 : Option Addr) (x12 : Int) (x14 : Int) (x15 : Sl) (x17 : Sl) (x18 : Int) (x19 : Int) (x20 : Int) (x93 : Bool) (h : H) : Prop :=
  (x93 = true →
  (((x20 == 44)) = true →
  F.spatelaw5_at x9 x15 h fun r64 h63 =>
  F.spatelaw5_same r64 x17 h63 fun r66 h65 =>
  (r66 = true →
  F.chain_Chain_int_Len x9 h65 fun r69 h68 =>
  Q ((r69 == x18)) h68) ∧
  (r66 = false →
  Q false h65)) ∧
  (((x20 == 44)) = false →
  Q false h)) ∧
  (x93 = false →
  F.spatelaw5_ChainOlder.j4 Q x2 x3 x9 x12 x14 x15 x17 x18 x19 x20 h)
def F.spatelaw5_ChainOlder.j3 (Q : Bool → H → Prop) (x2 : Int) (x3 : Bool) (x9 : Option Addr) (x12 : Int) (x13 : Bool) (x14 : Int) (x15 : Sl) (x17 : Sl) (x18 : Int) (x19 : Int) (x20 : Int) (h : H) : Prop :=
  (x3 = true →
  F.spatelaw5_ChainOlder.j6 Q x2 x3 x9 x12 x14 x15 x17 x18 x19 x20 (!x13) h) ∧
  (x3 = false →
  F.spatelaw5_ChainOlder.j6 Q x2 x3 x9 x12 x14 x15 x17 x18 x19 x20 false h)
def F.spatelaw5_ChainOlder.j7 (Q : Bool → H → Prop) (x2 : Int) (x3 : Bool) (x9 : Option Addr) (x12 : Int) (x13 : Bool) (x14 : Int) (x15 : Sl) (x17 : Sl) (x18 : Int) (x19 : Int) (x20 : Int) (x86 : Bool) (h : H) : Prop :=
  (x86 = true →
  Q ((x20 == 1)) h) ∧
  (x86 = false →
  F.spatelaw5_ChainOlder.j3 Q x2 x3 x9 x12 x13 x14 x15 x17 x18 x19 x20 h)
def F.spatelaw5_ChainOlder.j2 (Q : Bool → H → Prop) (x2 : Int) (x3 : Bool) (x9 : Option Addr) (x12 : Int) (x13 : Bool) (x14 : Int) (x15 : Sl) (x17 : Sl) (x18 : Int) (x19 : Int) (x20 : Int) (h : H) : Prop :=
  ((decide (x14 < 1)) = true →
  F.spatelaw5_ChainOlder.j7 Q x2 x3 x9 x12 x13 x14 x15 x17 x18 x19 x20 true h) ∧
  ((decide (x14 < 1)) = false →
  F.spatelaw5_ChainOlder.j7 Q x2 x3 x9 x12 x13 x14 x15 x17 x18 x19 x20 (decide (x14 > 1099511627776)) h)
def F.spatelaw5_ChainOlder.l1 (Q : Bool → H → Prop) : Nat → Int → Bool → (Option Addr) → Sl → Int → Bool → Int → Sl → Int → H → Prop
  | 0, _, _, _, _, _, _, _, _, _, _ => False
  | q1 + 1, x2, x3, x9, x10, x12, x13, x14, x15, x16, h =>
    ((decide (x16 < (x10.len : Int))) = true →
    idxA x10 x16 1 fun a15 =>
    ldI .i64 h a15 fun y17 =>
    newL h #[(.int .i64 (IntKind.wrap .i64 (y17 - 1)))] ty_3 1 fun s20 h19 =>
    runL PP (Builtin.append_ #[24, 24] 24 #[x15.enc, s20.enc]) h19 fun s22 h21 =>
    (F.spatelaw5_ChainOlder.l1 Q q1) x2 x3 x9 x10 x12 x13 x14 s22 (IntKind.wrap .i64 (x16 + 1)) h21) ∧
    ((decide (x16 < (x10.len : Int))) = false →
    newL h #[(.int .i64 (IntKind.wrap .i64 (x14 - 1))), (.int .i64 0), (.int .i64 (-5))] ty_3 3 fun s24 h23 =>
    runL PP (Builtin.append_ #[24, 24] 24 #[x15.enc, s24.enc]) h23 fun s26 h25 =>
    F.spatelaw5_at x9 s26 h25 fun r28 h27 =>
    F.chain_Chain_int_Len x9 h27 fun r30 h29 =>
    (x3 = true →
    F.chain_Chain_int_Kill x9 x14 h29 fun r75 r76 h74 =>
    F.spatelaw5_ChainOlder.j2 Q x2 x3 x9 x12 x13 x14 s26 r28 r30 r75 r76 h74) ∧
    (x3 = false →
    F.chain_Chain_int_Put x9 x14 x2 h29 fun r78 r79 h77 =>
    F.spatelaw5_ChainOlder.j2 Q x2 x3 x9 x12 x13 x14 s26 r28 r30 r78 r79 h77))
/-- spate/spatelaw5.ChainOlder -/
def F.spatelaw5_ChainOlder (p0 : Sl) (p1 : Int) (p2 : Int) (p3 : Bool) (h : H) (Q : Bool → H → Prop) : Prop :=
  F.spatelaw5_known  h fun r2 h1 =>
  ((!r2) = true →
  Q false h1) ∧
  ((!r2) = false →
  F.spatelaw5_open p0 h1 fun r5 h4 =>
  F.spatelaw5_epochs r5 h4 fun r7 h6 =>
  F.chain_Chain_int_Newest r5 h6 fun r9 r10 r11 h8 =>
  F.spatelaw5_within p1 5 h8 fun r13 h12 =>
  ∃ m, F.spatelaw5_ChainOlder.l1 Q m p2 p3 r5 r7 r10 r11 (IntKind.wrap .i64 (r10 + r13)) (⟨none, 0, 0⟩ : Sl) 0 h12)
theorem F.spatelaw5_ChainOlder_ok {p0 : Sl} {p1 : Int} {p2 : Int} {p3 : Bool} {h : H} {Q : Bool → H → Prop} (H : F.spatelaw5_ChainOlder p0 p1 p2 p3 h Q) : Fn PP 5 ([p0.enc, (.int .i64 p1), (.int .i64 p2), (.bool p3)] : List Value).toArray h fun r h' => ∃ r0, r = (.bool r0) ∧ Q r0 h' := by
  unfold F.spatelaw5_ChainOlder at H
  refine fn_of Try.func5 Try.ntmps5 rfl rfl fun w0 => ?_
  refine tr_sub [(0, p0.enc), (1, (.int .i64 p1)), (2, (.int .i64 p2)), (3, (.bool p3))] ⟨rfl, rfl, rfl, rfl, trivial⟩ ?_
  refine tr_seq ?_
  refine tr_region ?_
  refine tr_p (y_assign rfl) rfl rfl ?_
  refine tr_nil ?_
  refine tr_thenN ?_
  refine tr_seq ?_
  refine tr_seq ?_
  refine tr_region ?_
  refine tr_e (e_call Try.call11 rfl (F.spatelaw5_known_ok H)) rfl rfl ?_
  rintro _ h1 ⟨r2, rfl, H⟩
  refine tr_p (y_not rfl) rfl rfl ?_
  refine tr_nil ?_
  refine tr_thenN ?_
  refine tr_cond rfl (fun g3 => ?_) (fun g3 => ?_)
  · replace H := H.1 g3
    refine tr_seq ?_
    refine tr_region ?_
    refine tr_p (y_assign rfl) rfl rfl ?_
    refine tr_nil ?_
    refine tr_thenN ?_
    refine tr_ret ?_
    refine tr_thenR ?_
    exact tr_ret1 rfl rfl ⟨_, rfl, H⟩
  · replace H := H.2 g3
    refine tr_skip ?_
    refine tr_thenN ?_
    refine tr_seq ?_
    refine tr_region ?_
    refine tr_p (y_move rfl) rfl rfl ?_
    refine tr_e (e_call Try.call12 rfl (F.spatelaw5_open_ok H)) rfl rfl ?_
    rintro _ h4 ⟨r5, rfl, H⟩
    refine tr_p (y_assign rfl) rfl rfl ?_
    refine tr_nil ?_
    refine tr_thenN ?_
    refine tr_seq ?_
    refine tr_region ?_
    refine tr_p (y_move rfl) rfl rfl ?_
    refine tr_e (e_call Try.call20 rfl (F.spatelaw5_epochs_ok H)) rfl rfl ?_
    rintro _ h6 ⟨r7, rfl, H⟩
    refine tr_p (y_assign rfl) rfl rfl ?_
    refine tr_nil ?_
    refine tr_thenN ?_
    refine tr_seq ?_
    refine tr_region ?_
    refine tr_p (y_move rfl) rfl rfl ?_
    refine tr_e (e_call Try.call14 rfl (F.chain_Chain_int_Newest_ok H)) rfl rfl ?_
    rintro _ h8 ⟨r9, r10, r11, rfl, H⟩
    refine tr_p (y_move rfl) rfl rfl ?_
    refine tr_p (y_ext rfl rfl) rfl rfl ?_
    refine tr_p (y_ext rfl rfl) rfl rfl ?_
    refine tr_p (y_ext rfl rfl) rfl rfl ?_
    refine tr_p (y_assign rfl) rfl rfl ?_
    refine tr_p (y_assign rfl) rfl rfl ?_
    refine tr_p (y_assign rfl) rfl rfl ?_
    refine tr_nil ?_
    refine tr_thenN ?_
    refine tr_seq ?_
    refine tr_region ?_
    refine tr_p (y_move rfl) rfl rfl ?_
    refine tr_p (y_move rfl) rfl rfl ?_
    refine tr_e (e_call Try.call21 rfl (F.spatelaw5_within_ok H)) rfl rfl ?_
    rintro _ h12 ⟨r13, rfl, H⟩
    refine tr_p (y_add rfl rfl) rfl rfl ?_
    refine tr_p (y_assign rfl) rfl rfl ?_
    refine tr_nil ?_
    refine tr_thenN ?_
    refine tr_seq ?_
    refine tr_region ?_
    refine tr_p (y_assign rfl) rfl rfl ?_
    refine tr_nil ?_
    refine tr_thenN ?_
    refine tr_seq ?_
    refine tr_seq ?_
    refine tr_region ?_
    refine tr_p (y_assign rfl) rfl rfl ?_
    refine tr_nil ?_
    refine tr_thenN ?_
    refine tr_block ?_
    obtain ⟨m80, H⟩ := H
    refine tr_sub [(2, (.int .i64 p2)), (3, (.bool p3)), (9, (.pointer r5)), (10, r7.enc), (12, (.int .i64 r10)), (13, (.bool r11)), (14, (.int .i64 (IntKind.wrap .i64 (r10 + r13)))), (15, (⟨none, 0, 0⟩ : Sl).enc), (16, (.int .i64 0))] ⟨rfl, rfl, rfl, rfl, rfl, rfl, rfl, rfl, rfl, trivial⟩ ?_
    refine tr_loop_j (fun m L' h => ∃ (x2 : Int) (x3 : Bool) (x9 : Option Addr) (x10 : Sl) (x12 : Int) (x13 : Bool) (x14 : Int) (x15 : Sl) (x16 : Int), L' = [(2, (.int .i64 x2)), (3, (.bool x3)), (9, (.pointer x9)), (10, x10.enc), (12, (.int .i64 x12)), (13, (.bool x13)), (14, (.int .i64 x14)), (15, x15.enc), (16, (.int .i64 x16))] ∧ F.spatelaw5_ChainOlder.l1 Q m x2 x3 x9 x10 x12 x13 x14 x15 x16 h) ?_ ?_ m80 ⟨_, _, _, _, _, _, _, _, _, rfl, H⟩
    · rintro L' h ⟨_, _, _, _, _, _, _, _, _, _, H⟩; exact H
    · rintro q1 L' h ⟨x2, x3, x9, x10, x12, x13, x14, x15, x16, rfl, H⟩
      unfold F.spatelaw5_ChainOlder.l1 at H
      refine tr_seq ?_
      refine tr_seq ?_
      refine tr_region ?_
      refine tr_p (y_move rfl) rfl rfl ?_
      refine tr_p (y_move rfl) rfl rfl ?_
      refine tr_p (y_len (ts := #[]) Try.runUnderlying24 (o := x10.ptr) (n := x10.len) (cap := x10.cap) rfl) rfl rfl ?_
      refine tr_p (y_lss rfl rfl) rfl rfl ?_
      refine tr_nil ?_
      refine tr_thenN ?_
      refine tr_cond rfl (fun g14 => ?_) (fun g14 => ?_)
      · replace H := H.1 g14
        refine tr_skip ?_
        refine tr_thenN ?_
        refine tr_seq ?_
        refine tr_block ?_
        refine tr_region ?_
        refine tr_p (y_move rfl) rfl rfl ?_
        refine tr_p (y_move rfl) rfl rfl ?_
        refine tr_p (y_move rfl) rfl rfl ?_
        obtain ⟨a15, e16, H⟩ := H
        refine tr_p (f_idx (s := x10) Try.runUnderlying24 Try.sizeOf3 rfl rfl e16) rfl rfl ?_
        obtain ⟨y17, k18, H⟩ := H
        refine tr_h (y_ld Try.isAgg3 rfl) k18 rfl rfl ?_
        refine tr_p (y_sub rfl rfl) rfl rfl ?_
        refine tr_e (f_buildL (cs := #[(.int .i64 (IntKind.wrap .i64 (y17 - 1)))]) rfl rfl (bl_24_1_0 (IntKind.wrap .i64 (y17 - 1))) H) rfl rfl ?_
        rintro _ h19 ⟨s20, rfl, H⟩
        refine tr_e (f_app rfl H) rfl rfl ?_
        rintro _ h21 ⟨s22, rfl, H⟩
        refine tr_p (y_assign rfl) rfl rfl ?_
        refine tr_nil ?_
        refine tr_blockN ?_
        refine tr_thenN ?_
        refine tr_region ?_
        refine tr_p (y_move rfl) rfl rfl ?_
        refine tr_p (y_add rfl rfl) rfl rfl ?_
        refine tr_p (y_assign rfl) rfl rfl ?_
        refine tr_nil ?_
        refine tr_thenN ?_
        exact tr_join [(2, (.int .i64 x2)), (3, (.bool x3)), (9, (.pointer x9)), (10, x10.enc), (12, (.int .i64 x12)), (13, (.bool x13)), (14, (.int .i64 x14)), (15, s22.enc), (16, (.int .i64 (IntKind.wrap .i64 (x16 + 1))))] ⟨rfl, rfl, rfl, rfl, rfl, rfl, rfl, rfl, rfl, trivial⟩ ⟨_, _, _, _, _, _, _, _, _, rfl, H⟩
      · replace H := H.2 g14
        refine tr_exit ?_
        refine tr_thenE ?_
        refine tr_thenE ?_
        refine tr_hit ?_
        refine tr_thenN ?_
        refine tr_seq ?_
        refine tr_region ?_
        refine tr_p (y_move rfl) rfl rfl ?_
        refine tr_p (y_move rfl) rfl rfl ?_
        refine tr_p (y_sub rfl rfl) rfl rfl ?_
        refine tr_e (f_buildL (cs := #[(.int .i64 (IntKind.wrap .i64 (x14 - 1))), (.int .i64 0), (.int .i64 (-5))]) rfl rfl (bl_24_3_0_1_2 (IntKind.wrap .i64 (x14 - 1)) 0 (-5)) H) rfl rfl ?_
        rintro _ h23 ⟨s24, rfl, H⟩
        refine tr_e (f_app rfl H) rfl rfl ?_
        rintro _ h25 ⟨s26, rfl, H⟩
        refine tr_p (y_assign rfl) rfl rfl ?_
        refine tr_nil ?_
        refine tr_thenN ?_
        refine tr_seq ?_
        refine tr_region ?_
        refine tr_p (y_move rfl) rfl rfl ?_
        refine tr_p (y_move rfl) rfl rfl ?_
        refine tr_e (e_call Try.call15 rfl (F.spatelaw5_at_ok H)) rfl rfl ?_
        rintro _ h27 ⟨r28, rfl, H⟩
        refine tr_p (y_assign rfl) rfl rfl ?_
        refine tr_nil ?_
        refine tr_thenN ?_
        refine tr_seq ?_
        refine tr_region ?_
        refine tr_p (y_move rfl) rfl rfl ?_
        refine tr_e (e_call Try.call16 rfl (F.chain_Chain_int_Len_ok H)) rfl rfl ?_
        rintro _ h29 ⟨r30, rfl, H⟩
        refine tr_p (y_assign rfl) rfl rfl ?_
        refine tr_nil ?_
        refine tr_thenN ?_
        refine tr_seq ?_
        refine tr_region ?_
        refine tr_p (y_assign rfl) rfl rfl ?_
        refine tr_nil ?_
        refine tr_thenN ?_
        refine tr_seq ?_
        refine tr_region ?_
        refine tr_p (y_assign rfl) rfl rfl ?_
        refine tr_nil ?_
        refine tr_thenN ?_
        refine tr_seq_j (fun L' h => ∃ (x2 : Int) (x3 : Bool) (x9 : Option Addr) (x12 : Int) (x13 : Bool) (x14 : Int) (x15 : Sl) (x17 : Sl) (x18 : Int) (x19 : Int) (x20 : Int), L' = [(2, (.int .i64 x2)), (3, (.bool x3)), (9, (.pointer x9)), (12, (.int .i64 x12)), (13, (.bool x13)), (14, (.int .i64 x14)), (15, x15.enc), (17, x17.enc), (18, (.int .i64 x18)), (19, (.int .i64 x19)), (20, (.int .i64 x20))] ∧ F.spatelaw5_ChainOlder.j2 Q x2 x3 x9 x12 x13 x14 x15 x17 x18 x19 x20 h) ?_ ?_
        · rintro L' h ⟨x2, x3, x9, x12, x13, x14, x15, x17, x18, x19, x20, rfl, H⟩
          unfold F.spatelaw5_ChainOlder.j2 at H
          refine tr_seq_j (fun L' h => ∃ (x2 : Int) (x3 : Bool) (x9 : Option Addr) (x12 : Int) (x13 : Bool) (x14 : Int) (x15 : Sl) (x17 : Sl) (x18 : Int) (x19 : Int) (x20 : Int), L' = [(2, (.int .i64 x2)), (3, (.bool x3)), (9, (.pointer x9)), (12, (.int .i64 x12)), (13, (.bool x13)), (14, (.int .i64 x14)), (15, x15.enc), (17, x17.enc), (18, (.int .i64 x18)), (19, (.int .i64 x19)), (20, (.int .i64 x20))] ∧ F.spatelaw5_ChainOlder.j3 Q x2 x3 x9 x12 x13 x14 x15 x17 x18 x19 x20 h) ?_ ?_
          · rintro L' h ⟨x2, x3, x9, x12, x13, x14, x15, x17, x18, x19, x20, rfl, H⟩
            unfold F.spatelaw5_ChainOlder.j3 at H
            refine tr_seq_j (fun L' h => ∃ (x2 : Int) (x3 : Bool) (x9 : Option Addr) (x12 : Int) (x14 : Int) (x15 : Sl) (x17 : Sl) (x18 : Int) (x19 : Int) (x20 : Int), L' = [(2, (.int .i64 x2)), (3, (.bool x3)), (9, (.pointer x9)), (12, (.int .i64 x12)), (14, (.int .i64 x14)), (15, x15.enc), (17, x17.enc), (18, (.int .i64 x18)), (19, (.int .i64 x19)), (20, (.int .i64 x20))] ∧ F.spatelaw5_ChainOlder.j4 Q x2 x3 x9 x12 x14 x15 x17 x18 x19 x20 h) ?_ ?_
            · rintro L' h ⟨x2, x3, x9, x12, x14, x15, x17, x18, x19, x20, rfl, H⟩
              unfold F.spatelaw5_ChainOlder.j4 at H
              refine tr_seq ?_
              refine tr_region ?_
              refine tr_p (y_move rfl) rfl rfl ?_
              refine tr_p (y_move rfl) rfl rfl ?_
              refine tr_e (e_call Try.call24 rfl (F.chain_Chain_int_At_ok H)) rfl rfl ?_
              rintro _ h31 ⟨r32, r33, rfl, H⟩
              refine tr_p (y_move rfl) rfl rfl ?_
              refine tr_p (y_ext rfl rfl) rfl rfl ?_
              refine tr_p (y_ext rfl rfl) rfl rfl ?_
              refine tr_p (y_assign rfl) rfl rfl ?_
              refine tr_p (y_assign rfl) rfl rfl ?_
              refine tr_nil ?_
              refine tr_thenN ?_
              refine tr_seq ?_
              refine tr_region ?_
              refine tr_p (y_move rfl) rfl rfl ?_
              refine tr_e (e_call Try.call14 rfl (F.chain_Chain_int_Newest_ok H)) rfl rfl ?_
              rintro _ h34 ⟨r35, r36, r37, rfl, H⟩
              refine tr_p (y_move rfl) rfl rfl ?_
              refine tr_p (y_ext rfl rfl) rfl rfl ?_
              refine tr_p (y_ext rfl rfl) rfl rfl ?_
              refine tr_p (y_ext rfl rfl) rfl rfl ?_
              refine tr_p (y_assign rfl) rfl rfl ?_
              refine tr_p (y_assign rfl) rfl rfl ?_
              refine tr_p (y_assign rfl) rfl rfl ?_
              refine tr_nil ?_
              refine tr_thenN ?_
              refine tr_seq ?_
              refine tr_region ?_
              refine tr_p (y_assign rfl) rfl rfl ?_
              refine tr_nil ?_
              refine tr_thenN ?_
              refine tr_seq_j (fun L' h => ∃ (x2 : Int) (x3 : Bool) (x9 : Option Addr) (x14 : Int) (x15 : Sl) (x17 : Sl) (x18 : Int) (x19 : Int) (x20 : Int) (x21 : Int) (x22 : Bool) (x23 : Int) (x24 : Int) (x25 : Bool) (x26 : Int), L' = [(2, (.int .i64 x2)), (3, (.bool x3)), (9, (.pointer x9)), (14, (.int .i64 x14)), (15, x15.enc), (17, x17.enc), (18, (.int .i64 x18)), (19, (.int .i64 x19)), (20, (.int .i64 x20)), (21, (.int .i64 x21)), (22, (.bool x22)), (23, (.int .i64 x23)), (24, (.int .i64 x24)), (25, (.bool x25)), (26, (.int .i64 x26))] ∧ F.spatelaw5_ChainOlder.j5 Q x2 x3 x9 x14 x15 x17 x18 x19 x20 x21 x22 x23 x24 x25 x26 h) ?_ ?_
              · rintro L' h ⟨x2, x3, x9, x14, x15, x17, x18, x19, x20, x21, x22, x23, x24, x25, x26, rfl, H⟩
                unfold F.spatelaw5_ChainOlder.j5 at H
                refine tr_seq ?_
                refine tr_region ?_
                refine tr_p (y_move rfl) rfl rfl ?_
                refine tr_p (y_eql rfl rfl) rfl rfl ?_
                refine tr_p (y_move rfl) rfl rfl ?_
                refine tr_split (t := 126) rfl (fun g38 => ?_) (fun g38 => ?_)
                · replace H := H.1 g38
                  refine tr_p (y_move rfl) rfl rfl ?_
                  refine tr_p (y_move rfl) rfl rfl ?_
                  refine tr_p (y_eql rfl rfl) rfl rfl ?_
                  refine tr_p (y_pick_t rfl rfl) rfl rfl ?_
                  refine tr_p (y_move rfl) rfl rfl ?_
                  refine tr_split (t := 131) rfl (fun g39 => ?_) (fun g39 => ?_)
                  · replace H := H.1 g39
                    refine tr_p (y_move rfl) rfl rfl ?_
                    refine tr_e (e_call Try.call16 rfl (F.chain_Chain_int_Len_ok H)) rfl rfl ?_
                    rintro _ h40 ⟨r41, rfl, H⟩
                    refine tr_p (y_move rfl) rfl rfl ?_
                    refine tr_p (y_move rfl) rfl rfl ?_
                    refine tr_p (y_add rfl rfl) rfl rfl ?_
                    refine tr_p (y_eql rfl rfl) rfl rfl ?_
                    refine tr_p (y_pick_t rfl rfl) rfl rfl ?_
                    refine tr_p (y_move rfl) rfl rfl ?_
                    refine tr_split (t := 139) rfl (fun g42 => ?_) (fun g42 => ?_)
                    · replace H := H.1 g42
                      refine tr_p (y_move rfl) rfl rfl ?_
                      refine tr_p (y_move rfl) rfl rfl ?_
                      refine tr_e (e_call Try.call15 rfl (F.spatelaw5_at_ok H)) rfl rfl ?_
                      rintro _ h43 ⟨r44, rfl, H⟩
                      refine tr_p (y_move rfl) rfl rfl ?_
                      refine tr_e (e_call Try.call18 rfl (F.spatelaw5_same_ok H)) rfl rfl ?_
                      rintro _ h45 ⟨r46, rfl, H⟩
                      refine tr_p (y_pick_t rfl rfl) rfl rfl ?_
                      refine tr_p (y_move rfl) rfl rfl ?_
                      refine tr_split (t := 146) rfl (fun g47 => ?_) (fun g47 => ?_)
                      · replace H := H.1 g47
                        refine tr_p (y_move rfl) rfl rfl ?_
                        refine tr_p (y_move rfl) rfl rfl ?_
                        refine tr_p (y_bneq Try.underlying4 rfl rfl) rfl rfl ?_
                        refine tr_p (y_pick_t rfl rfl) rfl rfl ?_
                        refine tr_p (y_move rfl) rfl rfl ?_
                        refine tr_split (t := 151) rfl (fun g48 => ?_) (fun g48 => ?_)
                        · replace H := H.1 g48
                          refine tr_p (y_move rfl) rfl rfl ?_
                          refine tr_p (y_move rfl) rfl rfl ?_
                          refine tr_p (y_bneq Try.underlying4 rfl rfl) rfl rfl ?_
                          refine tr_p (y_pick_t rfl rfl) rfl rfl ?_
                          refine tr_p (y_move rfl) rfl rfl ?_
                          refine tr_split (t := 156) rfl (fun g49 => ?_) (fun g49 => ?_)
                          · replace H := H.1 g49
                            refine tr_p (y_move rfl) rfl rfl ?_
                            refine tr_p (y_move rfl) rfl rfl ?_
                            refine tr_p (y_eql rfl rfl) rfl rfl ?_
                            refine tr_p (y_pick_t rfl rfl) rfl rfl ?_
                            refine tr_p (y_move rfl) rfl rfl ?_
                            refine tr_split (t := 161) rfl (fun g50 => ?_) (fun g50 => ?_)
                            · replace H := H.1 g50
                              refine tr_p (y_move rfl) rfl rfl ?_
                              refine tr_p (y_move rfl) rfl rfl ?_
                              refine tr_split (t := 163) rfl (fun g51 => ?_) (fun g51 => ?_)
                              · replace H := H.1 g51
                                refine tr_p (y_move rfl) rfl rfl ?_
                                refine tr_p (y_eql rfl rfl) rfl rfl ?_
                                refine tr_p (y_pick_t rfl rfl) rfl rfl ?_
                                refine tr_p (y_move rfl) rfl rfl ?_
                                refine tr_split (t := 167) rfl (fun g52 => ?_) (fun g52 => ?_)
                                · replace H := H.1 g52
                                  refine tr_p (y_move rfl) rfl rfl ?_
                                  refine tr_p (y_eql rfl rfl) rfl rfl ?_
                                  refine tr_p (y_pick_t rfl rfl) rfl rfl ?_
                                  refine tr_p (y_move rfl) rfl rfl ?_
                                  refine tr_split (t := 171) rfl (fun g53 => ?_) (fun g53 => ?_)
                                  · replace H := H.1 g53
                                    refine tr_s rfl rfl ?_
                                    refine tr_s rfl rfl ?_
                                    refine tr_s rfl rfl ?_
                                    refine tr_s rfl rfl ?_
                                    refine tr_s rfl rfl ?_
                                    refine tr_s rfl rfl ?_
                                    refine tr_s rfl rfl ?_
                                    refine tr_s rfl rfl ?_
                                    refine tr_s rfl rfl ?_
                                    refine tr_s rfl rfl ?_
                                    refine tr_s rfl rfl ?_
                                    refine tr_s rfl rfl ?_
                                    refine tr_p (y_pick_t rfl rfl) rfl rfl ?_
                                    refine tr_p (y_pick_t rfl rfl) rfl rfl ?_
                                    refine tr_p (y_assign rfl) rfl rfl ?_
                                    refine tr_nil ?_
                                    refine tr_thenN ?_
                                    refine tr_ret ?_
                                    exact tr_ret1 rfl rfl ⟨_, rfl, H⟩
                                  · replace H := H.2 g53
                                    refine tr_p (y_move rfl) rfl rfl ?_
                                    refine tr_p (y_not rfl) rfl rfl ?_
                                    refine tr_p (y_move rfl) rfl rfl ?_
                                    refine tr_split (t := 174) rfl (fun g54 => ?_) (fun g54 => ?_)
                                    · replace H := H.1 g54
                                      refine tr_p (y_move rfl) rfl rfl ?_
                                      refine tr_p (y_move rfl) rfl rfl ?_
                                      refine tr_p (y_eql rfl rfl) rfl rfl ?_
                                      refine tr_p (y_pick_t rfl rfl) rfl rfl ?_
                                      refine tr_p (y_move rfl) rfl rfl ?_
                                      refine tr_split (t := 179) rfl (fun g55 => ?_) (fun g55 => ?_)
                                      · replace H := H.1 g55
                                        refine tr_p (y_move rfl) rfl rfl ?_
                                        refine tr_p (y_move rfl) rfl rfl ?_
                                        refine tr_p (y_eql rfl rfl) rfl rfl ?_
                                        refine tr_p (y_pick_t rfl rfl) rfl rfl ?_
                                        refine tr_p (y_pick_f rfl rfl) rfl rfl ?_
                                        refine tr_p (y_pick_t rfl rfl) rfl rfl ?_
                                        refine tr_p (y_assign rfl) rfl rfl ?_
                                        refine tr_nil ?_
                                        refine tr_thenN ?_
                                        refine tr_ret ?_
                                        exact tr_ret1 rfl rfl ⟨_, rfl, H⟩
                                      · replace H := H.2 g55
                                        refine tr_s rfl rfl ?_
                                        refine tr_s rfl rfl ?_
                                        refine tr_s rfl rfl ?_
                                        refine tr_p (y_pick_f rfl rfl) rfl rfl ?_
                                        refine tr_p (y_pick_f rfl rfl) rfl rfl ?_
                                        refine tr_p (y_pick_t rfl rfl) rfl rfl ?_
                                        refine tr_p (y_assign rfl) rfl rfl ?_
                                        refine tr_nil ?_
                                        refine tr_thenN ?_
                                        refine tr_ret ?_
                                        exact tr_ret1 rfl rfl ⟨_, rfl, H⟩
                                    · replace H := H.2 g54
                                      refine tr_s rfl rfl ?_
                                      refine tr_s rfl rfl ?_
                                      refine tr_s rfl rfl ?_
                                      refine tr_p (y_pick_f rfl rfl) rfl rfl ?_
                                      refine tr_p (y_move rfl) rfl rfl ?_
                                      refine tr_s rfl rfl ?_
                                      refine tr_s rfl rfl ?_
                                      refine tr_s rfl rfl ?_
                                      refine tr_p (y_pick_f rfl rfl) rfl rfl ?_
                                      refine tr_p (y_pick_f rfl rfl) rfl rfl ?_
                                      refine tr_p (y_pick_t rfl rfl) rfl rfl ?_
                                      refine tr_p (y_assign rfl) rfl rfl ?_
                                      refine tr_nil ?_
                                      refine tr_thenN ?_
                                      refine tr_ret ?_
                                      exact tr_ret1 rfl rfl ⟨_, rfl, H⟩
                                · replace H := H.2 g52
                                  refine tr_s rfl rfl ?_
                                  refine tr_s rfl rfl ?_
                                  refine tr_p (y_pick_f rfl rfl) rfl rfl ?_
                                  refine tr_p (y_move rfl) rfl rfl ?_
                                  refine tr_p (y_move rfl) rfl rfl ?_
                                  refine tr_p (y_not rfl) rfl rfl ?_
                                  refine tr_p (y_move rfl) rfl rfl ?_
                                  refine tr_split (t := 174) rfl (fun g56 => ?_) (fun g56 => ?_)
                                  · replace H := H.1 g56
                                    refine tr_p (y_move rfl) rfl rfl ?_
                                    refine tr_p (y_move rfl) rfl rfl ?_
                                    refine tr_p (y_eql rfl rfl) rfl rfl ?_
                                    refine tr_p (y_pick_t rfl rfl) rfl rfl ?_
                                    refine tr_p (y_move rfl) rfl rfl ?_
                                    refine tr_split (t := 179) rfl (fun g57 => ?_) (fun g57 => ?_)
                                    · replace H := H.1 g57
                                      refine tr_p (y_move rfl) rfl rfl ?_
                                      refine tr_p (y_move rfl) rfl rfl ?_
                                      refine tr_p (y_eql rfl rfl) rfl rfl ?_
                                      refine tr_p (y_pick_t rfl rfl) rfl rfl ?_
                                      refine tr_p (y_pick_f rfl rfl) rfl rfl ?_
                                      refine tr_p (y_pick_t rfl rfl) rfl rfl ?_
                                      refine tr_p (y_assign rfl) rfl rfl ?_
                                      refine tr_nil ?_
                                      refine tr_thenN ?_
                                      refine tr_ret ?_
                                      exact tr_ret1 rfl rfl ⟨_, rfl, H⟩
                                    · replace H := H.2 g57
                                      refine tr_s rfl rfl ?_
                                      refine tr_s rfl rfl ?_
                                      refine tr_s rfl rfl ?_
                                      refine tr_p (y_pick_f rfl rfl) rfl rfl ?_
                                      refine tr_p (y_pick_f rfl rfl) rfl rfl ?_
                                      refine tr_p (y_pick_t rfl rfl) rfl rfl ?_
                                      refine tr_p (y_assign rfl) rfl rfl ?_
                                      refine tr_nil ?_
                                      refine tr_thenN ?_
                                      refine tr_ret ?_
                                      exact tr_ret1 rfl rfl ⟨_, rfl, H⟩
                                  · replace H := H.2 g56
                                    refine tr_s rfl rfl ?_
                                    refine tr_s rfl rfl ?_
                                    refine tr_s rfl rfl ?_
                                    refine tr_p (y_pick_f rfl rfl) rfl rfl ?_
                                    refine tr_p (y_move rfl) rfl rfl ?_
                                    refine tr_s rfl rfl ?_
                                    refine tr_s rfl rfl ?_
                                    refine tr_s rfl rfl ?_
                                    refine tr_p (y_pick_f rfl rfl) rfl rfl ?_
                                    refine tr_p (y_pick_f rfl rfl) rfl rfl ?_
                                    refine tr_p (y_pick_t rfl rfl) rfl rfl ?_
                                    refine tr_p (y_assign rfl) rfl rfl ?_
                                    refine tr_nil ?_
                                    refine tr_thenN ?_
                                    refine tr_ret ?_
                                    exact tr_ret1 rfl rfl ⟨_, rfl, H⟩
                              · replace H := H.2 g51
                                refine tr_s rfl rfl ?_
                                refine tr_s rfl rfl ?_
                                refine tr_p (y_pick_f rfl rfl) rfl rfl ?_
                                refine tr_p (y_move rfl) rfl rfl ?_
                                refine tr_s rfl rfl ?_
                                refine tr_s rfl rfl ?_
                                refine tr_p (y_pick_f rfl rfl) rfl rfl ?_
                                refine tr_p (y_move rfl) rfl rfl ?_
                                refine tr_p (y_move rfl) rfl rfl ?_
                                refine tr_p (y_not rfl) rfl rfl ?_
                                refine tr_p (y_move rfl) rfl rfl ?_
                                refine tr_split (t := 174) rfl (fun g58 => ?_) (fun g58 => ?_)
                                · replace H := H.1 g58
                                  refine tr_p (y_move rfl) rfl rfl ?_
                                  refine tr_p (y_move rfl) rfl rfl ?_
                                  refine tr_p (y_eql rfl rfl) rfl rfl ?_
                                  refine tr_p (y_pick_t rfl rfl) rfl rfl ?_
                                  refine tr_p (y_move rfl) rfl rfl ?_
                                  refine tr_split (t := 179) rfl (fun g59 => ?_) (fun g59 => ?_)
                                  · replace H := H.1 g59
                                    refine tr_p (y_move rfl) rfl rfl ?_
                                    refine tr_p (y_move rfl) rfl rfl ?_
                                    refine tr_p (y_eql rfl rfl) rfl rfl ?_
                                    refine tr_p (y_pick_t rfl rfl) rfl rfl ?_
                                    refine tr_p (y_pick_f rfl rfl) rfl rfl ?_
                                    refine tr_p (y_pick_t rfl rfl) rfl rfl ?_
                                    refine tr_p (y_assign rfl) rfl rfl ?_
                                    refine tr_nil ?_
                                    refine tr_thenN ?_
                                    refine tr_ret ?_
                                    exact tr_ret1 rfl rfl ⟨_, rfl, H⟩
                                  · replace H := H.2 g59
                                    refine tr_s rfl rfl ?_
                                    refine tr_s rfl rfl ?_
                                    refine tr_s rfl rfl ?_
                                    refine tr_p (y_pick_f rfl rfl) rfl rfl ?_
                                    refine tr_p (y_pick_f rfl rfl) rfl rfl ?_
                                    refine tr_p (y_pick_t rfl rfl) rfl rfl ?_
                                    refine tr_p (y_assign rfl) rfl rfl ?_
                                    refine tr_nil ?_
                                    refine tr_thenN ?_
                                    refine tr_ret ?_
                                    exact tr_ret1 rfl rfl ⟨_, rfl, H⟩
                                · replace H := H.2 g58
                                  refine tr_s rfl rfl ?_
                                  refine tr_s rfl rfl ?_
                                  refine tr_s rfl rfl ?_
                                  refine tr_p (y_pick_f rfl rfl) rfl rfl ?_
                                  refine tr_p (y_move rfl) rfl rfl ?_
                                  refine tr_s rfl rfl ?_
                                  refine tr_s rfl rfl ?_
                                  refine tr_s rfl rfl ?_
                                  refine tr_p (y_pick_f rfl rfl) rfl rfl ?_
                                  refine tr_p (y_pick_f rfl rfl) rfl rfl ?_
                                  refine tr_p (y_pick_t rfl rfl) rfl rfl ?_
                                  refine tr_p (y_assign rfl) rfl rfl ?_
                                  refine tr_nil ?_
                                  refine tr_thenN ?_
                                  refine tr_ret ?_
                                  exact tr_ret1 rfl rfl ⟨_, rfl, H⟩
                            · replace H := H.2 g50
                              refine tr_s rfl rfl ?_
                              refine tr_s rfl rfl ?_
                              refine tr_s rfl rfl ?_
                              refine tr_s rfl rfl ?_
                              refine tr_s rfl rfl ?_
                              refine tr_s rfl rfl ?_
                              refine tr_s rfl rfl ?_
                              refine tr_s rfl rfl ?_
                              refine tr_s rfl rfl ?_
                              refine tr_s rfl rfl ?_
                              refine tr_s rfl rfl ?_
                              refine tr_s rfl rfl ?_
                              refine tr_s rfl rfl ?_
                              refine tr_s rfl rfl ?_
                              refine tr_s rfl rfl ?_
                              refine tr_s rfl rfl ?_
                              refine tr_s rfl rfl ?_
                              refine tr_s rfl rfl ?_
                              refine tr_s rfl rfl ?_
                              refine tr_s rfl rfl ?_
                              refine tr_s rfl rfl ?_
                              refine tr_s rfl rfl ?_
                              refine tr_s rfl rfl ?_
                              refine tr_p (y_pick_f rfl rfl) rfl rfl ?_
                              refine tr_p (y_assign rfl) rfl rfl ?_
                              refine tr_nil ?_
                              refine tr_thenN ?_
                              refine tr_ret ?_
                              exact tr_ret1 rfl rfl ⟨_, rfl, H⟩
                          · replace H := H.2 g49
                            refine tr_s rfl rfl ?_
                            refine tr_s rfl rfl ?_
                            refine tr_s rfl rfl ?_
                            refine tr_p (y_pick_f rfl rfl) rfl rfl ?_
                            refine tr_p (y_move rfl) rfl rfl ?_
                            refine tr_s rfl rfl ?_
                            refine tr_s rfl rfl ?_
                            refine tr_s rfl rfl ?_
                            refine tr_s rfl rfl ?_
                            refine tr_s rfl rfl ?_
                            refine tr_s rfl rfl ?_
                            refine tr_s rfl rfl ?_
                            refine tr_s rfl rfl ?_
                            refine tr_s rfl rfl ?_
                            refine tr_s rfl rfl ?_
                            refine tr_s rfl rfl ?_
                            refine tr_s rfl rfl ?_
                            refine tr_s rfl rfl ?_
                            refine tr_s rfl rfl ?_
                            refine tr_s rfl rfl ?_
                            refine tr_s rfl rfl ?_
                            refine tr_s rfl rfl ?_
                            refine tr_s rfl rfl ?_
                            refine tr_s rfl rfl ?_
                            refine tr_s rfl rfl ?_
                            refine tr_s rfl rfl ?_
                            refine tr_s rfl rfl ?_
                            refine tr_s rfl rfl ?_
                            refine tr_p (y_pick_f rfl rfl) rfl rfl ?_
                            refine tr_p (y_assign rfl) rfl rfl ?_
                            refine tr_nil ?_
                            refine tr_thenN ?_
                            refine tr_ret ?_
                            exact tr_ret1 rfl rfl ⟨_, rfl, H⟩
                        · replace H := H.2 g48
                          refine tr_s rfl rfl ?_
                          refine tr_s rfl rfl ?_
                          refine tr_s rfl rfl ?_
                          refine tr_p (y_pick_f rfl rfl) rfl rfl ?_
                          refine tr_p (y_move rfl) rfl rfl ?_
                          refine tr_s rfl rfl ?_
                          refine tr_s rfl rfl ?_
                          refine tr_s rfl rfl ?_
                          refine tr_p (y_pick_f rfl rfl) rfl rfl ?_
                          refine tr_p (y_move rfl) rfl rfl ?_
                          refine tr_s rfl rfl ?_
                          refine tr_s rfl rfl ?_
                          refine tr_s rfl rfl ?_
                          refine tr_s rfl rfl ?_
                          refine tr_s rfl rfl ?_
                          refine tr_s rfl rfl ?_
                          refine tr_s rfl rfl ?_
                          refine tr_s rfl rfl ?_
                          refine tr_s rfl rfl ?_
                          refine tr_s rfl rfl ?_
                          refine tr_s rfl rfl ?_
                          refine tr_s rfl rfl ?_
                          refine tr_s rfl rfl ?_
                          refine tr_s rfl rfl ?_
                          refine tr_s rfl rfl ?_
                          refine tr_s rfl rfl ?_
                          refine tr_s rfl rfl ?_
                          refine tr_s rfl rfl ?_
                          refine tr_s rfl rfl ?_
                          refine tr_s rfl rfl ?_
                          refine tr_s rfl rfl ?_
                          refine tr_s rfl rfl ?_
                          refine tr_s rfl rfl ?_
                          refine tr_p (y_pick_f rfl rfl) rfl rfl ?_
                          refine tr_p (y_assign rfl) rfl rfl ?_
                          refine tr_nil ?_
                          refine tr_thenN ?_
                          refine tr_ret ?_
                          exact tr_ret1 rfl rfl ⟨_, rfl, H⟩
                      · replace H := H.2 g47
                        refine tr_s rfl rfl ?_
                        refine tr_s rfl rfl ?_
                        refine tr_s rfl rfl ?_
                        refine tr_p (y_pick_f rfl rfl) rfl rfl ?_
                        refine tr_p (y_move rfl) rfl rfl ?_
                        refine tr_s rfl rfl ?_
                        refine tr_s rfl rfl ?_
                        refine tr_s rfl rfl ?_
                        refine tr_p (y_pick_f rfl rfl) rfl rfl ?_
                        refine tr_p (y_move rfl) rfl rfl ?_
                        refine tr_s rfl rfl ?_
                        refine tr_s rfl rfl ?_
                        refine tr_s rfl rfl ?_
                        refine tr_p (y_pick_f rfl rfl) rfl rfl ?_
                        refine tr_p (y_move rfl) rfl rfl ?_
                        refine tr_s rfl rfl ?_
                        refine tr_s rfl rfl ?_
                        refine tr_s rfl rfl ?_
                        refine tr_s rfl rfl ?_
                        refine tr_s rfl rfl ?_
                        refine tr_s rfl rfl ?_
                        refine tr_s rfl rfl ?_
                        refine tr_s rfl rfl ?_
                        refine tr_s rfl rfl ?_
                        refine tr_s rfl rfl ?_
                        refine tr_s rfl rfl ?_
                        refine tr_s rfl rfl ?_
                        refine tr_s rfl rfl ?_
                        refine tr_s rfl rfl ?_
                        refine tr_s rfl rfl ?_
                        refine tr_s rfl rfl ?_
                        refine tr_s rfl rfl ?_
                        refine tr_s rfl rfl ?_
                        refine tr_s rfl rfl ?_
                        refine tr_s rfl rfl ?_
                        refine tr_s rfl rfl ?_
                        refine tr_s rfl rfl ?_
                        refine tr_s rfl rfl ?_
                        refine tr_p (y_pick_f rfl rfl) rfl rfl ?_
                        refine tr_p (y_assign rfl) rfl rfl ?_
                        refine tr_nil ?_
                        refine tr_thenN ?_
                        refine tr_ret ?_
                        exact tr_ret1 rfl rfl ⟨_, rfl, H⟩
                    · replace H := H.2 g42
                      refine tr_s rfl rfl ?_
                      refine tr_s rfl rfl ?_
                      refine tr_s rfl rfl ?_
                      refine tr_s rfl rfl ?_
                      refine tr_s rfl rfl ?_
                      refine tr_p (y_pick_f rfl rfl) rfl rfl ?_
                      refine tr_p (y_move rfl) rfl rfl ?_
                      refine tr_s rfl rfl ?_
                      refine tr_s rfl rfl ?_
                      refine tr_s rfl rfl ?_
                      refine tr_p (y_pick_f rfl rfl) rfl rfl ?_
                      refine tr_p (y_move rfl) rfl rfl ?_
                      refine tr_s rfl rfl ?_
                      refine tr_s rfl rfl ?_
                      refine tr_s rfl rfl ?_
                      refine tr_p (y_pick_f rfl rfl) rfl rfl ?_
                      refine tr_p (y_move rfl) rfl rfl ?_
                      refine tr_s rfl rfl ?_
                      refine tr_s rfl rfl ?_
                      refine tr_s rfl rfl ?_
                      refine tr_p (y_pick_f rfl rfl) rfl rfl ?_
                      refine tr_p (y_move rfl) rfl rfl ?_
                      refine tr_s rfl rfl ?_
                      refine tr_s rfl rfl ?_
                      refine tr_s rfl rfl ?_
                      refine tr_s rfl rfl ?_
                      refine tr_s rfl rfl ?_
                      refine tr_s rfl rfl ?_
                      refine tr_s rfl rfl ?_
                      refine tr_s rfl rfl ?_
                      refine tr_s rfl rfl ?_
                      refine tr_s rfl rfl ?_
                      refine tr_s rfl rfl ?_
                      refine tr_s rfl rfl ?_
                      refine tr_s rfl rfl ?_
                      refine tr_s rfl rfl ?_
                      refine tr_s rfl rfl ?_
                      refine tr_s rfl rfl ?_
                      refine tr_s rfl rfl ?_
                      refine tr_s rfl rfl ?_
                      refine tr_s rfl rfl ?_
                      refine tr_s rfl rfl ?_
                      refine tr_s rfl rfl ?_
                      refine tr_s rfl rfl ?_
                      refine tr_s rfl rfl ?_
                      refine tr_p (y_pick_f rfl rfl) rfl rfl ?_
                      refine tr_p (y_assign rfl) rfl rfl ?_
                      refine tr_nil ?_
                      refine tr_thenN ?_
                      refine tr_ret ?_
                      exact tr_ret1 rfl rfl ⟨_, rfl, H⟩
                  · replace H := H.2 g39
                    refine tr_s rfl rfl ?_
                    refine tr_s rfl rfl ?_
                    refine tr_s rfl rfl ?_
                    refine tr_s rfl rfl ?_
                    refine tr_s rfl rfl ?_
                    refine tr_s rfl rfl ?_
                    refine tr_p (y_pick_f rfl rfl) rfl rfl ?_
                    refine tr_p (y_move rfl) rfl rfl ?_
                    refine tr_s rfl rfl ?_
                    refine tr_s rfl rfl ?_
                    refine tr_s rfl rfl ?_
                    refine tr_s rfl rfl ?_
                    refine tr_s rfl rfl ?_
                    refine tr_p (y_pick_f rfl rfl) rfl rfl ?_
                    refine tr_p (y_move rfl) rfl rfl ?_
                    refine tr_s rfl rfl ?_
                    refine tr_s rfl rfl ?_
                    refine tr_s rfl rfl ?_
                    refine tr_p (y_pick_f rfl rfl) rfl rfl ?_
                    refine tr_p (y_move rfl) rfl rfl ?_
                    refine tr_s rfl rfl ?_
                    refine tr_s rfl rfl ?_
                    refine tr_s rfl rfl ?_
                    refine tr_p (y_pick_f rfl rfl) rfl rfl ?_
                    refine tr_p (y_move rfl) rfl rfl ?_
                    refine tr_s rfl rfl ?_
                    refine tr_s rfl rfl ?_
                    refine tr_s rfl rfl ?_
                    refine tr_p (y_pick_f rfl rfl) rfl rfl ?_
                    refine tr_p (y_move rfl) rfl rfl ?_
                    refine tr_s rfl rfl ?_
                    refine tr_s rfl rfl ?_
                    refine tr_s rfl rfl ?_
                    refine tr_s rfl rfl ?_
                    refine tr_s rfl rfl ?_
                    refine tr_s rfl rfl ?_
                    refine tr_s rfl rfl ?_
                    refine tr_s rfl rfl ?_
                    refine tr_s rfl rfl ?_
                    refine tr_s rfl rfl ?_
                    refine tr_s rfl rfl ?_
                    refine tr_s rfl rfl ?_
                    refine tr_s rfl rfl ?_
                    refine tr_s rfl rfl ?_
                    refine tr_s rfl rfl ?_
                    refine tr_s rfl rfl ?_
                    refine tr_s rfl rfl ?_
                    refine tr_s rfl rfl ?_
                    refine tr_s rfl rfl ?_
                    refine tr_s rfl rfl ?_
                    refine tr_s rfl rfl ?_
                    refine tr_s rfl rfl ?_
                    refine tr_s rfl rfl ?_
                    refine tr_p (y_pick_f rfl rfl) rfl rfl ?_
                    refine tr_p (y_assign rfl) rfl rfl ?_
                    refine tr_nil ?_
                    refine tr_thenN ?_
                    refine tr_ret ?_
                    exact tr_ret1 rfl rfl ⟨_, rfl, H⟩
                · replace H := H.2 g38
                  refine tr_s rfl rfl ?_
                  refine tr_s rfl rfl ?_
                  refine tr_s rfl rfl ?_
                  refine tr_p (y_pick_f rfl rfl) rfl rfl ?_
                  refine tr_p (y_move rfl) rfl rfl ?_
                  refine tr_s rfl rfl ?_
                  refine tr_s rfl rfl ?_
                  refine tr_s rfl rfl ?_
                  refine tr_s rfl rfl ?_
                  refine tr_s rfl rfl ?_
                  refine tr_s rfl rfl ?_
                  refine tr_p (y_pick_f rfl rfl) rfl rfl ?_
                  refine tr_p (y_move rfl) rfl rfl ?_
                  refine tr_s rfl rfl ?_
                  refine tr_s rfl rfl ?_
                  refine tr_s rfl rfl ?_
                  refine tr_s rfl rfl ?_
                  refine tr_s rfl rfl ?_
                  refine tr_p (y_pick_f rfl rfl) rfl rfl ?_
                  refine tr_p (y_move rfl) rfl rfl ?_
                  refine tr_s rfl rfl ?_
                  refine tr_s rfl rfl ?_
                  refine tr_s rfl rfl ?_
                  refine tr_p (y_pick_f rfl rfl) rfl rfl ?_
                  refine tr_p (y_move rfl) rfl rfl ?_
                  refine tr_s rfl rfl ?_
                  refine tr_s rfl rfl ?_
                  refine tr_s rfl rfl ?_
                  refine tr_p (y_pick_f rfl rfl) rfl rfl ?_
                  refine tr_p (y_move rfl) rfl rfl ?_
                  refine tr_s rfl rfl ?_
                  refine tr_s rfl rfl ?_
                  refine tr_s rfl rfl ?_
                  refine tr_p (y_pick_f rfl rfl) rfl rfl ?_
                  refine tr_p (y_move rfl) rfl rfl ?_
                  refine tr_s rfl rfl ?_
                  refine tr_s rfl rfl ?_
                  refine tr_s rfl rfl ?_
                  refine tr_s rfl rfl ?_
                  refine tr_s rfl rfl ?_
                  refine tr_s rfl rfl ?_
                  refine tr_s rfl rfl ?_
                  refine tr_s rfl rfl ?_
                  refine tr_s rfl rfl ?_
                  refine tr_s rfl rfl ?_
                  refine tr_s rfl rfl ?_
                  refine tr_s rfl rfl ?_
                  refine tr_s rfl rfl ?_
                  refine tr_s rfl rfl ?_
                  refine tr_s rfl rfl ?_
                  refine tr_s rfl rfl ?_
                  refine tr_s rfl rfl ?_
                  refine tr_s rfl rfl ?_
                  refine tr_s rfl rfl ?_
                  refine tr_s rfl rfl ?_
                  refine tr_s rfl rfl ?_
                  refine tr_s rfl rfl ?_
                  refine tr_s rfl rfl ?_
                  refine tr_p (y_pick_f rfl rfl) rfl rfl ?_
                  refine tr_p (y_assign rfl) rfl rfl ?_
                  refine tr_nil ?_
                  refine tr_thenN ?_
                  refine tr_ret ?_
                  exact tr_ret1 rfl rfl ⟨_, rfl, H⟩
              · refine tr_seq ?_
                refine tr_region ?_
                refine tr_p (y_move rfl) rfl rfl ?_
                refine tr_p (y_move rfl) rfl rfl ?_
                refine tr_p (y_eql rfl rfl) rfl rfl ?_
                refine tr_nil ?_
                refine tr_thenN ?_
                refine tr_cond rfl (fun g60 => ?_) (fun g60 => ?_)
                · replace H := H.1 g60
                  refine tr_region ?_
                  refine tr_p (y_assign rfl) rfl rfl ?_
                  refine tr_nil ?_
                  refine tr_thenN ?_
                  exact tr_join [(2, (.int .i64 x2)), (3, (.bool x3)), (9, (.pointer x9)), (14, (.int .i64 x14)), (15, x15.enc), (17, x17.enc), (18, (.int .i64 x18)), (19, (.int .i64 x19)), (20, (.int .i64 x20)), (21, (.int .i64 r32)), (22, (.bool r33)), (23, (.int .i64 r35)), (24, (.int .i64 r36)), (25, (.bool r37)), (26, (.int .i64 0))] ⟨rfl, rfl, rfl, rfl, rfl, rfl, rfl, rfl, rfl, rfl, rfl, rfl, rfl, rfl, rfl, trivial⟩ ⟨_, _, _, _, _, _, _, _, _, _, _, _, _, _, _, rfl, H⟩
                · replace H := H.2 g60
                  refine tr_skip ?_
                  refine tr_thenN ?_
                  exact tr_join [(2, (.int .i64 x2)), (3, (.bool x3)), (9, (.pointer x9)), (14, (.int .i64 x14)), (15, x15.enc), (17, x17.enc), (18, (.int .i64 x18)), (19, (.int .i64 x19)), (20, (.int .i64 x20)), (21, (.int .i64 r32)), (22, (.bool r33)), (23, (.int .i64 r35)), (24, (.int .i64 r36)), (25, (.bool r37)), (26, (.int .i64 1))] ⟨rfl, rfl, rfl, rfl, rfl, rfl, rfl, rfl, rfl, rfl, rfl, rfl, rfl, rfl, rfl, trivial⟩ ⟨_, _, _, _, _, _, _, _, _, _, _, _, _, _, _, rfl, H⟩
            · refine tr_seq_j (fun L' h => ∃ (x2 : Int) (x3 : Bool) (x9 : Option Addr) (x12 : Int) (x14 : Int) (x15 : Sl) (x17 : Sl) (x18 : Int) (x19 : Int) (x20 : Int) (x93 : Bool), L' = [(2, (.int .i64 x2)), (3, (.bool x3)), (9, (.pointer x9)), (12, (.int .i64 x12)), (14, (.int .i64 x14)), (15, x15.enc), (17, x17.enc), (18, (.int .i64 x18)), (19, (.int .i64 x19)), (20, (.int .i64 x20)), (93, (.bool x93))] ∧ F.spatelaw5_ChainOlder.j6 Q x2 x3 x9 x12 x14 x15 x17 x18 x19 x20 x93 h) ?_ ?_
              · rintro L' h ⟨x2, x3, x9, x12, x14, x15, x17, x18, x19, x20, x93, rfl, H⟩
                unfold F.spatelaw5_ChainOlder.j6 at H
                refine tr_cond rfl (fun g61 => ?_) (fun g61 => ?_)
                · replace H := H.1 g61
                  refine tr_seq ?_
                  refine tr_region ?_
                  refine tr_p (y_move rfl) rfl rfl ?_
                  refine tr_p (y_eql rfl rfl) rfl rfl ?_
                  refine tr_p (y_move rfl) rfl rfl ?_
                  refine tr_split (t := 96) rfl (fun g62 => ?_) (fun g62 => ?_)
                  · replace H := H.1 g62
                    refine tr_p (y_move rfl) rfl rfl ?_
                    refine tr_p (y_move rfl) rfl rfl ?_
                    refine tr_e (e_call Try.call15 rfl (F.spatelaw5_at_ok H)) rfl rfl ?_
                    rintro _ h63 ⟨r64, rfl, H⟩
                    refine tr_p (y_move rfl) rfl rfl ?_
                    refine tr_e (e_call Try.call18 rfl (F.spatelaw5_same_ok H)) rfl rfl ?_
                    rintro _ h65 ⟨r66, rfl, H⟩
                    refine tr_p (y_pick_t rfl rfl) rfl rfl ?_
                    refine tr_p (y_move rfl) rfl rfl ?_
                    refine tr_split (t := 103) rfl (fun g67 => ?_) (fun g67 => ?_)
                    · replace H := H.1 g67
                      refine tr_p (y_move rfl) rfl rfl ?_
                      refine tr_e (e_call Try.call16 rfl (F.chain_Chain_int_Len_ok H)) rfl rfl ?_
                      rintro _ h68 ⟨r69, rfl, H⟩
                      refine tr_p (y_move rfl) rfl rfl ?_
                      refine tr_p (y_eql rfl rfl) rfl rfl ?_
                      refine tr_p (y_pick_t rfl rfl) rfl rfl ?_
                      refine tr_p (y_assign rfl) rfl rfl ?_
                      refine tr_nil ?_
                      refine tr_thenN ?_
                      refine tr_ret ?_
                      refine tr_thenR ?_
                      exact tr_ret1 rfl rfl ⟨_, rfl, H⟩
                    · replace H := H.2 g67
                      refine tr_s rfl rfl ?_
                      refine tr_s rfl rfl ?_
                      refine tr_s rfl rfl ?_
                      refine tr_s rfl rfl ?_
                      refine tr_p (y_pick_f rfl rfl) rfl rfl ?_
                      refine tr_p (y_assign rfl) rfl rfl ?_
                      refine tr_nil ?_
                      refine tr_thenN ?_
                      refine tr_ret ?_
                      refine tr_thenR ?_
                      exact tr_ret1 rfl rfl ⟨_, rfl, H⟩
                  · replace H := H.2 g62
                    refine tr_s rfl rfl ?_
                    refine tr_s rfl rfl ?_
                    refine tr_s rfl rfl ?_
                    refine tr_s rfl rfl ?_
                    refine tr_s rfl rfl ?_
                    refine tr_p (y_pick_f rfl rfl) rfl rfl ?_
                    refine tr_p (y_move rfl) rfl rfl ?_
                    refine tr_s rfl rfl ?_
                    refine tr_s rfl rfl ?_
                    refine tr_s rfl rfl ?_
                    refine tr_s rfl rfl ?_
                    refine tr_p (y_pick_f rfl rfl) rfl rfl ?_
                    refine tr_p (y_assign rfl) rfl rfl ?_
                    refine tr_nil ?_
                    refine tr_thenN ?_
                    refine tr_ret ?_
                    refine tr_thenR ?_
                    exact tr_ret1 rfl rfl ⟨_, rfl, H⟩
                · replace H := H.2 g61
                  refine tr_skip ?_
                  refine tr_thenN ?_
                  exact tr_join [(2, (.int .i64 x2)), (3, (.bool x3)), (9, (.pointer x9)), (12, (.int .i64 x12)), (14, (.int .i64 x14)), (15, x15.enc), (17, x17.enc), (18, (.int .i64 x18)), (19, (.int .i64 x19)), (20, (.int .i64 x20))] ⟨rfl, rfl, rfl, rfl, rfl, rfl, rfl, rfl, rfl, rfl, trivial⟩ ⟨_, _, _, _, _, _, _, _, _, _, rfl, H⟩
              · refine tr_region ?_
                refine tr_p (y_move rfl) rfl rfl ?_
                refine tr_p (y_move rfl) rfl rfl ?_
                refine tr_split (t := 90) rfl (fun g70 => ?_) (fun g70 => ?_)
                · replace H := H.1 g70
                  refine tr_p (y_move rfl) rfl rfl ?_
                  refine tr_p (y_not rfl) rfl rfl ?_
                  refine tr_p (y_pick_t rfl rfl) rfl rfl ?_
                  refine tr_nil ?_
                  refine tr_thenN ?_
                  exact tr_join [(2, (.int .i64 x2)), (3, (.bool x3)), (9, (.pointer x9)), (12, (.int .i64 x12)), (14, (.int .i64 x14)), (15, x15.enc), (17, x17.enc), (18, (.int .i64 x18)), (19, (.int .i64 x19)), (20, (.int .i64 x20)), (93, (.bool (!x13)))] ⟨rfl, rfl, rfl, rfl, rfl, rfl, rfl, rfl, rfl, rfl, rfl, trivial⟩ ⟨_, _, _, _, _, _, _, _, _, _, _, rfl, H⟩
                · replace H := H.2 g70
                  refine tr_s rfl rfl ?_
                  refine tr_s rfl rfl ?_
                  refine tr_p (y_pick_f rfl rfl) rfl rfl ?_
                  refine tr_nil ?_
                  refine tr_thenN ?_
                  exact tr_join [(2, (.int .i64 x2)), (3, (.bool x3)), (9, (.pointer x9)), (12, (.int .i64 x12)), (14, (.int .i64 x14)), (15, x15.enc), (17, x17.enc), (18, (.int .i64 x18)), (19, (.int .i64 x19)), (20, (.int .i64 x20)), (93, (.bool false))] ⟨rfl, rfl, rfl, rfl, rfl, rfl, rfl, rfl, rfl, rfl, rfl, trivial⟩ ⟨_, _, _, _, _, _, _, _, _, _, _, rfl, H⟩
          · refine tr_seq_j (fun L' h => ∃ (x2 : Int) (x3 : Bool) (x9 : Option Addr) (x12 : Int) (x13 : Bool) (x14 : Int) (x15 : Sl) (x17 : Sl) (x18 : Int) (x19 : Int) (x20 : Int) (x86 : Bool), L' = [(2, (.int .i64 x2)), (3, (.bool x3)), (9, (.pointer x9)), (12, (.int .i64 x12)), (13, (.bool x13)), (14, (.int .i64 x14)), (15, x15.enc), (17, x17.enc), (18, (.int .i64 x18)), (19, (.int .i64 x19)), (20, (.int .i64 x20)), (86, (.bool x86))] ∧ F.spatelaw5_ChainOlder.j7 Q x2 x3 x9 x12 x13 x14 x15 x17 x18 x19 x20 x86 h) ?_ ?_
            · rintro L' h ⟨x2, x3, x9, x12, x13, x14, x15, x17, x18, x19, x20, x86, rfl, H⟩
              unfold F.spatelaw5_ChainOlder.j7 at H
              refine tr_cond rfl (fun g71 => ?_) (fun g71 => ?_)
              · replace H := H.1 g71
                refine tr_seq ?_
                refine tr_region ?_
                refine tr_p (y_move rfl) rfl rfl ?_
                refine tr_p (y_eql rfl rfl) rfl rfl ?_
                refine tr_p (y_assign rfl) rfl rfl ?_
                refine tr_nil ?_
                refine tr_thenN ?_
                refine tr_ret ?_
                refine tr_thenR ?_
                exact tr_ret1 rfl rfl ⟨_, rfl, H⟩
              · replace H := H.2 g71
                refine tr_skip ?_
                refine tr_thenN ?_
                exact tr_join [(2, (.int .i64 x2)), (3, (.bool x3)), (9, (.pointer x9)), (12, (.int .i64 x12)), (13, (.bool x13)), (14, (.int .i64 x14)), (15, x15.enc), (17, x17.enc), (18, (.int .i64 x18)), (19, (.int .i64 x19)), (20, (.int .i64 x20))] ⟨rfl, rfl, rfl, rfl, rfl, rfl, rfl, rfl, rfl, rfl, rfl, trivial⟩ ⟨_, _, _, _, _, _, _, _, _, _, _, rfl, H⟩
            · refine tr_region ?_
              refine tr_p (y_move rfl) rfl rfl ?_
              refine tr_p (y_lss rfl rfl) rfl rfl ?_
              refine tr_p (y_move rfl) rfl rfl ?_
              refine tr_split (t := 83) rfl (fun g72 => ?_) (fun g72 => ?_)
              · replace H := H.1 g72
                refine tr_s rfl rfl ?_
                refine tr_s rfl rfl ?_
                refine tr_p (y_pick_t rfl rfl) rfl rfl ?_
                refine tr_nil ?_
                refine tr_thenN ?_
                exact tr_join [(2, (.int .i64 x2)), (3, (.bool x3)), (9, (.pointer x9)), (12, (.int .i64 x12)), (13, (.bool x13)), (14, (.int .i64 x14)), (15, x15.enc), (17, x17.enc), (18, (.int .i64 x18)), (19, (.int .i64 x19)), (20, (.int .i64 x20)), (86, (.bool true))] ⟨rfl, rfl, rfl, rfl, rfl, rfl, rfl, rfl, rfl, rfl, rfl, rfl, trivial⟩ ⟨_, _, _, _, _, _, _, _, _, _, _, _, rfl, H⟩
              · replace H := H.2 g72
                refine tr_p (y_move rfl) rfl rfl ?_
                refine tr_p (y_gtr rfl rfl) rfl rfl ?_
                refine tr_p (y_pick_f rfl rfl) rfl rfl ?_
                refine tr_nil ?_
                refine tr_thenN ?_
                exact tr_join [(2, (.int .i64 x2)), (3, (.bool x3)), (9, (.pointer x9)), (12, (.int .i64 x12)), (13, (.bool x13)), (14, (.int .i64 x14)), (15, x15.enc), (17, x17.enc), (18, (.int .i64 x18)), (19, (.int .i64 x19)), (20, (.int .i64 x20)), (86, (.bool (decide (x14 > 1099511627776))))] ⟨rfl, rfl, rfl, rfl, rfl, rfl, rfl, rfl, rfl, rfl, rfl, rfl, trivial⟩ ⟨_, _, _, _, _, _, _, _, _, _, _, _, rfl, H⟩
        · refine tr_seq ?_
          refine tr_region ?_
          refine tr_p (y_move rfl) rfl rfl ?_
          refine tr_nil ?_
          refine tr_thenN ?_
          refine tr_cond rfl (fun g73 => ?_) (fun g73 => ?_)
          · replace H := H.1 g73
            refine tr_region ?_
            refine tr_p (y_move rfl) rfl rfl ?_
            refine tr_p (y_move rfl) rfl rfl ?_
            refine tr_e (e_call Try.call22 rfl (F.chain_Chain_int_Kill_ok H)) rfl rfl ?_
            rintro _ h74 ⟨r75, r76, rfl, H⟩
            refine tr_p (y_move rfl) rfl rfl ?_
            refine tr_p (y_ext rfl rfl) rfl rfl ?_
            refine tr_p (y_ext rfl rfl) rfl rfl ?_
            refine tr_p (y_assign rfl) rfl rfl ?_
            refine tr_p (y_assign rfl) rfl rfl ?_
            refine tr_nil ?_
            refine tr_thenN ?_
            exact tr_join [(2, (.int .i64 x2)), (3, (.bool x3)), (9, (.pointer x9)), (12, (.int .i64 x12)), (13, (.bool x13)), (14, (.int .i64 x14)), (15, s26.enc), (17, r28.enc), (18, (.int .i64 r30)), (19, (.int .i64 r75)), (20, (.int .i64 r76))] ⟨rfl, rfl, rfl, rfl, rfl, rfl, rfl, rfl, rfl, rfl, rfl, trivial⟩ ⟨_, _, _, _, _, _, _, _, _, _, _, rfl, H⟩
          · replace H := H.2 g73
            refine tr_region ?_
            refine tr_p (y_move rfl) rfl rfl ?_
            refine tr_p (y_move rfl) rfl rfl ?_
            refine tr_p (y_move rfl) rfl rfl ?_
            refine tr_e (e_call Try.call23 rfl (F.chain_Chain_int_Put_ok H)) rfl rfl ?_
            rintro _ h77 ⟨r78, r79, rfl, H⟩
            refine tr_p (y_move rfl) rfl rfl ?_
            refine tr_p (y_ext rfl rfl) rfl rfl ?_
            refine tr_p (y_ext rfl rfl) rfl rfl ?_
            refine tr_p (y_assign rfl) rfl rfl ?_
            refine tr_p (y_assign rfl) rfl rfl ?_
            refine tr_nil ?_
            refine tr_thenN ?_
            exact tr_join [(2, (.int .i64 x2)), (3, (.bool x3)), (9, (.pointer x9)), (12, (.int .i64 x12)), (13, (.bool x13)), (14, (.int .i64 x14)), (15, s26.enc), (17, r28.enc), (18, (.int .i64 r30)), (19, (.int .i64 r78)), (20, (.int .i64 r79))] ⟨rfl, rfl, rfl, rfl, rfl, rfl, rfl, rfl, rfl, rfl, rfl, trivial⟩ ⟨_, _, _, _, _, _, _, _, _, _, _, rfl, H⟩

/-- spate/spatelaw5.coded -/
def F.spatelaw5_coded (p0 : Int) (p1 : Bool) (h : H) (Q : Int → H → Prop) : Prop :=
  (p1 = true →
  Q (IntKind.wrap .i64 ((IntKind.wrap .i64 (2 * p0)) + 1)) h) ∧
  (p1 = false →
  Q (IntKind.wrap .i64 (2 * p0)) h)
theorem F.spatelaw5_coded_ok {p0 : Int} {p1 : Bool} {h : H} {Q : Int → H → Prop} (H : F.spatelaw5_coded p0 p1 h Q) : Fn PP 27 ([(.int .i64 p0), (.bool p1)] : List Value).toArray h fun r h' => ∃ r0, r = (.int .i64 r0) ∧ Q r0 h' := by
  unfold F.spatelaw5_coded at H
  refine fn_of Try.func27 Try.ntmps27 rfl rfl fun w0 => ?_
  refine tr_sub [(0, (.int .i64 p0)), (1, (.bool p1))] ⟨rfl, rfl, trivial⟩ ?_
  refine tr_seq ?_
  refine tr_region ?_
  refine tr_p (y_assign rfl) rfl rfl ?_
  refine tr_nil ?_
  refine tr_thenN ?_
  refine tr_seq ?_
  refine tr_seq ?_
  refine tr_region ?_
  refine tr_p (y_move rfl) rfl rfl ?_
  refine tr_nil ?_
  refine tr_thenN ?_
  refine tr_cond rfl (fun g1 => ?_) (fun g1 => ?_)
  · replace H := H.1 g1
    refine tr_seq ?_
    refine tr_region ?_
    refine tr_p (y_move rfl) rfl rfl ?_
    refine tr_p (y_mul rfl rfl) rfl rfl ?_
    refine tr_p (y_add rfl rfl) rfl rfl ?_
    refine tr_p (y_assign rfl) rfl rfl ?_
    refine tr_nil ?_
    refine tr_thenN ?_
    refine tr_ret ?_
    refine tr_thenR ?_
    exact tr_ret1 rfl rfl ⟨_, rfl, H⟩
  · replace H := H.2 g1
    refine tr_skip ?_
    refine tr_thenN ?_
    refine tr_seq ?_
    refine tr_region ?_
    refine tr_p (y_move rfl) rfl rfl ?_
    refine tr_p (y_mul rfl rfl) rfl rfl ?_
    refine tr_p (y_assign rfl) rfl rfl ?_
    refine tr_nil ?_
    refine tr_thenN ?_
    refine tr_ret ?_
    exact tr_ret1 rfl rfl ⟨_, rfl, H⟩

/-- spate/spatelaw5.told -/
def F.spatelaw5_told (p0 : Option Addr) (h : H) (Q : Sl → H → Prop) : Prop :=
  new h #[(⟨none, 0, 0⟩ : Sl).enc] ty_24 fun a2 h1 =>
  F.chain_Chain_int_All p0 h1 fun r4 h3 =>
  (r4 = .nilFunc ∨ isF r4) ∧
  ((isNilF r4) = true →
  shuts ([] : List Nat) h3 fun h7 =>
  Q (⟨none, 0, 0⟩ : Sl) h7) ∧
  ((isNilF r4) = false →
  rng PP r4 h3 [] (fun bg1 l1 args h K1 J1 => ∃ (y1_12 : Int), ∃ (y1_13 : Bool), args = [(.int .i64 y1_12), (.bool y1_13)] ∧
    bg1 h fun h8 =>
    ldL h8 a2 fun y9 =>
    F.spatelaw5_coded y1_12 y1_13 h8 fun r12 h11 =>
    cellH h11 a2 = some y9.enc ∧
    newL h11 #[(.int .i64 r12)] ty_3 1 fun s15 h14 =>
    cellH h14 a2 = some y9.enc ∧
    runL PP (Builtin.append_ #[24, 24] 24 #[y9.enc, s15.enc]) h14 fun s18 h17 =>
    stH h17 a2 [s18.enc] fun h19 =>
    K1 h19) (fun h20 =>
    ldL h20 a2 fun y21 =>
    shuts (h3.size :: ([] : List Nat)) h20 fun h23 =>
    Q y21 h23) (fun jj h24 =>
    True))
theorem F.spatelaw5_told_ok {p0 : Option Addr} {h : H} {Q : Sl → H → Prop} (H : F.spatelaw5_told p0 h Q) : Fn PP 25 ([(.pointer p0)] : List Value).toArray h fun r h' => ∃ r0, r = r0.enc ∧ Q r0 h' := by
  unfold F.spatelaw5_told at H
  refine fn_ofM Try.func25 Try.ntmps25 rfl rfl fun w0 => ?_
  refine tr_sub [(0, (.pointer p0))] ⟨rfl, trivial⟩ ?_
  refine tr_seq ?_
  refine tr_region ?_
  refine tr_p (y_assign rfl) rfl rfl ?_
  refine tr_nil ?_
  refine tr_thenN ?_
  refine tr_seq ?_
  refine tr_region ?_
  refine tr_e (f_alloc (cs := #[(⟨none, 0, 0⟩ : Sl).enc]) Try.zeroValue24 rfl H) rfl rfl ?_
  rintro _ h1 ⟨a2, rfl, H⟩
  refine tr_nil ?_
  refine tr_thenN ?_
  refine tr_seq ?_
  refine tr_region ?_
  refine tr_p (y_move rfl) rfl rfl ?_
  refine tr_e (e_call Try.call26 rfl (F.chain_Chain_int_All_ok H)) rfl rfl ?_
  rintro r4 h3 ⟨_, rfl, H⟩
  refine tr_p (y_assign rfl) rfl rfl ?_
  refine tr_nil ?_
  refine tr_thenN ?_
  refine tr_seq ?_
  refine tr_seq ?_
  refine tr_region ?_
  refine tr_p (y_move rfl) rfl rfl ?_
  obtain ⟨e5, H⟩ := H
  refine tr_p (y_vnil_eql Try.runUnderlying45 rfl rfl e5) rfl rfl ?_
  refine tr_nil ?_
  refine tr_thenN ?_
  refine tr_cond rfl (fun g6 => ?_) (fun g6 => ?_)
  · replace H := H.1 g6
    refine tr_seq ?_
    refine tr_region ?_
    refine tr_p (y_assign rfl) rfl rfl ?_
    refine tr_nil ?_
    refine tr_thenN ?_
    refine tr_ret ?_
    refine tr_thenR ?_
    refine tr_shut ([] : List Nat) rfl H fun h7 H => ?_
    exact tr_ret1 rfl rfl ⟨_, rfl, H⟩
  · replace H := H.2 g6
    refine tr_skip ?_
    refine tr_thenN ?_
    refine tr_seq ?_
    refine tr_seq ?_
    refine tr_region ?_
    refine tr_p (y_move rfl) rfl rfl ?_
    refine tr_nil ?_
    refine tr_thenN ?_
    refine tr_block ?_
    refine tr_range rfl (by kernel_rfl) H ?_ ?_ ?_
    · intro bg1 l1 args h K1 J1 w1 hbg1 H
      obtain ⟨y1_12, y1_13, rfl, H⟩ := H
      refine ⟨rfl, ?_⟩
      refine tr_sub [(0, (.pointer p0)), (2, (⟨none, 0, 0⟩ : Sl).enc), (3, (.pointer (some a2))), (7, (.pointer p0)), (8, r4), (4, r4), (9, r4), (10, (.bool (isNilF r4))), (11, r4), (12, (.int .i64 y1_12)), (13, (.bool y1_13))] ⟨rfl, rfl, rfl, rfl, rfl, rfl, rfl, rfl, rfl, rfl, rfl, trivial⟩ ?_
      refine tr_seq ?_
      refine tr_region ?_
      refine tr_p (y_assign rfl) rfl rfl ?_
      refine tr_nil ?_
      refine tr_thenN ?_
      refine tr_region ?_
      refine tr_p (y_assign rfl) rfl rfl ?_
      refine tr_nil ?_
      refine tr_thenN ?_
      refine tr_bgn hbg1 H fun h8 H => ?_
      refine tr_block ?_
      refine tr_draw mixed [0, 0, 0, 6, 14, 31, 63] (by kernel_rfl) ?_
      obtain ⟨y9, k10, H⟩ := H
      refine g_h 0 1 rfl (by kernel_rfl) (y_ld Try.isAgg24 rfl) k10 rfl rfl ?_
      refine g_p 1 3 rfl (by kernel_rfl) (y_move rfl) rfl rfl ?_
      refine g_p 2 7 rfl (by kernel_rfl) (y_move rfl) rfl rfl ?_
      refine g_e 3 15 [(0, fun h => cellH h a2 = some y9.enc)] (by kernel_rfl) rfl (by kernel_rfl) (e_call Try.call27 rfl (F.spatelaw5_coded_ok H)) rfl rfl ?_
      rintro _ h11 ⟨r12, rfl, H⟩
      obtain ⟨k13, H⟩ := H
      refine ⟨And.intro k13 trivial, ?_⟩
      refine g_e 4 31 [(0, fun h => cellH h a2 = some y9.enc)] (by kernel_rfl) rfl (by kernel_rfl) (f_buildL (cs := #[(.int .i64 r12)]) rfl rfl (bl_24_1_0 r12) H) rfl rfl ?_
      rintro _ h14 ⟨s15, rfl, H⟩
      obtain ⟨k16, H⟩ := H
      refine ⟨And.intro k16 trivial, ?_⟩
      refine g_e 5 63 [] (by kernel_rfl) rfl (by kernel_rfl) (f_app rfl H) rfl rfl ?_
      rintro _ h17 ⟨s18, rfl, H⟩
      refine ⟨trivial, ?_⟩
      refine g_e 6 127 [] (by kernel_rfl) rfl (by kernel_rfl) (f_store (vs := [s18.enc]) Try.sizeOf24 rfl rfl rfl rfl (one1 rfl) H) rfl rfl ?_
      rintro _ h19 ⟨rfl, H⟩
      refine ⟨trivial, ?_⟩
      refine g_d (by kernel_rfl) ?_
      refine tr_blockN ?_
      exact tr_rN H
    · intro h20 H
      refine tr_blockN ?_
      refine tr_thenN ?_
      refine tr_seq ?_
      refine tr_region ?_
      obtain ⟨y21, k22, H⟩ := H
      refine tr_h (y_ld Try.isAgg24 rfl) k22 rfl rfl ?_
      refine tr_p (y_assign rfl) rfl rfl ?_
      refine tr_nil ?_
      refine tr_thenN ?_
      refine tr_ret ?_
      refine tr_shut (h3.size :: ([] : List Nat)) rfl H fun h23 H => ?_
      exact tr_ret1 rfl rfl ⟨_, rfl, H⟩
    · intro jj c h24 hjc H
      simp at hjc

end Go.Proofs.Ytapomjhjpejimaa.V
