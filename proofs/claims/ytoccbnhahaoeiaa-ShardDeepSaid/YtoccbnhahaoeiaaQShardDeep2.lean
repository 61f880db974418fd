/- Parts of the proof of ShardDeep; no condition. -/
import Derived.Test.YtoccbnhahaoeiaaQShardDeep1
namespace Go.Proofs.Ytoccbnhahaoeiaa.V
open Go
set_option linter.unusedVariables false
set_option maxRecDepth 100000
def F.slices_BinarySearchFunc_Slchain_version_api_Agg_chain_version_api_Agg_int.l1 (Q : Int → Bool → H → Prop) : Nat → Sl → Int → Value → Int → Int → Int → H → Prop
  | 0, _, _, _, _, _, _, _ => False
  | q1 + 1, x0, x1, x2, x8, x9, x10, h =>
    ((decide (x9 < x10)) = true →
    0 ≤ (1 : Int) ∧
    idxA x0 (IntKind.wrap .i64 (Int.fdiv (IntKind.wrap .u64 (IntKind.wrap .i64 (x9 + x10))) (2 ^ (min (1 : Int).toNat (IntKind.bits .u64)) : Int))) 6 fun a3 =>
    ld_S_chain_version_api_Agg h a3 fun y5 =>
    CV PP x2 [(.agg y5.cells.toArray), (.int .i64 x1)] h fun u h7 => ∃ (r8 : Int), u = (.int .i64 r8) ∧
    ((decide (r8 < 0)) = true →
    (F.slices_BinarySearchFunc_Slchain_version_api_Agg_chain_version_api_Agg_int.l1 Q q1) x0 x1 x2 x8 (IntKind.wrap .i64 ((IntKind.wrap .i64 (Int.fdiv (IntKind.wrap .u64 (IntKind.wrap .i64 (x9 + x10))) (2 ^ (min (1 : Int).toNat (IntKind.bits .u64)) : Int))) + 1)) x10 h7) ∧
    ((decide (r8 < 0)) = false →
    (F.slices_BinarySearchFunc_Slchain_version_api_Agg_chain_version_api_Agg_int.l1 Q q1) x0 x1 x2 x8 x9 (IntKind.wrap .i64 (Int.fdiv (IntKind.wrap .u64 (IntKind.wrap .i64 (x9 + x10))) (2 ^ (min (1 : Int).toNat (IntKind.bits .u64)) : Int))) h7)) ∧
    ((decide (x9 < x10)) = false →
    ((decide (x9 < x8)) = true →
    idxA x0 x9 6 fun a11 =>
    ld_S_chain_version_api_Agg h a11 fun y13 =>
    CV PP x2 [(.agg y13.cells.toArray), (.int .i64 x1)] h fun u h15 => ∃ (r16 : Int), u = (.int .i64 r16) ∧
    Q x9 ((r16 == 0)) h15) ∧
    ((decide (x9 < x8)) = false →
    Q x9 false h))
/-- slices.BinarySearchFunc[[]spate/chain.version[spate/api.Agg],spate/chain.version[spate/api.Agg],int] -/
def F.slices_BinarySearchFunc_Slchain_version_api_Agg_chain_version_api_Agg_int (p0 : Sl) (p1 : Int) (p2 : Value) (h : H) (Q : Int → Bool → H → Prop) : Prop :=
  ∃ m, F.slices_BinarySearchFunc_Slchain_version_api_Agg_chain_version_api_Agg_int.l1 Q m p0 p1 p2 (p0.len : Int) 0 (p0.len : Int) h
theorem F.slices_BinarySearchFunc_Slchain_version_api_Agg_chain_version_api_Agg_int_ok {p0 : Sl} {p1 : Int} {p2 : Value} {h : H} {Q : Int → Bool → H → Prop} (H : F.slices_BinarySearchFunc_Slchain_version_api_Agg_chain_version_api_Agg_int p0 p1 p2 h Q) : Fn PP 82 ([p0.enc, (.int .i64 p1), p2] : List Value).toArray h fun r h' => ∃ r0 r1, r = .tuple #[(.int .i64 r0), (.bool r1)] ∧ Q r0 r1 h' := by
  unfold F.slices_BinarySearchFunc_Slchain_version_api_Agg_chain_version_api_Agg_int at H
  refine fn_of Try.func82 Try.ntmps82 rfl rfl fun w0 => ?_
  refine tr_sub [(0, p0.enc), (1, (.int .i64 p1)), (2, p2)] ⟨rfl, rfl, rfl, trivial⟩ ?_
  refine tr_seq ?_
  refine tr_region ?_
  refine tr_p (y_assign rfl) rfl rfl ?_
  refine tr_p (y_assign rfl) rfl rfl ?_
  refine tr_nil ?_
  refine tr_thenN ?_
  refine tr_seq ?_
  refine tr_region ?_
  refine tr_p (y_move rfl) rfl rfl ?_
  refine tr_p (y_len (ts := #[]) Try.runUnderlying119 (o := p0.ptr) (n := p0.len) (cap := p0.cap) rfl) rfl rfl ?_
  refine tr_p (y_assign rfl) rfl rfl ?_
  refine tr_nil ?_
  refine tr_thenN ?_
  refine tr_seq ?_
  refine tr_region ?_
  refine tr_p (y_move rfl) rfl rfl ?_
  refine tr_p (y_assign rfl) rfl rfl ?_
  refine tr_p (y_assign rfl) rfl rfl ?_
  refine tr_nil ?_
  refine tr_thenN ?_
  refine tr_seq ?_
  refine tr_block ?_
  obtain ⟨m17, H⟩ := H
  refine tr_sub [(0, p0.enc), (1, (.int .i64 p1)), (2, p2), (8, (.int .i64 (p0.len : Int))), (9, (.int .i64 0)), (10, (.int .i64 (p0.len : Int)))] ⟨rfl, rfl, rfl, rfl, rfl, rfl, trivial⟩ ?_
  refine tr_loop_j (fun m L' h => ∃ (x0 : Sl) (x1 : Int) (x2 : Value) (x8 : Int) (x9 : Int) (x10 : Int), L' = [(0, x0.enc), (1, (.int .i64 x1)), (2, x2), (8, (.int .i64 x8)), (9, (.int .i64 x9)), (10, (.int .i64 x10))] ∧ F.slices_BinarySearchFunc_Slchain_version_api_Agg_chain_version_api_Agg_int.l1 Q m x0 x1 x2 x8 x9 x10 h) ?_ ?_ m17 ⟨_, _, _, _, _, _, rfl, H⟩
  · rintro L' h ⟨_, _, _, _, _, _, _, H⟩; exact H
  · rintro q1 L' h ⟨x0, x1, x2, x8, x9, x10, rfl, H⟩
    unfold F.slices_BinarySearchFunc_Slchain_version_api_Agg_chain_version_api_Agg_int.l1 at H
    refine tr_seq ?_
    refine tr_seq ?_
    refine tr_region ?_
    refine tr_p (y_move rfl) rfl rfl ?_
    refine tr_p (y_move rfl) rfl rfl ?_
    refine tr_p (y_lss rfl rfl) rfl rfl ?_
    refine tr_nil ?_
    refine tr_thenN ?_
    refine tr_cond rfl (fun g1 => ?_) (fun g1 => ?_)
    · replace H := H.1 g1
      refine tr_skip ?_
      refine tr_thenN ?_
      refine tr_block ?_
      refine tr_seq ?_
      refine tr_region ?_
      refine tr_p (y_move rfl) rfl rfl ?_
      refine tr_p (y_move rfl) rfl rfl ?_
      refine tr_p (y_add rfl rfl) rfl rfl ?_
      refine tr_p (y_cvt Try.runUnderlying3 Try.runUnderlying142 rfl) rfl rfl ?_
      obtain ⟨e2, H⟩ := H
      refine tr_p (y_shr rfl rfl e2) rfl rfl ?_
      refine tr_p (y_cvt Try.runUnderlying142 Try.runUnderlying3 rfl) rfl rfl ?_
      refine tr_p (y_assign rfl) rfl rfl ?_
      refine tr_nil ?_
      refine tr_thenN ?_
      refine tr_seq ?_
      refine tr_region ?_
      refine tr_p (y_move rfl) rfl rfl ?_
      refine tr_p (y_move rfl) rfl rfl ?_
      refine tr_p (y_move rfl) rfl rfl ?_
      obtain ⟨a3, e4, H⟩ := H
      refine tr_p (f_idx (s := x0) Try.runUnderlying119 Try.sizeOf123 rfl rfl e4) rfl rfl ?_
      obtain ⟨y5, k6, H⟩ := H
      refine tr_h (y_ldS Try.isAgg123 Try.sizeOf123 rfl rfl) k6 rfl rfl ?_
      refine tr_p (y_move rfl) rfl rfl ?_
      refine tr_e (e_callD rfl rfl H) rfl rfl ?_
      rintro _ h7 ⟨r8, rfl, H⟩
      refine tr_p (y_lss rfl rfl) rfl rfl ?_
      refine tr_nil ?_
      refine tr_thenN ?_
      refine tr_cond rfl (fun g9 => ?_) (fun g9 => ?_)
      · replace H := H.1 g9
        refine tr_region ?_
        refine tr_p (y_move rfl) rfl rfl ?_
        refine tr_p (y_add rfl rfl) rfl rfl ?_
        refine tr_p (y_assign rfl) rfl rfl ?_
        refine tr_nil ?_
        refine tr_blockN ?_
        refine tr_thenN ?_
        exact tr_join [(0, x0.enc), (1, (.int .i64 x1)), (2, x2), (8, (.int .i64 x8)), (9, (.int .i64 (IntKind.wrap .i64 ((IntKind.wrap .i64 (Int.fdiv (IntKind.wrap .u64 (IntKind.wrap .i64 (x9 + x10))) (2 ^ (min (1 : Int).toNat (IntKind.bits .u64)) : Int))) + 1)))), (10, (.int .i64 x10))] ⟨rfl, rfl, rfl, rfl, rfl, rfl, trivial⟩ ⟨_, _, _, _, _, _, rfl, H⟩
      · replace H := H.2 g9
        refine tr_region ?_
        refine tr_p (y_move rfl) rfl rfl ?_
        refine tr_p (y_assign rfl) rfl rfl ?_
        refine tr_nil ?_
        refine tr_blockN ?_
        refine tr_thenN ?_
        exact tr_join [(0, x0.enc), (1, (.int .i64 x1)), (2, x2), (8, (.int .i64 x8)), (9, (.int .i64 x9)), (10, (.int .i64 (IntKind.wrap .i64 (Int.fdiv (IntKind.wrap .u64 (IntKind.wrap .i64 (x9 + x10))) (2 ^ (min (1 : Int).toNat (IntKind.bits .u64)) : Int)))))] ⟨rfl, rfl, rfl, rfl, rfl, rfl, trivial⟩ ⟨_, _, _, _, _, _, rfl, H⟩
    · replace H := H.2 g1
      refine tr_exit ?_
      refine tr_thenE ?_
      refine tr_thenE ?_
      refine tr_hit ?_
      refine tr_thenN ?_
      refine tr_seq ?_
      refine tr_region ?_
      refine tr_p (y_move rfl) rfl rfl ?_
      refine tr_p (y_move rfl) rfl rfl ?_
      refine tr_p (y_move rfl) rfl rfl ?_
      refine tr_p (y_lss rfl rfl) rfl rfl ?_
      refine tr_p (y_move rfl) rfl rfl ?_
      refine tr_split (t := 39) rfl (fun g10 => ?_) (fun g10 => ?_)
      · replace H := H.1 g10
        refine tr_p (y_move rfl) rfl rfl ?_
        refine tr_p (y_move rfl) rfl rfl ?_
        refine tr_p (y_move rfl) rfl rfl ?_
        obtain ⟨a11, e12, H⟩ := H
        refine tr_p (f_idx (s := x0) Try.runUnderlying119 Try.sizeOf123 rfl rfl e12) rfl rfl ?_
        obtain ⟨y13, k14, H⟩ := H
        refine tr_h (y_ldS Try.isAgg123 Try.sizeOf123 rfl rfl) k14 rfl rfl ?_
        refine tr_p (y_move rfl) rfl rfl ?_
        refine tr_e (e_callD rfl rfl H) rfl rfl ?_
        rintro _ h15 ⟨r16, rfl, H⟩
        refine tr_p (y_eql rfl rfl) rfl rfl ?_
        refine tr_p (y_pick_t rfl rfl) rfl rfl ?_
        refine tr_p (y_assign rfl) rfl rfl ?_
        refine tr_p (y_assign rfl) rfl rfl ?_
        refine tr_nil ?_
        refine tr_thenN ?_
        refine tr_ret ?_
        exact tr_ret2 rfl rfl rfl ⟨_, _, rfl, H⟩
      · replace H := H.2 g10
        refine tr_s rfl rfl ?_
        refine tr_s rfl rfl ?_
        refine tr_s rfl rfl ?_
        refine tr_s rfl rfl ?_
        refine tr_s rfl rfl ?_
        refine tr_s rfl rfl ?_
        refine tr_s rfl rfl ?_
        refine tr_s rfl rfl ?_
        refine tr_p (y_pick_f rfl rfl) rfl rfl ?_
        refine tr_p (y_assign rfl) rfl rfl ?_
        refine tr_p (y_assign rfl) rfl rfl ?_
        refine tr_nil ?_
        refine tr_thenN ?_
        refine tr_ret ?_
        exact tr_ret2 rfl rfl rfl ⟨_, _, rfl, H⟩
/-- (*spate/chain.Chain[spate/api.Agg]).place$1 -/
def F.chain_Chain_api_Agg_place_1 (p0 : S_chain_version_api_Agg) (p1 : Int) (h : H) (Q : Int → H → Prop) : Prop :=
  new h p0.cells.toArray ty_123 fun a2 h1 =>
  ldI .i64 h1 (a2.add 0) fun y3 =>
  ((decide (y3 ≤ p1)) = true →
  Q (-1) h1) ∧
  ((decide (y3 ≤ p1)) = false →
  Q 1 h1)
theorem F.chain_Chain_api_Agg_place_1_ok {p0 : S_chain_version_api_Agg} {p1 : Int} {h : H} {Q : Int → H → Prop} (H : F.chain_Chain_api_Agg_place_1 p0 p1 h Q) : Fn PP 83 ([(.agg p0.cells.toArray), (.int .i64 p1)] : List Value).toArray h fun r h' => ∃ r0, r = (.int .i64 r0) ∧ Q r0 h' := by
  unfold F.chain_Chain_api_Agg_place_1 at H
  refine fn_of Try.func83 Try.ntmps83 rfl rfl fun w0 => ?_
  refine tr_sub [(0, (.agg p0.cells.toArray)), (1, (.int .i64 p1))] ⟨rfl, rfl, trivial⟩ ?_
  refine tr_seq ?_
  refine tr_region ?_
  refine tr_e (f_box (cs := p0.cells.toArray) rfl rfl H) rfl rfl ?_
  rintro _ h1 ⟨a2, rfl, H⟩
  refine tr_p (y_assign rfl) rfl rfl ?_
  refine tr_nil ?_
  refine tr_thenN ?_
  refine tr_seq ?_
  refine tr_seq ?_
  refine tr_region ?_
  refine tr_p (y_fa (off := 0) Try.runUnderlying123 fo_123_0 rfl) rfl rfl ?_
  obtain ⟨y3, k4, H⟩ := H
  refine tr_h (y_ld Try.isAgg3 rfl) k4 rfl rfl ?_
  refine tr_p (y_move rfl) rfl rfl ?_
  refine tr_p (y_leq rfl rfl) rfl rfl ?_
  refine tr_nil ?_
  refine tr_thenN ?_
  refine tr_cond rfl (fun g5 => ?_) (fun g5 => ?_)
  · replace H := H.1 g5
    refine tr_seq ?_
    refine tr_region ?_
    refine tr_p (y_assign rfl) rfl rfl ?_
    refine tr_nil ?_
    refine tr_thenN ?_
    refine tr_ret ?_
    refine tr_thenR ?_
    exact tr_ret1 rfl rfl ⟨_, rfl, H⟩
  · replace H := H.2 g5
    refine tr_skip ?_
    refine tr_thenN ?_
    refine tr_seq ?_
    refine tr_region ?_
    refine tr_p (y_assign rfl) rfl rfl ?_
    refine tr_nil ?_
    refine tr_thenN ?_
    refine tr_ret ?_
    exact tr_ret1 rfl rfl ⟨_, rfl, H⟩
/-- (*spate/chain.Chain[spate/api.Agg]).place -/
def F.chain_Chain_api_Agg_place (p0 : Option Addr) (p1 : Int) (h : H) (Q : Int → H → Prop) : Prop :=
  nn p0 fun a1 =>
  ldL h (a1.add 0) fun y3 =>
  F.slices_BinarySearchFunc_Slchain_version_api_Agg_chain_version_api_Agg_int y3 p1 (.func (.func 83) #[] #[]) h fun r6 r7 h5 =>
  Q (IntKind.wrap .i64 (r6 - 1)) h5
theorem F.chain_Chain_api_Agg_place_ok {p0 : Option Addr} {p1 : Int} {h : H} {Q : Int → H → Prop} (H : F.chain_Chain_api_Agg_place p0 p1 h Q) : Fn PP 69 ([(.pointer p0), (.int .i64 p1)] : List Value).toArray h fun r h' => ∃ r0, r = (.int .i64 r0) ∧ Q r0 h' := by
  unfold F.chain_Chain_api_Agg_place at H
  refine fn_of Try.func69 Try.ntmps69 rfl rfl fun w0 => ?_
  refine tr_sub [(0, (.pointer p0)), (1, (.int .i64 p1))] ⟨rfl, rfl, trivial⟩ ?_
  refine tr_seq ?_
  refine tr_region ?_
  refine tr_p (y_assign rfl) rfl rfl ?_
  refine tr_nil ?_
  refine tr_thenN ?_
  refine tr_seq ?_
  refine tr_region ?_
  refine tr_p (y_move rfl) rfl rfl ?_
  obtain ⟨a1, e2, H⟩ := H
  refine tr_p (f_nn rfl e2) rfl rfl ?_
  refine tr_p (y_fa (off := 0) Try.runUnderlying121 fo_121_0 rfl) rfl rfl ?_
  obtain ⟨y3, k4, H⟩ := H
  refine tr_h (y_ld Try.isAgg119 rfl) k4 rfl rfl ?_
  refine tr_p (y_move rfl) rfl rfl ?_
  refine tr_e (e_call Try.call82 rfl (F.slices_BinarySearchFunc_Slchain_version_api_Agg_chain_version_api_Agg_int_ok H)) rfl rfl ?_
  rintro _ h5 ⟨r6, r7, rfl, H⟩
  refine tr_p (y_move rfl) rfl rfl ?_
  refine tr_p (y_ext rfl rfl) rfl rfl ?_
  refine tr_p (y_ext rfl rfl) rfl rfl ?_
  refine tr_p (y_assign rfl) rfl rfl ?_
  refine tr_p (y_assign rfl) rfl rfl ?_
  refine tr_nil ?_
  refine tr_thenN ?_
  refine tr_seq ?_
  refine tr_region ?_
  refine tr_p (y_move rfl) rfl rfl ?_
  refine tr_p (y_sub rfl rfl) rfl rfl ?_
  refine tr_p (y_assign rfl) rfl rfl ?_
  refine tr_nil ?_
  refine tr_thenN ?_
  refine tr_ret ?_
  exact tr_ret1 rfl rfl ⟨_, rfl, H⟩
def F.chain_Chain_api_Agg_At.j1 (Q : S_api_Agg → Bool → H → Prop) (x4 : Addr) (h : H) : Prop :=
  ld_S_api_Agg h x4 fun y3 =>
  stH h x4 y3.cells fun h5 =>
  ld_S_api_Agg h5 x4 fun y6 =>
  Q y6 false h5
def F.chain_Chain_api_Agg_At.j2 (Q : S_api_Agg → Bool → H → Prop) (x0 : Option Addr) (x4 : Addr) (x6 : Int) (x22 : Bool) (h : H) : Prop :=
  (x22 = true →
  nn x0 fun a11 =>
  ldL h (a11.add 0) fun y13 =>
  idxA y13 x6 6 fun a15 =>
  ld_S_api_Agg h (a15.add 1) fun y17 =>
  stH h x4 y17.cells fun h19 =>
  ld_S_api_Agg h19 x4 fun y20 =>
  Q y20 true h19) ∧
  (x22 = false →
  F.chain_Chain_api_Agg_At.j1 Q x4 h)
/-- (*spate/chain.Chain[spate/api.Agg]).At -/
def F.chain_Chain_api_Agg_At (p0 : Option Addr) (p1 : Int) (h : H) (Q : S_api_Agg → Bool → H → Prop) : Prop :=
  new h (((⟨0, 0, 0, 0⟩ : S_api_Agg) : S_api_Agg).cells.toArray) ty_35 fun a2 h1 =>
  F.chain_Chain_api_Agg_place p0 p1 h1 fun r9 h8 =>
  ((decide (r9 ≥ 0)) = true →
  nn p0 fun a23 =>
  ldL h8 (a23.add 0) fun y25 =>
  idxA y25 r9 6 fun a27 =>
  ldB h8 (a27.add 5) fun y29 =>
  F.chain_Chain_api_Agg_At.j2 Q p0 a2 r9 (!y29) h8) ∧
  ((decide (r9 ≥ 0)) = false →
  F.chain_Chain_api_Agg_At.j2 Q p0 a2 r9 false h8)
theorem F.chain_Chain_api_Agg_At_ok {p0 : Option Addr} {p1 : Int} {h : H} {Q : S_api_Agg → Bool → H → Prop} (H : F.chain_Chain_api_Agg_At p0 p1 h Q) : Fn PP 65 ([(.pointer p0), (.int .i64 p1)] : List Value).toArray h fun r h' => ∃ r0 r1, r = .tuple #[(.agg r0.cells.toArray), (.bool r1)] ∧ Q r0 r1 h' := by
  unfold F.chain_Chain_api_Agg_At at H
  refine fn_of Try.func65 Try.ntmps65 rfl rfl fun w0 => ?_
  refine tr_sub [(0, (.pointer p0)), (1, (.int .i64 p1))] ⟨rfl, rfl, trivial⟩ ?_
  refine tr_seq ?_
  refine tr_region ?_
  refine tr_e (f_alloc (cs := ((⟨0, 0, 0, 0⟩ : S_api_Agg) : S_api_Agg).cells.toArray) Try.zeroValue35 rfl H) rfl rfl ?_
  rintro _ h1 ⟨a2, rfl, H⟩
  refine tr_p (y_assign rfl) rfl rfl ?_
  refine tr_nil ?_
  refine tr_thenN ?_
  refine tr_seq_j (fun L' h => ∃ (x4 : Addr), L' = [(4, (.pointer (some x4)))] ∧ F.chain_Chain_api_Agg_At.j1 Q x4 h) ?_ ?_
  · rintro L' h ⟨x4, rfl, H⟩
    unfold F.chain_Chain_api_Agg_At.j1 at H
    refine tr_seq ?_
    refine tr_region ?_
    obtain ⟨y3, k4, H⟩ := H
    refine tr_h (y_ldS Try.isAgg35 Try.sizeOf35 rfl rfl) k4 rfl rfl ?_
    refine tr_e (f_store (vs := y3.cells) Try.sizeOf35 rfl rfl cellsOfStruct rfl (by intro v hv; exact ones_S_api_Agg _ v hv) H) rfl rfl ?_
    rintro _ h5 ⟨rfl, H⟩
    refine tr_p (y_assign rfl) rfl rfl ?_
    refine tr_nil ?_
    refine tr_thenN ?_
    refine tr_ret ?_
    obtain ⟨y6, k7, H⟩ := H
    exact tr_rv2 rfl (rv_cellS Try.isAgg35 Try.sizeOf35 rfl rfl k7) (rv_tmp rfl) ⟨_, _, rfl, H⟩
  · refine tr_seq ?_
    refine tr_region ?_
    refine tr_p (y_move rfl) rfl rfl ?_
    refine tr_p (y_move rfl) rfl rfl ?_
    refine tr_e (e_call Try.call69 rfl (F.chain_Chain_api_Agg_place_ok H)) rfl rfl ?_
    rintro _ h8 ⟨r9, rfl, H⟩
    refine tr_p (y_assign rfl) rfl rfl ?_
    refine tr_nil ?_
    refine tr_thenN ?_
    refine tr_seq_j (fun L' h => ∃ (x0 : Option Addr) (x4 : Addr) (x6 : Int) (x22 : Bool), L' = [(0, (.pointer x0)), (4, (.pointer (some x4))), (6, (.int .i64 x6)), (22, (.bool x22))] ∧ F.chain_Chain_api_Agg_At.j2 Q x0 x4 x6 x22 h) ?_ ?_
    · rintro L' h ⟨x0, x4, x6, x22, rfl, H⟩
      unfold F.chain_Chain_api_Agg_At.j2 at H
      refine tr_cond rfl (fun g10 => ?_) (fun g10 => ?_)
      · replace H := H.1 g10
        refine tr_seq ?_
        refine tr_region ?_
        refine tr_p (y_move rfl) rfl rfl ?_
        obtain ⟨a11, e12, H⟩ := H
        refine tr_p (f_nn rfl e12) rfl rfl ?_
        refine tr_p (y_fa (off := 0) Try.runUnderlying121 fo_121_0 rfl) rfl rfl ?_
        obtain ⟨y13, k14, H⟩ := H
        refine tr_h (y_ld Try.isAgg119 rfl) k14 rfl rfl ?_
        refine tr_p (y_move rfl) rfl rfl ?_
        obtain ⟨a15, e16, H⟩ := H
        refine tr_p (f_idx (s := y13) Try.runUnderlying119 Try.sizeOf123 rfl rfl e16) rfl rfl ?_
        refine tr_p (y_fa (off := 1) Try.runUnderlying123 fo_123_1 rfl) rfl rfl ?_
        obtain ⟨y17, k18, H⟩ := H
        refine tr_h (y_ldS Try.isAgg35 Try.sizeOf35 rfl rfl) k18 rfl rfl ?_
        refine tr_e (f_store (vs := y17.cells) Try.sizeOf35 rfl rfl cellsOfStruct rfl (by intro v hv; exact ones_S_api_Agg _ v hv) H) rfl rfl ?_
        rintro _ h19 ⟨rfl, H⟩
        refine tr_p (y_assign rfl) rfl rfl ?_
        refine tr_nil ?_
        refine tr_thenN ?_
        refine tr_ret ?_
        refine tr_thenR ?_
        obtain ⟨y20, k21, H⟩ := H
        exact tr_rv2 rfl (rv_cellS Try.isAgg35 Try.sizeOf35 rfl rfl k21) (rv_tmp rfl) ⟨_, _, rfl, H⟩
      · replace H := H.2 g10
        refine tr_skip ?_
        refine tr_thenN ?_
        exact tr_join [(4, (.pointer (some x4)))] ⟨rfl, trivial⟩ ⟨_, rfl, H⟩
    · refine tr_region ?_
      refine tr_p (y_move rfl) rfl rfl ?_
      refine tr_p (y_geq rfl rfl) rfl rfl ?_
      refine tr_p (y_move rfl) rfl rfl ?_
      refine tr_split (t := 12) rfl (fun g22 => ?_) (fun g22 => ?_)
      · replace H := H.1 g22
        refine tr_p (y_move rfl) rfl rfl ?_
        obtain ⟨a23, e24, H⟩ := H
        refine tr_p (f_nn rfl e24) rfl rfl ?_
        refine tr_p (y_fa (off := 0) Try.runUnderlying121 fo_121_0 rfl) rfl rfl ?_
        obtain ⟨y25, k26, H⟩ := H
        refine tr_h (y_ld Try.isAgg119 rfl) k26 rfl rfl ?_
        refine tr_p (y_move rfl) rfl rfl ?_
        obtain ⟨a27, e28, H⟩ := H
        refine tr_p (f_idx (s := y25) Try.runUnderlying119 Try.sizeOf123 rfl rfl e28) rfl rfl ?_
        refine tr_p (y_fa (off := 5) Try.runUnderlying123 fo_123_2 rfl) rfl rfl ?_
        obtain ⟨y29, k30, H⟩ := H
        refine tr_h (y_ld Try.isAgg4 rfl) k30 rfl rfl ?_
        refine tr_p (y_not rfl) rfl rfl ?_
        refine tr_p (y_pick_t rfl rfl) rfl rfl ?_
        refine tr_nil ?_
        refine tr_thenN ?_
        exact tr_join [(0, (.pointer p0)), (4, (.pointer (some a2))), (6, (.int .i64 r9)), (22, (.bool (!y29)))] ⟨rfl, rfl, rfl, rfl, trivial⟩ ⟨_, _, _, _, rfl, H⟩
      · replace H := H.2 g22
        refine tr_s rfl rfl ?_
        refine tr_s rfl rfl ?_
        refine tr_s rfl rfl ?_
        refine tr_s rfl rfl ?_
        refine tr_s rfl rfl ?_
        refine tr_s rfl rfl ?_
        refine tr_s rfl rfl ?_
        refine tr_s rfl rfl ?_
        refine tr_s rfl rfl ?_
        refine tr_p (y_pick_f rfl rfl) rfl rfl ?_
        refine tr_nil ?_
        refine tr_thenN ?_
        exact tr_join [(0, (.pointer p0)), (4, (.pointer (some a2))), (6, (.int .i64 r9)), (22, (.bool false))] ⟨rfl, rfl, rfl, rfl, trivial⟩ ⟨_, _, _, _, rfl, H⟩
/-- spate/shard.at -/
def F.shard_at (p0 : Option Addr) (p1 : Int) (h : H) (Q : S_api_Agg → Bool → H → Prop) : Prop :=
  new h (((⟨0, 0, 0, 0⟩ : S_api_Agg) : S_api_Agg).cells.toArray) ty_35 fun a2 h1 =>
  (p0.isNone = true →
  stH h1 a2 ((⟨0, 0, 0, 0⟩ : S_api_Agg).cells) fun h4 =>
  ld_S_api_Agg h4 a2 fun y5 =>
  Q y5 false h4) ∧
  (p0.isNone = false →
  (((p1 == 0)) = true →
  F.chain_Chain_api_Agg_Newest p0 h1 fun r9 r10 r11 h8 =>
  new h8 (((⟨0, 0, 0, 0⟩ : S_api_Agg) : S_api_Agg).cells.toArray) ty_35 fun a13 h12 =>
  stH h12 a13 r9.cells fun h14 =>
  ld_S_api_Agg h14 a13 fun y15 =>
  stH h14 a2 y15.cells fun h17 =>
  ld_S_api_Agg h17 a2 fun y18 =>
  Q y18 r11 h17) ∧
  (((p1 == 0)) = false →
  F.chain_Chain_api_Agg_At p0 p1 h1 fun r21 r22 h20 =>
  stH h20 a2 r21.cells fun h23 =>
  ld_S_api_Agg h23 a2 fun y24 =>
  Q y24 r22 h23))
theorem F.shard_at_ok {p0 : Option Addr} {p1 : Int} {h : H} {Q : S_api_Agg → Bool → H → Prop} (H : F.shard_at p0 p1 h Q) : Fn PP 44 ([(.pointer p0), (.int .i64 p1)] : List Value).toArray h fun r h' => ∃ r0 r1, r = .tuple #[(.agg r0.cells.toArray), (.bool r1)] ∧ Q r0 r1 h' := by
  unfold F.shard_at at H
  refine fn_of Try.func44 Try.ntmps44 rfl rfl fun w0 => ?_
  refine tr_sub [(0, (.pointer p0)), (1, (.int .i64 p1))] ⟨rfl, rfl, trivial⟩ ?_
  refine tr_seq ?_
  refine tr_region ?_
  refine tr_e (f_alloc (cs := ((⟨0, 0, 0, 0⟩ : S_api_Agg) : S_api_Agg).cells.toArray) Try.zeroValue35 rfl H) rfl rfl ?_
  rintro _ h1 ⟨a2, rfl, H⟩
  refine tr_p (y_assign rfl) rfl rfl ?_
  refine tr_nil ?_
  refine tr_thenN ?_
  refine tr_seq ?_
  refine tr_seq ?_
  refine tr_region ?_
  refine tr_p (y_move rfl) rfl rfl ?_
  refine tr_p (y_pnil_eql Try.runUnderlying77 rfl rfl) rfl rfl ?_
  refine tr_nil ?_
  refine tr_thenN ?_
  refine tr_cond rfl (fun g3 => ?_) (fun g3 => ?_)
  · replace H := H.1 g3
    refine tr_seq ?_
    refine tr_region ?_
    refine tr_p (f_build rfl (bd_35_ )) rfl rfl ?_
    refine tr_e (f_store (vs := (⟨0, 0, 0, 0⟩ : S_api_Agg).cells) Try.sizeOf35 rfl rfl cellsOfStruct rfl (by intro v hv; exact ones_S_api_Agg _ v hv) H) rfl rfl ?_
    rintro _ h4 ⟨rfl, H⟩
    refine tr_p (y_assign rfl) rfl rfl ?_
    refine tr_nil ?_
    refine tr_thenN ?_
    refine tr_ret ?_
    refine tr_thenR ?_
    obtain ⟨y5, k6, H⟩ := H
    exact tr_rv2 rfl (rv_cellS Try.isAgg35 Try.sizeOf35 rfl rfl k6) (rv_tmp rfl) ⟨_, _, rfl, H⟩
  · replace H := H.2 g3
    refine tr_skip ?_
    refine tr_thenN ?_
    refine tr_seq ?_
    refine tr_seq ?_
    refine tr_region ?_
    refine tr_p (y_move rfl) rfl rfl ?_
    refine tr_p (y_eql rfl rfl) rfl rfl ?_
    refine tr_nil ?_
    refine tr_thenN ?_
    refine tr_cond rfl (fun g7 => ?_) (fun g7 => ?_)
    · replace H := H.1 g7
      refine tr_seq ?_
      refine tr_region ?_
      refine tr_p (y_move rfl) rfl rfl ?_
      refine tr_e (e_call Try.call39 rfl (F.chain_Chain_api_Agg_Newest_ok H)) rfl rfl ?_
      rintro _ h8 ⟨r9, r10, r11, rfl, H⟩
      refine tr_p (y_move rfl) rfl rfl ?_
      refine tr_p (y_ext rfl rfl) rfl rfl ?_
      refine tr_p (y_ext rfl rfl) rfl rfl ?_
      refine tr_p (y_ext rfl rfl) rfl rfl ?_
      refine tr_e (f_alloc (cs := ((⟨0, 0, 0, 0⟩ : S_api_Agg) : S_api_Agg).cells.toArray) Try.zeroValue35 rfl H) rfl rfl ?_
      rintro _ h12 ⟨a13, rfl, H⟩
      refine tr_e (f_store (vs := r9.cells) Try.sizeOf35 rfl rfl cellsOfStruct rfl (by intro v hv; exact ones_S_api_Agg _ v hv) H) rfl rfl ?_
      rintro _ h14 ⟨rfl, H⟩
      refine tr_p (y_assign rfl) rfl rfl ?_
      refine tr_p (y_assign rfl) rfl rfl ?_
      refine tr_nil ?_
      refine tr_thenN ?_
      refine tr_seq ?_
      refine tr_region ?_
      obtain ⟨y15, k16, H⟩ := H
      refine tr_h (y_ldS Try.isAgg35 Try.sizeOf35 rfl rfl) k16 rfl rfl ?_
      refine tr_p (y_move rfl) rfl rfl ?_
      refine tr_e (f_store (vs := y15.cells) Try.sizeOf35 rfl rfl cellsOfStruct rfl (by intro v hv; exact ones_S_api_Agg _ v hv) H) rfl rfl ?_
      rintro _ h17 ⟨rfl, H⟩
      refine tr_p (y_assign rfl) rfl rfl ?_
      refine tr_nil ?_
      refine tr_thenN ?_
      refine tr_ret ?_
      refine tr_thenR ?_
      obtain ⟨y18, k19, H⟩ := H
      exact tr_rv2 rfl (rv_cellS Try.isAgg35 Try.sizeOf35 rfl rfl k19) (rv_tmp rfl) ⟨_, _, rfl, H⟩
    · replace H := H.2 g7
      refine tr_skip ?_
      refine tr_thenN ?_
      refine tr_seq ?_
      refine tr_region ?_
      refine tr_p (y_move rfl) rfl rfl ?_
      refine tr_p (y_move rfl) rfl rfl ?_
      refine tr_e (e_call Try.call65 rfl (F.chain_Chain_api_Agg_At_ok H)) rfl rfl ?_
      rintro _ h20 ⟨r21, r22, rfl, H⟩
      refine tr_p (y_ext rfl rfl) rfl rfl ?_
      refine tr_p (y_ext rfl rfl) rfl rfl ?_
      refine tr_e (f_store (vs := r21.cells) Try.sizeOf35 rfl rfl cellsOfStruct rfl (by intro v hv; exact ones_S_api_Agg _ v hv) H) rfl rfl ?_
      rintro _ h23 ⟨rfl, H⟩
      refine tr_p (y_assign rfl) rfl rfl ?_
      refine tr_nil ?_
      refine tr_thenN ?_
      refine tr_ret ?_
      obtain ⟨y24, k25, H⟩ := H
      exact tr_rv2 rfl (rv_cellS Try.isAgg35 Try.sizeOf35 rfl rfl k25) (rv_tmp rfl) ⟨_, _, rfl, H⟩
/-- (*spate/shard.Shard).At -/
def F.shard_Shard_At (p0 : Option Addr) (p1 : S_api_Cell) (p2 : Int) (h : H) (Q : S_api_Agg → H → Prop) : Prop :=
  new h p1.cells.toArray ty_24 fun a2 h1 =>
  new h1 (((⟨0, 0, 0, 0⟩ : S_api_Agg) : S_api_Agg).cells.toArray) ty_35 fun a4 h3 =>
  ld_S_api_Cell h3 a2 fun y5 =>
  F.shard_Shard_chain p0 y5 h3 fun r8 h7 =>
  F.shard_at r8 p2 h7 fun r10 r11 h9 =>
  new h9 (((⟨0, 0, 0, 0⟩ : S_api_Agg) : S_api_Agg).cells.toArray) ty_35 fun a13 h12 =>
  stH h12 a13 r10.cells fun h14 =>
  ld_S_api_Agg h14 a13 fun y15 =>
  stH h14 a4 y15.cells fun h17 =>
  ld_S_api_Agg h17 a4 fun y18 =>
  Q y18 h17
theorem F.shard_Shard_At_ok {p0 : Option Addr} {p1 : S_api_Cell} {p2 : Int} {h : H} {Q : S_api_Agg → H → Prop} (H : F.shard_Shard_At p0 p1 p2 h Q) : Fn PP 19 ([(.pointer p0), (.agg p1.cells.toArray), (.int .i64 p2)] : List Value).toArray h fun r h' => ∃ r0, r = (.agg r0.cells.toArray) ∧ Q r0 h' := by
  unfold F.shard_Shard_At at H
  refine fn_of Try.func19 Try.ntmps19 rfl rfl fun w0 => ?_
  refine tr_sub [(0, (.pointer p0)), (1, (.agg p1.cells.toArray)), (2, (.int .i64 p2))] ⟨rfl, rfl, rfl, trivial⟩ ?_
  refine tr_seq ?_
  refine tr_region ?_
  refine tr_e (f_box (cs := p1.cells.toArray) rfl rfl H) rfl rfl ?_
  rintro _ h1 ⟨a2, rfl, H⟩
  refine tr_e (f_alloc (cs := ((⟨0, 0, 0, 0⟩ : S_api_Agg) : S_api_Agg).cells.toArray) Try.zeroValue35 rfl H) rfl rfl ?_
  rintro _ h3 ⟨a4, rfl, H⟩
  refine tr_nil ?_
  refine tr_thenN ?_
  refine tr_seq ?_
  refine tr_region ?_
  refine tr_p (y_move rfl) rfl rfl ?_
  obtain ⟨y5, k6, H⟩ := H
  refine tr_h (y_ldS Try.isAgg24 Try.sizeOf24 rfl rfl) k6 rfl rfl ?_
  refine tr_e (e_call Try.call45 rfl (F.shard_Shard_chain_ok H)) rfl rfl ?_
  rintro _ h7 ⟨r8, rfl, H⟩
  refine tr_p (y_move rfl) rfl rfl ?_
  refine tr_e (e_call Try.call44 rfl (F.shard_at_ok H)) rfl rfl ?_
  rintro _ h9 ⟨r10, r11, rfl, H⟩
  refine tr_p (y_move rfl) rfl rfl ?_
  refine tr_p (y_ext rfl rfl) rfl rfl ?_
  refine tr_p (y_ext rfl rfl) rfl rfl ?_
  refine tr_e (f_alloc (cs := ((⟨0, 0, 0, 0⟩ : S_api_Agg) : S_api_Agg).cells.toArray) Try.zeroValue35 rfl H) rfl rfl ?_
  rintro _ h12 ⟨a13, rfl, H⟩
  refine tr_e (f_store (vs := r10.cells) Try.sizeOf35 rfl rfl cellsOfStruct rfl (by intro v hv; exact ones_S_api_Agg _ v hv) H) rfl rfl ?_
  rintro _ h14 ⟨rfl, H⟩
  refine tr_p (y_assign rfl) rfl rfl ?_
  refine tr_nil ?_
  refine tr_thenN ?_
  refine tr_seq ?_
  refine tr_region ?_
  obtain ⟨y15, k16, H⟩ := H
  refine tr_h (y_ldS Try.isAgg35 Try.sizeOf35 rfl rfl) k16 rfl rfl ?_
  refine tr_e (f_store (vs := y15.cells) Try.sizeOf35 rfl rfl cellsOfStruct rfl (by intro v hv; exact ones_S_api_Agg _ v hv) H) rfl rfl ?_
  rintro _ h17 ⟨rfl, H⟩
  refine tr_nil ?_
  refine tr_thenN ?_
  refine tr_ret ?_
  obtain ⟨y18, k19, H⟩ := H
  exact tr_rv1 rfl (rv_cellS Try.isAgg35 Try.sizeOf35 rfl rfl k19) ⟨_, rfl, H⟩
/-- (*spate/shard.Shard).Get -/
def F.shard_Shard_Get (p0 : Option Addr) (p1 : S_api_Cell) (h : H) (Q : S_api_Agg → H → Prop) : Prop :=
  new h p1.cells.toArray ty_24 fun a2 h1 =>
  new h1 (((⟨0, 0, 0, 0⟩ : S_api_Agg) : S_api_Agg).cells.toArray) ty_35 fun a4 h3 =>
  ld_S_api_Cell h3 a2 fun y5 =>
  F.shard_Shard_At p0 y5 0 h3 fun r8 h7 =>
  stH h7 a4 r8.cells fun h9 =>
  ld_S_api_Agg h9 a4 fun y10 =>
  Q y10 h9
theorem F.shard_Shard_Get_ok {p0 : Option Addr} {p1 : S_api_Cell} {h : H} {Q : S_api_Agg → H → Prop} (H : F.shard_Shard_Get p0 p1 h Q) : Fn PP 17 ([(.pointer p0), (.agg p1.cells.toArray)] : List Value).toArray h fun r h' => ∃ r0, r = (.agg r0.cells.toArray) ∧ Q r0 h' := by
  unfold F.shard_Shard_Get at H
  refine fn_of Try.func17 Try.ntmps17 rfl rfl fun w0 => ?_
  refine tr_sub [(0, (.pointer p0)), (1, (.agg p1.cells.toArray))] ⟨rfl, rfl, trivial⟩ ?_
  refine tr_seq ?_
  refine tr_region ?_
  refine tr_e (f_box (cs := p1.cells.toArray) rfl rfl H) rfl rfl ?_
  rintro _ h1 ⟨a2, rfl, H⟩
  refine tr_e (f_alloc (cs := ((⟨0, 0, 0, 0⟩ : S_api_Agg) : S_api_Agg).cells.toArray) Try.zeroValue35 rfl H) rfl rfl ?_
  rintro _ h3 ⟨a4, rfl, H⟩
  refine tr_nil ?_
  refine tr_thenN ?_
  refine tr_seq ?_
  refine tr_region ?_
  refine tr_p (y_move rfl) rfl rfl ?_
  obtain ⟨y5, k6, H⟩ := H
  refine tr_h (y_ldS Try.isAgg24 Try.sizeOf24 rfl rfl) k6 rfl rfl ?_
  refine tr_e (e_call Try.call19 rfl (F.shard_Shard_At_ok H)) rfl rfl ?_
  rintro _ h7 ⟨r8, rfl, H⟩
  refine tr_e (f_store (vs := r8.cells) Try.sizeOf35 rfl rfl cellsOfStruct rfl (by intro v hv; exact ones_S_api_Agg _ v hv) H) rfl rfl ?_
  rintro _ h9 ⟨rfl, H⟩
  refine tr_nil ?_
  refine tr_thenN ?_
  refine tr_ret ?_
  obtain ⟨y10, k11, H⟩ := H
  exact tr_rv1 rfl (rv_cellS Try.isAgg35 Try.sizeOf35 rfl rfl k11) ⟨_, rfl, H⟩
def F.spatelaw7_head.j1 (Q : Bool → H → Prop) (x1 : Option Addr) (h : H) : Prop :=
  new h (((⟨0, (⟨#[]⟩ : ByteArray), 0⟩ : S_api_Cell) : S_api_Cell).cells.toArray) ty_24 fun a5 h4 =>
  stH h4 a5 ((⟨0, (⟨#[97]⟩ : ByteArray), 0⟩ : S_api_Cell).cells) fun h6 =>
  ld_S_api_Cell h6 a5 fun y7 =>
  F.spatelaw7_one 5 h6 fun r10 h9 =>
  Cells h9 a5 y7.cells ∧
  F.shard_Shard_Put x1 1 (⟨y7, r10⟩ : S_api_Row) h9 fun r13 h12 =>
  ld_S_api_Cell h12 a5 fun y14 =>
  F.spatelaw7_one 6 h12 fun r17 h16 =>
  Cells h16 a5 y14.cells ∧
  F.shard_Shard_Put x1 2 (⟨y14, r17⟩ : S_api_Row) h16 fun r20 h19 =>
  (((r13 == 0)) = true →
  (((r20 == 0)) = true →
  nn x1 fun a23 =>
  F.shard_counts_Units (some (a23.add 0)) h19 fun r26 h25 =>
  (((r26 == 3)) = true →
  nn x1 fun a28 =>
  F.shard_counts_Cells (some (a28.add 0)) h25 fun r31 h30 =>
  (((r31 == 1)) = true →
  F.shard_Shard_Most x1 h30 fun r34 h33 =>
  (((r34 == 2)) = true →
  ld_S_api_Cell h33 a5 fun y36 =>
  F.shard_Shard_Get x1 y36 h33 fun r39 h38 =>
  F.spatelaw7_one 6 h38 fun r41 h40 =>
  (((r39.Count == r41.Count) && ((r39.Sum == r41.Sum) && ((r39.Min == r41.Min) && ((r39.Max == r41.Max) && true)))) = true →
  ld_S_api_Cell h40 a5 fun y43 =>
  F.shard_Shard_At x1 y43 1 h40 fun r46 h45 =>
  F.spatelaw7_one 5 h45 fun r48 h47 =>
  Q ((r46.Count == r48.Count) && ((r46.Sum == r48.Sum) && ((r46.Min == r48.Min) && ((r46.Max == r48.Max) && true)))) h47) ∧
  (((r39.Count == r41.Count) && ((r39.Sum == r41.Sum) && ((r39.Min == r41.Min) && ((r39.Max == r41.Max) && true)))) = false →
  Q false h40)) ∧
  (((r34 == 2)) = false →
  Q false h33)) ∧
  (((r31 == 1)) = false →
  Q false h30)) ∧
  (((r26 == 3)) = false →
  Q false h25)) ∧
  (((r20 == 0)) = false →
  Q false h19)) ∧
  (((r13 == 0)) = false →
  Q false h19)
def F.spatelaw7_head.j2 (Q : Bool → H → Prop) (x1 : Option Addr) (x15 : Bool) (h : H) : Prop :=
  (x15 = true →
  Q false h) ∧
  (x15 = false →
  F.spatelaw7_head.j1 Q x1 h)
/-- spate/spatelaw7.head -/
def F.spatelaw7_head  (h : H) (Q : Bool → H → Prop) : Prop :=
  F.shard_New 6 h fun r2 r3 h1 =>
  (((r3 != 0)) = true →
  F.spatelaw7_head.j2 Q r2 true h1) ∧
  (((r3 != 0)) = false →
  F.spatelaw7_head.j2 Q r2 r2.isNone h1)
theorem F.spatelaw7_head_ok  {h : H} {Q : Bool → H → Prop} (H : F.spatelaw7_head  h Q) : Fn PP 12 ([] : List Value).toArray h fun r h' => ∃ r0, r = (.bool r0) ∧ Q r0 h' := by
  unfold F.spatelaw7_head at H
  refine fn_of Try.func12 Try.ntmps12 rfl rfl fun w0 => ?_
  refine tr_sub [] trivial ?_
  refine tr_seq ?_
  refine tr_region ?_
  refine tr_p (y_assign rfl) rfl rfl ?_
  refine tr_nil ?_
  refine tr_thenN ?_
  refine tr_seq ?_
  refine tr_region ?_
  refine tr_e (e_call Try.call13 rfl (F.shard_New_ok H)) rfl rfl ?_
  rintro _ h1 ⟨r2, r3, rfl, H⟩
  refine tr_p (y_move rfl) rfl rfl ?_
  refine tr_p (y_ext rfl rfl) rfl rfl ?_
  refine tr_p (y_ext rfl rfl) rfl rfl ?_
  refine tr_p (y_assign rfl) rfl rfl ?_
  refine tr_p (y_assign rfl) rfl rfl ?_
  refine tr_nil ?_
  refine tr_thenN ?_
  refine tr_seq_j (fun L' h => ∃ (x1 : Option Addr), L' = [(1, (.pointer x1))] ∧ F.spatelaw7_head.j1 Q x1 h) ?_ ?_
  · rintro L' h ⟨x1, rfl, H⟩
    unfold F.spatelaw7_head.j1 at H
    refine tr_seq ?_
    refine tr_region ?_
    refine tr_p (f_build rfl (bd_24_1 (⟨#[97]⟩ : ByteArray))) rfl rfl ?_
    refine tr_e (f_alloc (cs := ((⟨0, (⟨#[]⟩ : ByteArray), 0⟩ : S_api_Cell) : S_api_Cell).cells.toArray) Try.zeroValue24 rfl H) rfl rfl ?_
    rintro _ h4 ⟨a5, rfl, H⟩
    refine tr_e (f_store (vs := (⟨0, (⟨#[97]⟩ : ByteArray), 0⟩ : S_api_Cell).cells) Try.sizeOf24 rfl rfl cellsOfStruct rfl (by intro v hv; exact ones_S_api_Cell _ v hv) H) rfl rfl ?_
    rintro _ h6 ⟨rfl, H⟩
    refine tr_nil ?_
    refine tr_thenN ?_
    refine tr_seq ?_
    refine tr_draw mixed [0, 0, 0, 6, 15, 31] (by kernel_rfl) ?_
    refine g_p 0 1 rfl (by kernel_rfl) (y_move rfl) rfl rfl ?_
    obtain ⟨y7, k8, H⟩ := H
    refine g_h 1 3 rfl (by kernel_rfl) (y_ldS Try.isAgg24 Try.sizeOf24 rfl rfl) k8 rfl rfl ?_
    refine g_e 2 7 [(1, fun h => Cells h a5 y7.cells)] (by kernel_rfl) rfl (by kernel_rfl) (e_call Try.call20 rfl (F.spatelaw7_one_ok H)) rfl rfl ?_
    rintro _ h9 ⟨r10, rfl, H⟩
    obtain ⟨k11, H⟩ := H
    refine ⟨And.intro k11 trivial, ?_⟩
    refine g_p 3 15 rfl (by kernel_rfl) (f_build rfl (bd_43_0_1 y7 r10)) rfl rfl ?_
    refine g_e 4 31 [] (by kernel_rfl) rfl (by kernel_rfl) (e_call Try.call18 rfl (F.shard_Shard_Put_ok H)) rfl rfl ?_
    rintro _ h12 ⟨r13, rfl, H⟩
    refine ⟨trivial, ?_⟩
    refine g_p 5 63 rfl (by kernel_rfl) (y_assign rfl) rfl rfl ?_
    refine g_d (by kernel_rfl) ?_
    refine tr_thenN ?_
    refine tr_seq ?_
    refine tr_draw mixed [0, 0, 0, 6, 15, 31] (by kernel_rfl) ?_
    refine g_p 0 1 rfl (by kernel_rfl) (y_move rfl) rfl rfl ?_
    obtain ⟨y14, k15, H⟩ := H
    refine g_h 1 3 rfl (by kernel_rfl) (y_ldS Try.isAgg24 Try.sizeOf24 rfl rfl) k15 rfl rfl ?_
    refine g_e 2 7 [(1, fun h => Cells h a5 y14.cells)] (by kernel_rfl) rfl (by kernel_rfl) (e_call Try.call20 rfl (F.spatelaw7_one_ok H)) rfl rfl ?_
    rintro _ h16 ⟨r17, rfl, H⟩
    obtain ⟨k18, H⟩ := H
    refine ⟨And.intro k18 trivial, ?_⟩
    refine g_p 3 15 rfl (by kernel_rfl) (f_build rfl (bd_43_0_1 y14 r17)) rfl rfl ?_
    refine g_e 4 31 [] (by kernel_rfl) rfl (by kernel_rfl) (e_call Try.call18 rfl (F.shard_Shard_Put_ok H)) rfl rfl ?_
    rintro _ h19 ⟨r20, rfl, H⟩
    refine ⟨trivial, ?_⟩
    refine g_p 5 63 rfl (by kernel_rfl) (y_assign rfl) rfl rfl ?_
    refine g_d (by kernel_rfl) ?_
    refine tr_thenN ?_
    refine tr_seq ?_
    refine tr_region ?_
    refine tr_p (y_move rfl) rfl rfl ?_
    refine tr_p (y_eql rfl rfl) rfl rfl ?_
    refine tr_p (y_move rfl) rfl rfl ?_
    refine tr_split (t := 29) rfl (fun g21 => ?_) (fun g21 => ?_)
    · replace H := H.1 g21
      refine tr_p (y_move rfl) rfl rfl ?_
      refine tr_p (y_eql rfl rfl) rfl rfl ?_
      refine tr_p (y_pick_t rfl rfl) rfl rfl ?_
      refine tr_p (y_move rfl) rfl rfl ?_
      refine tr_split (t := 33) rfl (fun g22 => ?_) (fun g22 => ?_)
      · replace H := H.1 g22
        refine tr_p (y_move rfl) rfl rfl ?_
        obtain ⟨a23, e24, H⟩ := H
        refine tr_p (f_nn rfl e24) rfl rfl ?_
        refine tr_p (y_fa (off := 0) Try.runUnderlying54 fo_54_0 rfl) rfl rfl ?_
        refine tr_e (e_call Try.call22 rfl (F.shard_counts_Units_ok H)) rfl rfl ?_
        rintro _ h25 ⟨r26, rfl, H⟩
        refine tr_p (y_eql rfl rfl) rfl rfl ?_
        refine tr_p (y_pick_t rfl rfl) rfl rfl ?_
        refine tr_p (y_move rfl) rfl rfl ?_
        refine tr_split (t := 40) rfl (fun g27 => ?_) (fun g27 => ?_)
        · replace H := H.1 g27
          refine tr_p (y_move rfl) rfl rfl ?_
          obtain ⟨a28, e29, H⟩ := H
          refine tr_p (f_nn rfl e29) rfl rfl ?_
          refine tr_p (y_fa (off := 0) Try.runUnderlying54 fo_54_0 rfl) rfl rfl ?_
          refine tr_e (e_call Try.call23 rfl (F.shard_counts_Cells_ok H)) rfl rfl ?_
          rintro _ h30 ⟨r31, rfl, H⟩
          refine tr_p (y_eql rfl rfl) rfl rfl ?_
          refine tr_p (y_pick_t rfl rfl) rfl rfl ?_
          refine tr_p (y_move rfl) rfl rfl ?_
          refine tr_split (t := 47) rfl (fun g32 => ?_) (fun g32 => ?_)
          · replace H := H.1 g32
            refine tr_p (y_move rfl) rfl rfl ?_
            refine tr_e (e_call Try.call24 rfl (F.shard_Shard_Most_ok H)) rfl rfl ?_
            rintro _ h33 ⟨r34, rfl, H⟩
            refine tr_p (y_eql rfl rfl) rfl rfl ?_
            refine tr_p (y_pick_t rfl rfl) rfl rfl ?_
            refine tr_p (y_move rfl) rfl rfl ?_
            refine tr_split (t := 52) rfl (fun g35 => ?_) (fun g35 => ?_)
            · replace H := H.1 g35
              refine tr_p (y_move rfl) rfl rfl ?_
              obtain ⟨y36, k37, H⟩ := H
              refine tr_h (y_ldS Try.isAgg24 Try.sizeOf24 rfl rfl) k37 rfl rfl ?_
              refine tr_e (e_call Try.call17 rfl (F.shard_Shard_Get_ok H)) rfl rfl ?_
              rintro _ h38 ⟨r39, rfl, H⟩
              refine tr_e (e_call Try.call20 rfl (F.spatelaw7_one_ok H)) rfl rfl ?_
              rintro _ h40 ⟨r41, rfl, H⟩
              refine tr_p (st_eql (b := ((r39.Count == r41.Count) && ((r39.Sum == r41.Sum) && ((r39.Min == r41.Min) && ((r39.Max == r41.Max) && true))))) eqg_35 (fun w => eqst_35 r39 r41 9998 w) rfl rfl) rfl rfl ?_
              refine tr_p (y_pick_t rfl rfl) rfl rfl ?_
              refine tr_p (y_move rfl) rfl rfl ?_
              refine tr_split (t := 59) rfl (fun g42 => ?_) (fun g42 => ?_)
              · replace H := H.1 g42
                refine tr_p (y_move rfl) rfl rfl ?_
                obtain ⟨y43, k44, H⟩ := H
                refine tr_h (y_ldS Try.isAgg24 Try.sizeOf24 rfl rfl) k44 rfl rfl ?_
                refine tr_e (e_call Try.call19 rfl (F.shard_Shard_At_ok H)) rfl rfl ?_
                rintro _ h45 ⟨r46, rfl, H⟩
                refine tr_e (e_call Try.call20 rfl (F.spatelaw7_one_ok H)) rfl rfl ?_
                rintro _ h47 ⟨r48, rfl, H⟩
                refine tr_p (st_eql (b := ((r46.Count == r48.Count) && ((r46.Sum == r48.Sum) && ((r46.Min == r48.Min) && ((r46.Max == r48.Max) && true))))) eqg_35 (fun w => eqst_35 r46 r48 9998 w) rfl rfl) rfl rfl ?_
                refine tr_p (y_pick_t rfl rfl) rfl rfl ?_
                refine tr_p (y_assign rfl) rfl rfl ?_
                refine tr_nil ?_
                refine tr_thenN ?_
                refine tr_ret ?_
                exact tr_ret1 rfl rfl ⟨_, rfl, H⟩
              · replace H := H.2 g42
                refine tr_s rfl rfl ?_
                refine tr_s rfl rfl ?_
                refine tr_s rfl rfl ?_
                refine tr_s rfl rfl ?_
                refine tr_s rfl rfl ?_
                refine tr_p (y_pick_f rfl rfl) rfl rfl ?_
                refine tr_p (y_assign rfl) rfl rfl ?_
                refine tr_nil ?_
                refine tr_thenN ?_
                refine tr_ret ?_
                exact tr_ret1 rfl rfl ⟨_, rfl, H⟩
            · replace H := H.2 g35
              refine tr_s rfl rfl ?_
              refine tr_s rfl rfl ?_
              refine tr_s rfl rfl ?_
              refine tr_s rfl rfl ?_
              refine tr_s rfl rfl ?_
              refine tr_p (y_pick_f rfl rfl) rfl rfl ?_
              refine tr_p (y_move rfl) rfl rfl ?_
              refine tr_s rfl rfl ?_
              refine tr_s rfl rfl ?_
              refine tr_s rfl rfl ?_
              refine tr_s rfl rfl ?_
              refine tr_s rfl rfl ?_
              refine tr_p (y_pick_f rfl rfl) rfl rfl ?_
              refine tr_p (y_assign rfl) rfl rfl ?_
              refine tr_nil ?_
              refine tr_thenN ?_
              refine tr_ret ?_
              exact tr_ret1 rfl rfl ⟨_, rfl, H⟩
          · replace H := H.2 g32
            refine tr_s rfl rfl ?_
            refine tr_s rfl rfl ?_
            refine tr_s rfl rfl ?_
            refine tr_p (y_pick_f rfl rfl) rfl rfl ?_
            refine tr_p (y_move rfl) rfl rfl ?_
            refine tr_s rfl rfl ?_
            refine tr_s rfl rfl ?_
            refine tr_s rfl rfl ?_
            refine tr_s rfl rfl ?_
            refine tr_s rfl rfl ?_
            refine tr_p (y_pick_f rfl rfl) rfl rfl ?_
            refine tr_p (y_move rfl) rfl rfl ?_
            refine tr_s rfl rfl ?_
            refine tr_s rfl rfl ?_
            refine tr_s rfl rfl ?_
            refine tr_s rfl rfl ?_
            refine tr_s rfl rfl ?_
            refine tr_p (y_pick_f rfl rfl) rfl rfl ?_
            refine tr_p (y_assign rfl) rfl rfl ?_
            refine tr_nil ?_
            refine tr_thenN ?_
            refine tr_ret ?_
            exact tr_ret1 rfl rfl ⟨_, rfl, H⟩
        · replace H := H.2 g27
          refine tr_s rfl rfl ?_
          refine tr_s rfl rfl ?_
          refine tr_s rfl rfl ?_
          refine tr_s rfl rfl ?_
          refine tr_s rfl rfl ?_
          refine tr_p (y_pick_f rfl rfl) rfl rfl ?_
          refine tr_p (y_move rfl) rfl rfl ?_
          refine tr_s rfl rfl ?_
          refine tr_s rfl rfl ?_
          refine tr_s rfl rfl ?_
          refine tr_p (y_pick_f rfl rfl) rfl rfl ?_
          refine tr_p (y_move rfl) rfl rfl ?_
          refine tr_s rfl rfl ?_
          refine tr_s rfl rfl ?_
          refine tr_s rfl rfl ?_
          refine tr_s rfl rfl ?_
          refine tr_s rfl rfl ?_
          refine tr_p (y_pick_f rfl rfl) rfl rfl ?_
          refine tr_p (y_move rfl) rfl rfl ?_
          refine tr_s rfl rfl ?_
          refine tr_s rfl rfl ?_
          refine tr_s rfl rfl ?_
          refine tr_s rfl rfl ?_
          refine tr_s rfl rfl ?_
          refine tr_p (y_pick_f rfl rfl) rfl rfl ?_
          refine tr_p (y_assign rfl) rfl rfl ?_
          refine tr_nil ?_
          refine tr_thenN ?_
          refine tr_ret ?_
          exact tr_ret1 rfl rfl ⟨_, rfl, H⟩
      · replace H := H.2 g22
        refine tr_s rfl rfl ?_
        refine tr_s rfl rfl ?_
        refine tr_s rfl rfl ?_
        refine tr_s rfl rfl ?_
        refine tr_s rfl rfl ?_
        refine tr_p (y_pick_f rfl rfl) rfl rfl ?_
        refine tr_p (y_move rfl) rfl rfl ?_
        refine tr_s rfl rfl ?_
        refine tr_s rfl rfl ?_
        refine tr_s rfl rfl ?_
        refine tr_s rfl rfl ?_
        refine tr_s rfl rfl ?_
        refine tr_p (y_pick_f rfl rfl) rfl rfl ?_
        refine tr_p (y_move rfl) rfl rfl ?_
        refine tr_s rfl rfl ?_
        refine tr_s rfl rfl ?_
        refine tr_s rfl rfl ?_
        refine tr_p (y_pick_f rfl rfl) rfl rfl ?_
        refine tr_p (y_move rfl) rfl rfl ?_
        refine tr_s rfl rfl ?_
        refine tr_s rfl rfl ?_
        refine tr_s rfl rfl ?_
        refine tr_s rfl rfl ?_
        refine tr_s rfl rfl ?_
        refine tr_p (y_pick_f rfl rfl) rfl rfl ?_
        refine tr_p (y_move rfl) rfl rfl ?_
        refine tr_s rfl rfl ?_
        refine tr_s rfl rfl ?_
        refine tr_s rfl rfl ?_
        refine tr_s rfl rfl ?_
        refine tr_s rfl rfl ?_
        refine tr_p (y_pick_f rfl rfl) rfl rfl ?_
        refine tr_p (y_assign rfl) rfl rfl ?_
        refine tr_nil ?_
        refine tr_thenN ?_
        refine tr_ret ?_
        exact tr_ret1 rfl rfl ⟨_, rfl, H⟩
    · replace H := H.2 g21
      refine tr_s rfl rfl ?_
      refine tr_s rfl rfl ?_
      refine tr_p (y_pick_f rfl rfl) rfl rfl ?_
      refine tr_p (y_move rfl) rfl rfl ?_
      refine tr_s rfl rfl ?_
      refine tr_s rfl rfl ?_
      refine tr_s rfl rfl ?_
      refine tr_s rfl rfl ?_
      refine tr_s rfl rfl ?_
      refine tr_p (y_pick_f rfl rfl) rfl rfl ?_
      refine tr_p (y_move rfl) rfl rfl ?_
      refine tr_s rfl rfl ?_
      refine tr_s rfl rfl ?_
      refine tr_s rfl rfl ?_
      refine tr_s rfl rfl ?_
      refine tr_s rfl rfl ?_
      refine tr_p (y_pick_f rfl rfl) rfl rfl ?_
      refine tr_p (y_move rfl) rfl rfl ?_
      refine tr_s rfl rfl ?_
      refine tr_s rfl rfl ?_
      refine tr_s rfl rfl ?_
      refine tr_p (y_pick_f rfl rfl) rfl rfl ?_
      refine tr_p (y_move rfl) rfl rfl ?_
      refine tr_s rfl rfl ?_
      refine tr_s rfl rfl ?_
      refine tr_s rfl rfl ?_
      refine tr_s rfl rfl ?_
      refine tr_s rfl rfl ?_
      refine tr_p (y_pick_f rfl rfl) rfl rfl ?_
      refine tr_p (y_move rfl) rfl rfl ?_
      refine tr_s rfl rfl ?_
      refine tr_s rfl rfl ?_
      refine tr_s rfl rfl ?_
      refine tr_s rfl rfl ?_
      refine tr_s rfl rfl ?_
      refine tr_p (y_pick_f rfl rfl) rfl rfl ?_
      refine tr_p (y_assign rfl) rfl rfl ?_
      refine tr_nil ?_
      refine tr_thenN ?_
      refine tr_ret ?_
      exact tr_ret1 rfl rfl ⟨_, rfl, H⟩
  · refine tr_seq_j (fun L' h => ∃ (x1 : Option Addr) (x15 : Bool), L' = [(1, (.pointer x1)), (15, (.bool x15))] ∧ F.spatelaw7_head.j2 Q x1 x15 h) ?_ ?_
    · rintro L' h ⟨x1, x15, rfl, H⟩
      unfold F.spatelaw7_head.j2 at H
      refine tr_cond rfl (fun g49 => ?_) (fun g49 => ?_)
      · replace H := H.1 g49
        refine tr_seq ?_
        refine tr_region ?_
        refine tr_p (y_assign rfl) rfl rfl ?_
        refine tr_nil ?_
        refine tr_thenN ?_
        refine tr_ret ?_
        refine tr_thenR ?_
        exact tr_ret1 rfl rfl ⟨_, rfl, H⟩
      · replace H := H.2 g49
        refine tr_skip ?_
        refine tr_thenN ?_
        exact tr_join [(1, (.pointer x1))] ⟨rfl, trivial⟩ ⟨_, rfl, H⟩
    · refine tr_region ?_
      refine tr_p (y_move rfl) rfl rfl ?_
      refine tr_p (y_neq rfl rfl) rfl rfl ?_
      refine tr_p (y_move rfl) rfl rfl ?_
      refine tr_split (t := 12) rfl (fun g50 => ?_) (fun g50 => ?_)
      · replace H := H.1 g50
        refine tr_s rfl rfl ?_
        refine tr_s rfl rfl ?_
        refine tr_p (y_pick_t rfl rfl) rfl rfl ?_
        refine tr_nil ?_
        refine tr_thenN ?_
        exact tr_join [(1, (.pointer r2)), (15, (.bool true))] ⟨rfl, rfl, trivial⟩ ⟨_, _, rfl, H⟩
      · replace H := H.2 g50
        refine tr_p (y_move rfl) rfl rfl ?_
        refine tr_p (y_pnil_eql Try.runUnderlying27 rfl rfl) rfl rfl ?_
        refine tr_p (y_pick_f rfl rfl) rfl rfl ?_
        refine tr_nil ?_
        refine tr_thenN ?_
        exact tr_join [(1, (.pointer r2)), (15, (.bool r2.isNone))] ⟨rfl, rfl, trivial⟩ ⟨_, _, rfl, H⟩
def F.spatelaw7_within.j1 (Q : Int → H → Prop) (x5 : Int) (h : H) : Prop :=
  Q x5 h
/-- spate/spatelaw7.within -/
def F.spatelaw7_within (p0 : Int) (p1 : Int) (h : H) (Q : Int → H → Prop) : Prop :=
  (p1 : Int) ≠ 0 ∧
  ((decide ((Int.tmod p0 p1) < 0)) = true →
  F.spatelaw7_within.j1 Q (IntKind.wrap .i64 ((Int.tmod p0 p1) + p1)) h) ∧
  ((decide ((Int.tmod p0 p1) < 0)) = false →
  F.spatelaw7_within.j1 Q (Int.tmod p0 p1) h)
theorem F.spatelaw7_within_ok {p0 : Int} {p1 : Int} {h : H} {Q : Int → H → Prop} (H : F.spatelaw7_within p0 p1 h Q) : Fn PP 15 ([(.int .i64 p0), (.int .i64 p1)] : List Value).toArray h fun r h' => ∃ r0, r = (.int .i64 r0) ∧ Q r0 h' := by
  unfold F.spatelaw7_within at H
  refine fn_of Try.func15 Try.ntmps15 rfl rfl fun w0 => ?_
  refine tr_sub [(0, (.int .i64 p0)), (1, (.int .i64 p1))] ⟨rfl, rfl, trivial⟩ ?_
  refine tr_seq ?_
  refine tr_region ?_
  refine tr_p (y_assign rfl) rfl rfl ?_
  refine tr_nil ?_
  refine tr_thenN ?_
  refine tr_seq ?_
  refine tr_region ?_
  refine tr_p (y_move rfl) rfl rfl ?_
  refine tr_p (y_move rfl) rfl rfl ?_
  obtain ⟨e1, H⟩ := H
  refine tr_p (y_rem rfl rfl e1) rfl rfl ?_
  refine tr_p (y_assign rfl) rfl rfl ?_
  refine tr_nil ?_
  refine tr_thenN ?_
  refine tr_seq_j (fun L' h => ∃ (x5 : Int), L' = [(5, (.int .i64 x5))] ∧ F.spatelaw7_within.j1 Q x5 h) ?_ ?_
  · rintro L' h ⟨x5, rfl, H⟩
    unfold F.spatelaw7_within.j1 at H
    refine tr_seq ?_
    refine tr_region ?_
    refine tr_p (y_move rfl) rfl rfl ?_
    refine tr_p (y_assign rfl) rfl rfl ?_
    refine tr_nil ?_
    refine tr_thenN ?_
    refine tr_ret ?_
    exact tr_ret1 rfl rfl ⟨_, rfl, H⟩
  · refine tr_seq ?_
    refine tr_region ?_
    refine tr_p (y_move rfl) rfl rfl ?_
    refine tr_p (y_lss rfl rfl) rfl rfl ?_
    refine tr_nil ?_
    refine tr_thenN ?_
    refine tr_cond rfl (fun g2 => ?_) (fun g2 => ?_)
    · replace H := H.1 g2
      refine tr_region ?_
      refine tr_p (y_move rfl) rfl rfl ?_
      refine tr_p (y_move rfl) rfl rfl ?_
      refine tr_p (y_add rfl rfl) rfl rfl ?_
      refine tr_p (y_assign rfl) rfl rfl ?_
      refine tr_nil ?_
      refine tr_thenN ?_
      exact tr_join [(5, (.int .i64 (IntKind.wrap .i64 ((Int.tmod p0 p1) + p1))))] ⟨rfl, trivial⟩ ⟨_, rfl, H⟩
    · replace H := H.2 g2
      refine tr_skip ?_
      refine tr_thenN ?_
      exact tr_join [(5, (.int .i64 (Int.tmod p0 p1)))] ⟨rfl, trivial⟩ ⟨_, rfl, H⟩
/-- (*spate/chain.Chain[spate/api.Agg]).Kill -/
def F.chain_Chain_api_Agg_Kill (p0 : Option Addr) (p1 : Int) (h : H) (Q : Int → Int → H → Prop) : Prop :=
  F.chain_Chain_api_Agg_may p0 p1 h fun r2 h1 =>
  (((r2 != 0)) = true →
  Q 0 r2 h1) ∧
  (((r2 != 0)) = false →
  F.chain_Chain_api_Agg_Newest p0 h1 fun r5 r6 r7 h4 =>
  new h4 (((⟨0, 0, 0, 0⟩ : S_api_Agg) : S_api_Agg).cells.toArray) ty_35 fun a9 h8 =>
  stH h8 a9 r5.cells fun h10 =>
  ((!r7) = true →
  Q 0 44 h10) ∧
  ((!r7) = false →
  F.chain_Chain_api_Agg_lay p0 (⟨p1, (⟨0, 0, 0, 0⟩ : S_api_Agg), true⟩ : S_chain_version_api_Agg) h10 fun r13 h12 =>
  Q r13 0 h12))
theorem F.chain_Chain_api_Agg_Kill_ok {p0 : Option Addr} {p1 : Int} {h : H} {Q : Int → Int → H → Prop} (H : F.chain_Chain_api_Agg_Kill p0 p1 h Q) : Fn PP 46 ([(.pointer p0), (.int .i64 p1)] : List Value).toArray h fun r h' => ∃ r0 r1, r = .tuple #[(.int .i64 r0), (.int .i64 r1)] ∧ Q r0 r1 h' := by
  unfold F.chain_Chain_api_Agg_Kill at H
  refine fn_of Try.func46 Try.ntmps46 rfl rfl fun w0 => ?_
  refine tr_sub [(0, (.pointer p0)), (1, (.int .i64 p1))] ⟨rfl, rfl, trivial⟩ ?_
  refine tr_seq ?_
  refine tr_region ?_
  refine tr_p (y_assign rfl) rfl rfl ?_
  refine tr_p (y_assign rfl) rfl rfl ?_
  refine tr_nil ?_
  refine tr_thenN ?_
  refine tr_seq ?_
  refine tr_seq ?_
  refine tr_region ?_
  refine tr_p (y_move rfl) rfl rfl ?_
  refine tr_p (y_move rfl) rfl rfl ?_
  refine tr_e (e_call Try.call63 rfl (F.chain_Chain_api_Agg_may_ok H)) rfl rfl ?_
  rintro _ h1 ⟨r2, rfl, H⟩
  refine tr_p (y_assign rfl) rfl rfl ?_
  refine tr_nil ?_
  refine tr_thenN ?_
  refine tr_seq ?_
  refine tr_region ?_
  refine tr_p (y_move rfl) rfl rfl ?_
  refine tr_p (y_neq rfl rfl) rfl rfl ?_
  refine tr_nil ?_
  refine tr_thenN ?_
  refine tr_cond rfl (fun g3 => ?_) (fun g3 => ?_)
  · replace H := H.1 g3
    refine tr_seq ?_
    refine tr_region ?_
    refine tr_p (y_move rfl) rfl rfl ?_
    refine tr_p (y_assign rfl) rfl rfl ?_
    refine tr_p (y_assign rfl) rfl rfl ?_
    refine tr_nil ?_
    refine tr_thenN ?_
    refine tr_ret ?_
    refine tr_thenR ?_
    exact tr_ret2 rfl rfl rfl ⟨_, _, rfl, H⟩
  · replace H := H.2 g3
    refine tr_skip ?_
    refine tr_thenN ?_
    refine tr_seq ?_
    refine tr_seq ?_
    refine tr_region ?_
    refine tr_p (y_move rfl) rfl rfl ?_
    refine tr_e (e_call Try.call39 rfl (F.chain_Chain_api_Agg_Newest_ok H)) rfl rfl ?_
    rintro _ h4 ⟨r5, r6, r7, rfl, H⟩
    refine tr_p (y_move rfl) rfl rfl ?_
    refine tr_p (y_ext rfl rfl) rfl rfl ?_
    refine tr_p (y_ext rfl rfl) rfl rfl ?_
    refine tr_p (y_ext rfl rfl) rfl rfl ?_
    refine tr_e (f_alloc (cs := ((⟨0, 0, 0, 0⟩ : S_api_Agg) : S_api_Agg).cells.toArray) Try.zeroValue35 rfl H) rfl rfl ?_
    rintro _ h8 ⟨a9, rfl, H⟩
    refine tr_e (f_store (vs := r5.cells) Try.sizeOf35 rfl rfl cellsOfStruct rfl (by intro v hv; exact ones_S_api_Agg _ v hv) H) rfl rfl ?_
    rintro _ h10 ⟨rfl, H⟩
    refine tr_p (y_assign rfl) rfl rfl ?_
    refine tr_p (y_assign rfl) rfl rfl ?_
    refine tr_nil ?_
    refine tr_thenN ?_
    refine tr_seq ?_
    refine tr_region ?_
    refine tr_p (y_move rfl) rfl rfl ?_
    refine tr_p (y_not rfl) rfl rfl ?_
    refine tr_nil ?_
    refine tr_thenN ?_
    refine tr_cond rfl (fun g11 => ?_) (fun g11 => ?_)
    · replace H := H.1 g11
      refine tr_seq ?_
      refine tr_region ?_
      refine tr_p (y_assign rfl) rfl rfl ?_
      refine tr_p (y_assign rfl) rfl rfl ?_
      refine tr_nil ?_
      refine tr_thenN ?_
      refine tr_ret ?_
      refine tr_thenR ?_
      exact tr_ret2 rfl rfl rfl ⟨_, _, rfl, H⟩
    · replace H := H.2 g11
      refine tr_skip ?_
      refine tr_thenN ?_
      refine tr_seq ?_
      refine tr_region ?_
      refine tr_p (y_move rfl) rfl rfl ?_
      refine tr_p (y_move rfl) rfl rfl ?_
      refine tr_p (f_build rfl (bd_123_0_2 p1 true)) rfl rfl ?_
      refine tr_e (e_call Try.call64 rfl (F.chain_Chain_api_Agg_lay_ok H)) rfl rfl ?_
      rintro _ h12 ⟨r13, rfl, H⟩
      refine tr_p (y_assign rfl) rfl rfl ?_
      refine tr_p (y_assign rfl) rfl rfl ?_
      refine tr_nil ?_
      refine tr_thenN ?_
      refine tr_ret ?_
      exact tr_ret2 rfl rfl rfl ⟨_, _, rfl, H⟩
def F.shard_Shard_Kill.j1 (Q : Int → H → Prop) (x0 : Option Addr) (x1 : Int) (x5 : Addr) (h : H) : Prop :=
  ld_S_api_Cell h x5 fun y9 =>
  F.shard_Shard_chain x0 y9 h fun r12 h11 =>
  (r12.isNone = true →
  Q 44 h11) ∧
  (r12.isNone = false →
  F.chain_Chain_api_Agg_Kill r12 x1 h11 fun r15 r16 h14 =>
  (((r16 != 0)) = true →
  Q r16 h14) ∧
  (((r16 != 0)) = false →
  nn x0 fun a18 =>
  ldI .i64 h14 ((a18.add 0).add 0) fun y20 =>
  nn x0 fun a22 =>
  stH h14 ((a22.add 0).add 0) [(.int .i64 (IntKind.wrap .i64 (y20 + (IntKind.wrap .i64 (r15 - 1)))))] fun h24 =>
  nn x0 fun a25 =>
  ldI .i64 h24 ((a25.add 0).add 1) fun y27 =>
  nn x0 fun a29 =>
  stH h24 ((a29.add 0).add 1) [(.int .i64 (IntKind.wrap .i64 (y27 - 1)))] fun h31 =>
  Q 0 h31))
def F.shard_Shard_Kill.j2 (Q : Int → H → Prop) (x0 : Option Addr) (x1 : Int) (x5 : Addr) (x25 : Bool) (h : H) : Prop :=
  (x25 = true →
  Q 1 h) ∧
  (x25 = false →
  F.shard_Shard_Kill.j1 Q x0 x1 x5 h)
/-- (*spate/shard.Shard).Kill -/
def F.shard_Shard_Kill (p0 : Option Addr) (p1 : Int) (p2 : S_api_Cell) (h : H) (Q : Int → H → Prop) : Prop :=
  new h p2.cells.toArray ty_24 fun a2 h1 =>
  ld_S_api_Cell h1 a2 fun y3 =>
  F.shard_key y3 h1 fun r6 r7 h5 =>
  (((r7 != 0)) = true →
  Q r7 h5) ∧
  (((r7 != 0)) = false →
  ((decide (p1 < 1)) = true →
  F.shard_Shard_Kill.j2 Q p0 p1 a2 true h5) ∧
  ((decide (p1 < 1)) = false →
  F.shard_Shard_Kill.j2 Q p0 p1 a2 (decide (p1 > 1099511627776)) h5))
theorem F.shard_Shard_Kill_ok {p0 : Option Addr} {p1 : Int} {p2 : S_api_Cell} {h : H} {Q : Int → H → Prop} (H : F.shard_Shard_Kill p0 p1 p2 h Q) : Fn PP 21 ([(.pointer p0), (.int .i64 p1), (.agg p2.cells.toArray)] : List Value).toArray h fun r h' => ∃ r0, r = (.int .i64 r0) ∧ Q r0 h' := by
  unfold F.shard_Shard_Kill at H
  refine fn_of Try.func21 Try.ntmps21 rfl rfl fun w0 => ?_
  refine tr_sub [(0, (.pointer p0)), (1, (.int .i64 p1)), (2, (.agg p2.cells.toArray))] ⟨rfl, rfl, rfl, trivial⟩ ?_
  refine tr_seq ?_
  refine tr_region ?_
  refine tr_e (f_box (cs := p2.cells.toArray) rfl rfl H) rfl rfl ?_
  rintro _ h1 ⟨a2, rfl, H⟩
  refine tr_p (y_assign rfl) rfl rfl ?_
  refine tr_nil ?_
  refine tr_thenN ?_
  refine tr_seq ?_
  refine tr_seq ?_
  refine tr_region ?_
  obtain ⟨y3, k4, H⟩ := H
  refine tr_h (y_ldS Try.isAgg24 Try.sizeOf24 rfl rfl) k4 rfl rfl ?_
  refine tr_e (e_call Try.call36 rfl (F.shard_key_ok H)) rfl rfl ?_
  rintro _ h5 ⟨r6, r7, rfl, H⟩
  refine tr_p (y_move rfl) rfl rfl ?_
  refine tr_p (y_ext rfl rfl) rfl rfl ?_
  refine tr_p (y_ext rfl rfl) rfl rfl ?_
  refine tr_p (y_assign rfl) rfl rfl ?_
  refine tr_p (y_assign rfl) rfl rfl ?_
  refine tr_nil ?_
  refine tr_thenN ?_
  refine tr_seq ?_
  refine tr_region ?_
  refine tr_p (y_move rfl) rfl rfl ?_
  refine tr_p (y_neq rfl rfl) rfl rfl ?_
  refine tr_nil ?_
  refine tr_thenN ?_
  refine tr_cond rfl (fun g8 => ?_) (fun g8 => ?_)
  · replace H := H.1 g8
    refine tr_seq ?_
    refine tr_region ?_
    refine tr_p (y_move rfl) rfl rfl ?_
    refine tr_p (y_assign rfl) rfl rfl ?_
    refine tr_nil ?_
    refine tr_thenN ?_
    refine tr_ret ?_
    refine tr_thenR ?_
    exact tr_ret1 rfl rfl ⟨_, rfl, H⟩
  · replace H := H.2 g8
    refine tr_skip ?_
    refine tr_thenN ?_
    refine tr_seq_j (fun L' h => ∃ (x0 : Option Addr) (x1 : Int) (x5 : Addr), L' = [(0, (.pointer x0)), (1, (.int .i64 x1)), (5, (.pointer (some x5)))] ∧ F.shard_Shard_Kill.j1 Q x0 x1 x5 h) ?_ ?_
    · rintro L' h ⟨x0, x1, x5, rfl, H⟩
      unfold F.shard_Shard_Kill.j1 at H
      refine tr_seq ?_
      refine tr_region ?_
      refine tr_p (y_move rfl) rfl rfl ?_
      obtain ⟨y9, k10, H⟩ := H
      refine tr_h (y_ldS Try.isAgg24 Try.sizeOf24 rfl rfl) k10 rfl rfl ?_
      refine tr_e (e_call Try.call45 rfl (F.shard_Shard_chain_ok H)) rfl rfl ?_
      rintro _ h11 ⟨r12, rfl, H⟩
      refine tr_p (y_assign rfl) rfl rfl ?_
      refine tr_nil ?_
      refine tr_thenN ?_
      refine tr_seq ?_
      refine tr_seq ?_
      refine tr_region ?_
      refine tr_p (y_move rfl) rfl rfl ?_
      refine tr_p (y_pnil_eql Try.runUnderlying77 rfl rfl) rfl rfl ?_
      refine tr_nil ?_
      refine tr_thenN ?_
      refine tr_cond rfl (fun g13 => ?_) (fun g13 => ?_)
      · replace H := H.1 g13
        refine tr_seq ?_
        refine tr_region ?_
        refine tr_p (y_assign rfl) rfl rfl ?_
        refine tr_nil ?_
        refine tr_thenN ?_
        refine tr_ret ?_
        refine tr_thenR ?_
        exact tr_ret1 rfl rfl ⟨_, rfl, H⟩
      · replace H := H.2 g13
        refine tr_skip ?_
        refine tr_thenN ?_
        refine tr_seq ?_
        refine tr_region ?_
        refine tr_p (y_move rfl) rfl rfl ?_
        refine tr_p (y_move rfl) rfl rfl ?_
        refine tr_e (e_call Try.call46 rfl (F.chain_Chain_api_Agg_Kill_ok H)) rfl rfl ?_
        rintro _ h14 ⟨r15, r16, rfl, H⟩
        refine tr_p (y_move rfl) rfl rfl ?_
        refine tr_p (y_ext rfl rfl) rfl rfl ?_
        refine tr_p (y_ext rfl rfl) rfl rfl ?_
        refine tr_p (y_assign rfl) rfl rfl ?_
        refine tr_p (y_assign rfl) rfl rfl ?_
        refine tr_nil ?_
        refine tr_thenN ?_
        refine tr_seq ?_
        refine tr_seq ?_
        refine tr_region ?_
        refine tr_p (y_move rfl) rfl rfl ?_
        refine tr_p (y_neq rfl rfl) rfl rfl ?_
        refine tr_nil ?_
        refine tr_thenN ?_
        refine tr_cond rfl (fun g17 => ?_) (fun g17 => ?_)
        · replace H := H.1 g17
          refine tr_seq ?_
          refine tr_region ?_
          refine tr_p (y_move rfl) rfl rfl ?_
          refine tr_p (y_assign rfl) rfl rfl ?_
          refine tr_nil ?_
          refine tr_thenN ?_
          refine tr_ret ?_
          refine tr_thenR ?_
          exact tr_ret1 rfl rfl ⟨_, rfl, H⟩
        · replace H := H.2 g17
          refine tr_skip ?_
          refine tr_thenN ?_
          refine tr_seq ?_
          refine tr_region ?_
          refine tr_p (y_move rfl) rfl rfl ?_
          obtain ⟨a18, e19, H⟩ := H
          refine tr_p (f_nn rfl e19) rfl rfl ?_
          refine tr_p (y_fa (off := 0) Try.runUnderlying54 fo_54_0 rfl) rfl rfl ?_
          refine tr_p (y_fa (off := 0) Try.runUnderlying51 fo_51_0 rfl) rfl rfl ?_
          obtain ⟨y20, k21, H⟩ := H
          refine tr_h (y_ld Try.isAgg3 rfl) k21 rfl rfl ?_
          refine tr_p (y_move rfl) rfl rfl ?_
          refine tr_p (y_sub rfl rfl) rfl rfl ?_
          refine tr_p (y_add rfl rfl) rfl rfl ?_
          obtain ⟨a22, e23, H⟩ := H
          refine tr_p (f_nn rfl e23) rfl rfl ?_
          refine tr_p (y_fa (off := 0) Try.runUnderlying54 fo_54_0 rfl) rfl rfl ?_
          refine tr_p (y_fa (off := 0) Try.runUnderlying51 fo_51_0 rfl) rfl rfl ?_
          refine tr_e (f_store (vs := [(.int .i64 (IntKind.wrap .i64 (y20 + (IntKind.wrap .i64 (r15 - 1)))))]) Try.sizeOf3 rfl rfl rfl rfl (one1 rfl) H) rfl rfl ?_
          rintro _ h24 ⟨rfl, H⟩
          refine tr_nil ?_
          refine tr_thenN ?_
          refine tr_seq ?_
          refine tr_region ?_
          refine tr_p (y_move rfl) rfl rfl ?_
          obtain ⟨a25, e26, H⟩ := H
          refine tr_p (f_nn rfl e26) rfl rfl ?_
          refine tr_p (y_fa (off := 0) Try.runUnderlying54 fo_54_0 rfl) rfl rfl ?_
          refine tr_p (y_fa (off := 1) Try.runUnderlying51 fo_51_1 rfl) rfl rfl ?_
          obtain ⟨y27, k28, H⟩ := H
          refine tr_h (y_ld Try.isAgg3 rfl) k28 rfl rfl ?_
          refine tr_p (y_sub rfl rfl) rfl rfl ?_
          obtain ⟨a29, e30, H⟩ := H
          refine tr_p (f_nn rfl e30) rfl rfl ?_
          refine tr_p (y_fa (off := 0) Try.runUnderlying54 fo_54_0 rfl) rfl rfl ?_
          refine tr_p (y_fa (off := 1) Try.runUnderlying51 fo_51_1 rfl) rfl rfl ?_
          refine tr_e (f_store (vs := [(.int .i64 (IntKind.wrap .i64 (y27 - 1)))]) Try.sizeOf3 rfl rfl rfl rfl (one1 rfl) H) rfl rfl ?_
          rintro _ h31 ⟨rfl, H⟩
          refine tr_nil ?_
          refine tr_thenN ?_
          refine tr_seq ?_
          refine tr_region ?_
          refine tr_p (y_assign rfl) rfl rfl ?_
          refine tr_nil ?_
          refine tr_thenN ?_
          refine tr_ret ?_
          exact tr_ret1 rfl rfl ⟨_, rfl, H⟩
    · refine tr_seq_j (fun L' h => ∃ (x0 : Option Addr) (x1 : Int) (x5 : Addr) (x25 : Bool), L' = [(0, (.pointer x0)), (1, (.int .i64 x1)), (5, (.pointer (some x5))), (25, (.bool x25))] ∧ F.shard_Shard_Kill.j2 Q x0 x1 x5 x25 h) ?_ ?_
      · rintro L' h ⟨x0, x1, x5, x25, rfl, H⟩
        unfold F.shard_Shard_Kill.j2 at H
        refine tr_cond rfl (fun g32 => ?_) (fun g32 => ?_)
        · replace H := H.1 g32
          refine tr_seq ?_
          refine tr_region ?_
          refine tr_p (y_assign rfl) rfl rfl ?_
          refine tr_nil ?_
          refine tr_thenN ?_
          refine tr_ret ?_
          refine tr_thenR ?_
          exact tr_ret1 rfl rfl ⟨_, rfl, H⟩
        · replace H := H.2 g32
          refine tr_skip ?_
          refine tr_thenN ?_
          exact tr_join [(0, (.pointer x0)), (1, (.int .i64 x1)), (5, (.pointer (some x5)))] ⟨rfl, rfl, rfl, trivial⟩ ⟨_, _, _, rfl, H⟩
      · refine tr_region ?_
        refine tr_p (y_move rfl) rfl rfl ?_
        refine tr_p (y_lss rfl rfl) rfl rfl ?_
        refine tr_p (y_move rfl) rfl rfl ?_
        refine tr_split (t := 22) rfl (fun g33 => ?_) (fun g33 => ?_)
        · replace H := H.1 g33
          refine tr_s rfl rfl ?_
          refine tr_s rfl rfl ?_
          refine tr_p (y_pick_t rfl rfl) rfl rfl ?_
          refine tr_nil ?_
          refine tr_thenN ?_
          exact tr_join [(0, (.pointer p0)), (1, (.int .i64 p1)), (5, (.pointer (some a2))), (25, (.bool true))] ⟨rfl, rfl, rfl, rfl, trivial⟩ ⟨_, _, _, _, rfl, H⟩
        · replace H := H.2 g33
          refine tr_p (y_move rfl) rfl rfl ?_
          refine tr_p (y_gtr rfl rfl) rfl rfl ?_
          refine tr_p (y_pick_f rfl rfl) rfl rfl ?_
          refine tr_nil ?_
          refine tr_thenN ?_
          exact tr_join [(0, (.pointer p0)), (1, (.int .i64 p1)), (5, (.pointer (some a2))), (25, (.bool (decide (p1 > 1099511627776))))] ⟨rfl, rfl, rfl, rfl, trivial⟩ ⟨_, _, _, _, rfl, H⟩
def F.chain_Chain_api_Agg_Prune.j3 (Q : Int → H → Prop) (x0 : Option Addr) (x5 : Int) (x10 : Sl) (h : H) : Prop :=
  nn x0 fun a45 =>
  stH h (a45.add 0) [x10.enc] fun h47 =>
  Q (IntKind.wrap .i64 (x5 - (x10.len : Int))) h47
def F.chain_Chain_api_Agg_Prune.j4 (Q : Int → H → Prop) (x0 : Option Addr) (x5 : Int) (x10 : Sl) (x68 : Bool) (h : H) : Prop :=
  (x68 = true →
  F.chain_Chain_api_Agg_Prune.j3 Q x0 x5 (⟨none, 0, 0⟩ : Sl) h) ∧
  (x68 = false →
  F.chain_Chain_api_Agg_Prune.j3 Q x0 x5 x10 h)
def F.chain_Chain_api_Agg_Prune.l2 (Q : Int → H → Prop) : Nat → (Option Addr) → Int → Sl → Sl → Sl → Int → Int → H → Prop
  | 0, _, _, _, _, _, _, _, _ => False
  | q2 + 1, x0, x5, x6, x10, x44, x45, x46, h =>
    ((decide (x46 < x45)) = true →
    idxA x44 x46 6 fun a27 =>
    ld_S_chain_version_api_Agg h a27 fun y29 =>
    new h (((⟨0, (⟨0, 0, 0, 0⟩ : S_api_Agg), false⟩ : S_chain_version_api_Agg) : S_chain_version_api_Agg).cells.toArray) ty_123 fun a32 h31 =>
    stH h31 a32 y29.cells fun h33 =>
    idxA x6 x46 1 fun a34 =>
    ldB h33 a34 fun y36 =>
    (y36 = true →
    ld_S_chain_version_api_Agg h33 a32 fun y39 =>
    newL h33 ((y39.cells).toArray) ty_123 1 fun s42 h41 =>
    runL PP (Builtin.append_ #[119, 119] 119 #[x10.enc, s42.enc]) h41 fun s44 h43 =>
    (F.chain_Chain_api_Agg_Prune.l2 Q q2) x0 x5 x6 s44 x44 x45 (IntKind.wrap .i64 (x46 + 1)) h43) ∧
    (y36 = false →
    (F.chain_Chain_api_Agg_Prune.l2 Q q2) x0 x5 x6 x10 x44 x45 (IntKind.wrap .i64 (x46 + 1)) h33)) ∧
    ((decide (x46 < x45)) = false →
    ((((x10.len : Int) == 1)) = true →
    idxA x10 0 6 fun a50 =>
    ldB h (a50.add 5) fun y52 =>
    F.chain_Chain_api_Agg_Prune.j4 Q x0 x5 x10 y52 h) ∧
    ((((x10.len : Int) == 1)) = false →
    F.chain_Chain_api_Agg_Prune.j4 Q x0 x5 x10 false h))
def F.chain_Chain_api_Agg_Prune.l1 (Q : Int → H → Prop) : Nat → (Option Addr) → Int → Sl → Sl → Int → Int → H → Prop
  | 0, _, _, _, _, _, _, _ => False
  | q1 + 1, x0, x5, x6, x26, x27, x28, h =>
    ((decide (x28 < x27)) = true →
    idxA x26 x28 1 fun a12 =>
    ldI .i64 h a12 fun y14 =>
    F.chain_Chain_api_Agg_place x0 y14 h fun r17 h16 =>
    ((decide (r17 ≥ 0)) = true →
    idxA x6 r17 1 fun a19 =>
    stH h16 a19 [(.bool true)] fun h21 =>
    (F.chain_Chain_api_Agg_Prune.l1 Q q1) x0 x5 x6 x26 x27 (IntKind.wrap .i64 (x28 + 1)) h21) ∧
    ((decide (r17 ≥ 0)) = false →
    (F.chain_Chain_api_Agg_Prune.l1 Q q1) x0 x5 x6 x26 x27 (IntKind.wrap .i64 (x28 + 1)) h16)) ∧
    ((decide (x28 < x27)) = false →
    nn x0 fun a22 =>
    ldL h (a22.add 0) fun y24 =>
    ∃ m, F.chain_Chain_api_Agg_Prune.l2 Q m x0 x5 x6 (⟨none, 0, 0⟩ : Sl) y24 (y24.len : Int) 0 h)
/-- (*spate/chain.Chain[spate/api.Agg]).Prune -/
def F.chain_Chain_api_Agg_Prune (p0 : Option Addr) (p1 : Sl) (h : H) (Q : Int → H → Prop) : Prop :=
  nn p0 fun a1 =>
  ldL h (a1.add 0) fun y3 =>
  ((((y3.len : Int) == 0)) = true →
  Q 0 h) ∧
  ((((y3.len : Int) == 0)) = false →
  runL PP (Instr.makeSlice 137 (.int .i64 (y3.len : Int)) (.int .i64 (y3.len : Int))) h fun s7 h6 =>
  idxA s7 (IntKind.wrap .i64 ((y3.len : Int) - 1)) 1 fun a8 =>
  stH h6 a8 [(.bool true)] fun h10 =>
  ∃ m, F.chain_Chain_api_Agg_Prune.l1 Q m p0 (y3.len : Int) s7 p1 (p1.len : Int) 0 h10)
theorem F.chain_Chain_api_Agg_Prune_ok {p0 : Option Addr} {p1 : Sl} {h : H} {Q : Int → H → Prop} (H : F.chain_Chain_api_Agg_Prune p0 p1 h Q) : Fn PP 50 ([(.pointer p0), p1.enc] : List Value).toArray h fun r h' => ∃ r0, r = (.int .i64 r0) ∧ Q r0 h' := by
  unfold F.chain_Chain_api_Agg_Prune at H
  refine fn_of Try.func50 Try.ntmps50 rfl rfl fun w0 => ?_
  refine tr_sub [(0, (.pointer p0)), (1, p1.enc)] ⟨rfl, rfl, trivial⟩ ?_
  refine tr_seq ?_
  refine tr_region ?_
  refine tr_p (y_assign rfl) rfl rfl ?_
  refine tr_nil ?_
  refine tr_thenN ?_
  refine tr_seq ?_
  refine tr_region ?_
  refine tr_p (y_move rfl) rfl rfl ?_
  obtain ⟨a1, e2, H⟩ := H
  refine tr_p (f_nn rfl e2) rfl rfl ?_
  refine tr_p (y_fa (off := 0) Try.runUnderlying121 fo_121_0 rfl) rfl rfl ?_
  obtain ⟨y3, k4, H⟩ := H
  refine tr_h (y_ld Try.isAgg119 rfl) k4 rfl rfl ?_
  refine tr_p (y_len (ts := #[]) Try.runUnderlying119 (o := y3.ptr) (n := y3.len) (cap := y3.cap) rfl) rfl rfl ?_
  refine tr_p (y_assign rfl) rfl rfl ?_
  refine tr_nil ?_
  refine tr_thenN ?_
  refine tr_seq ?_
  refine tr_seq ?_
  refine tr_region ?_
  refine tr_p (y_move rfl) rfl rfl ?_
  refine tr_p (y_eql rfl rfl) rfl rfl ?_
  refine tr_nil ?_
  refine tr_thenN ?_
  refine tr_cond rfl (fun g5 => ?_) (fun g5 => ?_)
  · replace H := H.1 g5
    refine tr_seq ?_
    refine tr_region ?_
    refine tr_p (y_assign rfl) rfl rfl ?_
    refine tr_nil ?_
    refine tr_thenN ?_
    refine tr_ret ?_
    refine tr_thenR ?_
    exact tr_ret1 rfl rfl ⟨_, rfl, H⟩
  · replace H := H.2 g5
    refine tr_skip ?_
    refine tr_thenN ?_
    refine tr_seq ?_
    refine tr_region ?_
    refine tr_p (y_move rfl) rfl rfl ?_
    refine tr_e (f_make rfl rfl H) rfl rfl ?_
    rintro _ h6 ⟨s7, rfl, H⟩
    refine tr_p (y_assign rfl) rfl rfl ?_
    refine tr_nil ?_
    refine tr_thenN ?_
    refine tr_seq ?_
    refine tr_region ?_
    refine tr_p (y_move rfl) rfl rfl ?_
    refine tr_p (y_move rfl) rfl rfl ?_
    refine tr_p (y_sub rfl rfl) rfl rfl ?_
    obtain ⟨a8, e9, H⟩ := H
    refine tr_p (f_idx (s := s7) Try.runUnderlying137 Try.sizeOf4 rfl rfl e9) rfl rfl ?_
    refine tr_e (f_store (vs := [(.bool true)]) Try.sizeOf4 rfl rfl rfl rfl (one1 rfl) H) rfl rfl ?_
    rintro _ h10 ⟨rfl, H⟩
    refine tr_nil ?_
    refine tr_thenN ?_
    refine tr_seq ?_
    refine tr_seq ?_
    refine tr_region ?_
    refine tr_p (y_move rfl) rfl rfl ?_
    refine tr_p (y_len (ts := #[]) Try.runUnderlying26 (o := p1.ptr) (n := p1.len) (cap := p1.cap) rfl) rfl rfl ?_
    refine tr_p (y_move rfl) rfl rfl ?_
    refine tr_nil ?_
    refine tr_thenN ?_
    refine tr_block ?_
    obtain ⟨m55, H⟩ := H
    refine tr_sub [(0, (.pointer p0)), (5, (.int .i64 (y3.len : Int))), (6, s7.enc), (26, p1.enc), (27, (.int .i64 (p1.len : Int))), (28, (.int .i64 0))] ⟨rfl, rfl, rfl, rfl, rfl, rfl, trivial⟩ ?_
    refine tr_loop_j (fun m L' h => ∃ (x0 : Option Addr) (x5 : Int) (x6 : Sl) (x26 : Sl) (x27 : Int) (x28 : Int), L' = [(0, (.pointer x0)), (5, (.int .i64 x5)), (6, x6.enc), (26, x26.enc), (27, (.int .i64 x27)), (28, (.int .i64 x28))] ∧ F.chain_Chain_api_Agg_Prune.l1 Q m x0 x5 x6 x26 x27 x28 h) ?_ ?_ m55 ⟨_, _, _, _, _, _, rfl, H⟩
    · rintro L' h ⟨_, _, _, _, _, _, _, H⟩; exact H
    · rintro q1 L' h ⟨x0, x5, x6, x26, x27, x28, rfl, H⟩
      unfold F.chain_Chain_api_Agg_Prune.l1 at H
      refine tr_seq ?_
      refine tr_region ?_
      refine tr_p (y_lss rfl rfl) rfl rfl ?_
      refine tr_nil ?_
      refine tr_thenN ?_
      refine tr_seq ?_
      refine tr_cond rfl (fun g11 => ?_) (fun g11 => ?_)
      · replace H := H.1 g11
        refine tr_skip ?_
        refine tr_thenN ?_
        refine tr_seq ?_
        refine tr_block ?_
        refine tr_seq ?_
        refine tr_region ?_
        obtain ⟨a12, e13, H⟩ := H
        refine tr_p (f_idx (s := x26) Try.runUnderlying26 Try.sizeOf3 rfl rfl e13) rfl rfl ?_
        obtain ⟨y14, k15, H⟩ := H
        refine tr_h (y_ld Try.isAgg3 rfl) k15 rfl rfl ?_
        refine tr_p (y_assign rfl) rfl rfl ?_
        refine tr_nil ?_
        refine tr_thenN ?_
        refine tr_seq ?_
        refine tr_region ?_
        refine tr_p (y_move rfl) rfl rfl ?_
        refine tr_p (y_move rfl) rfl rfl ?_
        refine tr_e (e_call Try.call69 rfl (F.chain_Chain_api_Agg_place_ok H)) rfl rfl ?_
        rintro _ h16 ⟨r17, rfl, H⟩
        refine tr_p (y_assign rfl) rfl rfl ?_
        refine tr_nil ?_
        refine tr_thenN ?_
        refine tr_seq ?_
        refine tr_region ?_
        refine tr_p (y_move rfl) rfl rfl ?_
        refine tr_p (y_geq rfl rfl) rfl rfl ?_
        refine tr_nil ?_
        refine tr_thenN ?_
        refine tr_cond rfl (fun g18 => ?_) (fun g18 => ?_)
        · replace H := H.1 g18
          refine tr_region ?_
          refine tr_p (y_move rfl) rfl rfl ?_
          refine tr_p (y_move rfl) rfl rfl ?_
          obtain ⟨a19, e20, H⟩ := H
          refine tr_p (f_idx (s := x6) Try.runUnderlying137 Try.sizeOf4 rfl rfl e20) rfl rfl ?_
          refine tr_e (f_store (vs := [(.bool true)]) Try.sizeOf4 rfl rfl rfl rfl (one1 rfl) H) rfl rfl ?_
          rintro _ h21 ⟨rfl, H⟩
          refine tr_nil ?_
          refine tr_blockN ?_
          refine tr_thenN ?_
          refine tr_region ?_
          refine tr_p (y_add rfl rfl) rfl rfl ?_
          refine tr_p (y_move rfl) rfl rfl ?_
          refine tr_nil ?_
          refine tr_thenN ?_
          exact tr_join [(0, (.pointer x0)), (5, (.int .i64 x5)), (6, x6.enc), (26, x26.enc), (27, (.int .i64 x27)), (28, (.int .i64 (IntKind.wrap .i64 (x28 + 1))))] ⟨rfl, rfl, rfl, rfl, rfl, rfl, trivial⟩ ⟨_, _, _, _, _, _, rfl, H⟩
        · replace H := H.2 g18
          refine tr_skip ?_
          refine tr_blockN ?_
          refine tr_thenN ?_
          refine tr_region ?_
          refine tr_p (y_add rfl rfl) rfl rfl ?_
          refine tr_p (y_move rfl) rfl rfl ?_
          refine tr_nil ?_
          refine tr_thenN ?_
          exact tr_join [(0, (.pointer x0)), (5, (.int .i64 x5)), (6, x6.enc), (26, x26.enc), (27, (.int .i64 x27)), (28, (.int .i64 (IntKind.wrap .i64 (x28 + 1))))] ⟨rfl, rfl, rfl, rfl, rfl, rfl, trivial⟩ ⟨_, _, _, _, _, _, rfl, H⟩
      · replace H := H.2 g11
        refine tr_exit ?_
        refine tr_thenE ?_
        refine tr_thenE ?_
        refine tr_hit ?_
        refine tr_thenN ?_
        refine tr_seq ?_
        refine tr_region ?_
        refine tr_p (y_assign rfl) rfl rfl ?_
        refine tr_nil ?_
        refine tr_thenN ?_
        refine tr_seq ?_
        refine tr_seq ?_
        refine tr_region ?_
        refine tr_p (y_move rfl) rfl rfl ?_
        obtain ⟨a22, e23, H⟩ := H
        refine tr_p (f_nn rfl e23) rfl rfl ?_
        refine tr_p (y_fa (off := 0) Try.runUnderlying121 fo_121_0 rfl) rfl rfl ?_
        obtain ⟨y24, k25, H⟩ := H
        refine tr_h (y_ld Try.isAgg119 rfl) k25 rfl rfl ?_
        refine tr_p (y_len (ts := #[]) Try.runUnderlying119 (o := y24.ptr) (n := y24.len) (cap := y24.cap) rfl) rfl rfl ?_
        refine tr_p (y_move rfl) rfl rfl ?_
        refine tr_nil ?_
        refine tr_thenN ?_
        refine tr_block ?_
        obtain ⟨m54, H⟩ := H
        refine tr_sub [(0, (.pointer x0)), (5, (.int .i64 x5)), (6, x6.enc), (10, (⟨none, 0, 0⟩ : Sl).enc), (44, y24.enc), (45, (.int .i64 (y24.len : Int))), (46, (.int .i64 0))] ⟨rfl, rfl, rfl, rfl, rfl, rfl, rfl, trivial⟩ ?_
        refine tr_loop_j (fun m L' h => ∃ (x0 : Option Addr) (x5 : Int) (x6 : Sl) (x10 : Sl) (x44 : Sl) (x45 : Int) (x46 : Int), L' = [(0, (.pointer x0)), (5, (.int .i64 x5)), (6, x6.enc), (10, x10.enc), (44, x44.enc), (45, (.int .i64 x45)), (46, (.int .i64 x46))] ∧ F.chain_Chain_api_Agg_Prune.l2 Q m x0 x5 x6 x10 x44 x45 x46 h) ?_ ?_ m54 ⟨_, _, _, _, _, _, _, rfl, H⟩
        · rintro L' h ⟨_, _, _, _, _, _, _, _, H⟩; exact H
        · rintro q2 L' h ⟨x0, x5, x6, x10, x44, x45, x46, rfl, H⟩
          unfold F.chain_Chain_api_Agg_Prune.l2 at H
          refine tr_seq ?_
          refine tr_region ?_
          refine tr_p (y_lss rfl rfl) rfl rfl ?_
          refine tr_nil ?_
          refine tr_thenN ?_
          refine tr_seq ?_
          refine tr_cond rfl (fun g26 => ?_) (fun g26 => ?_)
          · replace H := H.1 g26
            refine tr_skip ?_
            refine tr_thenN ?_
            refine tr_seq ?_
            refine tr_block ?_
            refine tr_seq ?_
            refine tr_region ?_
            refine tr_p (y_move rfl) rfl rfl ?_
            obtain ⟨a27, e28, H⟩ := H
            refine tr_p (f_idx (s := x44) Try.runUnderlying119 Try.sizeOf123 rfl rfl e28) rfl rfl ?_
            obtain ⟨y29, k30, H⟩ := H
            refine tr_h (y_ldS Try.isAgg123 Try.sizeOf123 rfl rfl) k30 rfl rfl ?_
            refine tr_e (f_alloc (cs := ((⟨0, (⟨0, 0, 0, 0⟩ : S_api_Agg), false⟩ : S_chain_version_api_Agg) : S_chain_version_api_Agg).cells.toArray) Try.zeroValue123 rfl H) rfl rfl ?_
            rintro _ h31 ⟨a32, rfl, H⟩
            refine tr_p (y_assign rfl) rfl rfl ?_
            refine tr_e (f_store (vs := y29.cells) Try.sizeOf123 rfl rfl cellsOfStruct rfl (by intro v hv; exact ones_S_chain_version_api_Agg _ v hv) H) rfl rfl ?_
            rintro _ h33 ⟨rfl, H⟩
            refine tr_nil ?_
            refine tr_thenN ?_
            refine tr_seq ?_
            refine tr_region ?_
            refine tr_p (y_move rfl) rfl rfl ?_
            refine tr_p (y_move rfl) rfl rfl ?_
            obtain ⟨a34, e35, H⟩ := H
            refine tr_p (f_idx (s := x6) Try.runUnderlying137 Try.sizeOf4 rfl rfl e35) rfl rfl ?_
            obtain ⟨y36, k37, H⟩ := H
            refine tr_h (y_ld Try.isAgg4 rfl) k37 rfl rfl ?_
            refine tr_nil ?_
            refine tr_thenN ?_
            refine tr_cond rfl (fun g38 => ?_) (fun g38 => ?_)
            · replace H := H.1 g38
              refine tr_region ?_
              refine tr_p (y_move rfl) rfl rfl ?_
              obtain ⟨y39, k40, H⟩ := H
              refine tr_h (y_ldS Try.isAgg123 Try.sizeOf123 rfl rfl) k40 rfl rfl ?_
              refine tr_e (f_buildL (cs := (y39.cells).toArray) rfl rfl (bl_119_1_0 y39) H) rfl rfl ?_
              rintro _ h41 ⟨s42, rfl, H⟩
              refine tr_e (f_app rfl H) rfl rfl ?_
              rintro _ h43 ⟨s44, rfl, H⟩
              refine tr_p (y_assign rfl) rfl rfl ?_
              refine tr_nil ?_
              refine tr_blockN ?_
              refine tr_thenN ?_
              refine tr_region ?_
              refine tr_p (y_add rfl rfl) rfl rfl ?_
              refine tr_p (y_move rfl) rfl rfl ?_
              refine tr_nil ?_
              refine tr_thenN ?_
              exact tr_join [(0, (.pointer x0)), (5, (.int .i64 x5)), (6, x6.enc), (10, s44.enc), (44, x44.enc), (45, (.int .i64 x45)), (46, (.int .i64 (IntKind.wrap .i64 (x46 + 1))))] ⟨rfl, rfl, rfl, rfl, rfl, rfl, rfl, trivial⟩ ⟨_, _, _, _, _, _, _, rfl, H⟩
            · replace H := H.2 g38
              refine tr_skip ?_
              refine tr_blockN ?_
              refine tr_thenN ?_
              refine tr_region ?_
              refine tr_p (y_add rfl rfl) rfl rfl ?_
              refine tr_p (y_move rfl) rfl rfl ?_
              refine tr_nil ?_
              refine tr_thenN ?_
              exact tr_join [(0, (.pointer x0)), (5, (.int .i64 x5)), (6, x6.enc), (10, x10.enc), (44, x44.enc), (45, (.int .i64 x45)), (46, (.int .i64 (IntKind.wrap .i64 (x46 + 1))))] ⟨rfl, rfl, rfl, rfl, rfl, rfl, rfl, trivial⟩ ⟨_, _, _, _, _, _, _, rfl, H⟩
          · replace H := H.2 g26
            refine tr_exit ?_
            refine tr_thenE ?_
            refine tr_thenE ?_
            refine tr_hit ?_
            refine tr_thenN ?_
            refine tr_seq_j (fun L' h => ∃ (x0 : Option Addr) (x5 : Int) (x10 : Sl), L' = [(0, (.pointer x0)), (5, (.int .i64 x5)), (10, x10.enc)] ∧ F.chain_Chain_api_Agg_Prune.j3 Q x0 x5 x10 h) ?_ ?_
            · rintro L' h ⟨x0, x5, x10, rfl, H⟩
              unfold F.chain_Chain_api_Agg_Prune.j3 at H
              refine tr_seq ?_
              refine tr_region ?_
              refine tr_p (y_move rfl) rfl rfl ?_
              refine tr_p (y_move rfl) rfl rfl ?_
              obtain ⟨a45, e46, H⟩ := H
              refine tr_p (f_nn rfl e46) rfl rfl ?_
              refine tr_p (y_fa (off := 0) Try.runUnderlying121 fo_121_0 rfl) rfl rfl ?_
              refine tr_e (f_store (vs := [x10.enc]) Try.sizeOf119 rfl rfl rfl rfl (one1 rfl) H) rfl rfl ?_
              rintro _ h47 ⟨rfl, H⟩
              refine tr_nil ?_
              refine tr_thenN ?_
              refine tr_seq ?_
              refine tr_region ?_
              refine tr_p (y_move rfl) rfl rfl ?_
              refine tr_p (y_move rfl) rfl rfl ?_
              refine tr_p (y_len (ts := #[]) Try.runUnderlying119 (o := x10.ptr) (n := x10.len) (cap := x10.cap) rfl) rfl rfl ?_
              refine tr_p (y_sub rfl rfl) rfl rfl ?_
              refine tr_p (y_assign rfl) rfl rfl ?_
              refine tr_nil ?_
              refine tr_thenN ?_
              refine tr_ret ?_
              exact tr_ret1 rfl rfl ⟨_, rfl, H⟩
            · refine tr_seq_j (fun L' h => ∃ (x0 : Option Addr) (x5 : Int) (x10 : Sl) (x68 : Bool), L' = [(0, (.pointer x0)), (5, (.int .i64 x5)), (10, x10.enc), (68, (.bool x68))] ∧ F.chain_Chain_api_Agg_Prune.j4 Q x0 x5 x10 x68 h) ?_ ?_
              · rintro L' h ⟨x0, x5, x10, x68, rfl, H⟩
                unfold F.chain_Chain_api_Agg_Prune.j4 at H
                refine tr_cond rfl (fun g48 => ?_) (fun g48 => ?_)
                · replace H := H.1 g48
                  refine tr_region ?_
                  refine tr_p (y_assign rfl) rfl rfl ?_
                  refine tr_nil ?_
                  refine tr_thenN ?_
                  exact tr_join [(0, (.pointer x0)), (5, (.int .i64 x5)), (10, (⟨none, 0, 0⟩ : Sl).enc)] ⟨rfl, rfl, rfl, trivial⟩ ⟨_, _, _, rfl, H⟩
                · replace H := H.2 g48
                  refine tr_skip ?_
                  refine tr_thenN ?_
                  exact tr_join [(0, (.pointer x0)), (5, (.int .i64 x5)), (10, x10.enc)] ⟨rfl, rfl, rfl, trivial⟩ ⟨_, _, _, rfl, H⟩
              · refine tr_region ?_
                refine tr_p (y_move rfl) rfl rfl ?_
                refine tr_p (y_len (ts := #[]) Try.runUnderlying119 (o := x10.ptr) (n := x10.len) (cap := x10.cap) rfl) rfl rfl ?_
                refine tr_p (y_eql rfl rfl) rfl rfl ?_
                refine tr_p (y_move rfl) rfl rfl ?_
                refine tr_split (t := 63) rfl (fun g49 => ?_) (fun g49 => ?_)
                · replace H := H.1 g49
                  refine tr_p (y_move rfl) rfl rfl ?_
                  obtain ⟨a50, e51, H⟩ := H
                  refine tr_p (f_idx (s := x10) Try.runUnderlying119 Try.sizeOf123 rfl rfl e51) rfl rfl ?_
                  refine tr_p (y_fa (off := 5) Try.runUnderlying123 fo_123_2 rfl) rfl rfl ?_
                  obtain ⟨y52, k53, H⟩ := H
                  refine tr_h (y_ld Try.isAgg4 rfl) k53 rfl rfl ?_
                  refine tr_p (y_pick_t rfl rfl) rfl rfl ?_
                  refine tr_nil ?_
                  refine tr_thenN ?_
                  exact tr_join [(0, (.pointer x0)), (5, (.int .i64 x5)), (10, x10.enc), (68, (.bool y52))] ⟨rfl, rfl, rfl, rfl, trivial⟩ ⟨_, _, _, _, rfl, H⟩
                · replace H := H.2 g49
                  refine tr_s rfl rfl ?_
                  refine tr_s rfl rfl ?_
                  refine tr_s rfl rfl ?_
                  refine tr_s rfl rfl ?_
                  refine tr_p (y_pick_f rfl rfl) rfl rfl ?_
                  refine tr_nil ?_
                  refine tr_thenN ?_
                  exact tr_join [(0, (.pointer x0)), (5, (.int .i64 x5)), (10, x10.enc), (68, (.bool false))] ⟨rfl, rfl, rfl, rfl, trivial⟩ ⟨_, _, _, _, rfl, H⟩
def F.table_Table_chain_Chain_api_Agg_Drop.j2 (Q : (Option Addr) → Bool → H → Prop) (C1 : (Option Addr) → (Option Addr) → Int → Int → Int → H → Prop) (x0 : Option Addr) (x4 : Option Addr) (x8 : Int) (x10 : Int) (x11 : Int) (h : H) : Prop :=
  (x10 : Int) ≠ 0 ∧
  C1 x0 x4 x8 x10 (Int.tmod (IntKind.wrap .i64 (x11 + 1)) x10) h
def F.table_Table_chain_Chain_api_Agg_Drop.l1 (Q : (Option Addr) → Bool → H → Prop) : Nat → (Option Addr) → (Option Addr) → Int → Int → Int → H → Prop
  | 0, _, _, _, _, _, _ => False
  | q1 + 1, x0, x4, x8, x10, x11, h =>
    nn x0 fun a61 =>
    ldL h (a61.add 0) fun y63 =>
    idxA y63 x11 3 fun a65 =>
    ldI .u8 h (a65.add 0) fun y67 =>
    (((y67 != 0)) = true →
    nn x0 fun a71 =>
    ldL h (a71.add 0) fun y73 =>
    nn x0 fun a75 =>
    ldL h (a75.add 0) fun y77 =>
    idxA y77 x11 3 fun a79 =>
    ldS h (a79.add 1) fun y81 =>
    F.table_home_chain_Chain_api_Agg y73 y81 h fun r84 h83 =>
    (x10 : Int) ≠ 0 ∧
    (x10 : Int) ≠ 0 ∧
    ((decide ((Int.tmod (IntKind.wrap .i64 ((IntKind.wrap .i64 (x11 - r84)) + x10)) x10) ≥ (Int.tmod (IntKind.wrap .i64 ((IntKind.wrap .i64 (x11 - x8)) + x10)) x10))) = true →
    nn x0 fun a88 =>
    ldL h83 (a88.add 0) fun y90 =>
    nn x0 fun a92 =>
    ldL h83 (a92.add 0) fun y94 =>
    idxA y94 x11 3 fun a96 =>
    ld_S_table_place_chain_Chain_api_Agg h83 a96 fun y98 =>
    idxA y90 x8 3 fun a100 =>
    stH h83 a100 y98.cells fun h102 =>
    F.table_Table_chain_Chain_api_Agg_Drop.j2 Q (F.table_Table_chain_Chain_api_Agg_Drop.l1 Q q1) x0 x4 x11 x10 x11 h102) ∧
    ((decide ((Int.tmod (IntKind.wrap .i64 ((IntKind.wrap .i64 (x11 - r84)) + x10)) x10) ≥ (Int.tmod (IntKind.wrap .i64 ((IntKind.wrap .i64 (x11 - x8)) + x10)) x10))) = false →
    F.table_Table_chain_Chain_api_Agg_Drop.j2 Q (F.table_Table_chain_Chain_api_Agg_Drop.l1 Q q1) x0 x4 x8 x10 x11 h83)) ∧
    (((y67 != 0)) = false →
    nn x0 fun a103 =>
    ldL h (a103.add 0) fun y105 =>
    idxA y105 x8 3 fun a107 =>
    stH h a107 ((⟨0, (⟨#[]⟩ : ByteArray), none⟩ : S_table_place_chain_Chain_api_Agg).cells) fun h109 =>
    Q x4 true h109)
/-- (*spate/table.Table[*spate/chain.Chain[spate/api.Agg]]).Drop -/
def F.table_Table_chain_Chain_api_Agg_Drop (p0 : Option Addr) (p1 : ByteArray) (h : H) (Q : (Option Addr) → Bool → H → Prop) : Prop :=
  F.table_Table_chain_Chain_api_Agg_Move p0 4 h fun r2 h1 =>
  nn p0 fun a3 =>
  ldL h1 (a3.add 1) fun y5 =>
  F.table_find_chain_Chain_api_Agg y5 p1 h1 fun r8 r9 h7 =>
  (r9 = true →
  nn p0 fun a11 =>
  ldL h7 (a11.add 1) fun y13 =>
  idxA y13 r8 3 fun a15 =>
  ldP h7 (a15.add 2) fun y17 =>
  nn p0 fun a19 =>
  ldL h7 (a19.add 1) fun y21 =>
  idxA y21 r8 3 fun a23 =>
  stH h7 a23 ((⟨2, (⟨#[]⟩ : ByteArray), none⟩ : S_table_place_chain_Chain_api_Agg).cells) fun h25 =>
  nn p0 fun a26 =>
  ldI .i64 h25 (a26.add 3) fun y28 =>
  nn p0 fun a30 =>
  stH h25 (a30.add 3) [(.int .i64 (IntKind.wrap .i64 (y28 - 1)))] fun h32 =>
  Q y17 true h32) ∧
  (r9 = false →
  nn p0 fun a33 =>
  ldL h7 (a33.add 0) fun y35 =>
  F.table_find_chain_Chain_api_Agg y35 p1 h7 fun r38 r39 h37 =>
  ((!r39) = true →
  Q none false h37) ∧
  ((!r39) = false →
  nn p0 fun a41 =>
  ldL h37 (a41.add 0) fun y43 =>
  idxA y43 r38 3 fun a45 =>
  ldP h37 (a45.add 2) fun y47 =>
  nn p0 fun a49 =>
  ldI .i64 h37 (a49.add 3) fun y51 =>
  nn p0 fun a53 =>
  stH h37 (a53.add 3) [(.int .i64 (IntKind.wrap .i64 (y51 - 1)))] fun h55 =>
  nn p0 fun a56 =>
  ldL h55 (a56.add 0) fun y58 =>
  ((y58.len : Int) : Int) ≠ 0 ∧
  ∃ m, F.table_Table_chain_Chain_api_Agg_Drop.l1 Q m p0 y47 r38 (y58.len : Int) (Int.tmod (IntKind.wrap .i64 (r38 + 1)) (y58.len : Int)) h55))
theorem F.table_Table_chain_Chain_api_Agg_Drop_ok {p0 : Option Addr} {p1 : ByteArray} {h : H} {Q : (Option Addr) → Bool → H → Prop} (H : F.table_Table_chain_Chain_api_Agg_Drop p0 p1 h Q) : Fn PP 51 ([(.pointer p0), (.string p1)] : List Value).toArray h fun r h' => ∃ r0 r1, r = .tuple #[(.pointer r0), (.bool r1)] ∧ Q r0 r1 h' := by
  unfold F.table_Table_chain_Chain_api_Agg_Drop at H
  refine fn_of Try.func51 Try.ntmps51 rfl rfl fun w0 => ?_
  refine tr_sub [(0, (.pointer p0)), (1, (.string p1))] ⟨rfl, rfl, trivial⟩ ?_
  refine tr_seq ?_
  refine tr_region ?_
  refine tr_p (y_assign rfl) rfl rfl ?_
  refine tr_p (y_assign rfl) rfl rfl ?_
  refine tr_nil ?_
  refine tr_thenN ?_
  refine tr_seq ?_
  refine tr_region ?_
  refine tr_p (y_move rfl) rfl rfl ?_
  refine tr_e (e_call Try.call61 rfl (F.table_Table_chain_Chain_api_Agg_Move_ok H)) rfl rfl ?_
  rintro _ h1 ⟨r2, rfl, H⟩
  refine tr_nil ?_
  refine tr_thenN ?_
  refine tr_seq ?_
  refine tr_seq ?_
  refine tr_region ?_
  refine tr_p (y_move rfl) rfl rfl ?_
  obtain ⟨a3, e4, H⟩ := H
  refine tr_p (f_nn rfl e4) rfl rfl ?_
  refine tr_p (y_fa (off := 1) Try.runUnderlying106 fo_106_1 rfl) rfl rfl ?_
  obtain ⟨y5, k6, H⟩ := H
  refine tr_h (y_ld Try.isAgg104 rfl) k6 rfl rfl ?_
  refine tr_p (y_move rfl) rfl rfl ?_
  refine tr_e (e_call Try.call62 rfl (F.table_find_chain_Chain_api_Agg_ok H)) rfl rfl ?_
  rintro _ h7 ⟨r8, r9, rfl, H⟩
  refine tr_p (y_move rfl) rfl rfl ?_
  refine tr_p (y_ext rfl rfl) rfl rfl ?_
  refine tr_p (y_ext rfl rfl) rfl rfl ?_
  refine tr_p (y_assign rfl) rfl rfl ?_
  refine tr_p (y_assign rfl) rfl rfl ?_
  refine tr_nil ?_
  refine tr_thenN ?_
  refine tr_seq ?_
  refine tr_region ?_
  refine tr_p (y_move rfl) rfl rfl ?_
  refine tr_nil ?_
  refine tr_thenN ?_
  refine tr_cond rfl (fun g10 => ?_) (fun g10 => ?_)
  · replace H := H.1 g10
    refine tr_seq ?_
    refine tr_region ?_
    refine tr_p (y_move rfl) rfl rfl ?_
    obtain ⟨a11, e12, H⟩ := H
    refine tr_p (f_nn rfl e12) rfl rfl ?_
    refine tr_p (y_fa (off := 1) Try.runUnderlying106 fo_106_1 rfl) rfl rfl ?_
    obtain ⟨y13, k14, H⟩ := H
    refine tr_h (y_ld Try.isAgg104 rfl) k14 rfl rfl ?_
    refine tr_p (y_move rfl) rfl rfl ?_
    obtain ⟨a15, e16, H⟩ := H
    refine tr_p (f_idx (s := y13) Try.runUnderlying104 Try.sizeOf118 rfl rfl e16) rfl rfl ?_
    refine tr_p (y_fa (off := 2) Try.runUnderlying118 fo_118_2 rfl) rfl rfl ?_
    obtain ⟨y17, k18, H⟩ := H
    refine tr_h (y_ld Try.isAgg77 rfl) k18 rfl rfl ?_
    refine tr_p (y_assign rfl) rfl rfl ?_
    refine tr_nil ?_
    refine tr_thenN ?_
    refine tr_seq ?_
    refine tr_region ?_
    refine tr_p (y_move rfl) rfl rfl ?_
    obtain ⟨a19, e20, H⟩ := H
    refine tr_p (f_nn rfl e20) rfl rfl ?_
    refine tr_p (y_fa (off := 1) Try.runUnderlying106 fo_106_1 rfl) rfl rfl ?_
    obtain ⟨y21, k22, H⟩ := H
    refine tr_h (y_ld Try.isAgg104 rfl) k22 rfl rfl ?_
    refine tr_p (y_move rfl) rfl rfl ?_
    refine tr_p (f_build rfl (bd_118_0 2)) rfl rfl ?_
    obtain ⟨a23, e24, H⟩ := H
    refine tr_p (f_idx (s := y21) Try.runUnderlying104 Try.sizeOf118 rfl rfl e24) rfl rfl ?_
    refine tr_e (f_store (vs := (⟨2, (⟨#[]⟩ : ByteArray), none⟩ : S_table_place_chain_Chain_api_Agg).cells) Try.sizeOf118 rfl rfl cellsOfStruct rfl (by intro v hv; exact ones_S_table_place_chain_Chain_api_Agg _ v hv) H) rfl rfl ?_
    rintro _ h25 ⟨rfl, H⟩
    refine tr_nil ?_
    refine tr_thenN ?_
    refine tr_seq ?_
    refine tr_region ?_
    refine tr_p (y_move rfl) rfl rfl ?_
    obtain ⟨a26, e27, H⟩ := H
    refine tr_p (f_nn rfl e27) rfl rfl ?_
    refine tr_p (y_fa (off := 3) Try.runUnderlying106 fo_106_3 rfl) rfl rfl ?_
    obtain ⟨y28, k29, H⟩ := H
    refine tr_h (y_ld Try.isAgg3 rfl) k29 rfl rfl ?_
    refine tr_p (y_sub rfl rfl) rfl rfl ?_
    obtain ⟨a30, e31, H⟩ := H
    refine tr_p (f_nn rfl e31) rfl rfl ?_
    refine tr_p (y_fa (off := 3) Try.runUnderlying106 fo_106_3 rfl) rfl rfl ?_
    refine tr_e (f_store (vs := [(.int .i64 (IntKind.wrap .i64 (y28 - 1)))]) Try.sizeOf3 rfl rfl rfl rfl (one1 rfl) H) rfl rfl ?_
    rintro _ h32 ⟨rfl, H⟩
    refine tr_nil ?_
    refine tr_thenN ?_
    refine tr_seq ?_
    refine tr_region ?_
    refine tr_p (y_move rfl) rfl rfl ?_
    refine tr_p (y_assign rfl) rfl rfl ?_
    refine tr_p (y_assign rfl) rfl rfl ?_
    refine tr_nil ?_
    refine tr_thenN ?_
    refine tr_ret ?_
    refine tr_thenR ?_
    exact tr_ret2 rfl rfl rfl ⟨_, _, rfl, H⟩
  · replace H := H.2 g10
    refine tr_skip ?_
    refine tr_thenN ?_
    refine tr_seq ?_
    refine tr_region ?_
    refine tr_p (y_move rfl) rfl rfl ?_
    obtain ⟨a33, e34, H⟩ := H
    refine tr_p (f_nn rfl e34) rfl rfl ?_
    refine tr_p (y_fa (off := 0) Try.runUnderlying106 fo_106_0 rfl) rfl rfl ?_
    obtain ⟨y35, k36, H⟩ := H
    refine tr_h (y_ld Try.isAgg104 rfl) k36 rfl rfl ?_
    refine tr_p (y_move rfl) rfl rfl ?_
    refine tr_e (e_call Try.call62 rfl (F.table_find_chain_Chain_api_Agg_ok H)) rfl rfl ?_
    rintro _ h37 ⟨r38, r39, rfl, H⟩
    refine tr_p (y_move rfl) rfl rfl ?_
    refine tr_p (y_ext rfl rfl) rfl rfl ?_
    refine tr_p (y_ext rfl rfl) rfl rfl ?_
    refine tr_p (y_assign rfl) rfl rfl ?_
    refine tr_p (y_assign rfl) rfl rfl ?_
    refine tr_nil ?_
    refine tr_thenN ?_
    refine tr_seq ?_
    refine tr_seq ?_
    refine tr_region ?_
    refine tr_p (y_move rfl) rfl rfl ?_
    refine tr_p (y_not rfl) rfl rfl ?_
    refine tr_nil ?_
    refine tr_thenN ?_
    refine tr_cond rfl (fun g40 => ?_) (fun g40 => ?_)
    · replace H := H.1 g40
      refine tr_seq ?_
      refine tr_region ?_
      refine tr_p (y_move rfl) rfl rfl ?_
      refine tr_p (y_assign rfl) rfl rfl ?_
      refine tr_p (y_assign rfl) rfl rfl ?_
      refine tr_nil ?_
      refine tr_thenN ?_
      refine tr_ret ?_
      refine tr_thenR ?_
      exact tr_ret2 rfl rfl rfl ⟨_, _, rfl, H⟩
    · replace H := H.2 g40
      refine tr_skip ?_
      refine tr_thenN ?_
      refine tr_seq ?_
      refine tr_region ?_
      refine tr_p (y_move rfl) rfl rfl ?_
      obtain ⟨a41, e42, H⟩ := H
      refine tr_p (f_nn rfl e42) rfl rfl ?_
      refine tr_p (y_fa (off := 0) Try.runUnderlying106 fo_106_0 rfl) rfl rfl ?_
      obtain ⟨y43, k44, H⟩ := H
      refine tr_h (y_ld Try.isAgg104 rfl) k44 rfl rfl ?_
      refine tr_p (y_move rfl) rfl rfl ?_
      obtain ⟨a45, e46, H⟩ := H
      refine tr_p (f_idx (s := y43) Try.runUnderlying104 Try.sizeOf118 rfl rfl e46) rfl rfl ?_
      refine tr_p (y_fa (off := 2) Try.runUnderlying118 fo_118_2 rfl) rfl rfl ?_
      obtain ⟨y47, k48, H⟩ := H
      refine tr_h (y_ld Try.isAgg77 rfl) k48 rfl rfl ?_
      refine tr_p (y_assign rfl) rfl rfl ?_
      refine tr_nil ?_
      refine tr_thenN ?_
      refine tr_seq ?_
      refine tr_region ?_
      refine tr_p (y_move rfl) rfl rfl ?_
      obtain ⟨a49, e50, H⟩ := H
      refine tr_p (f_nn rfl e50) rfl rfl ?_
      refine tr_p (y_fa (off := 3) Try.runUnderlying106 fo_106_3 rfl) rfl rfl ?_
      obtain ⟨y51, k52, H⟩ := H
      refine tr_h (y_ld Try.isAgg3 rfl) k52 rfl rfl ?_
      refine tr_p (y_sub rfl rfl) rfl rfl ?_
      obtain ⟨a53, e54, H⟩ := H
      refine tr_p (f_nn rfl e54) rfl rfl ?_
      refine tr_p (y_fa (off := 3) Try.runUnderlying106 fo_106_3 rfl) rfl rfl ?_
      refine tr_e (f_store (vs := [(.int .i64 (IntKind.wrap .i64 (y51 - 1)))]) Try.sizeOf3 rfl rfl rfl rfl (one1 rfl) H) rfl rfl ?_
      rintro _ h55 ⟨rfl, H⟩
      refine tr_nil ?_
      refine tr_thenN ?_
      refine tr_seq ?_
      refine tr_region ?_
      refine tr_p (y_move rfl) rfl rfl ?_
      obtain ⟨a56, e57, H⟩ := H
      refine tr_p (f_nn rfl e57) rfl rfl ?_
      refine tr_p (y_fa (off := 0) Try.runUnderlying106 fo_106_0 rfl) rfl rfl ?_
      obtain ⟨y58, k59, H⟩ := H
      refine tr_h (y_ld Try.isAgg104 rfl) k59 rfl rfl ?_
      refine tr_p (y_len (ts := #[]) Try.runUnderlying104 (o := y58.ptr) (n := y58.len) (cap := y58.cap) rfl) rfl rfl ?_
      refine tr_p (y_assign rfl) rfl rfl ?_
      refine tr_nil ?_
      refine tr_thenN ?_
      refine tr_seq ?_
      refine tr_seq ?_
      refine tr_region ?_
      refine tr_p (y_move rfl) rfl rfl ?_
      refine tr_p (y_add rfl rfl) rfl rfl ?_
      refine tr_p (y_move rfl) rfl rfl ?_
      obtain ⟨e60, H⟩ := H
      refine tr_p (y_rem rfl rfl e60) rfl rfl ?_
      refine tr_p (y_assign rfl) rfl rfl ?_
      refine tr_nil ?_
      refine tr_thenN ?_
      refine tr_block ?_
      obtain ⟨m110, H⟩ := H
      refine tr_sub [(0, (.pointer p0)), (4, (.pointer y47)), (8, (.int .i64 r38)), (10, (.int .i64 (y58.len : Int))), (11, (.int .i64 (Int.tmod (IntKind.wrap .i64 (r38 + 1)) (y58.len : Int))))] ⟨rfl, rfl, rfl, rfl, rfl, trivial⟩ ?_
      refine tr_loop_j (fun m L' h => ∃ (x0 : Option Addr) (x4 : Option Addr) (x8 : Int) (x10 : Int) (x11 : Int), L' = [(0, (.pointer x0)), (4, (.pointer x4)), (8, (.int .i64 x8)), (10, (.int .i64 x10)), (11, (.int .i64 x11))] ∧ F.table_Table_chain_Chain_api_Agg_Drop.l1 Q m x0 x4 x8 x10 x11 h) ?_ ?_ m110 ⟨_, _, _, _, _, rfl, H⟩
      · rintro L' h ⟨_, _, _, _, _, _, H⟩; exact H
      · rintro q1 L' h ⟨x0, x4, x8, x10, x11, rfl, H⟩
        unfold F.table_Table_chain_Chain_api_Agg_Drop.l1 at H
        refine tr_seq ?_
        refine tr_seq ?_
        refine tr_region ?_
        refine tr_p (y_move rfl) rfl rfl ?_
        obtain ⟨a61, e62, H⟩ := H
        refine tr_p (f_nn rfl e62) rfl rfl ?_
        refine tr_p (y_fa (off := 0) Try.runUnderlying106 fo_106_0 rfl) rfl rfl ?_
        obtain ⟨y63, k64, H⟩ := H
        refine tr_h (y_ld Try.isAgg104 rfl) k64 rfl rfl ?_
        refine tr_p (y_move rfl) rfl rfl ?_
        obtain ⟨a65, e66, H⟩ := H
        refine tr_p (f_idx (s := y63) Try.runUnderlying104 Try.sizeOf118 rfl rfl e66) rfl rfl ?_
        refine tr_p (y_fa (off := 0) Try.runUnderlying118 fo_118_0 rfl) rfl rfl ?_
        obtain ⟨y67, k68, H⟩ := H
        refine tr_h (y_ld Try.isAgg5 rfl) k68 rfl rfl ?_
        refine tr_p (y_neq rfl rfl) rfl rfl ?_
        refine tr_nil ?_
        refine tr_thenN ?_
        refine tr_cond rfl (fun g69 => ?_) (fun g69 => ?_)
        · replace H := H.1 g69
          refine tr_skip ?_
          refine tr_thenN ?_
          refine tr_seq_j (fun L' h => ∃ (x0 : Option Addr) (x4 : Option Addr) (x8 : Int) (x10 : Int) (x11 : Int), L' = [(0, (.pointer x0)), (4, (.pointer x4)), (8, (.int .i64 x8)), (10, (.int .i64 x10)), (11, (.int .i64 x11))] ∧ F.table_Table_chain_Chain_api_Agg_Drop.j2 Q (F.table_Table_chain_Chain_api_Agg_Drop.l1 Q q1) x0 x4 x8 x10 x11 h) ?_ ?_
          · rintro L' h ⟨x0, x4, x8, x10, x11, rfl, H⟩
            unfold F.table_Table_chain_Chain_api_Agg_Drop.j2 at H
            refine tr_region ?_
            refine tr_p (y_move rfl) rfl rfl ?_
            refine tr_p (y_add rfl rfl) rfl rfl ?_
            refine tr_p (y_move rfl) rfl rfl ?_
            obtain ⟨e70, H⟩ := H
            refine tr_p (y_rem rfl rfl e70) rfl rfl ?_
            refine tr_p (y_assign rfl) rfl rfl ?_
            refine tr_nil ?_
            refine tr_thenN ?_
            exact tr_join [(0, (.pointer x0)), (4, (.pointer x4)), (8, (.int .i64 x8)), (10, (.int .i64 x10)), (11, (.int .i64 (Int.tmod (IntKind.wrap .i64 (x11 + 1)) x10)))] ⟨rfl, rfl, rfl, rfl, rfl, trivial⟩ ⟨_, _, _, _, _, rfl, H⟩
          · refine tr_block ?_
            refine tr_seq ?_
            refine tr_draw mixed [0, 1, 3, 7, 0, 16, 48, 112, 0, 496, 1008, 2032, 4095, 8191] (by kernel_rfl) ?_
            refine g_p 0 1 rfl (by kernel_rfl) (y_move rfl) rfl rfl ?_
            obtain ⟨a71, e72, H⟩ := H
            refine g_p 1 3 rfl (by kernel_rfl) (f_nn rfl e72) rfl rfl ?_
            refine g_p 2 7 rfl (by kernel_rfl) (y_fa (off := 0) Try.runUnderlying106 fo_106_0 rfl) rfl rfl ?_
            obtain ⟨y73, k74, H⟩ := H
            refine g_h 3 15 rfl (by kernel_rfl) (y_ld Try.isAgg104 rfl) k74 rfl rfl ?_
            refine g_p 4 31 rfl (by kernel_rfl) (y_move rfl) rfl rfl ?_
            obtain ⟨a75, e76, H⟩ := H
            refine g_p 5 63 rfl (by kernel_rfl) (f_nn rfl e76) rfl rfl ?_
            refine g_p 6 127 rfl (by kernel_rfl) (y_fa (off := 0) Try.runUnderlying106 fo_106_0 rfl) rfl rfl ?_
            obtain ⟨y77, k78, H⟩ := H
            refine g_h 7 255 rfl (by kernel_rfl) (y_ld Try.isAgg104 rfl) k78 rfl rfl ?_
            refine g_p 8 511 rfl (by kernel_rfl) (y_move rfl) rfl rfl ?_
            obtain ⟨a79, e80, H⟩ := H
            refine g_p 9 1023 rfl (by kernel_rfl) (f_idx (s := y77) Try.runUnderlying104 Try.sizeOf118 rfl rfl e80) rfl rfl ?_
            refine g_p 10 2047 rfl (by kernel_rfl) (y_fa (off := 1) Try.runUnderlying118 fo_118_1 rfl) rfl rfl ?_
            obtain ⟨y81, k82, H⟩ := H
            refine g_h 11 4095 rfl (by kernel_rfl) (y_ld Try.isAgg9 rfl) k82 rfl rfl ?_
            refine g_e 12 8191 [] (by kernel_rfl) rfl (by kernel_rfl) (e_call Try.call70 rfl (F.table_home_chain_Chain_api_Agg_ok H)) rfl rfl ?_
            rintro _ h83 ⟨r84, rfl, H⟩
            refine ⟨trivial, ?_⟩
            refine g_p 13 16383 rfl (by kernel_rfl) (y_assign rfl) rfl rfl ?_
            refine g_d (by kernel_rfl) ?_
            refine tr_thenN ?_
            refine tr_seq ?_
            refine tr_draw mixed [0, 0, 3, 0, 15, 0, 63, 0, 0, 384, 0, 1920, 0, 8064, 16383] (by kernel_rfl) ?_
            refine g_p 0 1 rfl (by kernel_rfl) (y_move rfl) rfl rfl ?_
            refine g_p 1 3 rfl (by kernel_rfl) (y_move rfl) rfl rfl ?_
            refine g_p 2 7 rfl (by kernel_rfl) (y_sub rfl rfl) rfl rfl ?_
            refine g_p 3 15 rfl (by kernel_rfl) (y_move rfl) rfl rfl ?_
            refine g_p 4 31 rfl (by kernel_rfl) (y_add rfl rfl) rfl rfl ?_
            refine g_p 5 63 rfl (by kernel_rfl) (y_move rfl) rfl rfl ?_
            obtain ⟨e85, H⟩ := H
            refine g_p 6 127 rfl (by kernel_rfl) (y_rem rfl rfl e85) rfl rfl ?_
            refine g_p 7 255 rfl (by kernel_rfl) (y_move rfl) rfl rfl ?_
            refine g_p 8 511 rfl (by kernel_rfl) (y_move rfl) rfl rfl ?_
            refine g_p 9 1023 rfl (by kernel_rfl) (y_sub rfl rfl) rfl rfl ?_
            refine g_p 10 2047 rfl (by kernel_rfl) (y_move rfl) rfl rfl ?_
            refine g_p 11 4095 rfl (by kernel_rfl) (y_add rfl rfl) rfl rfl ?_
            refine g_p 12 8191 rfl (by kernel_rfl) (y_move rfl) rfl rfl ?_
            obtain ⟨e86, H⟩ := H
            refine g_p 13 16383 rfl (by kernel_rfl) (y_rem rfl rfl e86) rfl rfl ?_
            refine g_p 14 32767 rfl (by kernel_rfl) (y_geq rfl rfl) rfl rfl ?_
            refine g_d (by kernel_rfl) ?_
            refine tr_thenN ?_
            refine tr_cond rfl (fun g87 => ?_) (fun g87 => ?_)
            · replace H := H.1 g87
              refine tr_draw mixed [0, 1, 3, 7, 0, 0, 32, 96, 224, 0, 992, 2016, 0, 4095, 12287, 32767] (by kernel_rfl) ?_
              refine g_p 0 1 rfl (by kernel_rfl) (y_move rfl) rfl rfl ?_
              obtain ⟨a88, e89, H⟩ := H
              refine g_p 1 3 rfl (by kernel_rfl) (f_nn rfl e89) rfl rfl ?_
              refine g_p 2 7 rfl (by kernel_rfl) (y_fa (off := 0) Try.runUnderlying106 fo_106_0 rfl) rfl rfl ?_
              obtain ⟨y90, k91, H⟩ := H
              refine g_h 3 15 rfl (by kernel_rfl) (y_ld Try.isAgg104 rfl) k91 rfl rfl ?_
              refine g_p 4 31 rfl (by kernel_rfl) (y_move rfl) rfl rfl ?_
              refine g_p 5 63 rfl (by kernel_rfl) (y_move rfl) rfl rfl ?_
              obtain ⟨a92, e93, H⟩ := H
              refine g_p 6 127 rfl (by kernel_rfl) (f_nn rfl e93) rfl rfl ?_
              refine g_p 7 255 rfl (by kernel_rfl) (y_fa (off := 0) Try.runUnderlying106 fo_106_0 rfl) rfl rfl ?_
              obtain ⟨y94, k95, H⟩ := H
              refine g_h 8 511 rfl (by kernel_rfl) (y_ld Try.isAgg104 rfl) k95 rfl rfl ?_
              refine g_p 9 1023 rfl (by kernel_rfl) (y_move rfl) rfl rfl ?_
              obtain ⟨a96, e97, H⟩ := H
              refine g_p 10 2047 rfl (by kernel_rfl) (f_idx (s := y94) Try.runUnderlying104 Try.sizeOf118 rfl rfl e97) rfl rfl ?_
              obtain ⟨y98, k99, H⟩ := H
              refine g_h 11 4095 rfl (by kernel_rfl) (y_ldS Try.isAgg118 Try.sizeOf118 rfl rfl) k99 rfl rfl ?_
              refine g_p 12 8191 rfl (by kernel_rfl) (y_move rfl) rfl rfl ?_
              obtain ⟨a100, e101, H⟩ := H
              refine g_p 13 16383 rfl (by kernel_rfl) (f_idx (s := y90) Try.runUnderlying104 Try.sizeOf118 rfl rfl e101) rfl rfl ?_
              refine g_e 14 32767 [] (by kernel_rfl) rfl (by kernel_rfl) (f_store (vs := y98.cells) Try.sizeOf118 rfl rfl cellsOfStruct rfl (by intro v hv; exact ones_S_table_place_chain_Chain_api_Agg _ v hv) H) rfl rfl ?_
              rintro _ h102 ⟨rfl, H⟩
              refine ⟨trivial, ?_⟩
              refine g_e 15 65535 [] (by kernel_rfl) rfl (by kernel_rfl) (yp_ev (y_assign rfl)) rfl rfl ?_
              rintro _ _ ⟨rfl, rfl⟩
              refine ⟨trivial, ?_⟩
              refine g_d (by kernel_rfl) ?_
              refine tr_blockN ?_
              refine tr_thenN ?_
              exact tr_join [(0, (.pointer x0)), (4, (.pointer x4)), (8, (.int .i64 x11)), (10, (.int .i64 x10)), (11, (.int .i64 x11))] ⟨rfl, rfl, rfl, rfl, rfl, trivial⟩ ⟨_, _, _, _, _, rfl, H⟩
            · replace H := H.2 g87
              refine tr_skip ?_
              refine tr_blockN ?_
              refine tr_thenN ?_
              exact tr_join [(0, (.pointer x0)), (4, (.pointer x4)), (8, (.int .i64 x8)), (10, (.int .i64 x10)), (11, (.int .i64 x11))] ⟨rfl, rfl, rfl, rfl, rfl, trivial⟩ ⟨_, _, _, _, _, rfl, H⟩
        · replace H := H.2 g69
          refine tr_exit ?_
          refine tr_thenE ?_
          refine tr_thenE ?_
          refine tr_hit ?_
          refine tr_thenN ?_
          refine tr_seq ?_
          refine tr_region ?_
          refine tr_p (y_move rfl) rfl rfl ?_
          obtain ⟨a103, e104, H⟩ := H
          refine tr_p (f_nn rfl e104) rfl rfl ?_
          refine tr_p (y_fa (off := 0) Try.runUnderlying106 fo_106_0 rfl) rfl rfl ?_
          obtain ⟨y105, k106, H⟩ := H
          refine tr_h (y_ld Try.isAgg104 rfl) k106 rfl rfl ?_
          refine tr_p (y_move rfl) rfl rfl ?_
          refine tr_p (f_build rfl (bd_118_ )) rfl rfl ?_
          obtain ⟨a107, e108, H⟩ := H
          refine tr_p (f_idx (s := y105) Try.runUnderlying104 Try.sizeOf118 rfl rfl e108) rfl rfl ?_
          refine tr_e (f_store (vs := (⟨0, (⟨#[]⟩ : ByteArray), none⟩ : S_table_place_chain_Chain_api_Agg).cells) Try.sizeOf118 rfl rfl cellsOfStruct rfl (by intro v hv; exact ones_S_table_place_chain_Chain_api_Agg _ v hv) H) rfl rfl ?_
          rintro _ h109 ⟨rfl, H⟩
          refine tr_nil ?_
          refine tr_thenN ?_
          refine tr_seq ?_
          refine tr_region ?_
          refine tr_p (y_move rfl) rfl rfl ?_
          refine tr_p (y_assign rfl) rfl rfl ?_
          refine tr_p (y_assign rfl) rfl rfl ?_
          refine tr_nil ?_
          refine tr_thenN ?_
          refine tr_ret ?_
          exact tr_ret2 rfl rfl rfl ⟨_, _, rfl, H⟩
def F.shard_Shard_Prune.l1 (Q : Int → H → Prop) : Nat → List Nat → (Option Addr) → Addr → Sl → Int → Int → H → Prop
  | 0, _, _, _, _, _, _, _ => False
  | q1 + 1, ds, x0, x5, x30, x31, x32, h =>
    ((decide (x32 < x31)) = true →
    idxA x30 x32 1 fun a37 =>
    ldS h a37 fun y39 =>
    nn x0 fun a41 =>
    ldP h (a41.add 3) fun y43 =>
    F.table_Table_chain_Chain_api_Agg_Drop y43 y39 h fun r46 r47 h45 =>
    (F.shard_Shard_Prune.l1 Q q1) ds x0 x5 x30 x31 (IntKind.wrap .i64 (x32 + 1)) h45) ∧
    ((decide (x32 < x31)) = false →
    nn x0 fun a48 =>
    ldI .i64 h ((a48.add 0).add 0) fun y50 =>
    ldI .i64 h x5 fun y52 =>
    nn x0 fun a54 =>
    stH h ((a54.add 0).add 0) [(.int .i64 (IntKind.wrap .i64 (y50 - y52)))] fun h56 =>
    ldI .i64 h56 x5 fun y57 =>
    shuts ds h56 fun h59 =>
    Q y57 h59)
/-- (*spate/shard.Shard).Prune -/
def F.shard_Shard_Prune (p0 : Option Addr) (p1 : Sl) (h : H) (Q : Int → H → Prop) : Prop :=
  new h #[p1.enc] ty_26 fun a2 h1 =>
  new h1 #[(.int .i64 0)] ty_3 fun a4 h3 =>
  stH h3 a4 [(.int .i64 0)] fun h5 =>
  new h5 #[(⟨none, 0, 0⟩ : Sl).enc] ty_99 fun a7 h6 =>
  nn p0 fun a8 =>
  ldP h6 (a8.add 3) fun y10 =>
  F.table_Table_chain_Chain_api_Agg_All y10 h6 fun r13 h12 =>
  rng PP r13 h12 [] (fun bg1 l1 args h K1 J1 => ∃ (y1_16 : ByteArray), ∃ (y1_17 : Option Addr), args = [(.string y1_16), (.pointer y1_17)] ∧
    bg1 h fun h14 =>
    ldI .i64 h14 a4 fun y15 =>
    ldL h14 a2 fun y17 =>
    F.chain_Chain_api_Agg_Prune y1_17 y17 h14 fun r20 h19 =>
    cellH h19 a4 = some (.int .i64 y15) ∧
    stH h19 a4 [(.int .i64 (IntKind.wrap .i64 (y15 + r20)))] fun h22 =>
    F.chain_Chain_api_Agg_Len y1_17 h22 fun r24 h23 =>
    (((r24 == 0)) = true →
    ldL h23 a7 fun y26 =>
    newL h23 #[(.string y1_16)] ty_9 1 fun s29 h28 =>
    runL PP (Builtin.append_ #[99, 99] 99 #[y26.enc, s29.enc]) h28 fun s31 h30 =>
    stH h30 a7 [s31.enc] fun h32 =>
    K1 h32) ∧
    (((r24 == 0)) = false →
    K1 h23)) (fun h33 =>
    ldL h33 a7 fun y34 =>
    ∃ m, F.shard_Shard_Prune.l1 Q m (h12.size :: ([] : List Nat)) p0 a4 y34 (y34.len : Int) 0 h33) (fun jj h61 =>
    True)
theorem F.shard_Shard_Prune_ok {p0 : Option Addr} {p1 : Sl} {h : H} {Q : Int → H → Prop} (H : F.shard_Shard_Prune p0 p1 h Q) : Fn PP 25 ([(.pointer p0), p1.enc] : List Value).toArray h fun r h' => ∃ r0, r = (.int .i64 r0) ∧ Q r0 h' := by
  unfold F.shard_Shard_Prune at H
  refine fn_ofM Try.func25 Try.ntmps25 rfl rfl fun w0 => ?_
  refine tr_sub [(0, (.pointer p0)), (1, p1.enc)] ⟨rfl, rfl, trivial⟩ ?_
  refine tr_seq ?_
  refine tr_region ?_
  refine tr_e (f_box (cs := #[p1.enc]) rfl rfl H) rfl rfl ?_
  rintro _ h1 ⟨a2, rfl, H⟩
  refine tr_p (y_assign rfl) rfl rfl ?_
  refine tr_nil ?_
  refine tr_thenN ?_
  refine tr_seq ?_
  refine tr_region ?_
  refine tr_e (f_alloc (cs := #[(.int .i64 0)]) Try.zeroValue3 rfl H) rfl rfl ?_
  rintro _ h3 ⟨a4, rfl, H⟩
  refine tr_e (f_store (vs := [(.int .i64 0)]) Try.sizeOf3 rfl rfl rfl rfl (one1 rfl) H) rfl rfl ?_
  rintro _ h5 ⟨rfl, H⟩
  refine tr_nil ?_
  refine tr_thenN ?_
  refine tr_seq ?_
  refine tr_region ?_
  refine tr_e (f_alloc (cs := #[(⟨none, 0, 0⟩ : Sl).enc]) Try.zeroValue99 rfl H) rfl rfl ?_
  rintro _ h6 ⟨a7, rfl, H⟩
  refine tr_nil ?_
  refine tr_thenN ?_
  refine tr_seq ?_
  refine tr_seq ?_
  refine tr_region ?_
  refine tr_p (y_move rfl) rfl rfl ?_
  obtain ⟨a8, e9, H⟩ := H
  refine tr_p (f_nn rfl e9) rfl rfl ?_
  refine tr_p (y_fa (off := 3) Try.runUnderlying54 fo_54_1 rfl) rfl rfl ?_
  obtain ⟨y10, k11, H⟩ := H
  refine tr_h (y_ld Try.isAgg52 rfl) k11 rfl rfl ?_
  refine tr_e (e_call Try.call47 rfl (F.table_Table_chain_Chain_api_Agg_All_ok H)) rfl rfl ?_
  rintro r13 h12 ⟨_, rfl, H⟩
  refine tr_nil ?_
  refine tr_thenN ?_
  refine tr_block ?_
  refine tr_range rfl (by kernel_rfl) H ?_ ?_ ?_
  · intro bg1 l1 args h K1 J1 w1 hbg1 H
    obtain ⟨y1_16, y1_17, rfl, H⟩ := H
    refine ⟨rfl, ?_⟩
    refine tr_sub [(0, (.pointer p0)), (1, p1.enc), (3, (.pointer (some a2))), (4, (.int .i64 0)), (5, (.pointer (some a4))), (6, (.pointer (some a7))), (11, (.pointer p0)), (12, (.pointer (some a8))), (13, (.pointer (some (a8.add 3)))), (14, (.pointer y10)), (15, r13), (16, (.string y1_16)), (17, (.pointer y1_17))] ⟨rfl, rfl, rfl, rfl, rfl, rfl, rfl, rfl, rfl, rfl, rfl, rfl, rfl, trivial⟩ ?_
    refine tr_seq ?_
    refine tr_region ?_
    refine tr_p (y_assign rfl) rfl rfl ?_
    refine tr_nil ?_
    refine tr_thenN ?_
    refine tr_region ?_
    refine tr_p (y_assign rfl) rfl rfl ?_
    refine tr_nil ?_
    refine tr_thenN ?_
    refine tr_bgn hbg1 H fun h14 H => ?_
    refine tr_block ?_
    refine tr_seq ?_
    refine tr_draw mixed [0, 0, 0, 6, 15, 31] (by kernel_rfl) ?_
    obtain ⟨y15, k16, H⟩ := H
    refine g_h 0 1 rfl (by kernel_rfl) (y_ld Try.isAgg3 rfl) k16 rfl rfl ?_
    refine g_p 1 3 rfl (by kernel_rfl) (y_move rfl) rfl rfl ?_
    obtain ⟨y17, k18, H⟩ := H
    refine g_h 2 7 rfl (by kernel_rfl) (y_ld Try.isAgg26 rfl) k18 rfl rfl ?_
    refine g_e 3 15 [(0, fun h => cellH h a4 = some (.int .i64 y15))] (by kernel_rfl) rfl (by kernel_rfl) (e_call Try.call50 rfl (F.chain_Chain_api_Agg_Prune_ok H)) rfl rfl ?_
    rintro _ h19 ⟨r20, rfl, H⟩
    obtain ⟨k21, H⟩ := H
    refine ⟨And.intro k21 trivial, ?_⟩
    refine g_p 4 31 rfl (by kernel_rfl) (y_add rfl rfl) rfl rfl ?_
    refine g_e 5 63 [] (by kernel_rfl) rfl (by kernel_rfl) (f_store (vs := [(.int .i64 (IntKind.wrap .i64 (y15 + r20)))]) Try.sizeOf3 rfl rfl rfl rfl (one1 rfl) H) rfl rfl ?_
    rintro _ h22 ⟨rfl, H⟩
    refine ⟨trivial, ?_⟩
    refine g_d (by kernel_rfl) ?_
    refine tr_thenN ?_
    refine tr_seq ?_
    refine tr_region ?_
    refine tr_p (y_move rfl) rfl rfl ?_
    refine tr_e (e_call Try.call48 rfl (F.chain_Chain_api_Agg_Len_ok H)) rfl rfl ?_
    rintro _ h23 ⟨r24, rfl, H⟩
    refine tr_p (y_eql rfl rfl) rfl rfl ?_
    refine tr_nil ?_
    refine tr_thenN ?_
    refine tr_cond rfl (fun g25 => ?_) (fun g25 => ?_)
    · replace H := H.1 g25
      refine tr_region ?_
      obtain ⟨y26, k27, H⟩ := H
      refine tr_h (y_ld Try.isAgg99 rfl) k27 rfl rfl ?_
      refine tr_p (y_move rfl) rfl rfl ?_
      refine tr_e (f_buildL (cs := #[(.string y1_16)]) rfl rfl (bl_99_1_0 y1_16) H) rfl rfl ?_
      rintro _ h28 ⟨s29, rfl, H⟩
      refine tr_e (f_app rfl H) rfl rfl ?_
      rintro _ h30 ⟨s31, rfl, H⟩
      refine tr_e (f_store (vs := [s31.enc]) Try.sizeOf99 rfl rfl rfl rfl (one1 rfl) H) rfl rfl ?_
      rintro _ h32 ⟨rfl, H⟩
      refine tr_nil ?_
      refine tr_blockN ?_
      exact tr_rN H
    · replace H := H.2 g25
      refine tr_skip ?_
      refine tr_blockN ?_
      exact tr_rN H
  · intro h33 H
    refine tr_blockN ?_
    refine tr_thenN ?_
    refine tr_seq ?_
    refine tr_seq ?_
    refine tr_region ?_
    obtain ⟨y34, k35, H⟩ := H
    refine tr_h (y_ld Try.isAgg99 rfl) k35 rfl rfl ?_
    refine tr_p (y_len (ts := #[]) Try.runUnderlying99 (o := y34.ptr) (n := y34.len) (cap := y34.cap) rfl) rfl rfl ?_
    refine tr_p (y_move rfl) rfl rfl ?_
    refine tr_nil ?_
    refine tr_thenN ?_
    refine tr_block ?_
    obtain ⟨m60, H⟩ := H
    refine tr_sub [(0, (.pointer p0)), (5, (.pointer (some a4))), (30, y34.enc), (31, (.int .i64 (y34.len : Int))), (32, (.int .i64 0))] ⟨rfl, rfl, rfl, rfl, rfl, trivial⟩ ?_
    refine tr_loop_jD (fun m ds L' h => ∃ (x0 : Option Addr) (x5 : Addr) (x30 : Sl) (x31 : Int) (x32 : Int), L' = [(0, (.pointer x0)), (5, (.pointer (some x5))), (30, x30.enc), (31, (.int .i64 x31)), (32, (.int .i64 x32))] ∧ F.shard_Shard_Prune.l1 Q m ds x0 x5 x30 x31 x32 h) ?_ ?_ m60 (h12.size :: ([] : List Nat)) rfl ⟨_, _, _, _, _, rfl, H⟩
    · rintro ds L' h ⟨_, _, _, _, _, _, H⟩; exact H
    · rintro q1 ds L' h ⟨x0, x5, x30, x31, x32, rfl, H⟩
      unfold F.shard_Shard_Prune.l1 at H
      refine tr_seq ?_
      refine tr_region ?_
      refine tr_p (y_lss rfl rfl) rfl rfl ?_
      refine tr_nil ?_
      refine tr_thenN ?_
      refine tr_seq ?_
      refine tr_cond rfl (fun g36 => ?_) (fun g36 => ?_)
      · replace H := H.1 g36
        refine tr_skip ?_
        refine tr_thenN ?_
        refine tr_seq ?_
        refine tr_block ?_
        refine tr_seq ?_
        refine tr_region ?_
        obtain ⟨a37, e38, H⟩ := H
        refine tr_p (f_idx (s := x30) Try.runUnderlying99 Try.sizeOf9 rfl rfl e38) rfl rfl ?_
        obtain ⟨y39, k40, H⟩ := H
        refine tr_h (y_ld Try.isAgg9 rfl) k40 rfl rfl ?_
        refine tr_p (y_assign rfl) rfl rfl ?_
        refine tr_nil ?_
        refine tr_thenN ?_
        refine tr_region ?_
        refine tr_p (y_move rfl) rfl rfl ?_
        obtain ⟨a41, e42, H⟩ := H
        refine tr_p (f_nn rfl e42) rfl rfl ?_
        refine tr_p (y_fa (off := 3) Try.runUnderlying54 fo_54_1 rfl) rfl rfl ?_
        obtain ⟨y43, k44, H⟩ := H
        refine tr_h (y_ld Try.isAgg52 rfl) k44 rfl rfl ?_
        refine tr_p (y_move rfl) rfl rfl ?_
        refine tr_e (e_call Try.call51 rfl (F.table_Table_chain_Chain_api_Agg_Drop_ok H)) rfl rfl ?_
        rintro _ h45 ⟨r46, r47, rfl, H⟩
        refine tr_nil ?_
        refine tr_blockN ?_
        refine tr_thenN ?_
        refine tr_region ?_
        refine tr_p (y_add rfl rfl) rfl rfl ?_
        refine tr_p (y_move rfl) rfl rfl ?_
        refine tr_nil ?_
        refine tr_thenN ?_
        exact tr_joinD ds [(0, (.pointer x0)), (5, (.pointer (some x5))), (30, x30.enc), (31, (.int .i64 x31)), (32, (.int .i64 (IntKind.wrap .i64 (x32 + 1))))] rfl ⟨rfl, rfl, rfl, rfl, rfl, trivial⟩ ⟨_, _, _, _, _, rfl, H⟩
      · replace H := H.2 g36
        refine tr_exit ?_
        refine tr_thenE ?_
        refine tr_thenE ?_
        refine tr_hit ?_
        refine tr_thenN ?_
        refine tr_seq ?_
        refine tr_draw mixed [0, 1, 3, 7, 15, 0, 63, 127, 255, 511, 1023] (by kernel_rfl) ?_
        refine g_p 0 1 rfl (by kernel_rfl) (y_move rfl) rfl rfl ?_
        obtain ⟨a48, e49, H⟩ := H
        refine g_p 1 3 rfl (by kernel_rfl) (f_nn rfl e49) rfl rfl ?_
        refine g_p 2 7 rfl (by kernel_rfl) (y_fa (off := 0) Try.runUnderlying54 fo_54_0 rfl) rfl rfl ?_
        refine g_p 3 15 rfl (by kernel_rfl) (y_fa (off := 0) Try.runUnderlying51 fo_51_0 rfl) rfl rfl ?_
        obtain ⟨y50, k51, H⟩ := H
        refine g_h 4 31 rfl (by kernel_rfl) (y_ld Try.isAgg3 rfl) k51 rfl rfl ?_
        obtain ⟨y52, k53, H⟩ := H
        refine g_h 5 63 rfl (by kernel_rfl) (y_ld Try.isAgg3 rfl) k53 rfl rfl ?_
        refine g_p 6 127 rfl (by kernel_rfl) (y_sub rfl rfl) rfl rfl ?_
        obtain ⟨a54, e55, H⟩ := H
        refine g_p 7 255 rfl (by kernel_rfl) (f_nn rfl e55) rfl rfl ?_
        refine g_p 8 511 rfl (by kernel_rfl) (y_fa (off := 0) Try.runUnderlying54 fo_54_0 rfl) rfl rfl ?_
        refine g_p 9 1023 rfl (by kernel_rfl) (y_fa (off := 0) Try.runUnderlying51 fo_51_0 rfl) rfl rfl ?_
        refine g_e 10 2047 [] (by kernel_rfl) rfl (by kernel_rfl) (f_store (vs := [(.int .i64 (IntKind.wrap .i64 (y50 - y52)))]) Try.sizeOf3 rfl rfl rfl rfl (one1 rfl) H) rfl rfl ?_
        rintro _ h56 ⟨rfl, H⟩
        refine ⟨trivial, ?_⟩
        refine g_d (by kernel_rfl) ?_
        refine tr_thenN ?_
        refine tr_seq ?_
        refine tr_region ?_
        obtain ⟨y57, k58, H⟩ := H
        refine tr_h (y_ld Try.isAgg3 rfl) k58 rfl rfl ?_
        refine tr_p (y_assign rfl) rfl rfl ?_
        refine tr_nil ?_
        refine tr_thenN ?_
        refine tr_ret ?_
        refine tr_shut ds rfl H fun h59 H => ?_
        exact tr_ret1 rfl rfl ⟨_, rfl, H⟩
  · intro jj c h61 hjc H
    simp at hjc
end Go.Proofs.Ytoccbnhahaoeiaa.V
namespace Go.Proofs.Ytoccbnhahaoeiaa.V
open Go
set_option linter.unusedVariables false
set_option maxRecDepth 100000
def F.spatelaw7_ShardDeep.j5 (Q : Bool → H → Prop) (C1 : Int → Int → Int → (Option Addr) → Addr → Int → H → Prop) (x0 : Int) (x1 : Int) (x2 : Int) (x7 : Option Addr) (x9 : Addr) (x12 : Int) (h : H) : Prop :=
  C1 x0 x1 x2 x7 x9 (IntKind.wrap .i64 (x12 + 1)) h
def F.spatelaw7_ShardDeep.j7 (Q : Bool → H → Prop) (C1 : Int → Int → Int → (Option Addr) → Addr → Int → H → Prop) (x0 : Int) (x1 : Int) (x2 : Int) (x7 : Option Addr) (x9 : Addr) (x12 : Int) (x155 : Bool) (h : H) : Prop :=
  (x155 = true →
  Q false h) ∧
  (x155 = false →
  F.spatelaw7_ShardDeep.j5 Q C1 x0 x1 x2 x7 x9 x12 h)
def F.spatelaw7_ShardDeep.j6 (Q : Bool → H → Prop) (C1 : Int → Int → Int → (Option Addr) → Addr → Int → H → Prop) (x0 : Int) (x1 : Int) (x2 : Int) (x7 : Option Addr) (x9 : Addr) (x12 : Int) (x13 : Addr) (h : H) : Prop :=
  ((decide ((IntKind.wrap .i64 (x12 * x1)) > 0)) = true →
  ld_S_api_Cell h x9 fun y31 =>
  ld_S_api_Agg h x13 fun y33 =>
  F.shard_Shard_At x7 y31 (IntKind.wrap .i64 (x12 * x1)) h fun r36 h35 =>
  Cells h35 x13 y33.cells ∧
  ((!((r36.Count == y33.Count) && ((r36.Sum == y33.Sum) && ((r36.Min == y33.Min) && ((r36.Max == y33.Max) && true))))) = true →
  F.spatelaw7_ShardDeep.j7 Q C1 x0 x1 x2 x7 x9 x12 true h35) ∧
  ((!((r36.Count == y33.Count) && ((r36.Sum == y33.Sum) && ((r36.Min == y33.Min) && ((r36.Max == y33.Max) && true))))) = false →
  ld_S_api_Cell h35 x9 fun y39 =>
  ld_S_api_Agg h35 x13 fun y41 =>
  F.shard_Shard_At x7 y39 (IntKind.wrap .i64 ((IntKind.wrap .i64 ((IntKind.wrap .i64 (x12 * x1)) + x1)) - 1)) h35 fun r44 h43 =>
  Cells h43 x13 y41.cells ∧
  ((!((r44.Count == y41.Count) && ((r44.Sum == y41.Sum) && ((r44.Min == y41.Min) && ((r44.Max == y41.Max) && true))))) = true →
  F.spatelaw7_ShardDeep.j7 Q C1 x0 x1 x2 x7 x9 x12 (decide ((IntKind.wrap .i64 ((IntKind.wrap .i64 (x12 * x1)) + x1)) > 1)) h43) ∧
  ((!((r44.Count == y41.Count) && ((r44.Sum == y41.Sum) && ((r44.Min == y41.Min) && ((r44.Max == y41.Max) && true))))) = false →
  F.spatelaw7_ShardDeep.j7 Q C1 x0 x1 x2 x7 x9 x12 false h43))) ∧
  ((decide ((IntKind.wrap .i64 (x12 * x1)) > 0)) = false →
  ld_S_api_Cell h x9 fun y47 =>
  ld_S_api_Agg h x13 fun y49 =>
  F.shard_Shard_At x7 y47 (IntKind.wrap .i64 ((IntKind.wrap .i64 ((IntKind.wrap .i64 (x12 * x1)) + x1)) - 1)) h fun r52 h51 =>
  Cells h51 x13 y49.cells ∧
  ((!((r52.Count == y49.Count) && ((r52.Sum == y49.Sum) && ((r52.Min == y49.Min) && ((r52.Max == y49.Max) && true))))) = true →
  F.spatelaw7_ShardDeep.j7 Q C1 x0 x1 x2 x7 x9 x12 (decide ((IntKind.wrap .i64 ((IntKind.wrap .i64 (x12 * x1)) + x1)) > 1)) h51) ∧
  ((!((r52.Count == y49.Count) && ((r52.Sum == y49.Sum) && ((r52.Min == y49.Min) && ((r52.Max == y49.Max) && true))))) = false →
  F.spatelaw7_ShardDeep.j7 Q C1 x0 x1 x2 x7 x9 x12 false h51))
def F.spatelaw7_ShardDeep.j9 (Q : Bool → H → Prop) (C1 : Int → Int → Int → (Option Addr) → Addr → Sl → Int → Int → H → Prop) (x0 : Int) (x1 : Int) (x2 : Int) (x7 : Option Addr) (x9 : Addr) (x14 : Sl) (x15 : Int) (x16 : Int) (h : H) : Prop :=
  C1 x0 x1 x2 x7 x9 x14 x15 (IntKind.wrap .i64 (x16 - 1)) h
def F.spatelaw7_ShardDeep.j11 (Q : Bool → H → Prop) (C1 : Int → Int → Int → (Option Addr) → Addr → Sl → Int → Int → H → Prop) (x0 : Int) (x1 : Int) (x2 : Int) (x7 : Option Addr) (x9 : Addr) (x14 : Sl) (x15 : Int) (x16 : Int) (x185 : Bool) (h : H) : Prop :=
  (x185 = true →
  F.spatelaw7_ShardDeep.j9 Q C1 x0 x1 x2 x7 x9 x14 (IntKind.wrap .i64 (x15 + 1)) x16 h) ∧
  (x185 = false →
  F.spatelaw7_ShardDeep.j9 Q C1 x0 x1 x2 x7 x9 x14 x15 x16 h)
def F.spatelaw7_ShardDeep.j10 (Q : Bool → H → Prop) (C1 : Int → Int → Int → (Option Addr) → Addr → Sl → Int → Int → H → Prop) (x0 : Int) (x1 : Int) (x2 : Int) (x7 : Option Addr) (x9 : Addr) (x14 : Sl) (x15 : Int) (x16 : Int) (h : H) : Prop :=
  (x2 : Int) ≠ 0 ∧
  ((((Int.tmod x16 x2) == 0)) = true →
  F.spatelaw7_ShardDeep.j11 Q C1 x0 x1 x2 x7 x9 x14 x15 x16 true h) ∧
  ((((Int.tmod x16 x2) == 0)) = false →
  F.spatelaw7_ShardDeep.j11 Q C1 x0 x1 x2 x7 x9 x14 x15 x16 ((x16 == x0)) h)
def F.spatelaw7_ShardDeep.j14 (Q : Bool → H → Prop) (C1 : Int → Int → Int → (Option Addr) → Addr → Int → Int → H → Prop) (x0 : Int) (x1 : Int) (x2 : Int) (x7 : Option Addr) (x9 : Addr) (x15 : Int) (x17 : Int) (h : H) : Prop :=
  C1 x0 x1 x2 x7 x9 x15 (IntKind.wrap .i64 (x17 + 1)) h
def F.spatelaw7_ShardDeep.j15 (Q : Bool → H → Prop) (C1 : Int → Int → Int → (Option Addr) → Addr → Int → Int → H → Prop) (x0 : Int) (x1 : Int) (x2 : Int) (x7 : Option Addr) (x9 : Addr) (x15 : Int) (x17 : Int) (x235 : Bool) (h : H) : Prop :=
  (x235 = true →
  Q false h) ∧
  (x235 = false →
  F.spatelaw7_ShardDeep.j14 Q C1 x0 x1 x2 x7 x9 x15 x17 h)
def F.spatelaw7_ShardDeep.l13 (Q : Bool → H → Prop) : Nat → Int → Int → Int → (Option Addr) → Addr → Int → Int → H → Prop
  | 0, _, _, _, _, _, _, _, _ => False
  | q13 + 1, x0, x1, x2, x7, x9, x15, x17, h =>
    ((decide (x17 ≤ x0)) = true →
    (x2 : Int) ≠ 0 ∧
    ((((Int.tmod x17 x2) == 0)) = true →
    ld_S_api_Cell h x9 fun y73 =>
    F.shard_Shard_At x7 y73 (IntKind.wrap .i64 (x17 * x1)) h fun r76 h75 =>
    F.spatelaw7_one x17 h75 fun r78 h77 =>
    F.spatelaw7_ShardDeep.j15 Q (F.spatelaw7_ShardDeep.l13 Q q13) x0 x1 x2 x7 x9 x15 x17 (!((r76.Count == r78.Count) && ((r76.Sum == r78.Sum) && ((r76.Min == r78.Min) && ((r76.Max == r78.Max) && true))))) h77) ∧
    ((((Int.tmod x17 x2) == 0)) = false →
    F.spatelaw7_ShardDeep.j15 Q (F.spatelaw7_ShardDeep.l13 Q q13) x0 x1 x2 x7 x9 x15 x17 false h)) ∧
    ((decide (x17 ≤ x0)) = false →
    ld_S_api_Cell h x9 fun y79 =>
    F.shard_Shard_Get x7 y79 h fun r82 h81 =>
    F.spatelaw7_one x0 h81 fun r84 h83 =>
    (((r82.Count == r84.Count) && ((r82.Sum == r84.Sum) && ((r82.Min == r84.Min) && ((r82.Max == r84.Max) && true)))) = true →
    ld_S_api_Cell h83 x9 fun y86 =>
    F.shard_Shard_Kill x7 (IntKind.wrap .i64 (x0 * x1)) y86 h83 fun r89 h88 =>
    (((r89 == 0)) = true →
    nn x7 fun a91 =>
    F.shard_counts_Units (some (a91.add 0)) h88 fun r94 h93 =>
    (((r94 == x15)) = true →
    F.spatelaw7_head  h93 fun r97 h96 =>
    Q r97 h96) ∧
    (((r94 == x15)) = false →
    Q false h93)) ∧
    (((r89 == 0)) = false →
    Q false h88)) ∧
    (((r82.Count == r84.Count) && ((r82.Sum == r84.Sum) && ((r82.Min == r84.Min) && ((r82.Max == r84.Max) && true)))) = false →
    Q false h83))
def F.spatelaw7_ShardDeep.j12 (Q : Bool → H → Prop) (x0 : Int) (x1 : Int) (x2 : Int) (x7 : Option Addr) (x9 : Addr) (x15 : Int) (h : H) : Prop :=
  ∃ m, F.spatelaw7_ShardDeep.l13 Q m x0 x1 x2 x7 x9 x15 1 h
def F.spatelaw7_ShardDeep.j16 (Q : Bool → H → Prop) (x0 : Int) (x1 : Int) (x2 : Int) (x7 : Option Addr) (x9 : Addr) (x15 : Int) (x215 : Bool) (h : H) : Prop :=
  (x215 = true →
  Q false h) ∧
  (x215 = false →
  F.spatelaw7_ShardDeep.j12 Q x0 x1 x2 x7 x9 x15 h)
def F.spatelaw7_ShardDeep.l8 (Q : Bool → H → Prop) : Nat → Int → Int → Int → (Option Addr) → Addr → Sl → Int → Int → H → Prop
  | 0, _, _, _, _, _, _, _, _, _ => False
  | q8 + 1, x0, x1, x2, x7, x9, x14, x15, x16, h =>
    ((decide (x16 ≥ 1)) = true →
    (x2 : Int) ≠ 0 ∧
    ((((Int.tmod x16 x2) == 0)) = true →
    newL h #[(.int .i64 (IntKind.wrap .i64 (x16 * x1))), (.int .i64 (IntKind.wrap .i64 ((IntKind.wrap .i64 ((IntKind.wrap .i64 (x16 * x1)) + x1)) - 1)))] ty_3 2 fun s66 h65 =>
    runL PP (Builtin.append_ #[26, 26] 26 #[x14.enc, s66.enc]) h65 fun s68 h67 =>
    F.spatelaw7_ShardDeep.j10 Q (F.spatelaw7_ShardDeep.l8 Q q8) x0 x1 x2 x7 x9 s68 x15 x16 h67) ∧
    ((((Int.tmod x16 x2) == 0)) = false →
    F.spatelaw7_ShardDeep.j10 Q (F.spatelaw7_ShardDeep.l8 Q q8) x0 x1 x2 x7 x9 x14 x15 x16 h)) ∧
    ((decide (x16 ≥ 1)) = false →
    F.shard_Shard_Prune x7 x14 h fun r101 h100 =>
    (((r101 != (IntKind.wrap .i64 (x0 - x15)))) = true →
    F.spatelaw7_ShardDeep.j16 Q x0 x1 x2 x7 x9 x15 true h100) ∧
    (((r101 != (IntKind.wrap .i64 (x0 - x15)))) = false →
    F.shard_Shard_Most x7 h100 fun r104 h103 =>
    (((r104 != x15)) = true →
    F.spatelaw7_ShardDeep.j16 Q x0 x1 x2 x7 x9 x15 true h103) ∧
    (((r104 != x15)) = false →
    nn x7 fun a106 =>
    F.shard_counts_Units (some (a106.add 0)) h103 fun r109 h108 =>
    (((r109 != (IntKind.wrap .i64 (x15 + 1)))) = true →
    F.spatelaw7_ShardDeep.j16 Q x0 x1 x2 x7 x9 x15 true h108) ∧
    (((r109 != (IntKind.wrap .i64 (x15 + 1)))) = false →
    F.shard_Shard_Prune x7 x14 h108 fun r112 h111 =>
    F.spatelaw7_ShardDeep.j16 Q x0 x1 x2 x7 x9 x15 ((r112 != 0)) h111))))
def F.spatelaw7_ShardDeep.l4 (Q : Bool → H → Prop) : Nat → Int → Int → Int → (Option Addr) → Addr → Int → H → Prop
  | 0, _, _, _, _, _, _, _ => False
  | q4 + 1, x0, x1, x2, x7, x9, x12, h =>
    ((decide (x12 ≤ x0)) = true →
    new h (((⟨0, 0, 0, 0⟩ : S_api_Agg) : S_api_Agg).cells.toArray) ty_35 fun a27 h26 =>
    stH h26 a27 ((⟨0, 0, 0, 0⟩ : S_api_Agg).cells) fun h28 =>
    ((decide (x12 > 0)) = true →
    F.spatelaw7_one x12 h28 fun r57 h56 =>
    stH h56 a27 r57.cells fun h58 =>
    F.spatelaw7_ShardDeep.j6 Q (F.spatelaw7_ShardDeep.l4 Q q4) x0 x1 x2 x7 x9 x12 a27 h58) ∧
    ((decide (x12 > 0)) = false →
    F.spatelaw7_ShardDeep.j6 Q (F.spatelaw7_ShardDeep.l4 Q q4) x0 x1 x2 x7 x9 x12 a27 h28)) ∧
    ((decide (x12 ≤ x0)) = false →
    ∃ m, F.spatelaw7_ShardDeep.l8 Q m x0 x1 x2 x7 x9 (⟨none, 0, 0⟩ : Sl) 0 x0 h)
def F.spatelaw7_ShardDeep.j3 (Q : Bool → H → Prop) (x0 : Int) (x1 : Int) (x2 : Int) (x7 : Option Addr) (x9 : Addr) (h : H) : Prop :=
  ∃ m, F.spatelaw7_ShardDeep.l4 Q m x0 x1 x2 x7 x9 0 h
def F.spatelaw7_ShardDeep.j17 (Q : Bool → H → Prop) (x0 : Int) (x1 : Int) (x2 : Int) (x7 : Option Addr) (x9 : Addr) (x110 : Bool) (h : H) : Prop :=
  (x110 = true →
  Q false h) ∧
  (x110 = false →
  F.spatelaw7_ShardDeep.j3 Q x0 x1 x2 x7 x9 h)
def F.spatelaw7_ShardDeep.l2 (Q : Bool → H → Prop) : Nat → Int → Int → Int → (Option Addr) → Addr → Addr → Int → H → Prop
  | 0, _, _, _, _, _, _, _, _ => False
  | q2 + 1, x0, x1, x2, x7, x9, x10, x11, h =>
    ((decide (x11 ≤ x0)) = true →
    ld_S_api_Cell h x9 fun y17 =>
    F.spatelaw7_one x11 h fun r20 h19 =>
    Cells h19 x9 y17.cells ∧
    F.shard_Shard_Put x7 (IntKind.wrap .i64 (x11 * x1)) (⟨y17, r20⟩ : S_api_Row) h19 fun r23 h22 =>
    (((r23 != 0)) = true →
    Q false h22) ∧
    (((r23 != 0)) = false →
    (F.spatelaw7_ShardDeep.l2 Q q2) x0 x1 x2 x7 x9 x10 (IntKind.wrap .i64 (x11 + 1)) h22)) ∧
    ((decide (x11 ≤ x0)) = false →
    nn x7 fun a116 =>
    F.shard_counts_Units (some (a116.add 0)) h fun r119 h118 =>
    (((r119 != (IntKind.wrap .i64 (x0 + 1)))) = true →
    F.spatelaw7_ShardDeep.j17 Q x0 x1 x2 x7 x9 true h118) ∧
    (((r119 != (IntKind.wrap .i64 (x0 + 1)))) = false →
    F.shard_Shard_Most x7 h118 fun r122 h121 =>
    (((r122 != x0)) = true →
    F.spatelaw7_ShardDeep.j17 Q x0 x1 x2 x7 x9 true h121) ∧
    (((r122 != x0)) = false →
    nn x7 fun a124 =>
    F.shard_counts_Cells (some (a124.add 0)) h121 fun r127 h126 =>
    (((r127 != 1)) = true →
    F.spatelaw7_ShardDeep.j17 Q x0 x1 x2 x7 x9 true h126) ∧
    (((r127 != 1)) = false →
    ld_S_api_Cell h126 x10 fun y129 =>
    F.spatelaw7_one 1 h126 fun r132 h131 =>
    Cells h131 x10 y129.cells ∧
    F.shard_Shard_Put x7 (IntKind.wrap .i64 (x0 * x1)) (⟨y129, r132⟩ : S_api_Row) h131 fun r135 h134 =>
    (((r135 != 31)) = true →
    F.spatelaw7_ShardDeep.j17 Q x0 x1 x2 x7 x9 true h134) ∧
    (((r135 != 31)) = false →
    ld_S_api_Cell h134 x9 fun y137 =>
    F.spatelaw7_one 1 h134 fun r140 h139 =>
    Cells h139 x9 y137.cells ∧
    F.shard_Shard_Put x7 (IntKind.wrap .i64 ((IntKind.wrap .i64 (x0 * x1)) + 1)) (⟨y137, r140⟩ : S_api_Row) h139 fun r143 h142 =>
    (((r143 != 31)) = true →
    F.spatelaw7_ShardDeep.j17 Q x0 x1 x2 x7 x9 true h142) ∧
    (((r143 != 31)) = false →
    ld_S_api_Cell h142 x9 fun y145 =>
    F.spatelaw7_one x0 h142 fun r148 h147 =>
    Cells h147 x9 y145.cells ∧
    F.shard_Shard_Put x7 (IntKind.wrap .i64 (x0 * x1)) (⟨y145, r148⟩ : S_api_Row) h147 fun r151 h150 =>
    F.spatelaw7_ShardDeep.j17 Q x0 x1 x2 x7 x9 ((r151 != 0)) h150))))))
def F.spatelaw7_ShardDeep.j1 (Q : Bool → H → Prop) (x0 : Int) (x1 : Int) (x2 : Int) (x7 : Option Addr) (h : H) : Prop :=
  new h (((⟨0, (⟨#[]⟩ : ByteArray), 0⟩ : S_api_Cell) : S_api_Cell).cells.toArray) ty_24 fun a11 h10 =>
  stH h10 a11 ((⟨0, (⟨#[107]⟩ : ByteArray), 0⟩ : S_api_Cell).cells) fun h12 =>
  new h12 (((⟨0, (⟨#[]⟩ : ByteArray), 0⟩ : S_api_Cell) : S_api_Cell).cells.toArray) ty_24 fun a14 h13 =>
  stH h13 a14 ((⟨0, (⟨#[108]⟩ : ByteArray), 0⟩ : S_api_Cell).cells) fun h15 =>
  ∃ m, F.spatelaw7_ShardDeep.l2 Q m x0 x1 x2 x7 a11 a14 1 h15
def F.spatelaw7_ShardDeep.j18 (Q : Bool → H → Prop) (x0 : Int) (x1 : Int) (x2 : Int) (x7 : Option Addr) (x38 : Bool) (h : H) : Prop :=
  (x38 = true →
  Q false h) ∧
  (x38 = false →
  F.spatelaw7_ShardDeep.j1 Q x0 x1 x2 x7 h)
/-- spate/spatelaw7.ShardDeep -/
def F.spatelaw7_ShardDeep (p0 : Int) (p1 : Int) (p2 : Int) (h : H) (Q : Bool → H → Prop) : Prop :=
  F.spatelaw7_within p0 2000 h fun r2 h1 =>
  F.spatelaw7_within p1 5 h1 fun r4 h3 =>
  F.spatelaw7_within p2 9 h3 fun r6 h5 =>
  F.shard_New (IntKind.wrap .i64 ((IntKind.wrap .i64 (1 + r2)) + 1)) h5 fun r8 r9 h7 =>
  (((r9 != 0)) = true →
  F.spatelaw7_ShardDeep.j18 Q (IntKind.wrap .i64 (1 + r2)) (IntKind.wrap .i64 (1 + r4)) (IntKind.wrap .i64 (1 + r6)) r8 true h7) ∧
  (((r9 != 0)) = false →
  F.spatelaw7_ShardDeep.j18 Q (IntKind.wrap .i64 (1 + r2)) (IntKind.wrap .i64 (1 + r4)) (IntKind.wrap .i64 (1 + r6)) r8 r8.isNone h7)
theorem F.spatelaw7_ShardDeep_ok {p0 : Int} {p1 : Int} {p2 : Int} {h : H} {Q : Bool → H → Prop} (H : F.spatelaw7_ShardDeep p0 p1 p2 h Q) : Fn PP 6 ([(.int .i64 p0), (.int .i64 p1), (.int .i64 p2)] : List Value).toArray h fun r h' => ∃ r0, r = (.bool r0) ∧ Q r0 h' := by
  unfold F.spatelaw7_ShardDeep at H
  refine fn_of Try.func6 Try.ntmps6 rfl rfl fun w0 => ?_
  refine tr_sub [(0, (.int .i64 p0)), (1, (.int .i64 p1)), (2, (.int .i64 p2))] ⟨rfl, rfl, rfl, trivial⟩ ?_
  refine tr_seq ?_
  refine tr_region ?_
  refine tr_p (y_assign rfl) rfl rfl ?_
  refine tr_nil ?_
  refine tr_thenN ?_
  refine tr_seq ?_
  refine tr_region ?_
  refine tr_p (y_move rfl) rfl rfl ?_
  refine tr_e (e_call Try.call15 rfl (F.spatelaw7_within_ok H)) rfl rfl ?_
  rintro _ h1 ⟨r2, rfl, H⟩
  refine tr_p (y_add rfl rfl) rfl rfl ?_
  refine tr_p (y_assign rfl) rfl rfl ?_
  refine tr_nil ?_
  refine tr_thenN ?_
  refine tr_seq ?_
  refine tr_region ?_
  refine tr_p (y_move rfl) rfl rfl ?_
  refine tr_e (e_call Try.call15 rfl (F.spatelaw7_within_ok H)) rfl rfl ?_
  rintro _ h3 ⟨r4, rfl, H⟩
  refine tr_p (y_add rfl rfl) rfl rfl ?_
  refine tr_p (y_assign rfl) rfl rfl ?_
  refine tr_nil ?_
  refine tr_thenN ?_
  refine tr_seq ?_
  refine tr_region ?_
  refine tr_p (y_move rfl) rfl rfl ?_
  refine tr_e (e_call Try.call15 rfl (F.spatelaw7_within_ok H)) rfl rfl ?_
  rintro _ h5 ⟨r6, rfl, H⟩
  refine tr_p (y_add rfl rfl) rfl rfl ?_
  refine tr_p (y_assign rfl) rfl rfl ?_
  refine tr_nil ?_
  refine tr_thenN ?_
  refine tr_seq ?_
  refine tr_region ?_
  refine tr_p (y_move rfl) rfl rfl ?_
  refine tr_p (y_add rfl rfl) rfl rfl ?_
  refine tr_e (e_call Try.call13 rfl (F.shard_New_ok H)) rfl rfl ?_
  rintro _ h7 ⟨r8, r9, rfl, H⟩
  refine tr_p (y_move rfl) rfl rfl ?_
  refine tr_p (y_ext rfl rfl) rfl rfl ?_
  refine tr_p (y_ext rfl rfl) rfl rfl ?_
  refine tr_p (y_assign rfl) rfl rfl ?_
  refine tr_p (y_assign rfl) rfl rfl ?_
  refine tr_nil ?_
  refine tr_thenN ?_
  refine tr_seq_j (fun L' h => ∃ (x0 : Int) (x1 : Int) (x2 : Int) (x7 : Option Addr), L' = [(0, (.int .i64 x0)), (1, (.int .i64 x1)), (2, (.int .i64 x2)), (7, (.pointer x7))] ∧ F.spatelaw7_ShardDeep.j1 Q x0 x1 x2 x7 h) ?_ ?_
  · rintro L' h ⟨x0, x1, x2, x7, rfl, H⟩
    unfold F.spatelaw7_ShardDeep.j1 at H
    refine tr_seq ?_
    refine tr_region ?_
    refine tr_p (f_build rfl (bd_24_1 (⟨#[107]⟩ : ByteArray))) rfl rfl ?_
    refine tr_e (f_alloc (cs := ((⟨0, (⟨#[]⟩ : ByteArray), 0⟩ : S_api_Cell) : S_api_Cell).cells.toArray) Try.zeroValue24 rfl H) rfl rfl ?_
    rintro _ h10 ⟨a11, rfl, H⟩
    refine tr_e (f_store (vs := (⟨0, (⟨#[107]⟩ : ByteArray), 0⟩ : S_api_Cell).cells) Try.sizeOf24 rfl rfl cellsOfStruct rfl (by intro v hv; exact ones_S_api_Cell _ v hv) H) rfl rfl ?_
    rintro _ h12 ⟨rfl, H⟩
    refine tr_nil ?_
    refine tr_thenN ?_
    refine tr_seq ?_
    refine tr_region ?_
    refine tr_p (f_build rfl (bd_24_1 (⟨#[108]⟩ : ByteArray))) rfl rfl ?_
    refine tr_e (f_alloc (cs := ((⟨0, (⟨#[]⟩ : ByteArray), 0⟩ : S_api_Cell) : S_api_Cell).cells.toArray) Try.zeroValue24 rfl H) rfl rfl ?_
    rintro _ h13 ⟨a14, rfl, H⟩
    refine tr_e (f_store (vs := (⟨0, (⟨#[108]⟩ : ByteArray), 0⟩ : S_api_Cell).cells) Try.sizeOf24 rfl rfl cellsOfStruct rfl (by intro v hv; exact ones_S_api_Cell _ v hv) H) rfl rfl ?_
    rintro _ h15 ⟨rfl, H⟩
    refine tr_nil ?_
    refine tr_thenN ?_
    refine tr_seq ?_
    refine tr_seq ?_
    refine tr_region ?_
    refine tr_p (y_assign rfl) rfl rfl ?_
    refine tr_nil ?_
    refine tr_thenN ?_
    refine tr_block ?_
    obtain ⟨m152, H⟩ := H
    refine tr_sub [(0, (.int .i64 x0)), (1, (.int .i64 x1)), (2, (.int .i64 x2)), (7, (.pointer x7)), (9, (.pointer (some a11))), (10, (.pointer (some a14))), (11, (.int .i64 1))] ⟨rfl, rfl, rfl, rfl, rfl, rfl, rfl, trivial⟩ ?_
    refine tr_loop_j (fun m L' h => ∃ (x0 : Int) (x1 : Int) (x2 : Int) (x7 : Option Addr) (x9 : Addr) (x10 : Addr) (x11 : Int), L' = [(0, (.int .i64 x0)), (1, (.int .i64 x1)), (2, (.int .i64 x2)), (7, (.pointer x7)), (9, (.pointer (some x9))), (10, (.pointer (some x10))), (11, (.int .i64 x11))] ∧ F.spatelaw7_ShardDeep.l2 Q m x0 x1 x2 x7 x9 x10 x11 h) ?_ ?_ m152 ⟨_, _, _, _, _, _, _, rfl, H⟩
    · rintro L' h ⟨_, _, _, _, _, _, _, _, H⟩; exact H
    · rintro q2 L' h ⟨x0, x1, x2, x7, x9, x10, x11, rfl, H⟩
      unfold F.spatelaw7_ShardDeep.l2 at H
      refine tr_seq ?_
      refine tr_seq ?_
      refine tr_region ?_
      refine tr_p (y_move rfl) rfl rfl ?_
      refine tr_p (y_move rfl) rfl rfl ?_
      refine tr_p (y_leq rfl rfl) rfl rfl ?_
      refine tr_nil ?_
      refine tr_thenN ?_
      refine tr_cond rfl (fun g16 => ?_) (fun g16 => ?_)
      · replace H := H.1 g16
        refine tr_skip ?_
        refine tr_thenN ?_
        refine tr_seq ?_
        refine tr_block ?_
        refine tr_seq ?_
        refine tr_draw mixed [0, 0, 0, 6, 0, 0, 32, 112, 255, 511] (by kernel_rfl) ?_
        refine g_p 0 1 rfl (by kernel_rfl) (y_move rfl) rfl rfl ?_
        refine g_p 1 3 rfl (by kernel_rfl) (y_move rfl) rfl rfl ?_
        refine g_p 2 7 rfl (by kernel_rfl) (y_move rfl) rfl rfl ?_
        refine g_p 3 15 rfl (by kernel_rfl) (y_mul rfl rfl) rfl rfl ?_
        obtain ⟨y17, k18, H⟩ := H
        refine g_h 4 31 rfl (by kernel_rfl) (y_ldS Try.isAgg24 Try.sizeOf24 rfl rfl) k18 rfl rfl ?_
        refine g_p 5 63 rfl (by kernel_rfl) (y_move rfl) rfl rfl ?_
        refine g_e 6 127 [(4, fun h => Cells h x9 y17.cells)] (by kernel_rfl) rfl (by kernel_rfl) (e_call Try.call20 rfl (F.spatelaw7_one_ok H)) rfl rfl ?_
        rintro _ h19 ⟨r20, rfl, H⟩
        obtain ⟨k21, H⟩ := H
        refine ⟨And.intro k21 trivial, ?_⟩
        refine g_p 7 255 rfl (by kernel_rfl) (f_build rfl (bd_43_0_1 y17 r20)) rfl rfl ?_
        refine g_e 8 511 [] (by kernel_rfl) rfl (by kernel_rfl) (e_call Try.call18 rfl (F.shard_Shard_Put_ok H)) rfl rfl ?_
        rintro _ h22 ⟨r23, rfl, H⟩
        refine ⟨trivial, ?_⟩
        refine g_p 9 1023 rfl (by kernel_rfl) (y_neq rfl rfl) rfl rfl ?_
        refine g_d (by kernel_rfl) ?_
        refine tr_thenN ?_
        refine tr_cond rfl (fun g24 => ?_) (fun g24 => ?_)
        · replace H := H.1 g24
          refine tr_seq ?_
          refine tr_region ?_
          refine tr_p (y_assign rfl) rfl rfl ?_
          refine tr_nil ?_
          refine tr_thenN ?_
          refine tr_ret ?_
          refine tr_blockR ?_
          refine tr_thenR ?_
          refine tr_thenR ?_
          refine tr_blockR ?_
          refine tr_thenR ?_
          exact tr_ret1 rfl rfl ⟨_, rfl, H⟩
        · replace H := H.2 g24
          refine tr_skip ?_
          refine tr_blockN ?_
          refine tr_thenN ?_
          refine tr_region ?_
          refine tr_p (y_move rfl) rfl rfl ?_
          refine tr_p (y_add rfl rfl) rfl rfl ?_
          refine tr_p (y_assign rfl) rfl rfl ?_
          refine tr_nil ?_
          refine tr_thenN ?_
          exact tr_join [(0, (.int .i64 x0)), (1, (.int .i64 x1)), (2, (.int .i64 x2)), (7, (.pointer x7)), (9, (.pointer (some x9))), (10, (.pointer (some x10))), (11, (.int .i64 (IntKind.wrap .i64 (x11 + 1))))] ⟨rfl, rfl, rfl, rfl, rfl, rfl, rfl, trivial⟩ ⟨_, _, _, _, _, _, _, rfl, H⟩
      · replace H := H.2 g16
        refine tr_exit ?_
        refine tr_thenE ?_
        refine tr_thenE ?_
        refine tr_hit ?_
        refine tr_thenN ?_
        refine tr_seq_j (fun L' h => ∃ (x0 : Int) (x1 : Int) (x2 : Int) (x7 : Option Addr) (x9 : Addr), L' = [(0, (.int .i64 x0)), (1, (.int .i64 x1)), (2, (.int .i64 x2)), (7, (.pointer x7)), (9, (.pointer (some x9)))] ∧ F.spatelaw7_ShardDeep.j3 Q x0 x1 x2 x7 x9 h) ?_ ?_
        · rintro L' h ⟨x0, x1, x2, x7, x9, rfl, H⟩
          unfold F.spatelaw7_ShardDeep.j3 at H
          refine tr_seq ?_
          refine tr_seq ?_
          refine tr_region ?_
          refine tr_p (y_assign rfl) rfl rfl ?_
          refine tr_nil ?_
          refine tr_thenN ?_
          refine tr_block ?_
          obtain ⟨m114, H⟩ := H
          refine tr_sub [(0, (.int .i64 x0)), (1, (.int .i64 x1)), (2, (.int .i64 x2)), (7, (.pointer x7)), (9, (.pointer (some x9))), (12, (.int .i64 0))] ⟨rfl, rfl, rfl, rfl, rfl, rfl, trivial⟩ ?_
          refine tr_loop_j (fun m L' h => ∃ (x0 : Int) (x1 : Int) (x2 : Int) (x7 : Option Addr) (x9 : Addr) (x12 : Int), L' = [(0, (.int .i64 x0)), (1, (.int .i64 x1)), (2, (.int .i64 x2)), (7, (.pointer x7)), (9, (.pointer (some x9))), (12, (.int .i64 x12))] ∧ F.spatelaw7_ShardDeep.l4 Q m x0 x1 x2 x7 x9 x12 h) ?_ ?_ m114 ⟨_, _, _, _, _, _, rfl, H⟩
          · rintro L' h ⟨_, _, _, _, _, _, _, H⟩; exact H
          · rintro q4 L' h ⟨x0, x1, x2, x7, x9, x12, rfl, H⟩
            unfold F.spatelaw7_ShardDeep.l4 at H
            refine tr_seq ?_
            refine tr_seq ?_
            refine tr_region ?_
            refine tr_p (y_move rfl) rfl rfl ?_
            refine tr_p (y_move rfl) rfl rfl ?_
            refine tr_p (y_leq rfl rfl) rfl rfl ?_
            refine tr_nil ?_
            refine tr_thenN ?_
            refine tr_cond rfl (fun g25 => ?_) (fun g25 => ?_)
            · replace H := H.1 g25
              refine tr_skip ?_
              refine tr_thenN ?_
              refine tr_seq_j (fun L' h => ∃ (x0 : Int) (x1 : Int) (x2 : Int) (x7 : Option Addr) (x9 : Addr) (x12 : Int), L' = [(0, (.int .i64 x0)), (1, (.int .i64 x1)), (2, (.int .i64 x2)), (7, (.pointer x7)), (9, (.pointer (some x9))), (12, (.int .i64 x12))] ∧ F.spatelaw7_ShardDeep.j5 Q (F.spatelaw7_ShardDeep.l4 Q q4) x0 x1 x2 x7 x9 x12 h) ?_ ?_
              · rintro L' h ⟨x0, x1, x2, x7, x9, x12, rfl, H⟩
                unfold F.spatelaw7_ShardDeep.j5 at H
                refine tr_region ?_
                refine tr_p (y_move rfl) rfl rfl ?_
                refine tr_p (y_add rfl rfl) rfl rfl ?_
                refine tr_p (y_assign rfl) rfl rfl ?_
                refine tr_nil ?_
                refine tr_thenN ?_
                exact tr_join [(0, (.int .i64 x0)), (1, (.int .i64 x1)), (2, (.int .i64 x2)), (7, (.pointer x7)), (9, (.pointer (some x9))), (12, (.int .i64 (IntKind.wrap .i64 (x12 + 1))))] ⟨rfl, rfl, rfl, rfl, rfl, rfl, trivial⟩ ⟨_, _, _, _, _, _, rfl, H⟩
              · refine tr_block ?_
                refine tr_seq ?_
                refine tr_region ?_
                refine tr_p (f_build rfl (bd_35_ )) rfl rfl ?_
                refine tr_e (f_alloc (cs := ((⟨0, 0, 0, 0⟩ : S_api_Agg) : S_api_Agg).cells.toArray) Try.zeroValue35 rfl H) rfl rfl ?_
                rintro _ h26 ⟨a27, rfl, H⟩
                refine tr_e (f_store (vs := (⟨0, 0, 0, 0⟩ : S_api_Agg).cells) Try.sizeOf35 rfl rfl cellsOfStruct rfl (by intro v hv; exact ones_S_api_Agg _ v hv) H) rfl rfl ?_
                rintro _ h28 ⟨rfl, H⟩
                refine tr_nil ?_
                refine tr_thenN ?_
                refine tr_seq_j (fun L' h => ∃ (x0 : Int) (x1 : Int) (x2 : Int) (x7 : Option Addr) (x9 : Addr) (x12 : Int) (x13 : Addr), L' = [(0, (.int .i64 x0)), (1, (.int .i64 x1)), (2, (.int .i64 x2)), (7, (.pointer x7)), (9, (.pointer (some x9))), (12, (.int .i64 x12)), (13, (.pointer (some x13)))] ∧ F.spatelaw7_ShardDeep.j6 Q (F.spatelaw7_ShardDeep.l4 Q q4) x0 x1 x2 x7 x9 x12 x13 h) ?_ ?_
                · rintro L' h ⟨x0, x1, x2, x7, x9, x12, x13, rfl, H⟩
                  unfold F.spatelaw7_ShardDeep.j6 at H
                  refine tr_seq_j (fun L' h => ∃ (x0 : Int) (x1 : Int) (x2 : Int) (x7 : Option Addr) (x9 : Addr) (x12 : Int) (x155 : Bool), L' = [(0, (.int .i64 x0)), (1, (.int .i64 x1)), (2, (.int .i64 x2)), (7, (.pointer x7)), (9, (.pointer (some x9))), (12, (.int .i64 x12)), (155, (.bool x155))] ∧ F.spatelaw7_ShardDeep.j7 Q (F.spatelaw7_ShardDeep.l4 Q q4) x0 x1 x2 x7 x9 x12 x155 h) ?_ ?_
                  · rintro L' h ⟨x0, x1, x2, x7, x9, x12, x155, rfl, H⟩
                    unfold F.spatelaw7_ShardDeep.j7 at H
                    refine tr_cond rfl (fun g29 => ?_) (fun g29 => ?_)
                    · replace H := H.1 g29
                      refine tr_seq ?_
                      refine tr_region ?_
                      refine tr_p (y_assign rfl) rfl rfl ?_
                      refine tr_nil ?_
                      refine tr_thenN ?_
                      refine tr_ret ?_
                      refine tr_blockR ?_
                      refine tr_thenR ?_
                      refine tr_thenR ?_
                      refine tr_blockR ?_
                      refine tr_thenR ?_
                      exact tr_ret1 rfl rfl ⟨_, rfl, H⟩
                    · replace H := H.2 g29
                      refine tr_skip ?_
                      refine tr_blockN ?_
                      refine tr_thenN ?_
                      exact tr_join [(0, (.int .i64 x0)), (1, (.int .i64 x1)), (2, (.int .i64 x2)), (7, (.pointer x7)), (9, (.pointer (some x9))), (12, (.int .i64 x12))] ⟨rfl, rfl, rfl, rfl, rfl, rfl, trivial⟩ ⟨_, _, _, _, _, _, rfl, H⟩
                  · refine tr_draw mixed [0, 0, 3, 7, 15, 31, 31, 31, 31, 415, 1023, 31, 4095, 8191, 16383, 32767, 32767, 32767, 32767, 425983, 32767, 1998847, 4095999, 8388607, 32767, 33554431, 67108863, 134217727, 134217727, 536870911, 134217727, 2147483647, 4294967295, 8589934591, 17179869183] (by kernel_rfl) ?_
                    refine g_p 0 1 rfl (by kernel_rfl) (y_move rfl) rfl rfl ?_
                    refine g_p 1 3 rfl (by kernel_rfl) (y_move rfl) rfl rfl ?_
                    refine g_p 2 7 rfl (by kernel_rfl) (y_mul rfl rfl) rfl rfl ?_
                    refine g_p 3 15 rfl (by kernel_rfl) (y_gtr rfl rfl) rfl rfl ?_
                    refine g_p 4 31 rfl (by kernel_rfl) (y_move rfl) rfl rfl ?_
                    refine g_split (t := 125) rfl (fun g30 => ?_) (fun g30 => ?_)
                    · replace H := H.1 g30
                      refine g_p 5 63 rfl (by kernel_rfl) (y_move rfl) rfl rfl ?_
                      obtain ⟨y31, k32, H⟩ := H
                      refine g_h 6 127 rfl (by kernel_rfl) (y_ldS Try.isAgg24 Try.sizeOf24 rfl rfl) k32 rfl rfl ?_
                      refine g_p 7 255 rfl (by kernel_rfl) (y_move rfl) rfl rfl ?_
                      refine g_p 8 511 rfl (by kernel_rfl) (y_move rfl) rfl rfl ?_
                      refine g_p 9 1023 rfl (by kernel_rfl) (y_mul rfl rfl) rfl rfl ?_
                      obtain ⟨y33, k34, H⟩ := H
                      refine g_h 11 3071 rfl (by kernel_rfl) (y_ldS Try.isAgg35 Try.sizeOf35 rfl rfl) k34 rfl rfl ?_
                      refine g_e 10 4095 [(11, fun h => Cells h x13 y33.cells)] (by kernel_rfl) rfl (by kernel_rfl) (e_call Try.call19 rfl (F.shard_Shard_At_ok H)) rfl rfl ?_
                      rintro _ h35 ⟨r36, rfl, H⟩
                      obtain ⟨k37, H⟩ := H
                      refine ⟨And.intro k37 trivial, ?_⟩
                      refine g_p 12 8191 rfl (by kernel_rfl) (st_neq (b := ((r36.Count == y33.Count) && ((r36.Sum == y33.Sum) && ((r36.Min == y33.Min) && ((r36.Max == y33.Max) && true))))) eqg_35 (fun w => eqst_35 r36 y33 9998 w) rfl rfl) rfl rfl ?_
                      refine g_p 13 16383 rfl (by kernel_rfl) (y_pick_t rfl rfl) rfl rfl ?_
                      refine g_p 14 32767 rfl (by kernel_rfl) (y_move rfl) rfl rfl ?_
                      refine g_split (t := 135) rfl (fun g38 => ?_) (fun g38 => ?_)
                      · replace H := H.1 g38
                        refine g_s 15 65535 rfl (by kernel_rfl) rfl rfl ?_
                        refine g_s 16 131071 rfl (by kernel_rfl) rfl rfl ?_
                        refine g_s 17 262143 rfl (by kernel_rfl) rfl rfl ?_
                        refine g_s 18 524287 rfl (by kernel_rfl) rfl rfl ?_
                        refine g_s 19 1048575 rfl (by kernel_rfl) rfl rfl ?_
                        refine g_s 20 2097151 rfl (by kernel_rfl) rfl rfl ?_
                        refine g_s 21 4194303 rfl (by kernel_rfl) rfl rfl ?_
                        refine g_s 22 8388607 rfl (by kernel_rfl) rfl rfl ?_
                        refine g_s 23 16777215 rfl (by kernel_rfl) rfl rfl ?_
                        refine g_s 24 33554431 rfl (by kernel_rfl) rfl rfl ?_
                        refine g_s 25 67108863 rfl (by kernel_rfl) rfl rfl ?_
                        refine g_s 26 134217727 rfl (by kernel_rfl) rfl rfl ?_
                        refine g_s 27 268435455 rfl (by kernel_rfl) rfl rfl ?_
                        refine g_s 28 536870911 rfl (by kernel_rfl) rfl rfl ?_
                        refine g_s 29 1073741823 rfl (by kernel_rfl) rfl rfl ?_
                        refine g_s 30 2147483647 rfl (by kernel_rfl) rfl rfl ?_
                        refine g_s 31 4294967295 rfl (by kernel_rfl) rfl rfl ?_
                        refine g_s 32 8589934591 rfl (by kernel_rfl) rfl rfl ?_
                        refine g_s 33 17179869183 rfl (by kernel_rfl) rfl rfl ?_
                        refine g_p 34 34359738367 rfl (by kernel_rfl) (y_pick_t rfl rfl) rfl rfl ?_
                        refine g_d (by kernel_rfl) ?_
                        refine tr_thenN ?_
                        exact tr_join [(0, (.int .i64 x0)), (1, (.int .i64 x1)), (2, (.int .i64 x2)), (7, (.pointer x7)), (9, (.pointer (some x9))), (12, (.int .i64 x12)), (155, (.bool true))] ⟨rfl, rfl, rfl, rfl, rfl, rfl, rfl, trivial⟩ ⟨_, _, _, _, _, _, _, rfl, H⟩
                      · replace H := H.2 g38
                        refine g_p 15 65535 rfl (by kernel_rfl) (y_move rfl) rfl rfl ?_
                        obtain ⟨y39, k40, H⟩ := H
                        refine g_h 16 131071 rfl (by kernel_rfl) (y_ldS Try.isAgg24 Try.sizeOf24 rfl rfl) k40 rfl rfl ?_
                        refine g_p 17 262143 rfl (by kernel_rfl) (y_move rfl) rfl rfl ?_
                        refine g_p 18 524287 rfl (by kernel_rfl) (y_move rfl) rfl rfl ?_
                        refine g_p 19 1048575 rfl (by kernel_rfl) (y_mul rfl rfl) rfl rfl ?_
                        refine g_p 20 2097151 rfl (by kernel_rfl) (y_move rfl) rfl rfl ?_
                        refine g_p 21 4194303 rfl (by kernel_rfl) (y_add rfl rfl) rfl rfl ?_
                        refine g_p 22 8388607 rfl (by kernel_rfl) (y_sub rfl rfl) rfl rfl ?_
                        obtain ⟨y41, k42, H⟩ := H
                        refine g_h 24 25165823 rfl (by kernel_rfl) (y_ldS Try.isAgg35 Try.sizeOf35 rfl rfl) k42 rfl rfl ?_
                        refine g_e 23 33554431 [(24, fun h => Cells h x13 y41.cells)] (by kernel_rfl) rfl (by kernel_rfl) (e_call Try.call19 rfl (F.shard_Shard_At_ok H)) rfl rfl ?_
                        rintro _ h43 ⟨r44, rfl, H⟩
                        obtain ⟨k45, H⟩ := H
                        refine ⟨And.intro k45 trivial, ?_⟩
                        refine g_p 25 67108863 rfl (by kernel_rfl) (st_neq (b := ((r44.Count == y41.Count) && ((r44.Sum == y41.Sum) && ((r44.Min == y41.Min) && ((r44.Max == y41.Max) && true))))) eqg_35 (fun w => eqst_35 r44 y41 9998 w) rfl rfl) rfl rfl ?_
                        refine g_p 26 134217727 rfl (by kernel_rfl) (y_move rfl) rfl rfl ?_
                        refine g_split (t := 147) rfl (fun g46 => ?_) (fun g46 => ?_)
                        · replace H := H.1 g46
                          refine g_p 27 268435455 rfl (by kernel_rfl) (y_move rfl) rfl rfl ?_
                          refine g_p 28 536870911 rfl (by kernel_rfl) (y_move rfl) rfl rfl ?_
                          refine g_p 29 1073741823 rfl (by kernel_rfl) (y_mul rfl rfl) rfl rfl ?_
                          refine g_p 30 2147483647 rfl (by kernel_rfl) (y_move rfl) rfl rfl ?_
                          refine g_p 31 4294967295 rfl (by kernel_rfl) (y_add rfl rfl) rfl rfl ?_
                          refine g_p 32 8589934591 rfl (by kernel_rfl) (y_gtr rfl rfl) rfl rfl ?_
                          refine g_p 33 17179869183 rfl (by kernel_rfl) (y_pick_t rfl rfl) rfl rfl ?_
                          refine g_p 34 34359738367 rfl (by kernel_rfl) (y_pick_f rfl rfl) rfl rfl ?_
                          refine g_d (by kernel_rfl) ?_
                          refine tr_thenN ?_
                          exact tr_join [(0, (.int .i64 x0)), (1, (.int .i64 x1)), (2, (.int .i64 x2)), (7, (.pointer x7)), (9, (.pointer (some x9))), (12, (.int .i64 x12)), (155, (.bool (decide ((IntKind.wrap .i64 ((IntKind.wrap .i64 (x12 * x1)) + x1)) > 1))))] ⟨rfl, rfl, rfl, rfl, rfl, rfl, rfl, trivial⟩ ⟨_, _, _, _, _, _, _, rfl, H⟩
                        · replace H := H.2 g46
                          refine g_s 27 268435455 rfl (by kernel_rfl) rfl rfl ?_
                          refine g_s 28 536870911 rfl (by kernel_rfl) rfl rfl ?_
                          refine g_s 29 1073741823 rfl (by kernel_rfl) rfl rfl ?_
                          refine g_s 30 2147483647 rfl (by kernel_rfl) rfl rfl ?_
                          refine g_s 31 4294967295 rfl (by kernel_rfl) rfl rfl ?_
                          refine g_s 32 8589934591 rfl (by kernel_rfl) rfl rfl ?_
                          refine g_p 33 17179869183 rfl (by kernel_rfl) (y_pick_f rfl rfl) rfl rfl ?_
                          refine g_p 34 34359738367 rfl (by kernel_rfl) (y_pick_f rfl rfl) rfl rfl ?_
                          refine g_d (by kernel_rfl) ?_
                          refine tr_thenN ?_
                          exact tr_join [(0, (.int .i64 x0)), (1, (.int .i64 x1)), (2, (.int .i64 x2)), (7, (.pointer x7)), (9, (.pointer (some x9))), (12, (.int .i64 x12)), (155, (.bool false))] ⟨rfl, rfl, rfl, rfl, rfl, rfl, rfl, trivial⟩ ⟨_, _, _, _, _, _, _, rfl, H⟩
                    · replace H := H.2 g30
                      refine g_s 5 63 rfl (by kernel_rfl) rfl rfl ?_
                      refine g_s 6 127 rfl (by kernel_rfl) rfl rfl ?_
                      refine g_s 7 255 rfl (by kernel_rfl) rfl rfl ?_
                      refine g_s 8 511 rfl (by kernel_rfl) rfl rfl ?_
                      refine g_s 9 1023 rfl (by kernel_rfl) rfl rfl ?_
                      refine g_s 10 2047 rfl (by kernel_rfl) rfl rfl ?_
                      refine g_s 11 4095 rfl (by kernel_rfl) rfl rfl ?_
                      refine g_s 12 8191 rfl (by kernel_rfl) rfl rfl ?_
                      refine g_p 13 16383 rfl (by kernel_rfl) (y_pick_f rfl rfl) rfl rfl ?_
                      refine g_p 14 32767 rfl (by kernel_rfl) (y_move rfl) rfl rfl ?_
                      refine g_p 15 65535 rfl (by kernel_rfl) (y_move rfl) rfl rfl ?_
                      obtain ⟨y47, k48, H⟩ := H
                      refine g_h 16 131071 rfl (by kernel_rfl) (y_ldS Try.isAgg24 Try.sizeOf24 rfl rfl) k48 rfl rfl ?_
                      refine g_p 17 262143 rfl (by kernel_rfl) (y_move rfl) rfl rfl ?_
                      refine g_p 18 524287 rfl (by kernel_rfl) (y_move rfl) rfl rfl ?_
                      refine g_p 19 1048575 rfl (by kernel_rfl) (y_mul rfl rfl) rfl rfl ?_
                      refine g_p 20 2097151 rfl (by kernel_rfl) (y_move rfl) rfl rfl ?_
                      refine g_p 21 4194303 rfl (by kernel_rfl) (y_add rfl rfl) rfl rfl ?_
                      refine g_p 22 8388607 rfl (by kernel_rfl) (y_sub rfl rfl) rfl rfl ?_
                      obtain ⟨y49, k50, H⟩ := H
                      refine g_h 24 25165823 rfl (by kernel_rfl) (y_ldS Try.isAgg35 Try.sizeOf35 rfl rfl) k50 rfl rfl ?_
                      refine g_e 23 33554431 [(24, fun h => Cells h x13 y49.cells)] (by kernel_rfl) rfl (by kernel_rfl) (e_call Try.call19 rfl (F.shard_Shard_At_ok H)) rfl rfl ?_
                      rintro _ h51 ⟨r52, rfl, H⟩
                      obtain ⟨k53, H⟩ := H
                      refine ⟨And.intro k53 trivial, ?_⟩
                      refine g_p 25 67108863 rfl (by kernel_rfl) (st_neq (b := ((r52.Count == y49.Count) && ((r52.Sum == y49.Sum) && ((r52.Min == y49.Min) && ((r52.Max == y49.Max) && true))))) eqg_35 (fun w => eqst_35 r52 y49 9998 w) rfl rfl) rfl rfl ?_
                      refine g_p 26 134217727 rfl (by kernel_rfl) (y_move rfl) rfl rfl ?_
                      refine g_split (t := 147) rfl (fun g54 => ?_) (fun g54 => ?_)
                      · replace H := H.1 g54
                        refine g_p 27 268435455 rfl (by kernel_rfl) (y_move rfl) rfl rfl ?_
                        refine g_p 28 536870911 rfl (by kernel_rfl) (y_move rfl) rfl rfl ?_
                        refine g_p 29 1073741823 rfl (by kernel_rfl) (y_mul rfl rfl) rfl rfl ?_
                        refine g_p 30 2147483647 rfl (by kernel_rfl) (y_move rfl) rfl rfl ?_
                        refine g_p 31 4294967295 rfl (by kernel_rfl) (y_add rfl rfl) rfl rfl ?_
                        refine g_p 32 8589934591 rfl (by kernel_rfl) (y_gtr rfl rfl) rfl rfl ?_
                        refine g_p 33 17179869183 rfl (by kernel_rfl) (y_pick_t rfl rfl) rfl rfl ?_
                        refine g_p 34 34359738367 rfl (by kernel_rfl) (y_pick_f rfl rfl) rfl rfl ?_
                        refine g_d (by kernel_rfl) ?_
                        refine tr_thenN ?_
                        exact tr_join [(0, (.int .i64 x0)), (1, (.int .i64 x1)), (2, (.int .i64 x2)), (7, (.pointer x7)), (9, (.pointer (some x9))), (12, (.int .i64 x12)), (155, (.bool (decide ((IntKind.wrap .i64 ((IntKind.wrap .i64 (x12 * x1)) + x1)) > 1))))] ⟨rfl, rfl, rfl, rfl, rfl, rfl, rfl, trivial⟩ ⟨_, _, _, _, _, _, _, rfl, H⟩
                      · replace H := H.2 g54
                        refine g_s 27 268435455 rfl (by kernel_rfl) rfl rfl ?_
                        refine g_s 28 536870911 rfl (by kernel_rfl) rfl rfl ?_
                        refine g_s 29 1073741823 rfl (by kernel_rfl) rfl rfl ?_
                        refine g_s 30 2147483647 rfl (by kernel_rfl) rfl rfl ?_
                        refine g_s 31 4294967295 rfl (by kernel_rfl) rfl rfl ?_
                        refine g_s 32 8589934591 rfl (by kernel_rfl) rfl rfl ?_
                        refine g_p 33 17179869183 rfl (by kernel_rfl) (y_pick_f rfl rfl) rfl rfl ?_
                        refine g_p 34 34359738367 rfl (by kernel_rfl) (y_pick_f rfl rfl) rfl rfl ?_
                        refine g_d (by kernel_rfl) ?_
                        refine tr_thenN ?_
                        exact tr_join [(0, (.int .i64 x0)), (1, (.int .i64 x1)), (2, (.int .i64 x2)), (7, (.pointer x7)), (9, (.pointer (some x9))), (12, (.int .i64 x12)), (155, (.bool false))] ⟨rfl, rfl, rfl, rfl, rfl, rfl, rfl, trivial⟩ ⟨_, _, _, _, _, _, _, rfl, H⟩
                · refine tr_seq ?_
                  refine tr_region ?_
                  refine tr_p (y_move rfl) rfl rfl ?_
                  refine tr_p (y_gtr rfl rfl) rfl rfl ?_
                  refine tr_nil ?_
                  refine tr_thenN ?_
                  refine tr_cond rfl (fun g55 => ?_) (fun g55 => ?_)
                  · replace H := H.1 g55
                    refine tr_region ?_
                    refine tr_p (y_move rfl) rfl rfl ?_
                    refine tr_e (e_call Try.call20 rfl (F.spatelaw7_one_ok H)) rfl rfl ?_
                    rintro _ h56 ⟨r57, rfl, H⟩
                    refine tr_e (f_store (vs := r57.cells) Try.sizeOf35 rfl rfl cellsOfStruct rfl (by intro v hv; exact ones_S_api_Agg _ v hv) H) rfl rfl ?_
                    rintro _ h58 ⟨rfl, H⟩
                    refine tr_nil ?_
                    refine tr_thenN ?_
                    exact tr_join [(0, (.int .i64 x0)), (1, (.int .i64 x1)), (2, (.int .i64 x2)), (7, (.pointer x7)), (9, (.pointer (some x9))), (12, (.int .i64 x12)), (13, (.pointer (some a27)))] ⟨rfl, rfl, rfl, rfl, rfl, rfl, rfl, trivial⟩ ⟨_, _, _, _, _, _, _, rfl, H⟩
                  · replace H := H.2 g55
                    refine tr_skip ?_
                    refine tr_thenN ?_
                    exact tr_join [(0, (.int .i64 x0)), (1, (.int .i64 x1)), (2, (.int .i64 x2)), (7, (.pointer x7)), (9, (.pointer (some x9))), (12, (.int .i64 x12)), (13, (.pointer (some a27)))] ⟨rfl, rfl, rfl, rfl, rfl, rfl, rfl, trivial⟩ ⟨_, _, _, _, _, _, _, rfl, H⟩
            · replace H := H.2 g25
              refine tr_exit ?_
              refine tr_thenE ?_
              refine tr_thenE ?_
              refine tr_hit ?_
              refine tr_thenN ?_
              refine tr_seq ?_
              refine tr_region ?_
              refine tr_p (y_assign rfl) rfl rfl ?_
              refine tr_nil ?_
              refine tr_thenN ?_
              refine tr_seq ?_
              refine tr_region ?_
              refine tr_p (y_assign rfl) rfl rfl ?_
              refine tr_nil ?_
              refine tr_thenN ?_
              refine tr_seq ?_
              refine tr_seq ?_
              refine tr_region ?_
              refine tr_p (y_move rfl) rfl rfl ?_
              refine tr_p (y_assign rfl) rfl rfl ?_
              refine tr_nil ?_
              refine tr_thenN ?_
              refine tr_block ?_
              obtain ⟨m113, H⟩ := H
              refine tr_sub [(0, (.int .i64 x0)), (1, (.int .i64 x1)), (2, (.int .i64 x2)), (7, (.pointer x7)), (9, (.pointer (some x9))), (14, (⟨none, 0, 0⟩ : Sl).enc), (15, (.int .i64 0)), (16, (.int .i64 x0))] ⟨rfl, rfl, rfl, rfl, rfl, rfl, rfl, rfl, trivial⟩ ?_
              refine tr_loop_j (fun m L' h => ∃ (x0 : Int) (x1 : Int) (x2 : Int) (x7 : Option Addr) (x9 : Addr) (x14 : Sl) (x15 : Int) (x16 : Int), L' = [(0, (.int .i64 x0)), (1, (.int .i64 x1)), (2, (.int .i64 x2)), (7, (.pointer x7)), (9, (.pointer (some x9))), (14, x14.enc), (15, (.int .i64 x15)), (16, (.int .i64 x16))] ∧ F.spatelaw7_ShardDeep.l8 Q m x0 x1 x2 x7 x9 x14 x15 x16 h) ?_ ?_ m113 ⟨_, _, _, _, _, _, _, _, rfl, H⟩
              · rintro L' h ⟨_, _, _, _, _, _, _, _, _, H⟩; exact H
              · rintro q8 L' h ⟨x0, x1, x2, x7, x9, x14, x15, x16, rfl, H⟩
                unfold F.spatelaw7_ShardDeep.l8 at H
                refine tr_seq ?_
                refine tr_seq ?_
                refine tr_region ?_
                refine tr_p (y_move rfl) rfl rfl ?_
                refine tr_p (y_geq rfl rfl) rfl rfl ?_
                refine tr_nil ?_
                refine tr_thenN ?_
                refine tr_cond rfl (fun g59 => ?_) (fun g59 => ?_)
                · replace H := H.1 g59
                  refine tr_skip ?_
                  refine tr_thenN ?_
                  refine tr_seq_j (fun L' h => ∃ (x0 : Int) (x1 : Int) (x2 : Int) (x7 : Option Addr) (x9 : Addr) (x14 : Sl) (x15 : Int) (x16 : Int), L' = [(0, (.int .i64 x0)), (1, (.int .i64 x1)), (2, (.int .i64 x2)), (7, (.pointer x7)), (9, (.pointer (some x9))), (14, x14.enc), (15, (.int .i64 x15)), (16, (.int .i64 x16))] ∧ F.spatelaw7_ShardDeep.j9 Q (F.spatelaw7_ShardDeep.l8 Q q8) x0 x1 x2 x7 x9 x14 x15 x16 h) ?_ ?_
                  · rintro L' h ⟨x0, x1, x2, x7, x9, x14, x15, x16, rfl, H⟩
                    unfold F.spatelaw7_ShardDeep.j9 at H
                    refine tr_region ?_
                    refine tr_p (y_move rfl) rfl rfl ?_
                    refine tr_p (y_sub rfl rfl) rfl rfl ?_
                    refine tr_p (y_assign rfl) rfl rfl ?_
                    refine tr_nil ?_
                    refine tr_thenN ?_
                    exact tr_join [(0, (.int .i64 x0)), (1, (.int .i64 x1)), (2, (.int .i64 x2)), (7, (.pointer x7)), (9, (.pointer (some x9))), (14, x14.enc), (15, (.int .i64 x15)), (16, (.int .i64 (IntKind.wrap .i64 (x16 - 1))))] ⟨rfl, rfl, rfl, rfl, rfl, rfl, rfl, rfl, trivial⟩ ⟨_, _, _, _, _, _, _, _, rfl, H⟩
                  · refine tr_block ?_
                    refine tr_seq_j (fun L' h => ∃ (x0 : Int) (x1 : Int) (x2 : Int) (x7 : Option Addr) (x9 : Addr) (x14 : Sl) (x15 : Int) (x16 : Int), L' = [(0, (.int .i64 x0)), (1, (.int .i64 x1)), (2, (.int .i64 x2)), (7, (.pointer x7)), (9, (.pointer (some x9))), (14, x14.enc), (15, (.int .i64 x15)), (16, (.int .i64 x16))] ∧ F.spatelaw7_ShardDeep.j10 Q (F.spatelaw7_ShardDeep.l8 Q q8) x0 x1 x2 x7 x9 x14 x15 x16 h) ?_ ?_
                    · rintro L' h ⟨x0, x1, x2, x7, x9, x14, x15, x16, rfl, H⟩
                      unfold F.spatelaw7_ShardDeep.j10 at H
                      refine tr_seq_j (fun L' h => ∃ (x0 : Int) (x1 : Int) (x2 : Int) (x7 : Option Addr) (x9 : Addr) (x14 : Sl) (x15 : Int) (x16 : Int) (x185 : Bool), L' = [(0, (.int .i64 x0)), (1, (.int .i64 x1)), (2, (.int .i64 x2)), (7, (.pointer x7)), (9, (.pointer (some x9))), (14, x14.enc), (15, (.int .i64 x15)), (16, (.int .i64 x16)), (185, (.bool x185))] ∧ F.spatelaw7_ShardDeep.j11 Q (F.spatelaw7_ShardDeep.l8 Q q8) x0 x1 x2 x7 x9 x14 x15 x16 x185 h) ?_ ?_
                      · rintro L' h ⟨x0, x1, x2, x7, x9, x14, x15, x16, x185, rfl, H⟩
                        unfold F.spatelaw7_ShardDeep.j11 at H
                        refine tr_cond rfl (fun g60 => ?_) (fun g60 => ?_)
                        · replace H := H.1 g60
                          refine tr_region ?_
                          refine tr_p (y_move rfl) rfl rfl ?_
                          refine tr_p (y_add rfl rfl) rfl rfl ?_
                          refine tr_p (y_assign rfl) rfl rfl ?_
                          refine tr_nil ?_
                          refine tr_blockN ?_
                          refine tr_thenN ?_
                          exact tr_join [(0, (.int .i64 x0)), (1, (.int .i64 x1)), (2, (.int .i64 x2)), (7, (.pointer x7)), (9, (.pointer (some x9))), (14, x14.enc), (15, (.int .i64 (IntKind.wrap .i64 (x15 + 1)))), (16, (.int .i64 x16))] ⟨rfl, rfl, rfl, rfl, rfl, rfl, rfl, rfl, trivial⟩ ⟨_, _, _, _, _, _, _, _, rfl, H⟩
                        · replace H := H.2 g60
                          refine tr_skip ?_
                          refine tr_blockN ?_
                          refine tr_thenN ?_
                          exact tr_join [(0, (.int .i64 x0)), (1, (.int .i64 x1)), (2, (.int .i64 x2)), (7, (.pointer x7)), (9, (.pointer (some x9))), (14, x14.enc), (15, (.int .i64 x15)), (16, (.int .i64 x16))] ⟨rfl, rfl, rfl, rfl, rfl, rfl, rfl, rfl, trivial⟩ ⟨_, _, _, _, _, _, _, _, rfl, H⟩
                      · refine tr_region ?_
                        refine tr_p (y_move rfl) rfl rfl ?_
                        refine tr_p (y_move rfl) rfl rfl ?_
                        obtain ⟨e61, H⟩ := H
                        refine tr_p (y_rem rfl rfl e61) rfl rfl ?_
                        refine tr_p (y_eql rfl rfl) rfl rfl ?_
                        refine tr_p (y_move rfl) rfl rfl ?_
                        refine tr_split (t := 181) rfl (fun g62 => ?_) (fun g62 => ?_)
                        · replace H := H.1 g62
                          refine tr_s rfl rfl ?_
                          refine tr_s rfl rfl ?_
                          refine tr_s rfl rfl ?_
                          refine tr_p (y_pick_t rfl rfl) rfl rfl ?_
                          refine tr_nil ?_
                          refine tr_thenN ?_
                          exact tr_join [(0, (.int .i64 x0)), (1, (.int .i64 x1)), (2, (.int .i64 x2)), (7, (.pointer x7)), (9, (.pointer (some x9))), (14, x14.enc), (15, (.int .i64 x15)), (16, (.int .i64 x16)), (185, (.bool true))] ⟨rfl, rfl, rfl, rfl, rfl, rfl, rfl, rfl, rfl, trivial⟩ ⟨_, _, _, _, _, _, _, _, _, rfl, H⟩
                        · replace H := H.2 g62
                          refine tr_p (y_move rfl) rfl rfl ?_
                          refine tr_p (y_move rfl) rfl rfl ?_
                          refine tr_p (y_eql rfl rfl) rfl rfl ?_
                          refine tr_p (y_pick_f rfl rfl) rfl rfl ?_
                          refine tr_nil ?_
                          refine tr_thenN ?_
                          exact tr_join [(0, (.int .i64 x0)), (1, (.int .i64 x1)), (2, (.int .i64 x2)), (7, (.pointer x7)), (9, (.pointer (some x9))), (14, x14.enc), (15, (.int .i64 x15)), (16, (.int .i64 x16)), (185, (.bool ((x16 == x0))))] ⟨rfl, rfl, rfl, rfl, rfl, rfl, rfl, rfl, rfl, trivial⟩ ⟨_, _, _, _, _, _, _, _, _, rfl, H⟩
                    · refine tr_seq ?_
                      refine tr_region ?_
                      refine tr_p (y_move rfl) rfl rfl ?_
                      refine tr_p (y_move rfl) rfl rfl ?_
                      obtain ⟨e63, H⟩ := H
                      refine tr_p (y_rem rfl rfl e63) rfl rfl ?_
                      refine tr_p (y_eql rfl rfl) rfl rfl ?_
                      refine tr_nil ?_
                      refine tr_thenN ?_
                      refine tr_cond rfl (fun g64 => ?_) (fun g64 => ?_)
                      · replace H := H.1 g64
                        refine tr_region ?_
                        refine tr_p (y_move rfl) rfl rfl ?_
                        refine tr_p (y_move rfl) rfl rfl ?_
                        refine tr_p (y_move rfl) rfl rfl ?_
                        refine tr_p (y_mul rfl rfl) rfl rfl ?_
                        refine tr_p (y_move rfl) rfl rfl ?_
                        refine tr_p (y_move rfl) rfl rfl ?_
                        refine tr_p (y_mul rfl rfl) rfl rfl ?_
                        refine tr_p (y_move rfl) rfl rfl ?_
                        refine tr_p (y_add rfl rfl) rfl rfl ?_
                        refine tr_p (y_sub rfl rfl) rfl rfl ?_
                        refine tr_e (f_buildL (cs := #[(.int .i64 (IntKind.wrap .i64 (x16 * x1))), (.int .i64 (IntKind.wrap .i64 ((IntKind.wrap .i64 ((IntKind.wrap .i64 (x16 * x1)) + x1)) - 1)))]) rfl rfl (bl_26_2_0_1 (IntKind.wrap .i64 (x16 * x1)) (IntKind.wrap .i64 ((IntKind.wrap .i64 ((IntKind.wrap .i64 (x16 * x1)) + x1)) - 1))) H) rfl rfl ?_
                        rintro _ h65 ⟨s66, rfl, H⟩
                        refine tr_e (f_app rfl H) rfl rfl ?_
                        rintro _ h67 ⟨s68, rfl, H⟩
                        refine tr_p (y_assign rfl) rfl rfl ?_
                        refine tr_nil ?_
                        refine tr_thenN ?_
                        exact tr_join [(0, (.int .i64 x0)), (1, (.int .i64 x1)), (2, (.int .i64 x2)), (7, (.pointer x7)), (9, (.pointer (some x9))), (14, s68.enc), (15, (.int .i64 x15)), (16, (.int .i64 x16))] ⟨rfl, rfl, rfl, rfl, rfl, rfl, rfl, rfl, trivial⟩ ⟨_, _, _, _, _, _, _, _, rfl, H⟩
                      · replace H := H.2 g64
                        refine tr_skip ?_
                        refine tr_thenN ?_
                        exact tr_join [(0, (.int .i64 x0)), (1, (.int .i64 x1)), (2, (.int .i64 x2)), (7, (.pointer x7)), (9, (.pointer (some x9))), (14, x14.enc), (15, (.int .i64 x15)), (16, (.int .i64 x16))] ⟨rfl, rfl, rfl, rfl, rfl, rfl, rfl, rfl, trivial⟩ ⟨_, _, _, _, _, _, _, _, rfl, H⟩
                · replace H := H.2 g59
                  refine tr_exit ?_
                  refine tr_thenE ?_
                  refine tr_thenE ?_
                  refine tr_hit ?_
                  refine tr_thenN ?_
                  refine tr_seq_j (fun L' h => ∃ (x0 : Int) (x1 : Int) (x2 : Int) (x7 : Option Addr) (x9 : Addr) (x15 : Int), L' = [(0, (.int .i64 x0)), (1, (.int .i64 x1)), (2, (.int .i64 x2)), (7, (.pointer x7)), (9, (.pointer (some x9))), (15, (.int .i64 x15))] ∧ F.spatelaw7_ShardDeep.j12 Q x0 x1 x2 x7 x9 x15 h) ?_ ?_
                  · rintro L' h ⟨x0, x1, x2, x7, x9, x15, rfl, H⟩
                    unfold F.spatelaw7_ShardDeep.j12 at H
                    refine tr_seq ?_
                    refine tr_seq ?_
                    refine tr_region ?_
                    refine tr_p (y_assign rfl) rfl rfl ?_
                    refine tr_nil ?_
                    refine tr_thenN ?_
                    refine tr_block ?_
                    obtain ⟨m98, H⟩ := H
                    refine tr_sub [(0, (.int .i64 x0)), (1, (.int .i64 x1)), (2, (.int .i64 x2)), (7, (.pointer x7)), (9, (.pointer (some x9))), (15, (.int .i64 x15)), (17, (.int .i64 1))] ⟨rfl, rfl, rfl, rfl, rfl, rfl, rfl, trivial⟩ ?_
                    refine tr_loop_j (fun m L' h => ∃ (x0 : Int) (x1 : Int) (x2 : Int) (x7 : Option Addr) (x9 : Addr) (x15 : Int) (x17 : Int), L' = [(0, (.int .i64 x0)), (1, (.int .i64 x1)), (2, (.int .i64 x2)), (7, (.pointer x7)), (9, (.pointer (some x9))), (15, (.int .i64 x15)), (17, (.int .i64 x17))] ∧ F.spatelaw7_ShardDeep.l13 Q m x0 x1 x2 x7 x9 x15 x17 h) ?_ ?_ m98 ⟨_, _, _, _, _, _, _, rfl, H⟩
                    · rintro L' h ⟨_, _, _, _, _, _, _, _, H⟩; exact H
                    · rintro q13 L' h ⟨x0, x1, x2, x7, x9, x15, x17, rfl, H⟩
                      unfold F.spatelaw7_ShardDeep.l13 at H
                      refine tr_seq ?_
                      refine tr_seq ?_
                      refine tr_region ?_
                      refine tr_p (y_move rfl) rfl rfl ?_
                      refine tr_p (y_move rfl) rfl rfl ?_
                      refine tr_p (y_leq rfl rfl) rfl rfl ?_
                      refine tr_nil ?_
                      refine tr_thenN ?_
                      refine tr_cond rfl (fun g69 => ?_) (fun g69 => ?_)
                      · replace H := H.1 g69
                        refine tr_skip ?_
                        refine tr_thenN ?_
                        refine tr_seq_j (fun L' h => ∃ (x0 : Int) (x1 : Int) (x2 : Int) (x7 : Option Addr) (x9 : Addr) (x15 : Int) (x17 : Int), L' = [(0, (.int .i64 x0)), (1, (.int .i64 x1)), (2, (.int .i64 x2)), (7, (.pointer x7)), (9, (.pointer (some x9))), (15, (.int .i64 x15)), (17, (.int .i64 x17))] ∧ F.spatelaw7_ShardDeep.j14 Q (F.spatelaw7_ShardDeep.l13 Q q13) x0 x1 x2 x7 x9 x15 x17 h) ?_ ?_
                        · rintro L' h ⟨x0, x1, x2, x7, x9, x15, x17, rfl, H⟩
                          unfold F.spatelaw7_ShardDeep.j14 at H
                          refine tr_region ?_
                          refine tr_p (y_move rfl) rfl rfl ?_
                          refine tr_p (y_add rfl rfl) rfl rfl ?_
                          refine tr_p (y_assign rfl) rfl rfl ?_
                          refine tr_nil ?_
                          refine tr_thenN ?_
                          exact tr_join [(0, (.int .i64 x0)), (1, (.int .i64 x1)), (2, (.int .i64 x2)), (7, (.pointer x7)), (9, (.pointer (some x9))), (15, (.int .i64 x15)), (17, (.int .i64 (IntKind.wrap .i64 (x17 + 1))))] ⟨rfl, rfl, rfl, rfl, rfl, rfl, rfl, trivial⟩ ⟨_, _, _, _, _, _, _, rfl, H⟩
                        · refine tr_block ?_
                          refine tr_seq_j (fun L' h => ∃ (x0 : Int) (x1 : Int) (x2 : Int) (x7 : Option Addr) (x9 : Addr) (x15 : Int) (x17 : Int) (x235 : Bool), L' = [(0, (.int .i64 x0)), (1, (.int .i64 x1)), (2, (.int .i64 x2)), (7, (.pointer x7)), (9, (.pointer (some x9))), (15, (.int .i64 x15)), (17, (.int .i64 x17)), (235, (.bool x235))] ∧ F.spatelaw7_ShardDeep.j15 Q (F.spatelaw7_ShardDeep.l13 Q q13) x0 x1 x2 x7 x9 x15 x17 x235 h) ?_ ?_
                          · rintro L' h ⟨x0, x1, x2, x7, x9, x15, x17, x235, rfl, H⟩
                            unfold F.spatelaw7_ShardDeep.j15 at H
                            refine tr_cond rfl (fun g70 => ?_) (fun g70 => ?_)
                            · replace H := H.1 g70
                              refine tr_seq ?_
                              refine tr_region ?_
                              refine tr_p (y_assign rfl) rfl rfl ?_
                              refine tr_nil ?_
                              refine tr_thenN ?_
                              refine tr_ret ?_
                              refine tr_blockR ?_
                              refine tr_thenR ?_
                              refine tr_thenR ?_
                              refine tr_blockR ?_
                              refine tr_thenR ?_
                              exact tr_ret1 rfl rfl ⟨_, rfl, H⟩
                            · replace H := H.2 g70
                              refine tr_skip ?_
                              refine tr_blockN ?_
                              refine tr_thenN ?_
                              exact tr_join [(0, (.int .i64 x0)), (1, (.int .i64 x1)), (2, (.int .i64 x2)), (7, (.pointer x7)), (9, (.pointer (some x9))), (15, (.int .i64 x15)), (17, (.int .i64 x17))] ⟨rfl, rfl, rfl, rfl, rfl, rfl, rfl, trivial⟩ ⟨_, _, _, _, _, _, _, rfl, H⟩
                          · refine tr_region ?_
                            refine tr_p (y_move rfl) rfl rfl ?_
                            refine tr_p (y_move rfl) rfl rfl ?_
                            obtain ⟨e71, H⟩ := H
                            refine tr_p (y_rem rfl rfl e71) rfl rfl ?_
                            refine tr_p (y_eql rfl rfl) rfl rfl ?_
                            refine tr_p (y_move rfl) rfl rfl ?_
                            refine tr_split (t := 225) rfl (fun g72 => ?_) (fun g72 => ?_)
                            · replace H := H.1 g72
                              refine tr_p (y_move rfl) rfl rfl ?_
                              obtain ⟨y73, k74, H⟩ := H
                              refine tr_h (y_ldS Try.isAgg24 Try.sizeOf24 rfl rfl) k74 rfl rfl ?_
                              refine tr_p (y_move rfl) rfl rfl ?_
                              refine tr_p (y_move rfl) rfl rfl ?_
                              refine tr_p (y_mul rfl rfl) rfl rfl ?_
                              refine tr_e (e_call Try.call19 rfl (F.shard_Shard_At_ok H)) rfl rfl ?_
                              rintro _ h75 ⟨r76, rfl, H⟩
                              refine tr_p (y_move rfl) rfl rfl ?_
                              refine tr_e (e_call Try.call20 rfl (F.spatelaw7_one_ok H)) rfl rfl ?_
                              rintro _ h77 ⟨r78, rfl, H⟩
                              refine tr_p (st_neq (b := ((r76.Count == r78.Count) && ((r76.Sum == r78.Sum) && ((r76.Min == r78.Min) && ((r76.Max == r78.Max) && true))))) eqg_35 (fun w => eqst_35 r76 r78 9998 w) rfl rfl) rfl rfl ?_
                              refine tr_p (y_pick_t rfl rfl) rfl rfl ?_
                              refine tr_nil ?_
                              refine tr_thenN ?_
                              exact tr_join [(0, (.int .i64 x0)), (1, (.int .i64 x1)), (2, (.int .i64 x2)), (7, (.pointer x7)), (9, (.pointer (some x9))), (15, (.int .i64 x15)), (17, (.int .i64 x17)), (235, (.bool (!((r76.Count == r78.Count) && ((r76.Sum == r78.Sum) && ((r76.Min == r78.Min) && ((r76.Max == r78.Max) && true)))))))] ⟨rfl, rfl, rfl, rfl, rfl, rfl, rfl, rfl, trivial⟩ ⟨_, _, _, _, _, _, _, _, rfl, H⟩
                            · replace H := H.2 g72
                              refine tr_s rfl rfl ?_
                              refine tr_s rfl rfl ?_
                              refine tr_s rfl rfl ?_
                              refine tr_s rfl rfl ?_
                              refine tr_s rfl rfl ?_
                              refine tr_s rfl rfl ?_
                              refine tr_s rfl rfl ?_
                              refine tr_s rfl rfl ?_
                              refine tr_s rfl rfl ?_
                              refine tr_p (y_pick_f rfl rfl) rfl rfl ?_
                              refine tr_nil ?_
                              refine tr_thenN ?_
                              exact tr_join [(0, (.int .i64 x0)), (1, (.int .i64 x1)), (2, (.int .i64 x2)), (7, (.pointer x7)), (9, (.pointer (some x9))), (15, (.int .i64 x15)), (17, (.int .i64 x17)), (235, (.bool false))] ⟨rfl, rfl, rfl, rfl, rfl, rfl, rfl, rfl, trivial⟩ ⟨_, _, _, _, _, _, _, _, rfl, H⟩
                      · replace H := H.2 g69
                        refine tr_exit ?_
                        refine tr_thenE ?_
                        refine tr_thenE ?_
                        refine tr_hit ?_
                        refine tr_thenN ?_
                        refine tr_seq ?_
                        refine tr_region ?_
                        refine tr_p (y_move rfl) rfl rfl ?_
                        obtain ⟨y79, k80, H⟩ := H
                        refine tr_h (y_ldS Try.isAgg24 Try.sizeOf24 rfl rfl) k80 rfl rfl ?_
                        refine tr_e (e_call Try.call17 rfl (F.shard_Shard_Get_ok H)) rfl rfl ?_
                        rintro _ h81 ⟨r82, rfl, H⟩
                        refine tr_p (y_move rfl) rfl rfl ?_
                        refine tr_e (e_call Try.call20 rfl (F.spatelaw7_one_ok H)) rfl rfl ?_
                        rintro _ h83 ⟨r84, rfl, H⟩
                        refine tr_p (st_eql (b := ((r82.Count == r84.Count) && ((r82.Sum == r84.Sum) && ((r82.Min == r84.Min) && ((r82.Max == r84.Max) && true))))) eqg_35 (fun w => eqst_35 r82 r84 9998 w) rfl rfl) rfl rfl ?_
                        refine tr_p (y_move rfl) rfl rfl ?_
                        refine tr_split (t := 242) rfl (fun g85 => ?_) (fun g85 => ?_)
                        · replace H := H.1 g85
                          refine tr_p (y_move rfl) rfl rfl ?_
                          refine tr_p (y_move rfl) rfl rfl ?_
                          refine tr_p (y_move rfl) rfl rfl ?_
                          refine tr_p (y_mul rfl rfl) rfl rfl ?_
                          obtain ⟨y86, k87, H⟩ := H
                          refine tr_h (y_ldS Try.isAgg24 Try.sizeOf24 rfl rfl) k87 rfl rfl ?_
                          refine tr_e (e_call Try.call21 rfl (F.shard_Shard_Kill_ok H)) rfl rfl ?_
                          rintro _ h88 ⟨r89, rfl, H⟩
                          refine tr_p (y_eql rfl rfl) rfl rfl ?_
                          refine tr_p (y_pick_t rfl rfl) rfl rfl ?_
                          refine tr_p (y_move rfl) rfl rfl ?_
                          refine tr_split (t := 251) rfl (fun g90 => ?_) (fun g90 => ?_)
                          · replace H := H.1 g90
                            refine tr_p (y_move rfl) rfl rfl ?_
                            obtain ⟨a91, e92, H⟩ := H
                            refine tr_p (f_nn rfl e92) rfl rfl ?_
                            refine tr_p (y_fa (off := 0) Try.runUnderlying54 fo_54_0 rfl) rfl rfl ?_
                            refine tr_e (e_call Try.call22 rfl (F.shard_counts_Units_ok H)) rfl rfl ?_
                            rintro _ h93 ⟨r94, rfl, H⟩
                            refine tr_p (y_move rfl) rfl rfl ?_
                            refine tr_p (y_eql rfl rfl) rfl rfl ?_
                            refine tr_p (y_pick_t rfl rfl) rfl rfl ?_
                            refine tr_p (y_move rfl) rfl rfl ?_
                            refine tr_split (t := 259) rfl (fun g95 => ?_) (fun g95 => ?_)
                            · replace H := H.1 g95
                              refine tr_e (e_call Try.call12 rfl (F.spatelaw7_head_ok H)) rfl rfl ?_
                              rintro _ h96 ⟨r97, rfl, H⟩
                              refine tr_p (y_pick_t rfl rfl) rfl rfl ?_
                              refine tr_p (y_assign rfl) rfl rfl ?_
                              refine tr_nil ?_
                              refine tr_thenN ?_
                              refine tr_ret ?_
                              exact tr_ret1 rfl rfl ⟨_, rfl, H⟩
                            · replace H := H.2 g95
                              refine tr_s rfl rfl ?_
                              refine tr_p (y_pick_f rfl rfl) rfl rfl ?_
                              refine tr_p (y_assign rfl) rfl rfl ?_
                              refine tr_nil ?_
                              refine tr_thenN ?_
                              refine tr_ret ?_
                              exact tr_ret1 rfl rfl ⟨_, rfl, H⟩
                          · replace H := H.2 g90
                            refine tr_s rfl rfl ?_
                            refine tr_s rfl rfl ?_
                            refine tr_s rfl rfl ?_
                            refine tr_s rfl rfl ?_
                            refine tr_s rfl rfl ?_
                            refine tr_s rfl rfl ?_
                            refine tr_p (y_pick_f rfl rfl) rfl rfl ?_
                            refine tr_p (y_move rfl) rfl rfl ?_
                            refine tr_s rfl rfl ?_
                            refine tr_p (y_pick_f rfl rfl) rfl rfl ?_
                            refine tr_p (y_assign rfl) rfl rfl ?_
                            refine tr_nil ?_
                            refine tr_thenN ?_
                            refine tr_ret ?_
                            exact tr_ret1 rfl rfl ⟨_, rfl, H⟩
                        · replace H := H.2 g85
                          refine tr_s rfl rfl ?_
                          refine tr_s rfl rfl ?_
                          refine tr_s rfl rfl ?_
                          refine tr_s rfl rfl ?_
                          refine tr_s rfl rfl ?_
                          refine tr_s rfl rfl ?_
                          refine tr_s rfl rfl ?_
                          refine tr_p (y_pick_f rfl rfl) rfl rfl ?_
                          refine tr_p (y_move rfl) rfl rfl ?_
                          refine tr_s rfl rfl ?_
                          refine tr_s rfl rfl ?_
                          refine tr_s rfl rfl ?_
                          refine tr_s rfl rfl ?_
                          refine tr_s rfl rfl ?_
                          refine tr_s rfl rfl ?_
                          refine tr_p (y_pick_f rfl rfl) rfl rfl ?_
                          refine tr_p (y_move rfl) rfl rfl ?_
                          refine tr_s rfl rfl ?_
                          refine tr_p (y_pick_f rfl rfl) rfl rfl ?_
                          refine tr_p (y_assign rfl) rfl rfl ?_
                          refine tr_nil ?_
                          refine tr_thenN ?_
                          refine tr_ret ?_
                          exact tr_ret1 rfl rfl ⟨_, rfl, H⟩
                  · refine tr_seq_j (fun L' h => ∃ (x0 : Int) (x1 : Int) (x2 : Int) (x7 : Option Addr) (x9 : Addr) (x15 : Int) (x215 : Bool), L' = [(0, (.int .i64 x0)), (1, (.int .i64 x1)), (2, (.int .i64 x2)), (7, (.pointer x7)), (9, (.pointer (some x9))), (15, (.int .i64 x15)), (215, (.bool x215))] ∧ F.spatelaw7_ShardDeep.j16 Q x0 x1 x2 x7 x9 x15 x215 h) ?_ ?_
                    · rintro L' h ⟨x0, x1, x2, x7, x9, x15, x215, rfl, H⟩
                      unfold F.spatelaw7_ShardDeep.j16 at H
                      refine tr_cond rfl (fun g99 => ?_) (fun g99 => ?_)
                      · replace H := H.1 g99
                        refine tr_seq ?_
                        refine tr_region ?_
                        refine tr_p (y_assign rfl) rfl rfl ?_
                        refine tr_nil ?_
                        refine tr_thenN ?_
                        refine tr_ret ?_
                        refine tr_thenR ?_
                        exact tr_ret1 rfl rfl ⟨_, rfl, H⟩
                      · replace H := H.2 g99
                        refine tr_skip ?_
                        refine tr_thenN ?_
                        exact tr_join [(0, (.int .i64 x0)), (1, (.int .i64 x1)), (2, (.int .i64 x2)), (7, (.pointer x7)), (9, (.pointer (some x9))), (15, (.int .i64 x15))] ⟨rfl, rfl, rfl, rfl, rfl, rfl, trivial⟩ ⟨_, _, _, _, _, _, rfl, H⟩
                    · refine tr_region ?_
                      refine tr_p (y_move rfl) rfl rfl ?_
                      refine tr_p (y_move rfl) rfl rfl ?_
                      refine tr_e (e_call Try.call25 rfl (F.shard_Shard_Prune_ok H)) rfl rfl ?_
                      rintro _ h100 ⟨r101, rfl, H⟩
                      refine tr_p (y_move rfl) rfl rfl ?_
                      refine tr_p (y_move rfl) rfl rfl ?_
                      refine tr_p (y_sub rfl rfl) rfl rfl ?_
                      refine tr_p (y_neq rfl rfl) rfl rfl ?_
                      refine tr_p (y_move rfl) rfl rfl ?_
                      refine tr_split (t := 195) rfl (fun g102 => ?_) (fun g102 => ?_)
                      · replace H := H.1 g102
                        refine tr_s rfl rfl ?_
                        refine tr_s rfl rfl ?_
                        refine tr_s rfl rfl ?_
                        refine tr_s rfl rfl ?_
                        refine tr_p (y_pick_t rfl rfl) rfl rfl ?_
                        refine tr_p (y_move rfl) rfl rfl ?_
                        refine tr_s rfl rfl ?_
                        refine tr_s rfl rfl ?_
                        refine tr_s rfl rfl ?_
                        refine tr_s rfl rfl ?_
                        refine tr_s rfl rfl ?_
                        refine tr_s rfl rfl ?_
                        refine tr_s rfl rfl ?_
                        refine tr_p (y_pick_t rfl rfl) rfl rfl ?_
                        refine tr_p (y_move rfl) rfl rfl ?_
                        refine tr_s rfl rfl ?_
                        refine tr_s rfl rfl ?_
                        refine tr_s rfl rfl ?_
                        refine tr_s rfl rfl ?_
                        refine tr_p (y_pick_t rfl rfl) rfl rfl ?_
                        refine tr_nil ?_
                        refine tr_thenN ?_
                        exact tr_join [(0, (.int .i64 x0)), (1, (.int .i64 x1)), (2, (.int .i64 x2)), (7, (.pointer x7)), (9, (.pointer (some x9))), (15, (.int .i64 x15)), (215, (.bool true))] ⟨rfl, rfl, rfl, rfl, rfl, rfl, rfl, trivial⟩ ⟨_, _, _, _, _, _, _, rfl, H⟩
                      · replace H := H.2 g102
                        refine tr_p (y_move rfl) rfl rfl ?_
                        refine tr_e (e_call Try.call24 rfl (F.shard_Shard_Most_ok H)) rfl rfl ?_
                        rintro _ h103 ⟨r104, rfl, H⟩
                        refine tr_p (y_move rfl) rfl rfl ?_
                        refine tr_p (y_neq rfl rfl) rfl rfl ?_
                        refine tr_p (y_pick_f rfl rfl) rfl rfl ?_
                        refine tr_p (y_move rfl) rfl rfl ?_
                        refine tr_split (t := 201) rfl (fun g105 => ?_) (fun g105 => ?_)
                        · replace H := H.1 g105
                          refine tr_s rfl rfl ?_
                          refine tr_s rfl rfl ?_
                          refine tr_s rfl rfl ?_
                          refine tr_s rfl rfl ?_
                          refine tr_s rfl rfl ?_
                          refine tr_s rfl rfl ?_
                          refine tr_s rfl rfl ?_
                          refine tr_p (y_pick_t rfl rfl) rfl rfl ?_
                          refine tr_p (y_move rfl) rfl rfl ?_
                          refine tr_s rfl rfl ?_
                          refine tr_s rfl rfl ?_
                          refine tr_s rfl rfl ?_
                          refine tr_s rfl rfl ?_
                          refine tr_p (y_pick_t rfl rfl) rfl rfl ?_
                          refine tr_nil ?_
                          refine tr_thenN ?_
                          exact tr_join [(0, (.int .i64 x0)), (1, (.int .i64 x1)), (2, (.int .i64 x2)), (7, (.pointer x7)), (9, (.pointer (some x9))), (15, (.int .i64 x15)), (215, (.bool true))] ⟨rfl, rfl, rfl, rfl, rfl, rfl, rfl, trivial⟩ ⟨_, _, _, _, _, _, _, rfl, H⟩
                        · replace H := H.2 g105
                          refine tr_p (y_move rfl) rfl rfl ?_
                          obtain ⟨a106, e107, H⟩ := H
                          refine tr_p (f_nn rfl e107) rfl rfl ?_
                          refine tr_p (y_fa (off := 0) Try.runUnderlying54 fo_54_0 rfl) rfl rfl ?_
                          refine tr_e (e_call Try.call22 rfl (F.shard_counts_Units_ok H)) rfl rfl ?_
                          rintro _ h108 ⟨r109, rfl, H⟩
                          refine tr_p (y_move rfl) rfl rfl ?_
                          refine tr_p (y_add rfl rfl) rfl rfl ?_
                          refine tr_p (y_neq rfl rfl) rfl rfl ?_
                          refine tr_p (y_pick_f rfl rfl) rfl rfl ?_
                          refine tr_p (y_move rfl) rfl rfl ?_
                          refine tr_split (t := 210) rfl (fun g110 => ?_) (fun g110 => ?_)
                          · replace H := H.1 g110
                            refine tr_s rfl rfl ?_
                            refine tr_s rfl rfl ?_
                            refine tr_s rfl rfl ?_
                            refine tr_s rfl rfl ?_
                            refine tr_p (y_pick_t rfl rfl) rfl rfl ?_
                            refine tr_nil ?_
                            refine tr_thenN ?_
                            exact tr_join [(0, (.int .i64 x0)), (1, (.int .i64 x1)), (2, (.int .i64 x2)), (7, (.pointer x7)), (9, (.pointer (some x9))), (15, (.int .i64 x15)), (215, (.bool true))] ⟨rfl, rfl, rfl, rfl, rfl, rfl, rfl, trivial⟩ ⟨_, _, _, _, _, _, _, rfl, H⟩
                          · replace H := H.2 g110
                            refine tr_p (y_move rfl) rfl rfl ?_
                            refine tr_p (y_move rfl) rfl rfl ?_
                            refine tr_e (e_call Try.call25 rfl (F.shard_Shard_Prune_ok H)) rfl rfl ?_
                            rintro _ h111 ⟨r112, rfl, H⟩
                            refine tr_p (y_neq rfl rfl) rfl rfl ?_
                            refine tr_p (y_pick_f rfl rfl) rfl rfl ?_
                            refine tr_nil ?_
                            refine tr_thenN ?_
                            exact tr_join [(0, (.int .i64 x0)), (1, (.int .i64 x1)), (2, (.int .i64 x2)), (7, (.pointer x7)), (9, (.pointer (some x9))), (15, (.int .i64 x15)), (215, (.bool ((r112 != 0))))] ⟨rfl, rfl, rfl, rfl, rfl, rfl, rfl, trivial⟩ ⟨_, _, _, _, _, _, _, rfl, H⟩
        · refine tr_seq_j (fun L' h => ∃ (x0 : Int) (x1 : Int) (x2 : Int) (x7 : Option Addr) (x9 : Addr) (x110 : Bool), L' = [(0, (.int .i64 x0)), (1, (.int .i64 x1)), (2, (.int .i64 x2)), (7, (.pointer x7)), (9, (.pointer (some x9))), (110, (.bool x110))] ∧ F.spatelaw7_ShardDeep.j17 Q x0 x1 x2 x7 x9 x110 h) ?_ ?_
          · rintro L' h ⟨x0, x1, x2, x7, x9, x110, rfl, H⟩
            unfold F.spatelaw7_ShardDeep.j17 at H
            refine tr_cond rfl (fun g115 => ?_) (fun g115 => ?_)
            · replace H := H.1 g115
              refine tr_seq ?_
              refine tr_region ?_
              refine tr_p (y_assign rfl) rfl rfl ?_
              refine tr_nil ?_
              refine tr_thenN ?_
              refine tr_ret ?_
              refine tr_thenR ?_
              exact tr_ret1 rfl rfl ⟨_, rfl, H⟩
            · replace H := H.2 g115
              refine tr_skip ?_
              refine tr_thenN ?_
              exact tr_join [(0, (.int .i64 x0)), (1, (.int .i64 x1)), (2, (.int .i64 x2)), (7, (.pointer x7)), (9, (.pointer (some x9)))] ⟨rfl, rfl, rfl, rfl, rfl, trivial⟩ ⟨_, _, _, _, _, rfl, H⟩
          · refine tr_draw mixed [0, 1, 3, 7, 0, 16, 63, 127, 255, 511, 255, 2047, 4095, 8191, 16383, 32767, 65535, 131071, 262143, 524287, 1048575, 2097151, 2097151, 2097151, 14680063, 2097151, 2097151, 102760447, 268435455, 536870911, 1073741823, 2147483647, 4294967295, 4294967295, 4294967295, 30064771071, 64424509439, 4294967295, 4294967295, 416611827711, 1099511627775, 2199023255551, 4398046511103, 8796093022207, 17592186044415, 17592186044415, 17592186044415, 123145302310911, 17592186044415, 17592186044415, 580542139465727, 1987917023019007, 4503599627370495, 9007199254740991, 18014398509481983] (by kernel_rfl) ?_
            refine g_p 0 1 rfl (by kernel_rfl) (y_move rfl) rfl rfl ?_
            obtain ⟨a116, e117, H⟩ := H
            refine g_p 1 3 rfl (by kernel_rfl) (f_nn rfl e117) rfl rfl ?_
            refine g_p 2 7 rfl (by kernel_rfl) (y_fa (off := 0) Try.runUnderlying54 fo_54_0 rfl) rfl rfl ?_
            refine g_p 4 23 rfl (by kernel_rfl) (y_move rfl) rfl rfl ?_
            refine g_p 5 55 rfl (by kernel_rfl) (y_add rfl rfl) rfl rfl ?_
            refine g_e 3 63 [] (by kernel_rfl) rfl (by kernel_rfl) (e_call Try.call22 rfl (F.shard_counts_Units_ok H)) rfl rfl ?_
            rintro _ h118 ⟨r119, rfl, H⟩
            refine ⟨trivial, ?_⟩
            refine g_p 6 127 rfl (by kernel_rfl) (y_neq rfl rfl) rfl rfl ?_
            refine g_p 7 255 rfl (by kernel_rfl) (y_move rfl) rfl rfl ?_
            refine g_split (t := 63) rfl (fun g120 => ?_) (fun g120 => ?_)
            · replace H := H.1 g120
              refine g_s 8 511 rfl (by kernel_rfl) rfl rfl ?_
              refine g_s 9 1023 rfl (by kernel_rfl) rfl rfl ?_
              refine g_s 10 2047 rfl (by kernel_rfl) rfl rfl ?_
              refine g_s 11 4095 rfl (by kernel_rfl) rfl rfl ?_
              refine g_p 12 8191 rfl (by kernel_rfl) (y_pick_t rfl rfl) rfl rfl ?_
              refine g_p 13 16383 rfl (by kernel_rfl) (y_move rfl) rfl rfl ?_
              refine g_s 14 32767 rfl (by kernel_rfl) rfl rfl ?_
              refine g_s 15 65535 rfl (by kernel_rfl) rfl rfl ?_
              refine g_s 16 131071 rfl (by kernel_rfl) rfl rfl ?_
              refine g_s 17 262143 rfl (by kernel_rfl) rfl rfl ?_
              refine g_s 18 524287 rfl (by kernel_rfl) rfl rfl ?_
              refine g_p 19 1048575 rfl (by kernel_rfl) (y_pick_t rfl rfl) rfl rfl ?_
              refine g_p 20 2097151 rfl (by kernel_rfl) (y_move rfl) rfl rfl ?_
              refine g_s 21 4194303 rfl (by kernel_rfl) rfl rfl ?_
              refine g_s 22 8388607 rfl (by kernel_rfl) rfl rfl ?_
              refine g_s 23 16777215 rfl (by kernel_rfl) rfl rfl ?_
              refine g_s 24 33554431 rfl (by kernel_rfl) rfl rfl ?_
              refine g_s 25 67108863 rfl (by kernel_rfl) rfl rfl ?_
              refine g_s 26 134217727 rfl (by kernel_rfl) rfl rfl ?_
              refine g_s 27 268435455 rfl (by kernel_rfl) rfl rfl ?_
              refine g_s 28 536870911 rfl (by kernel_rfl) rfl rfl ?_
              refine g_s 29 1073741823 rfl (by kernel_rfl) rfl rfl ?_
              refine g_p 30 2147483647 rfl (by kernel_rfl) (y_pick_t rfl rfl) rfl rfl ?_
              refine g_p 31 4294967295 rfl (by kernel_rfl) (y_move rfl) rfl rfl ?_
              refine g_s 32 8589934591 rfl (by kernel_rfl) rfl rfl ?_
              refine g_s 33 17179869183 rfl (by kernel_rfl) rfl rfl ?_
              refine g_s 34 34359738367 rfl (by kernel_rfl) rfl rfl ?_
              refine g_s 35 68719476735 rfl (by kernel_rfl) rfl rfl ?_
              refine g_s 36 137438953471 rfl (by kernel_rfl) rfl rfl ?_
              refine g_s 37 274877906943 rfl (by kernel_rfl) rfl rfl ?_
              refine g_s 38 549755813887 rfl (by kernel_rfl) rfl rfl ?_
              refine g_s 39 1099511627775 rfl (by kernel_rfl) rfl rfl ?_
              refine g_s 40 2199023255551 rfl (by kernel_rfl) rfl rfl ?_
              refine g_s 41 4398046511103 rfl (by kernel_rfl) rfl rfl ?_
              refine g_p 42 8796093022207 rfl (by kernel_rfl) (y_pick_t rfl rfl) rfl rfl ?_
              refine g_p 43 17592186044415 rfl (by kernel_rfl) (y_move rfl) rfl rfl ?_
              refine g_s 44 35184372088831 rfl (by kernel_rfl) rfl rfl ?_
              refine g_s 45 70368744177663 rfl (by kernel_rfl) rfl rfl ?_
              refine g_s 46 140737488355327 rfl (by kernel_rfl) rfl rfl ?_
              refine g_s 47 281474976710655 rfl (by kernel_rfl) rfl rfl ?_
              refine g_s 48 562949953421311 rfl (by kernel_rfl) rfl rfl ?_
              refine g_s 49 1125899906842623 rfl (by kernel_rfl) rfl rfl ?_
              refine g_s 50 2251799813685247 rfl (by kernel_rfl) rfl rfl ?_
              refine g_s 51 4503599627370495 rfl (by kernel_rfl) rfl rfl ?_
              refine g_s 52 9007199254740991 rfl (by kernel_rfl) rfl rfl ?_
              refine g_s 53 18014398509481983 rfl (by kernel_rfl) rfl rfl ?_
              refine g_p 54 36028797018963967 rfl (by kernel_rfl) (y_pick_t rfl rfl) rfl rfl ?_
              refine g_d (by kernel_rfl) ?_
              refine tr_thenN ?_
              exact tr_join [(0, (.int .i64 x0)), (1, (.int .i64 x1)), (2, (.int .i64 x2)), (7, (.pointer x7)), (9, (.pointer (some x9))), (110, (.bool true))] ⟨rfl, rfl, rfl, rfl, rfl, rfl, trivial⟩ ⟨_, _, _, _, _, _, rfl, H⟩
            · replace H := H.2 g120
              refine g_p 8 511 rfl (by kernel_rfl) (y_move rfl) rfl rfl ?_
              refine g_p 10 1535 rfl (by kernel_rfl) (y_move rfl) rfl rfl ?_
              refine g_e 9 2047 [] (by kernel_rfl) rfl (by kernel_rfl) (e_call Try.call24 rfl (F.shard_Shard_Most_ok H)) rfl rfl ?_
              rintro _ h121 ⟨r122, rfl, H⟩
              refine ⟨trivial, ?_⟩
              refine g_p 11 4095 rfl (by kernel_rfl) (y_neq rfl rfl) rfl rfl ?_
              refine g_p 12 8191 rfl (by kernel_rfl) (y_pick_f rfl rfl) rfl rfl ?_
              refine g_p 13 16383 rfl (by kernel_rfl) (y_move rfl) rfl rfl ?_
              refine g_split (t := 69) rfl (fun g123 => ?_) (fun g123 => ?_)
              · replace H := H.1 g123
                refine g_s 14 32767 rfl (by kernel_rfl) rfl rfl ?_
                refine g_s 15 65535 rfl (by kernel_rfl) rfl rfl ?_
                refine g_s 16 131071 rfl (by kernel_rfl) rfl rfl ?_
                refine g_s 17 262143 rfl (by kernel_rfl) rfl rfl ?_
                refine g_s 18 524287 rfl (by kernel_rfl) rfl rfl ?_
                refine g_p 19 1048575 rfl (by kernel_rfl) (y_pick_t rfl rfl) rfl rfl ?_
                refine g_p 20 2097151 rfl (by kernel_rfl) (y_move rfl) rfl rfl ?_
                refine g_s 21 4194303 rfl (by kernel_rfl) rfl rfl ?_
                refine g_s 22 8388607 rfl (by kernel_rfl) rfl rfl ?_
                refine g_s 23 16777215 rfl (by kernel_rfl) rfl rfl ?_
                refine g_s 24 33554431 rfl (by kernel_rfl) rfl rfl ?_
                refine g_s 25 67108863 rfl (by kernel_rfl) rfl rfl ?_
                refine g_s 26 134217727 rfl (by kernel_rfl) rfl rfl ?_
                refine g_s 27 268435455 rfl (by kernel_rfl) rfl rfl ?_
                refine g_s 28 536870911 rfl (by kernel_rfl) rfl rfl ?_
                refine g_s 29 1073741823 rfl (by kernel_rfl) rfl rfl ?_
                refine g_p 30 2147483647 rfl (by kernel_rfl) (y_pick_t rfl rfl) rfl rfl ?_
                refine g_p 31 4294967295 rfl (by kernel_rfl) (y_move rfl) rfl rfl ?_
                refine g_s 32 8589934591 rfl (by kernel_rfl) rfl rfl ?_
                refine g_s 33 17179869183 rfl (by kernel_rfl) rfl rfl ?_
                refine g_s 34 34359738367 rfl (by kernel_rfl) rfl rfl ?_
                refine g_s 35 68719476735 rfl (by kernel_rfl) rfl rfl ?_
                refine g_s 36 137438953471 rfl (by kernel_rfl) rfl rfl ?_
                refine g_s 37 274877906943 rfl (by kernel_rfl) rfl rfl ?_
                refine g_s 38 549755813887 rfl (by kernel_rfl) rfl rfl ?_
                refine g_s 39 1099511627775 rfl (by kernel_rfl) rfl rfl ?_
                refine g_s 40 2199023255551 rfl (by kernel_rfl) rfl rfl ?_
                refine g_s 41 4398046511103 rfl (by kernel_rfl) rfl rfl ?_
                refine g_p 42 8796093022207 rfl (by kernel_rfl) (y_pick_t rfl rfl) rfl rfl ?_
                refine g_p 43 17592186044415 rfl (by kernel_rfl) (y_move rfl) rfl rfl ?_
                refine g_s 44 35184372088831 rfl (by kernel_rfl) rfl rfl ?_
                refine g_s 45 70368744177663 rfl (by kernel_rfl) rfl rfl ?_
                refine g_s 46 140737488355327 rfl (by kernel_rfl) rfl rfl ?_
                refine g_s 47 281474976710655 rfl (by kernel_rfl) rfl rfl ?_
                refine g_s 48 562949953421311 rfl (by kernel_rfl) rfl rfl ?_
                refine g_s 49 1125899906842623 rfl (by kernel_rfl) rfl rfl ?_
                refine g_s 50 2251799813685247 rfl (by kernel_rfl) rfl rfl ?_
                refine g_s 51 4503599627370495 rfl (by kernel_rfl) rfl rfl ?_
                refine g_s 52 9007199254740991 rfl (by kernel_rfl) rfl rfl ?_
                refine g_s 53 18014398509481983 rfl (by kernel_rfl) rfl rfl ?_
                refine g_p 54 36028797018963967 rfl (by kernel_rfl) (y_pick_t rfl rfl) rfl rfl ?_
                refine g_d (by kernel_rfl) ?_
                refine tr_thenN ?_
                exact tr_join [(0, (.int .i64 x0)), (1, (.int .i64 x1)), (2, (.int .i64 x2)), (7, (.pointer x7)), (9, (.pointer (some x9))), (110, (.bool true))] ⟨rfl, rfl, rfl, rfl, rfl, rfl, trivial⟩ ⟨_, _, _, _, _, _, rfl, H⟩
              · replace H := H.2 g123
                refine g_p 14 32767 rfl (by kernel_rfl) (y_move rfl) rfl rfl ?_
                obtain ⟨a124, e125, H⟩ := H
                refine g_p 15 65535 rfl (by kernel_rfl) (f_nn rfl e125) rfl rfl ?_
                refine g_p 16 131071 rfl (by kernel_rfl) (y_fa (off := 0) Try.runUnderlying54 fo_54_0 rfl) rfl rfl ?_
                refine g_e 17 262143 [] (by kernel_rfl) rfl (by kernel_rfl) (e_call Try.call23 rfl (F.shard_counts_Cells_ok H)) rfl rfl ?_
                rintro _ h126 ⟨r127, rfl, H⟩
                refine ⟨trivial, ?_⟩
                refine g_p 18 524287 rfl (by kernel_rfl) (y_neq rfl rfl) rfl rfl ?_
                refine g_p 19 1048575 rfl (by kernel_rfl) (y_pick_f rfl rfl) rfl rfl ?_
                refine g_p 20 2097151 rfl (by kernel_rfl) (y_move rfl) rfl rfl ?_
                refine g_split (t := 76) rfl (fun g128 => ?_) (fun g128 => ?_)
                · replace H := H.1 g128
                  refine g_s 21 4194303 rfl (by kernel_rfl) rfl rfl ?_
                  refine g_s 22 8388607 rfl (by kernel_rfl) rfl rfl ?_
                  refine g_s 23 16777215 rfl (by kernel_rfl) rfl rfl ?_
                  refine g_s 24 33554431 rfl (by kernel_rfl) rfl rfl ?_
                  refine g_s 25 67108863 rfl (by kernel_rfl) rfl rfl ?_
                  refine g_s 26 134217727 rfl (by kernel_rfl) rfl rfl ?_
                  refine g_s 27 268435455 rfl (by kernel_rfl) rfl rfl ?_
                  refine g_s 28 536870911 rfl (by kernel_rfl) rfl rfl ?_
                  refine g_s 29 1073741823 rfl (by kernel_rfl) rfl rfl ?_
                  refine g_p 30 2147483647 rfl (by kernel_rfl) (y_pick_t rfl rfl) rfl rfl ?_
                  refine g_p 31 4294967295 rfl (by kernel_rfl) (y_move rfl) rfl rfl ?_
                  refine g_s 32 8589934591 rfl (by kernel_rfl) rfl rfl ?_
                  refine g_s 33 17179869183 rfl (by kernel_rfl) rfl rfl ?_
                  refine g_s 34 34359738367 rfl (by kernel_rfl) rfl rfl ?_
                  refine g_s 35 68719476735 rfl (by kernel_rfl) rfl rfl ?_
                  refine g_s 36 137438953471 rfl (by kernel_rfl) rfl rfl ?_
                  refine g_s 37 274877906943 rfl (by kernel_rfl) rfl rfl ?_
                  refine g_s 38 549755813887 rfl (by kernel_rfl) rfl rfl ?_
                  refine g_s 39 1099511627775 rfl (by kernel_rfl) rfl rfl ?_
                  refine g_s 40 2199023255551 rfl (by kernel_rfl) rfl rfl ?_
                  refine g_s 41 4398046511103 rfl (by kernel_rfl) rfl rfl ?_
                  refine g_p 42 8796093022207 rfl (by kernel_rfl) (y_pick_t rfl rfl) rfl rfl ?_
                  refine g_p 43 17592186044415 rfl (by kernel_rfl) (y_move rfl) rfl rfl ?_
                  refine g_s 44 35184372088831 rfl (by kernel_rfl) rfl rfl ?_
                  refine g_s 45 70368744177663 rfl (by kernel_rfl) rfl rfl ?_
                  refine g_s 46 140737488355327 rfl (by kernel_rfl) rfl rfl ?_
                  refine g_s 47 281474976710655 rfl (by kernel_rfl) rfl rfl ?_
                  refine g_s 48 562949953421311 rfl (by kernel_rfl) rfl rfl ?_
                  refine g_s 49 1125899906842623 rfl (by kernel_rfl) rfl rfl ?_
                  refine g_s 50 2251799813685247 rfl (by kernel_rfl) rfl rfl ?_
                  refine g_s 51 4503599627370495 rfl (by kernel_rfl) rfl rfl ?_
                  refine g_s 52 9007199254740991 rfl (by kernel_rfl) rfl rfl ?_
                  refine g_s 53 18014398509481983 rfl (by kernel_rfl) rfl rfl ?_
                  refine g_p 54 36028797018963967 rfl (by kernel_rfl) (y_pick_t rfl rfl) rfl rfl ?_
                  refine g_d (by kernel_rfl) ?_
                  refine tr_thenN ?_
                  exact tr_join [(0, (.int .i64 x0)), (1, (.int .i64 x1)), (2, (.int .i64 x2)), (7, (.pointer x7)), (9, (.pointer (some x9))), (110, (.bool true))] ⟨rfl, rfl, rfl, rfl, rfl, rfl, trivial⟩ ⟨_, _, _, _, _, _, rfl, H⟩
                · replace H := H.2 g128
                  refine g_p 21 4194303 rfl (by kernel_rfl) (y_move rfl) rfl rfl ?_
                  refine g_p 22 8388607 rfl (by kernel_rfl) (y_move rfl) rfl rfl ?_
                  refine g_p 23 16777215 rfl (by kernel_rfl) (y_move rfl) rfl rfl ?_
                  refine g_p 24 33554431 rfl (by kernel_rfl) (y_mul rfl rfl) rfl rfl ?_
                  obtain ⟨y129, k130, H⟩ := H
                  refine g_h 25 67108863 rfl (by kernel_rfl) (y_ldS Try.isAgg24 Try.sizeOf24 rfl rfl) k130 rfl rfl ?_
                  refine g_e 26 134217727 [(25, fun h => Cells h x10 y129.cells)] (by kernel_rfl) rfl (by kernel_rfl) (e_call Try.call20 rfl (F.spatelaw7_one_ok H)) rfl rfl ?_
                  rintro _ h131 ⟨r132, rfl, H⟩
                  obtain ⟨k133, H⟩ := H
                  refine ⟨And.intro k133 trivial, ?_⟩
                  refine g_p 27 268435455 rfl (by kernel_rfl) (f_build rfl (bd_43_0_1 y129 r132)) rfl rfl ?_
                  refine g_e 28 536870911 [] (by kernel_rfl) rfl (by kernel_rfl) (e_call Try.call18 rfl (F.shard_Shard_Put_ok H)) rfl rfl ?_
                  rintro _ h134 ⟨r135, rfl, H⟩
                  refine ⟨trivial, ?_⟩
                  refine g_p 29 1073741823 rfl (by kernel_rfl) (y_neq rfl rfl) rfl rfl ?_
                  refine g_p 30 2147483647 rfl (by kernel_rfl) (y_pick_f rfl rfl) rfl rfl ?_
                  refine g_p 31 4294967295 rfl (by kernel_rfl) (y_move rfl) rfl rfl ?_
                  refine g_split (t := 87) rfl (fun g136 => ?_) (fun g136 => ?_)
                  · replace H := H.1 g136
                    refine g_s 32 8589934591 rfl (by kernel_rfl) rfl rfl ?_
                    refine g_s 33 17179869183 rfl (by kernel_rfl) rfl rfl ?_
                    refine g_s 34 34359738367 rfl (by kernel_rfl) rfl rfl ?_
                    refine g_s 35 68719476735 rfl (by kernel_rfl) rfl rfl ?_
                    refine g_s 36 137438953471 rfl (by kernel_rfl) rfl rfl ?_
                    refine g_s 37 274877906943 rfl (by kernel_rfl) rfl rfl ?_
                    refine g_s 38 549755813887 rfl (by kernel_rfl) rfl rfl ?_
                    refine g_s 39 1099511627775 rfl (by kernel_rfl) rfl rfl ?_
                    refine g_s 40 2199023255551 rfl (by kernel_rfl) rfl rfl ?_
                    refine g_s 41 4398046511103 rfl (by kernel_rfl) rfl rfl ?_
                    refine g_p 42 8796093022207 rfl (by kernel_rfl) (y_pick_t rfl rfl) rfl rfl ?_
                    refine g_p 43 17592186044415 rfl (by kernel_rfl) (y_move rfl) rfl rfl ?_
                    refine g_s 44 35184372088831 rfl (by kernel_rfl) rfl rfl ?_
                    refine g_s 45 70368744177663 rfl (by kernel_rfl) rfl rfl ?_
                    refine g_s 46 140737488355327 rfl (by kernel_rfl) rfl rfl ?_
                    refine g_s 47 281474976710655 rfl (by kernel_rfl) rfl rfl ?_
                    refine g_s 48 562949953421311 rfl (by kernel_rfl) rfl rfl ?_
                    refine g_s 49 1125899906842623 rfl (by kernel_rfl) rfl rfl ?_
                    refine g_s 50 2251799813685247 rfl (by kernel_rfl) rfl rfl ?_
                    refine g_s 51 4503599627370495 rfl (by kernel_rfl) rfl rfl ?_
                    refine g_s 52 9007199254740991 rfl (by kernel_rfl) rfl rfl ?_
                    refine g_s 53 18014398509481983 rfl (by kernel_rfl) rfl rfl ?_
                    refine g_p 54 36028797018963967 rfl (by kernel_rfl) (y_pick_t rfl rfl) rfl rfl ?_
                    refine g_d (by kernel_rfl) ?_
                    refine tr_thenN ?_
                    exact tr_join [(0, (.int .i64 x0)), (1, (.int .i64 x1)), (2, (.int .i64 x2)), (7, (.pointer x7)), (9, (.pointer (some x9))), (110, (.bool true))] ⟨rfl, rfl, rfl, rfl, rfl, rfl, trivial⟩ ⟨_, _, _, _, _, _, rfl, H⟩
                  · replace H := H.2 g136
                    refine g_p 32 8589934591 rfl (by kernel_rfl) (y_move rfl) rfl rfl ?_
                    refine g_p 33 17179869183 rfl (by kernel_rfl) (y_move rfl) rfl rfl ?_
                    refine g_p 34 34359738367 rfl (by kernel_rfl) (y_move rfl) rfl rfl ?_
                    refine g_p 35 68719476735 rfl (by kernel_rfl) (y_mul rfl rfl) rfl rfl ?_
                    refine g_p 36 137438953471 rfl (by kernel_rfl) (y_add rfl rfl) rfl rfl ?_
                    obtain ⟨y137, k138, H⟩ := H
                    refine g_h 37 274877906943 rfl (by kernel_rfl) (y_ldS Try.isAgg24 Try.sizeOf24 rfl rfl) k138 rfl rfl ?_
                    refine g_e 38 549755813887 [(37, fun h => Cells h x9 y137.cells)] (by kernel_rfl) rfl (by kernel_rfl) (e_call Try.call20 rfl (F.spatelaw7_one_ok H)) rfl rfl ?_
                    rintro _ h139 ⟨r140, rfl, H⟩
                    obtain ⟨k141, H⟩ := H
                    refine ⟨And.intro k141 trivial, ?_⟩
                    refine g_p 39 1099511627775 rfl (by kernel_rfl) (f_build rfl (bd_43_0_1 y137 r140)) rfl rfl ?_
                    refine g_e 40 2199023255551 [] (by kernel_rfl) rfl (by kernel_rfl) (e_call Try.call18 rfl (F.shard_Shard_Put_ok H)) rfl rfl ?_
                    rintro _ h142 ⟨r143, rfl, H⟩
                    refine ⟨trivial, ?_⟩
                    refine g_p 41 4398046511103 rfl (by kernel_rfl) (y_neq rfl rfl) rfl rfl ?_
                    refine g_p 42 8796093022207 rfl (by kernel_rfl) (y_pick_f rfl rfl) rfl rfl ?_
                    refine g_p 43 17592186044415 rfl (by kernel_rfl) (y_move rfl) rfl rfl ?_
                    refine g_split (t := 99) rfl (fun g144 => ?_) (fun g144 => ?_)
                    · replace H := H.1 g144
                      refine g_s 44 35184372088831 rfl (by kernel_rfl) rfl rfl ?_
                      refine g_s 45 70368744177663 rfl (by kernel_rfl) rfl rfl ?_
                      refine g_s 46 140737488355327 rfl (by kernel_rfl) rfl rfl ?_
                      refine g_s 47 281474976710655 rfl (by kernel_rfl) rfl rfl ?_
                      refine g_s 48 562949953421311 rfl (by kernel_rfl) rfl rfl ?_
                      refine g_s 49 1125899906842623 rfl (by kernel_rfl) rfl rfl ?_
                      refine g_s 50 2251799813685247 rfl (by kernel_rfl) rfl rfl ?_
                      refine g_s 51 4503599627370495 rfl (by kernel_rfl) rfl rfl ?_
                      refine g_s 52 9007199254740991 rfl (by kernel_rfl) rfl rfl ?_
                      refine g_s 53 18014398509481983 rfl (by kernel_rfl) rfl rfl ?_
                      refine g_p 54 36028797018963967 rfl (by kernel_rfl) (y_pick_t rfl rfl) rfl rfl ?_
                      refine g_d (by kernel_rfl) ?_
                      refine tr_thenN ?_
                      exact tr_join [(0, (.int .i64 x0)), (1, (.int .i64 x1)), (2, (.int .i64 x2)), (7, (.pointer x7)), (9, (.pointer (some x9))), (110, (.bool true))] ⟨rfl, rfl, rfl, rfl, rfl, rfl, trivial⟩ ⟨_, _, _, _, _, _, rfl, H⟩
                    · replace H := H.2 g144
                      refine g_p 44 35184372088831 rfl (by kernel_rfl) (y_move rfl) rfl rfl ?_
                      refine g_p 45 70368744177663 rfl (by kernel_rfl) (y_move rfl) rfl rfl ?_
                      refine g_p 46 140737488355327 rfl (by kernel_rfl) (y_move rfl) rfl rfl ?_
                      refine g_p 47 281474976710655 rfl (by kernel_rfl) (y_mul rfl rfl) rfl rfl ?_
                      obtain ⟨y145, k146, H⟩ := H
                      refine g_h 48 562949953421311 rfl (by kernel_rfl) (y_ldS Try.isAgg24 Try.sizeOf24 rfl rfl) k146 rfl rfl ?_
                      refine g_p 49 1125899906842623 rfl (by kernel_rfl) (y_move rfl) rfl rfl ?_
                      refine g_e 50 2251799813685247 [(48, fun h => Cells h x9 y145.cells)] (by kernel_rfl) rfl (by kernel_rfl) (e_call Try.call20 rfl (F.spatelaw7_one_ok H)) rfl rfl ?_
                      rintro _ h147 ⟨r148, rfl, H⟩
                      obtain ⟨k149, H⟩ := H
                      refine ⟨And.intro k149 trivial, ?_⟩
                      refine g_p 51 4503599627370495 rfl (by kernel_rfl) (f_build rfl (bd_43_0_1 y145 r148)) rfl rfl ?_
                      refine g_e 52 9007199254740991 [] (by kernel_rfl) rfl (by kernel_rfl) (e_call Try.call18 rfl (F.shard_Shard_Put_ok H)) rfl rfl ?_
                      rintro _ h150 ⟨r151, rfl, H⟩
                      refine ⟨trivial, ?_⟩
                      refine g_p 53 18014398509481983 rfl (by kernel_rfl) (y_neq rfl rfl) rfl rfl ?_
                      refine g_p 54 36028797018963967 rfl (by kernel_rfl) (y_pick_f rfl rfl) rfl rfl ?_
                      refine g_d (by kernel_rfl) ?_
                      refine tr_thenN ?_
                      exact tr_join [(0, (.int .i64 x0)), (1, (.int .i64 x1)), (2, (.int .i64 x2)), (7, (.pointer x7)), (9, (.pointer (some x9))), (110, (.bool ((r151 != 0))))] ⟨rfl, rfl, rfl, rfl, rfl, rfl, trivial⟩ ⟨_, _, _, _, _, _, rfl, H⟩
  · refine tr_seq_j (fun L' h => ∃ (x0 : Int) (x1 : Int) (x2 : Int) (x7 : Option Addr) (x38 : Bool), L' = [(0, (.int .i64 x0)), (1, (.int .i64 x1)), (2, (.int .i64 x2)), (7, (.pointer x7)), (38, (.bool x38))] ∧ F.spatelaw7_ShardDeep.j18 Q x0 x1 x2 x7 x38 h) ?_ ?_
    · rintro L' h ⟨x0, x1, x2, x7, x38, rfl, H⟩
      unfold F.spatelaw7_ShardDeep.j18 at H
      refine tr_cond rfl (fun g153 => ?_) (fun g153 => ?_)
      · replace H := H.1 g153
        refine tr_seq ?_
        refine tr_region ?_
        refine tr_p (y_assign rfl) rfl rfl ?_
        refine tr_nil ?_
        refine tr_thenN ?_
        refine tr_ret ?_
        refine tr_thenR ?_
        exact tr_ret1 rfl rfl ⟨_, rfl, H⟩
      · replace H := H.2 g153
        refine tr_skip ?_
        refine tr_thenN ?_
        exact tr_join [(0, (.int .i64 x0)), (1, (.int .i64 x1)), (2, (.int .i64 x2)), (7, (.pointer x7))] ⟨rfl, rfl, rfl, rfl, trivial⟩ ⟨_, _, _, _, rfl, H⟩
    · refine tr_region ?_
      refine tr_p (y_move rfl) rfl rfl ?_
      refine tr_p (y_neq rfl rfl) rfl rfl ?_
      refine tr_p (y_move rfl) rfl rfl ?_
      refine tr_split (t := 35) rfl (fun g154 => ?_) (fun g154 => ?_)
      · replace H := H.1 g154
        refine tr_s rfl rfl ?_
        refine tr_s rfl rfl ?_
        refine tr_p (y_pick_t rfl rfl) rfl rfl ?_
        refine tr_nil ?_
        refine tr_thenN ?_
        exact tr_join [(0, (.int .i64 (IntKind.wrap .i64 (1 + r2)))), (1, (.int .i64 (IntKind.wrap .i64 (1 + r4)))), (2, (.int .i64 (IntKind.wrap .i64 (1 + r6)))), (7, (.pointer r8)), (38, (.bool true))] ⟨rfl, rfl, rfl, rfl, rfl, trivial⟩ ⟨_, _, _, _, _, rfl, H⟩
      · replace H := H.2 g154
        refine tr_p (y_move rfl) rfl rfl ?_
        refine tr_p (y_pnil_eql Try.runUnderlying27 rfl rfl) rfl rfl ?_
        refine tr_p (y_pick_f rfl rfl) rfl rfl ?_
        refine tr_nil ?_
        refine tr_thenN ?_
        exact tr_join [(0, (.int .i64 (IntKind.wrap .i64 (1 + r2)))), (1, (.int .i64 (IntKind.wrap .i64 (1 + r4)))), (2, (.int .i64 (IntKind.wrap .i64 (1 + r6)))), (7, (.pointer r8)), (38, (.bool r8.isNone))] ⟨rfl, rfl, rfl, rfl, rfl, trivial⟩ ⟨_, _, _, _, _, rfl, H⟩
end Go.Proofs.Ytoccbnhahaoeiaa.V
namespace Go.Proofs.Ytoccbnhahaoeiaa.V
open Go
set_option linter.unusedVariables false
set_option linter.unusedSimpArgs false
abbrev Cel := S_api_Cell
theorem cU_one (b : UInt8) : ∀ v ∈ cU b, v.oneCell' = true := one1 rfl
theorem Blk.cells3 {h : H} {n : Nat} {c : Cel} {e : TypeId} (k : Blk h n c.cells.toArray e) : Cells h ⟨n, 0, none⟩ c.cells := fun j v hv => by rw [add_lit, Nat.zero_add]; exact k.cell (by simpa using hv)
def mayC (c : Cel) : Int := if c.View < 0 ∨ c.View > 4 then 23 else if (c.Key.size : Int) > 32 then 21 else if c.Start < -2305843009213693952 ∨ c.Start > 2305843009213693952 then 22 else 0
theorem mayC_spec {h : H} {c : Cel} {Q : Int → H → Prop} (k : ∀ h', Ext h h' → Q (mayC c) h') : F.merge_may c h Q := by
  unfold F.merge_may
  refine new_of fun n h1 e1 e2 e3 e4 => ?_
  have k := k h1 e3
  unfold mayC at k
  simp only [F.merge_may.j1, F.merge_may.j2, add_lit, Nat.zero_add, ldI_iff (e2.cell (i := 0) (v := .int .i64 c.View) rfl), ldS_iff (e2.cell (i := 1) (v := .string c.Key) rfl), ldI_iff (e2.cell (i := 2) (v := .int .i64 c.Start) rfl), decide_eq_true_eq, decide_eq_false_iff_not]
  have hb : ¬ (c.View < 0 ∨ c.View > 4) → ((c.Key.size : Int) > 32 → Q 21 h1) ∧ (¬ (c.Key.size : Int) > 32 → (c.Start < -2305843009213693952 → (True → Q 22 h1) ∧ (true = false → Q 0 h1)) ∧ (¬ c.Start < -2305843009213693952 → (c.Start > 2305843009213693952 → Q 22 h1) ∧ (¬ c.Start > 2305843009213693952 → Q 0 h1))) := fun g => by
    rw [if_neg g] at k
    refine ⟨fun g1 => by rw [if_pos g1] at k; exact k, fun g1 => ?_⟩
    rw [if_neg g1] at k
    refine ⟨fun g2 => ⟨fun _ => by rw [if_pos (.inl g2)] at k; exact k, fun h => by cases h⟩, fun g2 => ⟨fun g3 => by rw [if_pos (.inr g3)] at k; exact k, fun g3 => by rw [if_neg (by omega)] at k; exact k⟩⟩
  refine ⟨fun g => ⟨fun _ => by rw [if_pos (.inl g)] at k; exact k, fun h => by cases h⟩, fun g => ⟨fun g2 => by rw [if_pos (.inr g2)] at k; exact k, fun g2 => hb (by omega)⟩⟩
def escL : List UInt8 → List UInt8
  | [] => []
  | b :: r => if b = 0 then 0 :: 255 :: escL r else b :: escL r
theorem escL_snoc (b : UInt8) : ∀ l, escL (l ++ [b]) = escL l ++ (if b = 0 then [0, 255] else [b])
  | [] => by by_cases h : b = 0 <;> simp [escL, h]
  | x :: r => by simp only [List.cons_append, escL, escL_snoc b r]; split <;> simp
theorem escL_len : ∀ l : List UInt8, (escL l).length ≤ 2 * l.length
  | [] => by simp [escL]
  | b :: r => by have := escL_len r; simp only [escL]; split <;> simp <;> omega
def beT (u : Nat) : Nat → List UInt8
  | 0 => []
  | j + 1 => UInt8.ofNat (u / 2 ^ (8 * j)) :: beT u j
theorem beT_len (u : Nat) : ∀ j, (beT u j).length = j
  | 0 => rfl
  | j + 1 => by simp [beT, beT_len u j]
def upU (n : Int) : Nat := (IntKind.wrap .u64 (IntKind.wrap .u64 n + 9223372036854775808)).toNat
def keyL (c : Cel) : List UInt8 := UInt8.ofNat c.View.toNat :: (escL c.Key.data.toList ++ [0, 1] ++ beT (upU c.Start) 8)
theorem wrap_u64 (n : Int) : IntKind.wrap .u64 n = n % 18446744073709551616 := by
  unfold IntKind.wrap; simp [IntKind.bits, IntKind.signed]
theorem wrap_u8 (n : Int) : IntKind.wrap .u8 n = n % 256 := by
  unfold IntKind.wrap; simp [IntKind.bits, IntKind.signed]
theorem upU_eq (n : Int) : ((upU n : Nat) : Int) = IntKind.wrap .u64 (IntKind.wrap .u64 n + 9223372036854775808) := by
  unfold upU
  rw [Int.toNat_of_nonneg]
  rw [wrap_u64]; omega
theorem fdiv_pow (u i : Nat) : Int.fdiv (u : Int) (2 ^ i : Int) = ((u / 2 ^ i : Nat) : Int) := by
  have e : (2 ^ i : Int) = ((2 ^ i : Nat) : Int) := by simp
  rw [e, Int.ofNat_fdiv]
theorem u8_of (n : Nat) : ((UInt8.ofNat n).toNat : Int) = IntKind.wrap .u8 (n : Int) := by
  rw [wrap_u8]; simp
theorem key_tail {h0 : H} {u : Nat} {Q : ByteArray → Int → H → Prop} {L0 : List UInt8} (hL0 : L0.length ≤ 1000) (k : ∀ h', Ext h0 h' → Q ⟨(L0 ++ beT u 8).toArray⟩ 0 h') :
    ∀ (j m : Nat) (h : H) (s : Sl) (L : List UInt8), j ≤ 8 → j < m → Ext h0 h → Owns h s 5 1 (L.flatMap cU) → Mine h0 s → L ++ beT u j = L0 ++ beT u 8 → F.merge_Key.l2 Q m s (u : Int) (8 * (j : Int) - 8) h
  | j, 0, h, s, L, _, hm, _, _, _, _ => by omega
  | j, m + 1, h, s, L, hj, hm, e0, ow, mi, hL => by
    unfold F.merge_Key.l2
    simp only [decide_eq_true_eq, decide_eq_false_iff_not]
    have hlen : L.length + j = L0.length + 8 := by have := congrArg List.length hL; simpa [beT_len] using this
    refine ⟨fun g => ⟨g, ?_⟩, fun g => ?_⟩
    · obtain ⟨i, rfl⟩ : ∃ i, j = i + 1 := ⟨j - 1, by omega⟩
      have hb : IntKind.wrap .u8 (Int.fdiv (u : Int) (2 ^ (min (8 * ((i + 1 : Nat) : Int) - 8).toNat (IntKind.bits .u64)) : Int)) = ((UInt8.ofNat (u / 2 ^ (8 * i))).toNat : Int) := by
        rw [u8_of, show (8 * ((i + 1 : Nat) : Int) - 8).toNat = 8 * i from by omega, show min (8 * i) (IntKind.bits .u64) = 8 * i from by simp [IntKind.bits]; omega]
        rw [fdiv_pow]
      rw [hb]
      refine push_mine (f := cU) (UInt8.ofNat (u / 2 ^ (8 * i))) e0 mi cU_len (by omega) el_Sluint8 ow cU_one (by omega) fun r h1 q1 q2 q3 q4 q5 => ?_
      rw [w64 (by omega) (by omega), show 8 * ((i + 1 : Nat) : Int) - 8 - 8 = 8 * (i : Int) - 8 from by omega]
      refine key_tail hL0 k i m h1 r _ (by omega) (by omega) q2 q1 q3 ?_
      rw [← hL]; simp [beT]
    · have : j = 0 := by omega
      subst this
      refine cvtT_of (l := L) el_Sluint8.slice Try.underlying5 Try.underlying9 ow.reads ?_
      have : L = L0 ++ beT u 8 := by simpa [beT] using hL
      rw [this]; exact k h e0
theorem key_loop {h0 : H} {c : Cel} {n : Nat} {Q : ByteArray → Int → H → Prop} {pre : UInt8} (hk : c.Key.size ≤ 32) (k : ∀ h', Ext h0 h' → Q ⟨(pre :: (escL c.Key.data.toList ++ [0, 1] ++ beT (upU c.Start) 8)).toArray⟩ 0 h') (hn : h0.size ≤ n) :
    ∀ (m i : Nat) (h : H) (s : Sl), i ≤ c.Key.size → c.Key.size - i < m → Ext h0 h → Blk h n c.cells.toArray tn_api_Cell → n < h.size → Owns h s 5 1 ((pre :: escL (c.Key.data.toList.take i)).flatMap cU) → Mine h0 s → s.blk ≠ some n →
    F.merge_Key.l1 Q m ⟨n, 0, none⟩ s (c.Key.size : Int) (i : Int) h
  | 0, i, h, s, _, hm, _, _, _, _, _, _ => by omega
  | m + 1, i, h, s, hi, hm, e0, bl, hnl, ow, mi, hne => by
    unfold F.merge_Key.l1
    simp only [decide_eq_true_eq, decide_eq_false_iff_not, add_lit, Nat.zero_add]
    have hel := escL_len (c.Key.data.toList.take i)
    rw [List.length_take, ← size_data] at hel
    refine ⟨fun g => ?_, fun g => ?_⟩
    · rw [ldS_iff (bl.cell (i := 1) (v := .string c.Key) rfl)]
      obtain ⟨b, hb⟩ : ∃ b, c.Key.data.toList[i]? = some b := ⟨_, List.getElem?_eq_getElem (by rw [← size_data]; omega)⟩
      refine idxS_of hb rfl ?_
      have htk : escL (c.Key.data.toList.take (i + 1)) = escL (c.Key.data.toList.take i) ++ (if b = 0 then [0, 255] else [b]) := by rw [List.take_add_one, hb]; exact escL_snoc b _
      refine push_mine (f := cU) b e0 mi cU_len (by omega) el_Sluint8 ow cU_one (by simp; omega) fun r h1 q1 q2 q3 q4 q5 => ?_
      have bl1 : Blk h1 n c.cells.toArray tn_api_Cell := q4.block bl hne
      have hg1 := q4.size
      have hne1 : r.blk ≠ some n := by
        rcases q5 with q5 | ⟨x, q5, q6⟩
        · rw [q5]; exact hne
        · rw [q5]; intro e; cases e; omega
      rw [ldS_iff (bl1.cell (i := 1) (v := .string c.Key) rfl)]
      refine idxS_of hb rfl ?_
      have hw : IntKind.wrap .i64 ((i : Int) + 1) = ((i + 1 : Nat) : Int) := by rw [w64 (by omega) (by omega)]; omega
      rw [hw, beq_iff_eq, beq_eq_false_iff_ne]
      have hb0 : (b.toNat : Int) = 0 ↔ b = 0 := by
        constructor
        · intro h; exact UInt8.toNat_inj.1 (by simpa using (by omega : b.toNat = 0))
        · intro h; subst h; rfl
      rw [hb0, Ne, hb0]
      refine ⟨fun g2 => ?_, fun g2 => ?_⟩
      · refine push_mine (f := cU) 255 q2 q3 cU_len (by omega) el_Sluint8 q1 cU_one (by simp; omega) fun r2 h2 p1 p2 p3 p4 p5 => ?_
        have hne2 : r2.blk ≠ some n := by
          rcases p5 with p5 | ⟨x, p5, p6⟩
          · rw [p5]; exact hne1
          · rw [p5]; intro e; cases e; omega
        refine key_loop hk k hn m (i + 1) h2 r2 (by omega) (by omega) p2 (p4.block bl1 hne1) (by have := p4.size; omega) ?_ p3 hne2
        rw [htk, if_pos g2]; subst g2; simpa using p1
      · refine key_loop hk k hn m (i + 1) h1 r (by omega) (by omega) q2 bl1 (by omega) ?_ q3 hne1
        rw [htk, if_neg g2]; simpa using q1
    · have hii : i = c.Key.size := by omega
      subst hii
      refine newL_of fun x h1 e1 e2 e3 e4 => ?_
      refine app_mine (f := cU) (M := [0, 1]) (e0.trans e3) mi cU_len (by omega) el_Sluint8 (ow.ext e3) (blk_reads (show Blk h1 x (([0, 1] : List UInt8).flatMap cU).toArray 5 from e2) rfl) cU_one (by simp; omega) fun r h2 q1 q2 q3 q4 q5 => ?_
      have bl1 : Blk h2 n c.cells.toArray tn_api_Cell := q4.block (e3.block bl (fun f => f)) hne
      rw [ldI_iff (bl1.cell (i := 2) (v := .int .i64 c.Start) rfl), ← upU_eq]
      refine ⟨9, ?_⟩
      have ht : c.Key.data.toList.take c.Key.size = c.Key.data.toList := List.take_of_length_le (by rw [← size_data]; omega)
      rw [ht] at q1
      have hl2 := escL_len c.Key.data.toList
      rw [← size_data] at hl2
      refine key_tail (L0 := pre :: (escL c.Key.data.toList ++ [0, 1])) (by simp; omega) (by simpa using k) 8 9 h2 r _ (by omega) (by omega) q2 q1 q3 (by simp)
theorem Key_spec {h : H} {c : Cel} {Q : ByteArray → Int → H → Prop} (k0 : mayC c ≠ 0 → ∀ h', Ext h h' → Q ⟨#[]⟩ (mayC c) h') (k1 : mayC c = 0 → ∀ h', Ext h h' → Q ⟨(keyL c).toArray⟩ 0 h') : F.merge_Key c h Q := by
  unfold F.merge_Key
  refine new_of fun n h1 e1 e2 e3 e4 => ?_
  refine ⟨c, e2.cells3, mayC_spec fun h2 f1 => ?_⟩
  have e5 := e3.trans f1
  have bl : Blk h2 n c.cells.toArray tn_api_Cell := f1.block e2 (fun f => f)
  refine ⟨fun g => k0 (by simpa using g) h2 e5, fun g => ?_⟩
  have hm : mayC c = 0 := by simpa using g
  simp only [add_lit, Nat.zero_add]
  rw [ldI_iff (bl.cell (i := 0) (v := .int .i64 c.View) rfl)]
  have hv : 0 ≤ c.View ∧ c.View ≤ 4 ∧ c.Key.size ≤ 32 := by
    unfold mayC at hm
    split at hm
    · omega
    · split at hm
      · omega
      · omega
  have hw : IntKind.wrap .u8 c.View = ((UInt8.ofNat c.View.toNat).toNat : Int) := by rw [u8_of, Int.toNat_of_nonneg hv.1]
  rw [hw]
  refine newL_of fun x h3 g1 g2 g3 g4 => ?_
  have bl3 : Blk h3 n c.cells.toArray tn_api_Cell := g3.block bl (fun f => f)
  rw [ldS_iff (bl3.cell (i := 1) (v := .string c.Key) rfl)]
  have hs := e5.size
  have hs3 := e3.size
  have hf1 := f1.size
  refine ⟨c.Key.size + 1, ?_⟩
  refine key_loop (h0 := h) (pre := UInt8.ofNat c.View.toNat) hv.2.2 (fun h' e => k1 hm h' e) (by omega) _ 0 h3 _ (by omega) (by omega) (e5.trans g3) bl3 (by omega) (show Owns h3 ⟨some ⟨x, 0, none⟩, 1, 1⟩ 5 1 [.int .u8 ((UInt8.ofNat c.View.toNat).toNat : Int)] from blk_owns (m := 1) g2 rfl (by simp [maxLen])) (fun b hb => by simp [Sl.blk] at hb; omega) (by simp [Sl.blk]; omega)
end Go.Proofs.Ytoccbnhahaoeiaa.V
namespace Go.Proofs.Ytoccbnhahaoeiaa.V
open Go
set_option linter.unusedVariables false
set_option linter.unusedSimpArgs false
/-- The key's letters, and what lies behind them; or the error. -/
def unesc : List UInt8 → Except Int (List UInt8 × List UInt8)
  | [] => .error 11
  | b :: r => if b ≠ 0 then (match unesc r with | .ok p => .ok (b :: p.1, p.2) | .error e => .error e) else
    match r with
    | [] => .error 11
    | x :: r' => if x = 1 then .ok ([], r') else if x ≠ 255 then .error 12 else (match unesc r' with | .ok p => .ok (0 :: p.1, p.2) | .error e => .error e)
def beV : Nat → List UInt8 → Nat
  | u, [] => u
  | u, b :: r => beV (u * 256 + b.toNat) r
def zeroC : Cel := ⟨0, ⟨#[]⟩, 0⟩
def startOf (u : Nat) : Int := IntKind.wrap .i64 (IntKind.wrap .u64 ((u : Int) - 9223372036854775808))
def finC (v : UInt8) (key t : List UInt8) : Cel × Int :=
  if t.length < 8 then (zeroC, 11) else if t.length > 8 then (zeroC, 13) else
  if mayC ⟨(v.toNat : Int), ⟨key.toArray⟩, startOf (beV 0 t)⟩ ≠ 0 then (zeroC, mayC ⟨(v.toNat : Int), ⟨key.toArray⟩, startOf (beV 0 t)⟩) else (⟨(v.toNat : Int), ⟨key.toArray⟩, startOf (beV 0 t)⟩, 0)
def cellM : List UInt8 → Cel × Int
  | [] => (zeroC, 11)
  | v :: r => match unesc r with
    | .error e => (zeroC, e)
    | .ok p => finC v p.1 p.2
theorem unesc_ne {b : UInt8} {r : List UInt8} (h : b ≠ 0) : unesc (b :: r) = (match unesc r with | .ok p => .ok (b :: p.1, p.2) | .error e => .error e) := by
  rw [unesc.eq_def]; simp only [if_pos h]
theorem cellM_cons (v : UInt8) (r : List UInt8) : cellM (v :: r) = (match unesc r with | .error e => (zeroC, e) | .ok p => finC v p.1 p.2) := rfl
end Go.Proofs.Ytoccbnhahaoeiaa.V
namespace Go.Proofs.Ytoccbnhahaoeiaa.V
open Go
set_option linter.unusedVariables false
set_option linter.unusedSimpArgs false
theorem cmpB_eq : ∀ (a b : List UInt8), Lib.compareBytes a b = if a = b then 0 else if Op.bytesLess a b then -1 else 1
  | [], [] => rfl
  | [], _ :: _ => rfl
  | _ :: _, [] => rfl
  | a :: ra, b :: rb => by
    rw [Lib.compareBytes, cmpB_eq ra rb, Op.bytesLess]
    by_cases h1 : a < b
    · have : a ≠ b := fun e => by subst e; exact absurd h1 (by simp)
      simp [h1, this]
    · by_cases h2 : b < a
      · have : a ≠ b := fun e => by subst e; exact absurd h2 (by simp)
        simp [h1, h2, this]
      · have : a = b := UInt8.le_antisymm (UInt8.not_lt.1 h2) (UInt8.not_lt.1 h1)
        subst this
        simp
def cmpI (x y : Int) : Int := if x < y then -1 else if x > y then 1 else 0
def cmpC (a b : Cel) : Int := if cmpI a.View b.View ≠ 0 then cmpI a.View b.View else if cmpM a.Key b.Key ≠ 0 then cmpM a.Key b.Key else cmpI a.Start b.Start
theorem cmpC_self (a : Cel) : cmpC a a = 0 := by
  unfold cmpC cmpI cmpM
  rw [cmpB_eq]; simp
end Go.Proofs.Ytoccbnhahaoeiaa.V
namespace Go.Proofs.Ytoccbnhahaoeiaa.V
open Go
set_option linter.unusedVariables false
set_option linter.unusedSimpArgs false
theorem cB_zero {x y : List UInt8} : Lib.compareBytes x y = 0 ↔ x = y := by
  rw [cmpB_eq]
  split
  · rename_i h; simp [h]
  · rename_i h; split <;> simp [h]
theorem u8_tri (a b : UInt8) : a < b ∨ a = b ∨ b < a := by
  by_cases h1 : a < b
  · exact .inl h1
  · by_cases h2 : b < a
    · exact .inr (.inr h2)
    · exact .inr (.inl (UInt8.le_antisymm (UInt8.not_lt.1 h2) (UInt8.not_lt.1 h1)))
theorem u8_asym {a b : UInt8} (h : a < b) : ¬ b < a := fun h2 => by
  rw [UInt8.lt_iff_toNat_lt] at h h2; omega
theorem u8_irr (a : UInt8) : ¬ a < a := fun h => by
  rw [UInt8.lt_iff_toNat_lt] at h; omega
theorem cB_anti : ∀ (x y : List UInt8), Lib.compareBytes x y = - Lib.compareBytes y x
  | [], [] => rfl
  | [], _ :: _ => rfl
  | _ :: _, [] => rfl
  | a :: x, b :: y => by
    have ih := cB_anti x y
    simp only [Lib.compareBytes]
    rcases u8_tri a b with h | h | h
    · simp [h, u8_asym h]
    · subst h; simp [u8_irr, ih]
    · simp [h, u8_asym h]
theorem cB_range (x y : List UInt8) : Lib.compareBytes x y = -1 ∨ Lib.compareBytes x y = 0 ∨ Lib.compareBytes x y = 1 := by
  rw [cmpB_eq]; split
  · simp
  · split <;> simp
theorem cB_trans : ∀ (x y z : List UInt8), Lib.compareBytes x y = -1 → Lib.compareBytes y z = -1 → Lib.compareBytes x z = -1
  | [], [], z, h, _ => by simp [Lib.compareBytes] at h
  | [], b :: y, [], _, h => by simp [Lib.compareBytes] at h
  | [], b :: y, c :: z, _, _ => rfl
  | a :: x, [], z, h, _ => by simp [Lib.compareBytes] at h
  | a :: x, b :: y, [], _, h => by simp [Lib.compareBytes] at h
  | a :: x, b :: y, c :: z, h1, h2 => by
    simp only [Lib.compareBytes] at h1 h2 ⊢
    rcases u8_tri a b with g | g | g
    · rcases u8_tri b c with g2 | g2 | g2
      · have : a < c := by rw [UInt8.lt_iff_toNat_lt] at *; omega
        simp [this]
      · subst g2; simp [g]
      · simp [g2, u8_asym g2] at h2
    · subst g
      simp only [u8_irr, if_false] at h1
      rcases u8_tri a c with g2 | g2 | g2
      · simp [g2]
      · subst g2
        simp only [u8_irr, if_false] at h2 ⊢
        exact cB_trans x y z h1 h2
      · simp [g2, u8_asym g2] at h2
    · simp [g, u8_asym g] at h1
theorem cI_anti (x y : Int) : cmpI x y = - cmpI y x := by
  unfold cmpI
  rcases Int.lt_trichotomy x y with h | h | h
  · rw [if_pos h, if_neg (by omega), if_pos (by omega)]
  · subst h; simp
  · rw [if_neg (by omega), if_pos (by omega), if_pos (by omega)]; rfl
theorem cI_zero {x y : Int} : cmpI x y = 0 ↔ x = y := by
  unfold cmpI
  split
  · constructor <;> intro <;> omega
  · split
    · constructor <;> intro <;> omega
    · constructor <;> intro <;> omega
theorem cI_range (x y : Int) : cmpI x y = -1 ∨ cmpI x y = 0 ∨ cmpI x y = 1 := by
  unfold cmpI; split
  · simp
  · split <;> simp
theorem cI_lt {x y : Int} : cmpI x y = -1 ↔ x < y := by
  unfold cmpI
  split
  · constructor <;> intro <;> omega
  · split
    · constructor <;> intro <;> omega
    · constructor <;> intro <;> omega
theorem cC_anti (a b : Cel) : cmpC a b = - cmpC b a := by
  unfold cmpC cmpM
  rw [cI_anti a.View b.View, cB_anti a.Key.data.toList b.Key.data.toList, cI_anti a.Start b.Start]
  split <;> split <;> simp_all <;> omega
theorem cC_range (a b : Cel) : cmpC a b = -1 ∨ cmpC a b = 0 ∨ cmpC a b = 1 := by
  unfold cmpC cmpM
  split
  · exact cI_range _ _
  · split
    · exact cB_range _ _
    · exact cI_range _ _
theorem key_ext {a b : ByteArray} (h : a.data.toList = b.data.toList) : a = b := by
  obtain ⟨x⟩ := a
  obtain ⟨y⟩ := b
  congr 1
  exact Array.toList_inj.1 h
theorem cC_zero {a b : Cel} : cmpC a b = 0 ↔ a = b := by
  constructor
  · intro h
    unfold cmpC cmpM at h
    split at h
    · rename_i g; exact absurd h g
    · rename_i g
      split at h
      · rename_i g2; exact absurd h g2
      · rename_i g2
        have h1 := cI_zero.1 (Classical.not_not.1 g)
        have h2 := key_ext (cB_zero.1 (Classical.not_not.1 g2))
        have h3 := cI_zero.1 h
        obtain ⟨v, k, s⟩ := a
        obtain ⟨v', k', s'⟩ := b
        simp only at h1 h2 h3
        rw [h1, h2, h3]
  · rintro rfl; exact cmpC_self a
theorem cC_lt {a b : Cel} : cmpC a b = -1 ↔ cmpI a.View b.View = -1 ∨ (a.View = b.View ∧ (Lib.compareBytes a.Key.data.toList b.Key.data.toList = -1 ∨ (a.Key.data.toList = b.Key.data.toList ∧ a.Start < b.Start))) := by
  unfold cmpC cmpM
  have r1 := cI_range a.View b.View
  have r2 := cB_range a.Key.data.toList b.Key.data.toList
  have z1 := cI_zero (x := a.View) (y := b.View)
  have z2 := cB_zero (x := a.Key.data.toList) (y := b.Key.data.toList)
  have l3 := cI_lt (x := a.Start) (y := b.Start)
  by_cases h1 : cmpI a.View b.View = 0
  · rw [if_neg (by simp [h1])]
    have e1 := z1.1 h1
    by_cases h2 : Lib.compareBytes a.Key.data.toList b.Key.data.toList = 0
    · rw [if_neg (by simp [h2])]
      have e2 := z2.1 h2
      rw [l3]
      constructor
      · intro h; exact .inr ⟨e1, .inr ⟨e2, h⟩⟩
      · intro h
        rcases h with h | ⟨_, h | h⟩
        · omega
        · omega
        · exact h.2
    · rw [if_pos h2]
      constructor
      · intro h; exact .inr ⟨e1, .inl h⟩
      · intro h
        rcases h with h | ⟨_, h | h⟩
        · omega
        · exact h
        · exact absurd (z2.2 h.1) h2
  · rw [if_pos h1]
    constructor
    · intro h; exact .inl h
    · intro h
      rcases h with h | h
      · exact h
      · exact absurd (z1.2 h.1) h1
theorem cC_trans {a b c : Cel} (h1 : cmpC a b = -1) (h2 : cmpC b c = -1) : cmpC a c = -1 := by
  rw [cC_lt] at *
  rcases h1 with h1 | ⟨e1, h1⟩
  · rw [cI_lt] at h1
    rcases h2 with h2 | ⟨e2, _⟩
    · rw [cI_lt] at h2; exact .inl (cI_lt.2 (by omega))
    · exact .inl (cI_lt.2 (by omega))
  · rcases h2 with h2 | ⟨e2, h2⟩
    · rw [cI_lt] at h2; exact .inl (cI_lt.2 (by omega))
    · refine .inr ⟨by omega, ?_⟩
      rcases h1 with h1 | ⟨k1, h1⟩
      · rcases h2 with h2 | ⟨k2, h2⟩
        · exact .inl (cB_trans _ _ _ h1 h2)
        · rw [← k2]; exact .inl h1
      · rcases h2 with h2 | ⟨k2, h2⟩
        · rw [k1]; exact .inl h2
        · exact .inr ⟨k1.trans k2, by omega⟩
theorem esc_cmp : ∀ (k1 k2 t1 t2 : List UInt8), Lib.compareBytes (escL k1 ++ 0 :: 1 :: t1) (escL k2 ++ 0 :: 1 :: t2) = if Lib.compareBytes k1 k2 ≠ 0 then Lib.compareBytes k1 k2 else Lib.compareBytes t1 t2
  | [], [], t1, t2 => by simp [escL, Lib.compareBytes, u8_irr]
  | [], b :: k2, t1, t2 => by
    simp only [escL]
    by_cases hb : b = 0
    · subst hb; simp [Lib.compareBytes, u8_irr, show (1 : UInt8) < 255 from by decide]
    · have : (0 : UInt8) < b := by
        rcases u8_tri 0 b with h | h | h
        · exact h
        · exact absurd h.symm hb
        · rw [UInt8.lt_iff_toNat_lt] at h; simp at h
      simp [hb, Lib.compareBytes, this]
  | a :: k1, [], t1, t2 => by
    simp only [escL]
    by_cases hb : a = 0
    · subst hb; simp [Lib.compareBytes, u8_irr, show (1 : UInt8) < 255 from by decide, show ¬ (255 : UInt8) < 1 from by decide]
    · have : (0 : UInt8) < a := by
        rcases u8_tri 0 a with h | h | h
        · exact h
        · exact absurd h.symm hb
        · rw [UInt8.lt_iff_toNat_lt] at h; simp at h
      simp [hb, Lib.compareBytes, this, u8_asym this]
  | a :: k1, b :: k2, t1, t2 => by
    have ih := esc_cmp k1 k2 t1 t2
    have pos : ∀ x : UInt8, x ≠ 0 → (0 : UInt8) < x := fun x hx => by
      rcases u8_tri 0 x with h | h | h
      · exact h
      · exact absurd h.symm hx
      · rw [UInt8.lt_iff_toNat_lt] at h; simp at h
    rcases u8_tri a b with h | h | h
    · have hb0 : b ≠ 0 := fun e => by subst e; rw [UInt8.lt_iff_toNat_lt] at h; simp at h
      by_cases ha : a = 0
      · subst ha; simp [escL, hb0, Lib.compareBytes, h]
      · simp [escL, hb0, ha, Lib.compareBytes, h]
    · subst h
      by_cases ha : a = 0
      · subst ha; simp [escL, Lib.compareBytes, u8_irr, ih]
      · simp [escL, ha, Lib.compareBytes, u8_irr, ih]
    · have ha0 : a ≠ 0 := fun e => by subst e; rw [UInt8.lt_iff_toNat_lt] at h; simp at h
      by_cases hb : b = 0
      · subst hb; simp [escL, ha0, Lib.compareBytes, h, u8_asym h]
      · simp [escL, ha0, hb, Lib.compareBytes, h, u8_asym h]
def cmpN (u v : Nat) : Int := if u < v then -1 else if v < u then 1 else 0
theorem be_cmp : ∀ (j u v : Nat), Lib.compareBytes (beT u j) (beT v j) = cmpN (u % 2 ^ (8 * j)) (v % 2 ^ (8 * j))
  | 0, u, v => by simp [beT, Lib.compareBytes, cmpN, Nat.mod_one]
  | j + 1, u, v => by
    have ih := be_cmp j u v
    simp only [beT, Lib.compareBytes, ih]
    have e : 2 ^ (8 * (j + 1)) = 2 ^ (8 * j) * 256 := by rw [show 8 * (j + 1) = 8 * j + 8 from by omega, Nat.pow_add]
    have hu : u % 2 ^ (8 * (j + 1)) = u % 2 ^ (8 * j) + 2 ^ (8 * j) * (u / 2 ^ (8 * j) % 256) := by rw [e, Nat.mod_mul]
    have hv : v % 2 ^ (8 * (j + 1)) = v % 2 ^ (8 * j) + 2 ^ (8 * j) * (v / 2 ^ (8 * j) % 256) := by rw [e, Nat.mod_mul]
    rw [hu, hv]
    have pu := Nat.mod_lt u (Nat.two_pow_pos (8 * j))
    have pv := Nat.mod_lt v (Nat.two_pow_pos (8 * j))
    simp only [UInt8.lt_iff_toNat_lt, UInt8.toNat_ofNat']
    have e8 : (2 : Nat) ^ 8 = 256 := by decide
    rw [e8]
    generalize u / 2 ^ (8 * j) % 256 = x at *
    generalize v / 2 ^ (8 * j) % 256 = y at *
    generalize u % 2 ^ (8 * j) = p at *
    generalize v % 2 ^ (8 * j) = q at *
    generalize 2 ^ (8 * j) = B at *
    unfold cmpN
    rcases Nat.lt_trichotomy x y with h | h | h
    · have : B * (x + 1) ≤ B * y := Nat.mul_le_mul_left _ h
      rw [Nat.mul_add, Nat.mul_one] at this
      rw [if_pos h, if_pos (by omega)]
    · subst h
      rw [if_neg (by omega), if_neg (by omega)]
      by_cases h1 : p < q
      · rw [if_pos h1, if_pos (by omega)]
      · rw [if_neg h1, if_neg (show ¬ (p + B * x < q + B * x) by omega)]
        by_cases h2 : q < p
        · rw [if_pos h2, if_pos (by omega)]
        · rw [if_neg h2, if_neg (by omega)]
    · have : B * (y + 1) ≤ B * x := Nat.mul_le_mul_left _ h
      rw [Nat.mul_add, Nat.mul_one] at this
      rw [if_neg (by omega), if_pos h, if_neg (by omega), if_pos (by omega)]
abbrev I64n (n : Int) : Prop := -9223372036854775808 ≤ n ∧ n < 9223372036854775808
theorem upU_val {n : Int} (h : I64n n) : (upU n : Int) = n + 9223372036854775808 := by
  rw [upU_eq, wrap_u64, wrap_u64]; omega
theorem may_view {c : Cel} (h : mayC c = 0) : 0 ≤ c.View ∧ c.View ≤ 4 ∧ c.Key.size ≤ 32 := by
  unfold mayC at h
  split at h
  · omega
  · split at h
    · omega
    · omega
theorem key_cmp {a b : Cel} (ha : mayC a = 0) (hb : mayC b = 0) (ia : I64n a.Start) (ib : I64n b.Start) : Lib.compareBytes (keyL a) (keyL b) = cmpC a b := by
  obtain ⟨a1, a2, a3⟩ := may_view ha
  obtain ⟨b1, b2, b3⟩ := may_view hb
  unfold keyL cmpC cmpM
  simp only [Lib.compareBytes, List.append_assoc, List.cons_append, List.nil_append]
  rw [esc_cmp, be_cmp]
  have ua := upU_val ia
  have ub := upU_val ib
  have e8 : (2 : Nat) ^ (8 * 8) = 18446744073709551616 := by decide
  rw [e8, Nat.mod_eq_of_lt (by omega), Nat.mod_eq_of_lt (by omega)]
  have hN : cmpN (upU a.Start) (upU b.Start) = cmpI a.Start b.Start := by
    unfold cmpN cmpI
    by_cases h1 : a.Start < b.Start
    · rw [if_pos h1, if_pos (by omega)]
    · rw [if_neg h1, if_neg (by omega)]
      by_cases h2 : a.Start > b.Start
      · rw [if_pos h2, if_pos (by omega)]
      · rw [if_neg h2, if_neg (by omega)]
  rw [hN]
  have va : (UInt8.ofNat a.View.toNat).toNat = a.View.toNat := by rw [UInt8.toNat_ofNat']; omega
  have vb : (UInt8.ofNat b.View.toNat).toNat = b.View.toNat := by rw [UInt8.toNat_ofNat']; omega
  simp only [UInt8.lt_iff_toNat_lt, va, vb]
  unfold cmpI
  rcases Int.lt_trichotomy a.View b.View with h | h | h
  · rw [if_pos (by omega), if_pos (by rw [if_pos h]; omega), if_pos h]
  · rw [h, if_neg (by omega), if_neg (by omega)]; simp
  · rw [if_neg (by omega), if_pos (by omega), if_pos (by rw [if_neg (by omega), if_pos (by omega)]; omega), if_neg (by omega), if_pos (by omega)]
theorem unesc_esc : ∀ (k t : List UInt8), unesc (escL k ++ 0 :: 1 :: t) = .ok (k, t)
  | [], t => by
    show unesc (0 :: 1 :: t) = _
    rw [unesc.eq_def]; simp
  | b :: k, t => by
    have ih := unesc_esc k t
    by_cases hb : b = 0
    · subst hb
      simp only [escL, if_true, List.cons_append]
      rw [unesc.eq_def]
      simp [ih]
    · simp only [escL, if_neg hb, List.cons_append]
      rw [unesc_ne hb, ih]
theorem beV_beT : ∀ (j u w : Nat), beV w (beT u j) = w * 2 ^ (8 * j) + u % 2 ^ (8 * j)
  | 0, u, w => by simp [beT, beV, Nat.mod_one]
  | j + 1, u, w => by
    rw [beT, beV, beV_beT j, UInt8.toNat_ofNat']
    have e : 2 ^ (8 * (j + 1)) = 2 ^ (8 * j) * 256 := by rw [show 8 * (j + 1) = 8 * j + 8 from by omega, Nat.pow_add]
    have hu : u % 2 ^ (8 * (j + 1)) = u % 2 ^ (8 * j) + 2 ^ (8 * j) * (u / 2 ^ (8 * j) % 256) := by rw [e, Nat.mod_mul]
    have e8 : (2 : Nat) ^ 8 = 256 := by decide
    rw [hu, e, e8, Nat.add_mul, Nat.mul_comm (u / 2 ^ (8 * j) % 256), Nat.mul_assoc w 256, Nat.mul_comm 256 (2 ^ (8 * j))]
    omega
theorem cell_back {c : Cel} (h : mayC c = 0) (i : I64n c.Start) : cellM (keyL c) = (c, 0) := by
  obtain ⟨a1, a2, a3⟩ := may_view h
  have u := upU_val i
  unfold keyL
  rw [cellM_cons]
  simp only [List.append_assoc, List.cons_append, List.nil_append]
  rw [unesc_esc]
  simp only [finC, beT_len]
  rw [if_neg (by omega), if_neg (by omega), beV_beT]
  have e8 : (2 : Nat) ^ (8 * 8) = 18446744073709551616 := by decide
  have hs : startOf (0 * 2 ^ (8 * 8) + upU c.Start % 2 ^ (8 * 8)) = c.Start := by
    rw [e8, Nat.mod_eq_of_lt (by omega)]
    unfold startOf
    rw [wrap_u64, Nat.zero_mul, Nat.zero_add, u]
    unfold IntKind.wrap
    simp [IntKind.bits, IntKind.signed]
    omega
  rw [hs]
  have hv : (((UInt8.ofNat c.View.toNat).toNat : Nat) : Int) = c.View := by rw [UInt8.toNat_ofNat']; omega
  rw [hv]
  have hc : (⟨c.View, ⟨c.Key.data.toList.toArray⟩, c.Start⟩ : Cel) = c := by
    obtain ⟨v, ⟨k⟩, s⟩ := c
    simp
  rw [hc, if_neg (by simpa using h)]
section
variable {h0 h : H} {n m q : Nat} {a b c : Cel} {Q : Bool → H → Prop}
end
end Go.Proofs.Ytoccbnhahaoeiaa.V
namespace Go.Proofs.Ytoccbnhahaoeiaa.V
open Go
set_option linter.unusedVariables false
set_option linter.unusedSimpArgs false
theorem Blk.cells {h : H} {n : Nat} {cs : List Value} {e : TypeId} (b : Blk h n cs.toArray e) : Cells h ⟨n, 0, none⟩ cs := fun i v hv => by
  rw [add_lit, Nat.zero_add]
  exact b.cell (by simpa using hv)
section
variable {P : Program} {h : H}
end
end Go.Proofs.Ytoccbnhahaoeiaa.V
namespace Go.Proofs.Ytoccbnhahaoeiaa.V.C
open Go Go.Proofs.Ytoccbnhahaoeiaa.V
set_option linter.unusedVariables false
set_option linter.unusedSimpArgs false
set_option maxRecDepth 20000
abbrev Ver := S_chain_version_api_Agg
theorem ver_len (x : Ver) : x.cells.length = 6 := rfl
/-- A chain: its own block p; the row that it owns, B; its versions L. -/
def Ch (h : H) (p : Nat) (L : List Ver) (B : Option Nat) : Prop :=
  ∃ s : Sl, Blk h p #[s.enc] tn_chain_Chain_api_Agg ∧ Owns h s tn_chain_version_api_Agg 6 (L.flatMap (·.cells)) ∧ s.blk = B ∧ B ≠ some p
theorem Ch.len {h : H} {s : Sl} {L : List Ver} (o : Owns h s tn_chain_version_api_Agg 6 (L.flatMap (·.cells))) : s.len = L.length := by
  have := o.1
  rw [flat_len _ 6 ver_len] at this
  omega
theorem Ch.at {h : H} {s : Sl} {L : List Ver} (o : Owns h s tn_chain_version_api_Agg 6 (L.flatMap (·.cells))) {i : Nat} {x : Ver} (hx : L[i]? = some x) :
    ∃ b, s.ptr = some ⟨b, 0, none⟩ ∧ cellH h ⟨b, i * 6, none⟩ = some (.int .i64 x.epoch) ∧ Cells h ⟨b, i * 6 + 1, none⟩ x.value.cells ∧ cellH h ⟨b, i * 6 + 5, none⟩ = some (.bool x.dead) ∧ Cells h ⟨b, i * 6, none⟩ x.cells := by
  obtain ⟨b, h1, h2⟩ := own_at (f := fun x : Ver => x.cells) ver_len (by omega) o hx
  have e : ∀ j v, x.cells[j]? = some v → cellH h ⟨b, i * 6 + j, none⟩ = some v := fun j v hv => by
    have := h2 j v hv
    rwa [add_lit] at this
  refine ⟨b, h1, e 0 _ rfl, fun j v hv => ?_, e 5 _ rfl, h2⟩
  rw [add_lit]
  match j, hv with
  | 0, hv => exact e 1 v hv
  | 1, hv => exact e 2 v hv
  | 2, hv => exact e 3 v hv
  | 3, hv => exact e 4 v hv
  | j + 4, hv => simp [S_api_Agg.cells] at hv
theorem Ch.only {S : Nat → Prop} {h h' : H} {p : Nat} {L : List Ver} {B : Option Nat} (c : Ch h p L B) (o : Only S h h') (hp : ¬ S p) (hB : ∀ b, B = some b → ¬ S b) : Ch h' p L B := by
  obtain ⟨s, h1, h2, h3, h4⟩ := c
  exact ⟨s, o.block h1 hp, h2.only o (by rw [h3]; exact hB), h3, h4⟩
theorem Ch.ext {h h' : H} {p : Nat} {L : List Ver} {B : Option Nat} (c : Ch h p L B) (o : Ext h h') : Ch h' p L B := c.only o (fun f => f) fun _ _ f => f
theorem Ch.lt {h : H} {p : Nat} {L : List Ver} {B : Option Nat} (c : Ch h p L B) : p < h.size := by obtain ⟨s, h1, _⟩ := c; exact block_lt h1
theorem Ch.ltB {h : H} {p : Nat} {L : List Ver} {B : Option Nat} (c : Ch h p L B) : ∀ b, B = some b → b < h.size := fun b hb => by
  obtain ⟨s, h1, h2, h3, _⟩ := c; exact h2.blk_lt (by rw [h3]; exact hb)
def lastE (L : List Ver) : Int := match L.getLast? with | some x => x.epoch | none => 0
def mayM (L : List Ver) (e : Int) : Int := if e < 1 ∨ e > 1099511627776 then 1 else if L ≠ [] ∧ e < lastE L then 32 else 0
def layM (L : List Ver) (x : Ver) : List Ver := if L ≠ [] ∧ lastE L = x.epoch then L.dropLast ++ [x] else L ++ [x]
def layN (L : List Ver) (x : Ver) : Int := if L ≠ [] ∧ lastE L = x.epoch then 0 else 1
theorem last_get {L : List Ver} (h : L ≠ []) : L[L.length - 1]? = some (L.getLast h) := by
  rw [← List.getLast?_eq_getElem?, List.getLast?_eq_some_getLast h]
theorem New_spec {h : H} {Q : Option Addr → H → Prop} (k : ∀ p h', p = h.size → Ch h' p [] none → Ext h h' → Q (some ⟨p, 0, none⟩) h') : F.chain_New_api_Agg h Q := by
  unfold F.chain_New_api_Agg
  refine new_of fun n h' e1 e2 e3 e4 => k n h' e1 ⟨⟨none, 0, 0⟩, e2, Owns.nil _ _ _, rfl, by simp⟩ e3
theorem may_spec {h : H} {p : Nat} {L : List Ver} {B : Option Nat} {e : Int} {Q : Int → H → Prop} (c : Ch h p L B) (hL : L.length < 4294967296) (k : Q (mayM L e) h) : F.chain_Chain_api_Agg_may (some ⟨p, 0, none⟩) e h Q := by
  obtain ⟨s, hb, ho, hB, hne⟩ := c
  have hl := Ch.len ho
  have hc0 : cellH h ⟨p, 0, none⟩ = some s.enc := hb.cell rfl
  unfold mayM at k
  simp only [F.chain_Chain_api_Agg_may, F.chain_Chain_api_Agg_may.j1, F.chain_Chain_api_Agg_may.j2, nn_some, add_lit, Nat.add_zero, ldL_iff hc0, decide_eq_true_eq, decide_eq_false_iff_not, hl]
  refine ⟨fun g => ⟨fun _ => by rw [if_pos (.inl g)] at k; exact k, fun h => by cases h⟩, fun g => ⟨fun g2 => by rw [if_pos (.inr g2)] at k; exact k, fun g2 => ?_⟩⟩
  rw [if_neg (by omega)] at k
  by_cases hn : L = []
  · subst hn
    simp at k ⊢
    exact k
  · have hpos : 0 < L.length := List.length_pos_iff.2 hn
    obtain ⟨b, h1, h2, _⟩ := Ch.at ho (last_get hn)
    refine ⟨fun _ => ?_, fun h => by omega⟩
    refine idxA_of (i := L.length - 1) h1 (by omega) (by rw [w64 (by omega) (by omega)]; omega) ?_
    simp only [add_lit, Nat.add_zero]
    rw [ldI_iff h2]
    have hle : lastE L = (L.getLast hn).epoch := by unfold lastE; rw [List.getLast?_eq_some_getLast hn]
    rw [← hle]
    by_cases hlt : e < lastE L
    · rw [if_pos ⟨hn, hlt⟩] at k; exact ⟨fun _ => k, fun h => absurd hlt h⟩
    · rw [if_neg (fun h => hlt h.2)] at k; exact ⟨fun h => absurd h hlt, fun _ => k⟩
end Go.Proofs.Ytoccbnhahaoeiaa.V.C
namespace Go.Proofs.Ytoccbnhahaoeiaa.V.C
open Go Go.Proofs.Ytoccbnhahaoeiaa.V
set_option linter.unusedVariables false
set_option linter.unusedSimpArgs false
set_option maxRecDepth 20000
/-- What a method may turn of a chain. -/
abbrev FP (p : Nat) (B : Option Nat) : Nat → Prop := fun b => b = p ∨ B = some b
def Kin (n : Nat) (B B' : Option Nat) : Prop := B' = B ∨ B' = none ∨ ∃ b, B' = some b ∧ n ≤ b
theorem lay_spec {h : H} {p : Nat} {L : List Ver} {B : Option Nat} {x : Ver} {Q : Int → H → Prop} (c : Ch h p L B) (hL : L.length < 4294967296)
    (k : ∀ h' B', Ch h' p (layM L x) B' → Only (FP p B) h h' → Kin h.size B B' → Q (layN L x) h') : F.chain_Chain_api_Agg_lay (some ⟨p, 0, none⟩) x h Q := by
  have hp := c.lt
  unfold F.chain_Chain_api_Agg_lay
  refine new_of fun n h1 e1 e2 e3 e4 => ?_
  have c1 := c.ext e3
  obtain ⟨s, hb, ho, hB, hne⟩ := c1
  have hl := Ch.len ho
  have hc0 : cellH h1 ⟨p, 0, none⟩ = some s.enc := hb.cell rfl
  have hx0 : cellH h1 ⟨n, 0, none⟩ = some (.int .i64 x.epoch) := e2.cell rfl
  have hxc : Cells h1 ⟨n, 0, none⟩ x.cells := fun j v hv => by rw [add_lit, Nat.zero_add]; exact e2.cell (by simpa using hv)
  -- the new version is appended
  have happ : ¬ (L ≠ [] ∧ lastE L = x.epoch) → F.chain_Chain_api_Agg_lay.j1 Q (some ⟨p, 0, none⟩) ⟨n, 0, none⟩ h1 := fun hno => by
    unfold F.chain_Chain_api_Agg_lay.j1
    simp only [nn_some, add_lit, Nat.add_zero]
    rw [ldL_iff hc0]
    refine ⟨x, hxc, ?_⟩
    refine newL_of fun n2 h2 f1 f2 f3 f4 => ?_
    refine ⟨f3.cell hc0 (fun f => f), ?_⟩
    refine app_of (ys := x.cells) el_Slchain_version_api_Agg (ho.only f3 (fun _ _ f => f)) (blk_reads (by simpa using f2) rfl) (ones_S_chain_version_api_Agg x) (by simp only; omega) fun r h3 r1 r2 r3 r4 => ?_
    have hb3 : Blk h3 p #[s.enc] tn_chain_Chain_api_Agg := r3.block (f3.block hb (fun f => f)) (by rw [hB]; exact hne)
    refine stH_of hb3 (by simp) fun h4 g1 g2 g3 => ?_
    have hr1 : r.blk ≠ some p := by
      rcases r4 with r4 | ⟨b, r4, r5⟩
      · rw [r4, hB]; exact hne
      · rw [r4]; intro e; cases e; omega
    have hm : layM L x = L ++ [x] := if_neg hno
    have hn : layN L x = 1 := if_neg hno
    rw [← hn]
    refine k h4 r.blk ⟨r, g1, ?_, rfl, hr1⟩ ?_ ?_
    · rw [hm, List.flatMap_append]
      exact (by simpa using r1 : Owns h3 r tn_chain_version_api_Agg 6 (L.flatMap (·.cells) ++ x.cells)).only g2 (fun b hb e => hr1 (by rw [hb, e])) |> (by simpa using ·)
    · refine (((e3.only (S := FP p B)).ext f3).trans r3 fun m _ e => .inr (by rw [← hB]; exact e)).trans g2 fun m _ e => .inl e
    · rcases r4 with r4 | ⟨b, r4, r5⟩
      · exact .inl (by rw [r4, hB])
      · exact .inr (.inr ⟨b, r4, by omega⟩)
  -- the newest version is written anew
  have hset : L ≠ [] ∧ lastE L = x.epoch → F.chain_Chain_api_Agg_lay.j2 Q (some ⟨p, 0, none⟩) ⟨n, 0, none⟩ (L.length : Int) true h1 := fun hyes => by
    have hpos : 0 < L.length := List.length_pos_iff.2 hyes.1
    obtain ⟨b, a1, a2, a3, a4, a5⟩ := Ch.at ho (last_get hyes.1)
    refine ⟨fun _ => ?_, fun h => by cases h⟩
    simp only [nn_some, add_lit, Nat.add_zero]
    rw [ldL_iff hc0]
    refine ⟨x, hxc, ?_⟩
    refine idxA_of (i := L.length - 1) a1 (by omega) (by rw [w64 (by omega) (by omega)]; omega) ?_
    have hfl := flat_len (·.cells) 6 ver_len L
    refine own_set ho a1 (by rw [hfl]; simp [S_chain_version_api_Agg.cells, S_api_Agg.cells]; omega) fun h4 g1 g2 g3 => ?_
    have hm : layM L x = L.dropLast ++ [x] := if_pos hyes
    have hn : layN L x = 0 := if_pos hyes
    rw [← hn]
    refine k h4 B ⟨s, g2.block hb (by rw [hB]; exact hne), ?_, hB, hne⟩ ((e3.only (S := FP p B)).trans g2 fun m _ e => .inr (by rw [← hB]; exact e)) (.inl rfl)
    rw [hm, List.flatMap_append]
    have e1 : (L.flatMap (·.cells)).take ((L.length - 1) * 6) = L.dropLast.flatMap (·.cells) := by
      have hd : L = L.dropLast ++ [L.getLast hyes.1] := (List.dropLast_concat_getLast hyes.1).symm
      have hdl := flat_len (·.cells) 6 ver_len L.dropLast
      rw [List.length_dropLast] at hdl
      conv => lhs; rw [hd, List.flatMap_append]
      rw [show ((L.dropLast ++ [L.getLast hyes.1]).length - 1) = L.length - 1 from by simp]
      rw [← hdl, List.take_left]
    have e2 : (L.flatMap (·.cells)).drop ((L.length - 1) * 6 + x.cells.length) = [] := by
      apply List.drop_eq_nil_of_le
      rw [hfl, ver_len]; omega
    rw [e1, e2] at g1
    simpa using g1
  simp only [nn_some, add_lit, Nat.add_zero, ldL_iff hc0, hl]
  by_cases hn : L = []
  · refine ⟨fun g => ?_, fun g => ⟨(fun h => by cases h), fun _ => happ fun h => h.1 hn⟩⟩
    rw [decide_eq_true_iff] at g; subst hn; simp at g
  · have hpos : 0 < L.length := List.length_pos_iff.2 hn
    refine ⟨fun g => ?_, fun g => by rw [decide_eq_false_iff_not] at g; omega⟩
    obtain ⟨b, a1, a2, a3, a4, a5⟩ := Ch.at ho (last_get hn)
    refine idxA_of (i := L.length - 1) a1 (by omega) (by rw [w64 (by omega) (by omega)]; omega) ?_
    simp only [add_lit, Nat.add_zero]
    rw [ldI_iff a2, ldI_iff hx0]
    have hle : lastE L = (L.getLast hn).epoch := by unfold lastE; rw [List.getLast?_eq_some_getLast hn]
    rw [← hle]
    by_cases he : lastE L = x.epoch
    · rw [show (lastE L == x.epoch) = true from by simp [he]]
      exact hset ⟨hn, he⟩
    · rw [show (lastE L == x.epoch) = false from by simp [he]]
      exact ⟨fun h => (by cases h), fun _ => happ fun h => he h.2⟩
end Go.Proofs.Ytoccbnhahaoeiaa.V.C
namespace Go.Proofs.Ytoccbnhahaoeiaa.V.C
open Go Go.Proofs.Ytoccbnhahaoeiaa.V
set_option linter.unusedVariables false
set_option linter.unusedSimpArgs false
set_option maxRecDepth 20000
abbrev zA : S_api_Agg := ⟨0, 0, 0, 0⟩
theorem st_agg {h : H} {n : Nat} {c d : S_api_Agg} {e : TypeId} {K : H → Prop} (b : Blk h n c.cells.toArray e) (k : ∀ h', Blk h' n d.cells.toArray e → Only (· = n) h h' → h'.size = h.size → K h') : stH h ⟨n, 0, none⟩ d.cells K := by
  refine stH_of b (Nat.le_refl 4) fun h' q1 q2 q3 => k h' ?_ q2 q3
  rw [writeA_all (by rfl)] at q1
  exact q1
theorem Kin.ge {n n' : Nat} {B B' : Option Nat} (k : Kin n' B B') (h : n ≤ n') : Kin n B B' := by
  rcases k with k | k | ⟨b, k, k2⟩
  · exact .inl k
  · exact .inr (.inl k)
  · exact .inr (.inr ⟨b, k, by omega⟩)
theorem Put_spec {h : H} {p : Nat} {L : List Ver} {B : Option Nat} {e : Int} {v : S_api_Agg} {Q : Int → Int → H → Prop} (c : Ch h p L B) (hL : L.length < 4294967296)
    (k0 : mayM L e ≠ 0 → ∀ h', Ext h h' → Q 0 (mayM L e) h')
    (k1 : mayM L e = 0 → ∀ h' B', Ch h' p (layM L ⟨e, v, false⟩) B' → Only (FP p B) h h' → Kin h.size B B' → Q (layN L ⟨e, v, false⟩) 0 h') : F.chain_Chain_api_Agg_Put (some ⟨p, 0, none⟩) e v h Q := by
  unfold F.chain_Chain_api_Agg_Put
  refine new_of fun n h1 hn b1 e1 s1 => ?_
  refine may_spec (c.ext e1) hL ⟨fun g => k0 (by simpa using g) h1 e1, fun g => ⟨v, Blk.cells b1, ?_⟩⟩
  exact lay_spec (c.ext e1) hL fun h' B' q1 q2 q3 => k1 (by simpa using g) h' B' q1 ((e1.only (S := FP p B)).trans q2 fun m _ e => e) (q3.ge e1.size)
theorem Len_spec {h : H} {p : Nat} {L : List Ver} {B : Option Nat} {Q : Int → H → Prop} (c : Ch h p L B) (k : Q (L.length : Int) h) : F.chain_Chain_api_Agg_Len (some ⟨p, 0, none⟩) h Q := by
  obtain ⟨s, hb, ho, hB, hne⟩ := c
  have hl := Ch.len ho
  have hc0 : cellH h ⟨p, 0, none⟩ = some s.enc := hb.cell rfl
  simp only [F.chain_Chain_api_Agg_Len, nn_some, add_lit, Nat.add_zero, ldL_iff hc0, hl]
  exact k
def newestM (L : List Ver) : S_api_Agg × Int × Bool := match L.getLast? with | some x => (x.value, x.epoch, !x.dead) | none => (zA, 0, false)
theorem Newest_spec {h : H} {p : Nat} {L : List Ver} {B : Option Nat} {Q : S_api_Agg → Int → Bool → H → Prop} (c : Ch h p L B) (hL : L.length < 4294967296)
    (k : ∀ h', Ext h h' → Q (newestM L).1 (newestM L).2.1 (newestM L).2.2 h') : F.chain_Chain_api_Agg_Newest (some ⟨p, 0, none⟩) h Q := by
  unfold F.chain_Chain_api_Agg_Newest
  refine new_of fun n0 h0 hn0 b0 e0 s0 => ?_
  obtain ⟨s, hb, ho, hB, hne⟩ := c.ext e0
  have hl := Ch.len ho
  have hc0 : cellH h0 ⟨p, 0, none⟩ = some s.enc := hb.cell rfl
  simp only [nn_some, add_lit, Nat.add_zero, ldL_iff hc0, hl]
  have b0' : Blk h0 n0 zA.cells.toArray tn_api_Agg := b0
  by_cases hn : L = []
  · subst hn
    refine ⟨fun _ => ⟨zA, b0'.cells, st_agg b0' fun h1 b1 o1 s1 => ⟨zA, b1.cells, ?_⟩⟩, fun g => by simp at g⟩
    exact k h1 (e0.step o1 fun m hm hb => by omega)
  · have hpos : 0 < L.length := List.length_pos_iff.2 hn
    refine ⟨fun g => by rw [beq_iff_eq] at g; omega, fun _ => ?_⟩
    obtain ⟨b, a1, a2, a3, a4, a5⟩ := Ch.at ho (last_get hn)
    refine idxA_of (i := L.length - 1) a1 (by omega) (by rw [w64 (by omega) (by omega)]; omega) ?_
    refine ⟨_, a5, ?_⟩
    refine new_of fun n h1 hn1 e2 e3 e4 => ?_
    refine ⟨a5.ext e3, e3.cell hc0 (fun f => f), e3.cell hc0 (fun f => f), ?_⟩
    refine stH_of e2 (Nat.le_refl 6) fun h2 f1 f2 f3 => ?_
    rw [writeA_all (by rfl)] at f1
    have f1c := Blk.cells f1
    simp only [add_lit, Nat.zero_add, Nat.add_zero]
    have v4 : Cells h2 ⟨n, 1, none⟩ (L.getLast hn).value.cells := fun j v hv => by
      rw [add_lit]
      have q : ∀ i, i < 4 → ((L.getLast hn).cells)[1 + i]? = ((L.getLast hn).value.cells)[i]? := fun i hi => by
        match i, hi with
        | 0, _ => rfl
        | 1, _ => rfl
        | 2, _ => rfl
        | 3, _ => rfl
      have hj : j < 4 := (List.getElem?_eq_some_iff.1 hv).1
      have := f1c (1 + j) v (by rw [q j hj]; exact hv)
      rwa [add_lit, Nat.zero_add] at this
    have c0 : cellH h2 ⟨n, 0, none⟩ = some (.int .i64 (L.getLast hn).epoch) := f1c 0 _ rfl
    have c5 : cellH h2 ⟨n, 5, none⟩ = some (.bool (L.getLast hn).dead) := f1c 5 _ rfl
    refine ⟨_, v4, ldI_of c0 (ldB_of c5 ?_)⟩
    have n0n : n0 ≠ n := by omega
    have b2 : Blk h2 n0 zA.cells.toArray tn_api_Agg := f2.block (e3.block b0' fun f => f) n0n
    refine st_agg b2 fun h3 b3 o3 s3 => ?_
    have z : Only (· = n0) h2 h3 := o3
    refine ⟨z.cell c5 (fun h => n0n h.symm), z.cell c0 (fun h => n0n h.symm), _, b3.cells, ?_⟩
    have hle : newestM L = ((L.getLast hn).value, (L.getLast hn).epoch, !(L.getLast hn).dead) := by unfold newestM; rw [List.getLast?_eq_some_getLast hn]
    have := k h3 (((e0.trans e3).step f2 fun m hm hb => by omega).step o3 fun m hm hb => by omega)
    rw [hle] at this
    exact this
theorem Kill_spec {h : H} {p : Nat} {L : List Ver} {B : Option Nat} {e : Int} {Q : Int → Int → H → Prop} (c : Ch h p L B) (hL : L.length < 4294967296)
    (k0 : mayM L e ≠ 0 → Q 0 (mayM L e) h)
    (k2 : mayM L e = 0 → (newestM L).2.2 = false → ∀ h', Ext h h' → Q 0 44 h')
    (k1 : mayM L e = 0 → (newestM L).2.2 = true → ∀ h' B', Ch h' p (layM L ⟨e, zA, true⟩) B' → Only (FP p B) h h' → Kin h.size B B' → Q (layN L ⟨e, zA, true⟩) 0 h') : F.chain_Chain_api_Agg_Kill (some ⟨p, 0, none⟩) e h Q := by
  unfold F.chain_Chain_api_Agg_Kill
  refine may_spec c hL ⟨fun g => k0 (by simpa using g), fun g => Newest_spec c hL fun h1 e1 => ?_⟩
  refine new_of fun n h2 hn b2 e2 s2 => ?_
  have b2' : Blk h2 n zA.cells.toArray tn_api_Agg := b2
  refine st_agg b2' fun h3 b3 o3 s3 => ?_
  have e13 : Ext h h3 := (e1.trans e2).step o3 fun m hm hb => by have := e1.size; omega
  refine ⟨fun g2 => k2 (by simpa using g) (by simpa using g2) h3 e13, fun g2 => ?_⟩
  exact lay_spec (c.ext e13) hL fun h' B' q1 q2 q3 => k1 (by simpa using g) (by simpa using g2) h' B' q1 ((e13.only (S := FP p B)).trans q2 fun m _ e => e) (q3.ge e13.size)
abbrev Rise (L : List Ver) : Prop := L.Pairwise fun x y => x.epoch < y.epoch
def cntM (L : List Ver) (e : Int) : Nat := L.countP fun x => decide (x.epoch ≤ e)
theorem Rise.lt {L : List Ver} (r : Rise L) {i j : Nat} {x y : Ver} (hij : i < j) (hx : L[i]? = some x) (hy : L[j]? = some y) : x.epoch < y.epoch := by
  obtain ⟨hi, rfl⟩ := List.getElem?_eq_some_iff.1 hx
  obtain ⟨hj, rfl⟩ := List.getElem?_eq_some_iff.1 hy
  exact List.pairwise_iff_getElem.1 r i j hi hj hij
theorem cnt_eq {α : Type} (q : α → Bool) : ∀ (L : List α) (i : Nat), i ≤ L.length → (∀ t x, t < i → L[t]? = some x → q x = true) → (∀ t x, i ≤ t → L[t]? = some x → q x = false) → L.countP q = i
  | [], i, hi, _, _ => by simp at hi; simp [hi]
  | y :: r, 0, hi, h1, h2 => by
    rw [List.countP_cons, h2 0 y (by omega) rfl, cnt_eq q r 0 (by omega) (fun t x ht => by omega) (fun t x ht hx => h2 (t + 1) x (by omega) (by simpa using hx))]
    rfl
  | y :: r, i + 1, hi, h1, h2 => by
    simp at hi
    rw [List.countP_cons, h1 0 y (by omega) rfl, cnt_eq q r i hi (fun t x ht hx => h1 (t + 1) x (by omega) (by simpa using hx)) (fun t x ht hx => h2 (t + 1) x (by omega) (by simpa using hx))]
    rfl
theorem mid_eq {i j : Nat} (h : i + j < 4294967296) : IntKind.wrap .i64 (Int.fdiv (IntKind.wrap .u64 (IntKind.wrap .i64 ((i : Int) + j))) (2 ^ (min (1 : Int).toNat (IntKind.bits .u64)) : Int)) = ((i + j) / 2 : Nat) := by
  rw [w64 (n := (i : Int) + j) (by omega) (by omega)]
  have e1 : IntKind.wrap .u64 ((i : Int) + j) = ((i + j : Nat) : Int) := by
    unfold IntKind.wrap
    simp [IntKind.bits, IntKind.signed]
    omega
  rw [e1, show (2 ^ (min (1 : Int).toNat (IntKind.bits .u64)) : Int) = 2 from by simp [IntKind.bits], Int.fdiv_eq_ediv_of_nonneg _ (by omega), show (((i + j : Nat) : Int) / 2) = (((i + j) / 2 : Nat) : Int) from by omega, w64 (by omega) (by omega)]
theorem cmp_spec {h : H} {x : Ver} {e : Int} {K : Value → H → Prop} (k : ∀ h', Ext h h' → K (.int .i64 (if x.epoch ≤ e then -1 else 1)) h') : CV PP (.func (.func no_chain_Chain_api_Agg_place_1) #[] #[]) [.agg x.cells.toArray, .int .i64 e] h K := by
  refine CV_func (fun a w => no_chain_Chain_api_Agg_place_1_call a w) ?_
  have : F.chain_Chain_api_Agg_place_1 x e h fun r h' => K (.int .i64 r) h' := by
    unfold F.chain_Chain_api_Agg_place_1
    refine new_of fun n h1 e1 e2 e3 e4 => ?_
    simp only [add_lit, Nat.add_zero]
    rw [ldI_iff (e2.cell (v := .int .i64 x.epoch) rfl)]
    simp only [decide_eq_true_eq, decide_eq_false_iff_not]
    refine ⟨fun g => ?_, fun g => ?_⟩
    · have := k h1 e3; rw [if_pos g] at this; exact this
    · have := k h1 e3; rw [if_neg g] at this; exact this
  have := F.chain_Chain_api_Agg_place_1_ok this
  simp only [List.append_toArray, Array.empty_append, Array.append_empty]
  exact this.mono fun r h' ⟨r0, e, q⟩ => by subst e; exact q
theorem bs_loop {s : Sl} {e : Int} {L : List Ver} {Q : Int → Bool → H → Prop} (hr : Rise L) (hL : L.length < 1073741824) : ∀ (m i j : Nat) (h : H), Owns h s tn_chain_version_api_Agg 6 (L.flatMap (·.cells)) → i ≤ j → j ≤ L.length →
    (∀ t x, t < i → L[t]? = some x → x.epoch ≤ e) → (∀ t x, j ≤ t → L[t]? = some x → e < x.epoch) → j - i < m → (∀ r h', Ext h h' → Q (cntM L e) r h') →
    F.slices_BinarySearchFunc_Slchain_version_api_Agg_chain_version_api_Agg_int.l1 Q m s e (.func (.func no_chain_Chain_api_Agg_place_1) #[] #[]) (L.length : Int) (i : Int) (j : Int) h
  | 0, i, j, h, _, _, _, _, _, hm, _ => by omega
  | m + 1, i, j, h, ho, hij, hj, hlo, hhi, hm, k => by
    unfold F.slices_BinarySearchFunc_Slchain_version_api_Agg_chain_version_api_Agg_int.l1
    simp only [decide_eq_true_eq, decide_eq_false_iff_not]
    refine ⟨fun g => ⟨by omega, ?_⟩, fun g => ?_⟩
    · rw [mid_eq (by omega)]
      have hm1 : (i + j) / 2 < L.length := by omega
      obtain ⟨x, hx⟩ : ∃ x, L[(i + j) / 2]? = some x := ⟨_, List.getElem?_eq_getElem hm1⟩
      obtain ⟨b, a1, a2, a3, a4, a5⟩ := Ch.at ho hx
      have hl := Ch.len ho
      refine idxA_of (i := (i + j) / 2) a1 (by omega) rfl ?_
      refine ⟨x, a5, cmp_spec fun h' e1 => ⟨_, rfl, fun g2 => ?_, fun g2 => ?_⟩⟩
      · have hxe : x.epoch ≤ e := by
          by_cases hh : x.epoch ≤ e
          · exact hh
          · rw [if_neg hh] at g2; omega
        rw [w64 (by omega) (by omega), show (((i + j) / 2 : Nat) : Int) + 1 = (((i + j) / 2 + 1 : Nat) : Int) from by omega]
        refine bs_loop hr hL m _ j h' (ho.only e1 fun _ _ f => f) (by omega) hj (fun t y ht hy => ?_) hhi (by omega) fun r h2 e2 => k r h2 (e1.trans e2)
        by_cases ht2 : t = (i + j) / 2
        · subst ht2; rw [hx] at hy; cases hy; exact hxe
        · have := hr.lt (by omega) hy hx; omega
      · have hxe : ¬ x.epoch ≤ e := fun hh => by rw [if_pos hh] at g2; omega
        refine bs_loop hr hL m i _ h' (ho.only e1 fun _ _ f => f) (by omega) (by omega) hlo (fun t y ht hy => ?_) (by omega) fun r h2 e2 => k r h2 (e1.trans e2)
        by_cases ht2 : t = (i + j) / 2
        · subst ht2; rw [hx] at hy; cases hy; omega
        · have := hr.lt (show (i + j) / 2 < t by omega) hx hy; omega
    · have hij2 : i = j := by omega
      subst hij2
      have hc : cntM L e = i := cnt_eq _ L i hj (fun t x ht hx => by simpa using hlo t x ht hx) fun t x ht hx => by simpa using hhi t x ht hx
      rw [hc] at k
      refine ⟨fun g2 => ?_, fun g2 => k _ h (.refl _)⟩
      obtain ⟨x, hx⟩ : ∃ x, L[i]? = some x := ⟨_, List.getElem?_eq_getElem (by omega)⟩
      obtain ⟨b, a1, a2, a3, a4, a5⟩ := Ch.at ho hx
      have hl := Ch.len ho
      refine idxA_of (i := i) a1 (by omega) rfl ?_
      exact ⟨x, a5, cmp_spec fun h' e1 => ⟨_, rfl, k _ h' e1⟩⟩
theorem place_spec {h : H} {p : Nat} {L : List Ver} {B : Option Nat} {e : Int} {Q : Int → H → Prop} (c : Ch h p L B) (hr : Rise L) (hL : L.length < 1073741824)
    (k : ∀ h', Ext h h' → Q ((cntM L e : Int) - 1) h') : F.chain_Chain_api_Agg_place (some ⟨p, 0, none⟩) e h Q := by
  obtain ⟨s, hb, ho, hB, hne⟩ := c
  have hl := Ch.len ho
  have hc0 : cellH h ⟨p, 0, none⟩ = some s.enc := hb.cell rfl
  have hcl : cntM L e ≤ L.length := List.countP_le_length
  simp only [F.chain_Chain_api_Agg_place, nn_some, add_lit, Nat.add_zero, ldL_iff hc0]
  unfold F.slices_BinarySearchFunc_Slchain_version_api_Agg_chain_version_api_Agg_int
  refine ⟨L.length + 1, ?_⟩
  rw [hl]
  refine bs_loop hr hL _ 0 L.length h ho (by omega) (by omega) (fun t x ht => by omega) (fun t x ht hx => ?_) (by omega) fun r h' e1 => ?_
  · rw [List.getElem?_eq_none (by omega)] at hx; cases hx
  · rw [w64 (by omega) (by omega)]
    exact k h' e1
def atM (L : List Ver) (e : Int) : S_api_Agg × Bool := match (L.filter fun x => decide (x.epoch ≤ e)).getLast? with | some x => if x.dead then (zA, false) else (x.value, true) | none => (zA, false)
theorem rise_filter {L : List Ver} (hr : Rise L) (e : Int) : L.filter (fun x => decide (x.epoch ≤ e)) = L.take (cntM L e) := by
  unfold cntM
  induction L with
  | nil => rfl
  | cons y r ih =>
    have hr' := List.pairwise_cons.1 hr
    by_cases hy : y.epoch ≤ e
    · simp [hy, ih hr'.2]
    · have hno : ∀ x ∈ r, ¬ x.epoch ≤ e := fun x hx => by have := hr'.1 x hx; omega
      have h1 : r.filter (fun x => decide (x.epoch ≤ e)) = [] := by simp; intro x hx; have := hno x hx; omega
      have h2 : r.countP (fun x => decide (x.epoch ≤ e)) = 0 := by rw [List.countP_eq_length_filter, h1]; rfl
      simp [hy, h1, h2]
theorem at_last {L : List Ver} (hr : Rise L) (e : Int) : (L.filter fun x => decide (x.epoch ≤ e)).getLast? = if cntM L e = 0 then none else L[cntM L e - 1]? := by
  have hcl : cntM L e ≤ L.length := List.countP_le_length
  rw [rise_filter hr, List.getLast?_eq_getElem?, List.length_take, Nat.min_eq_left hcl]
  split
  · rename_i h0; rw [h0]; simp
  · rw [List.getElem?_take_of_lt (by omega)]
theorem At_spec {h : H} {p : Nat} {L : List Ver} {B : Option Nat} {e : Int} {Q : S_api_Agg → Bool → H → Prop} (c : Ch h p L B) (hr : Rise L) (hL : L.length < 1073741824)
    (k : ∀ h', Ext h h' → Q (atM L e).1 (atM L e).2 h') : F.chain_Chain_api_Agg_At (some ⟨p, 0, none⟩) e h Q := by
  unfold F.chain_Chain_api_Agg_At
  refine new_of fun n0 h0 hn0 b0 e0 s0 => ?_
  have b0' : Blk h0 n0 zA.cells.toArray tn_api_Agg := b0
  refine place_spec (c.ext e0) hr hL fun h1 e1 => ?_
  have e01 := e0.trans e1
  have b1 : Blk h1 n0 zA.cells.toArray tn_api_Agg := e1.block b0' fun f => f
  obtain ⟨s, hb, ho, hB, hne⟩ := c.ext e01
  have hl := Ch.len ho
  have hc0 : cellH h1 ⟨p, 0, none⟩ = some s.enc := hb.cell rfl
  have hcl : cntM L e ≤ L.length := List.countP_le_length
  have none_ : (atM L e) = (zA, false) → F.chain_Chain_api_Agg_At.j1 Q ⟨n0, 0, none⟩ h1 := fun hn => by
    unfold F.chain_Chain_api_Agg_At.j1
    refine ⟨zA, b1.cells, st_agg b1 fun h2 b2 o2 s2 => ⟨zA, b2.cells, ?_⟩⟩
    have := k h2 (e01.step o2 fun m hm hb => by omega)
    rw [hn] at this; exact this
  unfold atM at none_ k
  rw [at_last hr e] at none_ k
  simp only [F.chain_Chain_api_Agg_At.j2, nn_some, add_lit, Nat.add_zero, ldL_iff hc0, decide_eq_true_eq, decide_eq_false_iff_not]
  refine ⟨fun g => ?_, fun g => ⟨(fun h => by cases h), fun _ => none_ (by rw [if_pos (by omega)])⟩⟩
  rw [if_neg (by omega)] at none_ k
  obtain ⟨x, hx⟩ : ∃ x, L[cntM L e - 1]? = some x := ⟨_, List.getElem?_eq_getElem (by omega)⟩
  rw [hx] at none_ k
  obtain ⟨b, a1, a2, a3, a4, a5⟩ := Ch.at ho hx
  refine idxA_of (i := cntM L e - 1) a1 (by omega) (by omega) ?_
  simp only [add_lit, Nat.add_zero]
  rw [ldB_iff a4]
  cases hd : x.dead with
  | true => exact ⟨(fun h => by cases h), fun _ => none_ (by simp [hd])⟩
  | false =>
    simp only [hd] at k
    refine ⟨fun _ => ?_, (fun h => by cases h)⟩
    refine idxA_of (i := cntM L e - 1) a1 (by omega) (by omega) ?_
    rw [add_lit]
    refine ⟨x.value, a3, st_agg b1 fun h2 b2 o2 s2 => ⟨_, b2.cells, ?_⟩⟩
    exact k h2 (e01.step o2 fun m hm hb => by omega)
end Go.Proofs.Ytoccbnhahaoeiaa.V.C
namespace Go.Proofs.Ytoccbnhahaoeiaa.V
open Go
set_option linter.unusedVariables false
set_option linter.unusedSimpArgs false
theorem i64_of {n : Int} (h : (Lit.int .i64 n).wf = true) : -9223372036854775808 ≤ n ∧ n < 9223372036854775808 := by
  simp [Lit.wf, IntKind.min, IntKind.max, IntKind.bits, IntKind.signed] at h
  omega
end Go.Proofs.Ytoccbnhahaoeiaa.V
