/- Parts of the proof of ShardPast; no condition. -/
import Derived.Test.YtoccbnhahaoeiaaQShardPast1
namespace Go.Proofs.Ytoccbnhahaoeiaa.V
open Go
set_option linter.unusedVariables false
set_option maxRecDepth 100000
def F.slices_BinarySearchFunc_Slchain_version_api_Agg_chain_version_api_Agg_int.l1 (Q : Int → Bool → H → Prop) : Nat → Sl → Int → Value → Int → Int → Int → H → Prop
  | 0, _, _, _, _, _, _, _ => False
  | q1 + 1, x0, x1, x2, x8, x9, x10, h =>
    ((decide (x9 < x10)) = true →
    0 ≤ (1 : Int) ∧
    idxA x0 (IntKind.wrap .i64 (Int.fdiv (IntKind.wrap .u64 (IntKind.wrap .i64 (x9 + x10))) (2 ^ (min (1 : Int).toNat (IntKind.bits .u64)) : Int))) 6 fun a3 =>
    ld_S_chain_version_api_Agg h a3 fun y5 =>
    CV PP x2 [(.agg y5.cells.toArray), (.int .i64 x1)] h fun u h7 => ∃ (r8 : Int), u = (.int .i64 r8) ∧
    ((decide (r8 < 0)) = true →
    (F.slices_BinarySearchFunc_Slchain_version_api_Agg_chain_version_api_Agg_int.l1 Q q1) x0 x1 x2 x8 (IntKind.wrap .i64 ((IntKind.wrap .i64 (Int.fdiv (IntKind.wrap .u64 (IntKind.wrap .i64 (x9 + x10))) (2 ^ (min (1 : Int).toNat (IntKind.bits .u64)) : Int))) + 1)) x10 h7) ∧
    ((decide (r8 < 0)) = false →
    (F.slices_BinarySearchFunc_Slchain_version_api_Agg_chain_version_api_Agg_int.l1 Q q1) x0 x1 x2 x8 x9 (IntKind.wrap .i64 (Int.fdiv (IntKind.wrap .u64 (IntKind.wrap .i64 (x9 + x10))) (2 ^ (min (1 : Int).toNat (IntKind.bits .u64)) : Int))) h7)) ∧
    ((decide (x9 < x10)) = false →
    ((decide (x9 < x8)) = true →
    idxA x0 x9 6 fun a11 =>
    ld_S_chain_version_api_Agg h a11 fun y13 =>
    CV PP x2 [(.agg y13.cells.toArray), (.int .i64 x1)] h fun u h15 => ∃ (r16 : Int), u = (.int .i64 r16) ∧
    Q x9 ((r16 == 0)) h15) ∧
    ((decide (x9 < x8)) = false →
    Q x9 false h))
/-- slices.BinarySearchFunc[[]spate/chain.version[spate/api.Agg],spate/chain.version[spate/api.Agg],int] -/
def F.slices_BinarySearchFunc_Slchain_version_api_Agg_chain_version_api_Agg_int (p0 : Sl) (p1 : Int) (p2 : Value) (h : H) (Q : Int → Bool → H → Prop) : Prop :=
  ∃ m, F.slices_BinarySearchFunc_Slchain_version_api_Agg_chain_version_api_Agg_int.l1 Q m p0 p1 p2 (p0.len : Int) 0 (p0.len : Int) h
theorem F.slices_BinarySearchFunc_Slchain_version_api_Agg_chain_version_api_Agg_int_ok {p0 : Sl} {p1 : Int} {p2 : Value} {h : H} {Q : Int → Bool → H → Prop} (H : F.slices_BinarySearchFunc_Slchain_version_api_Agg_chain_version_api_Agg_int p0 p1 p2 h Q) : Fn PP 82 ([p0.enc, (.int .i64 p1), p2] : List Value).toArray h fun r h' => ∃ r0 r1, r = .tuple #[(.int .i64 r0), (.bool r1)] ∧ Q r0 r1 h' := by
  unfold F.slices_BinarySearchFunc_Slchain_version_api_Agg_chain_version_api_Agg_int at H
  refine fn_of Try.func82 Try.ntmps82 rfl rfl fun w0 => ?_
  refine tr_sub [(0, p0.enc), (1, (.int .i64 p1)), (2, p2)] ⟨rfl, rfl, rfl, trivial⟩ ?_
  refine tr_seq ?_
  refine tr_region ?_
  refine tr_p (y_assign rfl) rfl rfl ?_
  refine tr_p (y_assign rfl) rfl rfl ?_
  refine tr_nil ?_
  refine tr_thenN ?_
  refine tr_seq ?_
  refine tr_region ?_
  refine tr_p (y_move rfl) rfl rfl ?_
  refine tr_p (y_len (ts := #[]) Try.runUnderlying119 (o := p0.ptr) (n := p0.len) (cap := p0.cap) rfl) rfl rfl ?_
  refine tr_p (y_assign rfl) rfl rfl ?_
  refine tr_nil ?_
  refine tr_thenN ?_
  refine tr_seq ?_
  refine tr_region ?_
  refine tr_p (y_move rfl) rfl rfl ?_
  refine tr_p (y_assign rfl) rfl rfl ?_
  refine tr_p (y_assign rfl) rfl rfl ?_
  refine tr_nil ?_
  refine tr_thenN ?_
  refine tr_seq ?_
  refine tr_block ?_
  obtain ⟨m17, H⟩ := H
  refine tr_sub [(0, p0.enc), (1, (.int .i64 p1)), (2, p2), (8, (.int .i64 (p0.len : Int))), (9, (.int .i64 0)), (10, (.int .i64 (p0.len : Int)))] ⟨rfl, rfl, rfl, rfl, rfl, rfl, trivial⟩ ?_
  refine tr_loop_j (fun m L' h => ∃ (x0 : Sl) (x1 : Int) (x2 : Value) (x8 : Int) (x9 : Int) (x10 : Int), L' = [(0, x0.enc), (1, (.int .i64 x1)), (2, x2), (8, (.int .i64 x8)), (9, (.int .i64 x9)), (10, (.int .i64 x10))] ∧ F.slices_BinarySearchFunc_Slchain_version_api_Agg_chain_version_api_Agg_int.l1 Q m x0 x1 x2 x8 x9 x10 h) ?_ ?_ m17 ⟨_, _, _, _, _, _, rfl, H⟩
  · rintro L' h ⟨_, _, _, _, _, _, _, H⟩; exact H
  · rintro q1 L' h ⟨x0, x1, x2, x8, x9, x10, rfl, H⟩
    unfold F.slices_BinarySearchFunc_Slchain_version_api_Agg_chain_version_api_Agg_int.l1 at H
    refine tr_seq ?_
    refine tr_seq ?_
    refine tr_region ?_
    refine tr_p (y_move rfl) rfl rfl ?_
    refine tr_p (y_move rfl) rfl rfl ?_
    refine tr_p (y_lss rfl rfl) rfl rfl ?_
    refine tr_nil ?_
    refine tr_thenN ?_
    refine tr_cond rfl (fun g1 => ?_) (fun g1 => ?_)
    · replace H := H.1 g1
      refine tr_skip ?_
      refine tr_thenN ?_
      refine tr_block ?_
      refine tr_seq ?_
      refine tr_region ?_
      refine tr_p (y_move rfl) rfl rfl ?_
      refine tr_p (y_move rfl) rfl rfl ?_
      refine tr_p (y_add rfl rfl) rfl rfl ?_
      refine tr_p (y_cvt Try.runUnderlying3 Try.runUnderlying142 rfl) rfl rfl ?_
      obtain ⟨e2, H⟩ := H
      refine tr_p (y_shr rfl rfl e2) rfl rfl ?_
      refine tr_p (y_cvt Try.runUnderlying142 Try.runUnderlying3 rfl) rfl rfl ?_
      refine tr_p (y_assign rfl) rfl rfl ?_
      refine tr_nil ?_
      refine tr_thenN ?_
      refine tr_seq ?_
      refine tr_region ?_
      refine tr_p (y_move rfl) rfl rfl ?_
      refine tr_p (y_move rfl) rfl rfl ?_
      refine tr_p (y_move rfl) rfl rfl ?_
      obtain ⟨a3, e4, H⟩ := H
      refine tr_p (f_idx (s := x0) Try.runUnderlying119 Try.sizeOf123 rfl rfl e4) rfl rfl ?_
      obtain ⟨y5, k6, H⟩ := H
      refine tr_h (y_ldS Try.isAgg123 Try.sizeOf123 rfl rfl) k6 rfl rfl ?_
      refine tr_p (y_move rfl) rfl rfl ?_
      refine tr_e (e_callD rfl rfl H) rfl rfl ?_
      rintro _ h7 ⟨r8, rfl, H⟩
      refine tr_p (y_lss rfl rfl) rfl rfl ?_
      refine tr_nil ?_
      refine tr_thenN ?_
      refine tr_cond rfl (fun g9 => ?_) (fun g9 => ?_)
      · replace H := H.1 g9
        refine tr_region ?_
        refine tr_p (y_move rfl) rfl rfl ?_
        refine tr_p (y_add rfl rfl) rfl rfl ?_
        refine tr_p (y_assign rfl) rfl rfl ?_
        refine tr_nil ?_
        refine tr_blockN ?_
        refine tr_thenN ?_
        exact tr_join [(0, x0.enc), (1, (.int .i64 x1)), (2, x2), (8, (.int .i64 x8)), (9, (.int .i64 (IntKind.wrap .i64 ((IntKind.wrap .i64 (Int.fdiv (IntKind.wrap .u64 (IntKind.wrap .i64 (x9 + x10))) (2 ^ (min (1 : Int).toNat (IntKind.bits .u64)) : Int))) + 1)))), (10, (.int .i64 x10))] ⟨rfl, rfl, rfl, rfl, rfl, rfl, trivial⟩ ⟨_, _, _, _, _, _, rfl, H⟩
      · replace H := H.2 g9
        refine tr_region ?_
        refine tr_p (y_move rfl) rfl rfl ?_
        refine tr_p (y_assign rfl) rfl rfl ?_
        refine tr_nil ?_
        refine tr_blockN ?_
        refine tr_thenN ?_
        exact tr_join [(0, x0.enc), (1, (.int .i64 x1)), (2, x2), (8, (.int .i64 x8)), (9, (.int .i64 x9)), (10, (.int .i64 (IntKind.wrap .i64 (Int.fdiv (IntKind.wrap .u64 (IntKind.wrap .i64 (x9 + x10))) (2 ^ (min (1 : Int).toNat (IntKind.bits .u64)) : Int)))))] ⟨rfl, rfl, rfl, rfl, rfl, rfl, trivial⟩ ⟨_, _, _, _, _, _, rfl, H⟩
    · replace H := H.2 g1
      refine tr_exit ?_
      refine tr_thenE ?_
      refine tr_thenE ?_
      refine tr_hit ?_
      refine tr_thenN ?_
      refine tr_seq ?_
      refine tr_region ?_
      refine tr_p (y_move rfl) rfl rfl ?_
      refine tr_p (y_move rfl) rfl rfl ?_
      refine tr_p (y_move rfl) rfl rfl ?_
      refine tr_p (y_lss rfl rfl) rfl rfl ?_
      refine tr_p (y_move rfl) rfl rfl ?_
      refine tr_split (t := 39) rfl (fun g10 => ?_) (fun g10 => ?_)
      · replace H := H.1 g10
        refine tr_p (y_move rfl) rfl rfl ?_
        refine tr_p (y_move rfl) rfl rfl ?_
        refine tr_p (y_move rfl) rfl rfl ?_
        obtain ⟨a11, e12, H⟩ := H
        refine tr_p (f_idx (s := x0) Try.runUnderlying119 Try.sizeOf123 rfl rfl e12) rfl rfl ?_
        obtain ⟨y13, k14, H⟩ := H
        refine tr_h (y_ldS Try.isAgg123 Try.sizeOf123 rfl rfl) k14 rfl rfl ?_
        refine tr_p (y_move rfl) rfl rfl ?_
        refine tr_e (e_callD rfl rfl H) rfl rfl ?_
        rintro _ h15 ⟨r16, rfl, H⟩
        refine tr_p (y_eql rfl rfl) rfl rfl ?_
        refine tr_p (y_pick_t rfl rfl) rfl rfl ?_
        refine tr_p (y_assign rfl) rfl rfl ?_
        refine tr_p (y_assign rfl) rfl rfl ?_
        refine tr_nil ?_
        refine tr_thenN ?_
        refine tr_ret ?_
        exact tr_ret2 rfl rfl rfl ⟨_, _, rfl, H⟩
      · replace H := H.2 g10
        refine tr_s rfl rfl ?_
        refine tr_s rfl rfl ?_
        refine tr_s rfl rfl ?_
        refine tr_s rfl rfl ?_
        refine tr_s rfl rfl ?_
        refine tr_s rfl rfl ?_
        refine tr_s rfl rfl ?_
        refine tr_s rfl rfl ?_
        refine tr_p (y_pick_f rfl rfl) rfl rfl ?_
        refine tr_p (y_assign rfl) rfl rfl ?_
        refine tr_p (y_assign rfl) rfl rfl ?_
        refine tr_nil ?_
        refine tr_thenN ?_
        refine tr_ret ?_
        exact tr_ret2 rfl rfl rfl ⟨_, _, rfl, H⟩
/-- (*spate/chain.Chain[spate/api.Agg]).place$1 -/
def F.chain_Chain_api_Agg_place_1 (p0 : S_chain_version_api_Agg) (p1 : Int) (h : H) (Q : Int → H → Prop) : Prop :=
  new h p0.cells.toArray ty_123 fun a2 h1 =>
  ldI .i64 h1 (a2.add 0) fun y3 =>
  ((decide (y3 ≤ p1)) = true →
  Q (-1) h1) ∧
  ((decide (y3 ≤ p1)) = false →
  Q 1 h1)
theorem F.chain_Chain_api_Agg_place_1_ok {p0 : S_chain_version_api_Agg} {p1 : Int} {h : H} {Q : Int → H → Prop} (H : F.chain_Chain_api_Agg_place_1 p0 p1 h Q) : Fn PP 83 ([(.agg p0.cells.toArray), (.int .i64 p1)] : List Value).toArray h fun r h' => ∃ r0, r = (.int .i64 r0) ∧ Q r0 h' := by
  unfold F.chain_Chain_api_Agg_place_1 at H
  refine fn_of Try.func83 Try.ntmps83 rfl rfl fun w0 => ?_
  refine tr_sub [(0, (.agg p0.cells.toArray)), (1, (.int .i64 p1))] ⟨rfl, rfl, trivial⟩ ?_
  refine tr_seq ?_
  refine tr_region ?_
  refine tr_e (f_box (cs := p0.cells.toArray) rfl rfl H) rfl rfl ?_
  rintro _ h1 ⟨a2, rfl, H⟩
  refine tr_p (y_assign rfl) rfl rfl ?_
  refine tr_nil ?_
  refine tr_thenN ?_
  refine tr_seq ?_
  refine tr_seq ?_
  refine tr_region ?_
  refine tr_p (y_fa (off := 0) Try.runUnderlying123 fo_123_0 rfl) rfl rfl ?_
  obtain ⟨y3, k4, H⟩ := H
  refine tr_h (y_ld Try.isAgg3 rfl) k4 rfl rfl ?_
  refine tr_p (y_move rfl) rfl rfl ?_
  refine tr_p (y_leq rfl rfl) rfl rfl ?_
  refine tr_nil ?_
  refine tr_thenN ?_
  refine tr_cond rfl (fun g5 => ?_) (fun g5 => ?_)
  · replace H := H.1 g5
    refine tr_seq ?_
    refine tr_region ?_
    refine tr_p (y_assign rfl) rfl rfl ?_
    refine tr_nil ?_
    refine tr_thenN ?_
    refine tr_ret ?_
    refine tr_thenR ?_
    exact tr_ret1 rfl rfl ⟨_, rfl, H⟩
  · replace H := H.2 g5
    refine tr_skip ?_
    refine tr_thenN ?_
    refine tr_seq ?_
    refine tr_region ?_
    refine tr_p (y_assign rfl) rfl rfl ?_
    refine tr_nil ?_
    refine tr_thenN ?_
    refine tr_ret ?_
    exact tr_ret1 rfl rfl ⟨_, rfl, H⟩
/-- (*spate/chain.Chain[spate/api.Agg]).place -/
def F.chain_Chain_api_Agg_place (p0 : Option Addr) (p1 : Int) (h : H) (Q : Int → H → Prop) : Prop :=
  nn p0 fun a1 =>
  ldL h (a1.add 0) fun y3 =>
  F.slices_BinarySearchFunc_Slchain_version_api_Agg_chain_version_api_Agg_int y3 p1 (.func (.func 83) #[] #[]) h fun r6 r7 h5 =>
  Q (IntKind.wrap .i64 (r6 - 1)) h5
theorem F.chain_Chain_api_Agg_place_ok {p0 : Option Addr} {p1 : Int} {h : H} {Q : Int → H → Prop} (H : F.chain_Chain_api_Agg_place p0 p1 h Q) : Fn PP 69 ([(.pointer p0), (.int .i64 p1)] : List Value).toArray h fun r h' => ∃ r0, r = (.int .i64 r0) ∧ Q r0 h' := by
  unfold F.chain_Chain_api_Agg_place at H
  refine fn_of Try.func69 Try.ntmps69 rfl rfl fun w0 => ?_
  refine tr_sub [(0, (.pointer p0)), (1, (.int .i64 p1))] ⟨rfl, rfl, trivial⟩ ?_
  refine tr_seq ?_
  refine tr_region ?_
  refine tr_p (y_assign rfl) rfl rfl ?_
  refine tr_nil ?_
  refine tr_thenN ?_
  refine tr_seq ?_
  refine tr_region ?_
  refine tr_p (y_move rfl) rfl rfl ?_
  obtain ⟨a1, e2, H⟩ := H
  refine tr_p (f_nn rfl e2) rfl rfl ?_
  refine tr_p (y_fa (off := 0) Try.runUnderlying121 fo_121_0 rfl) rfl rfl ?_
  obtain ⟨y3, k4, H⟩ := H
  refine tr_h (y_ld Try.isAgg119 rfl) k4 rfl rfl ?_
  refine tr_p (y_move rfl) rfl rfl ?_
  refine tr_e (e_call Try.call82 rfl (F.slices_BinarySearchFunc_Slchain_version_api_Agg_chain_version_api_Agg_int_ok H)) rfl rfl ?_
  rintro _ h5 ⟨r6, r7, rfl, H⟩
  refine tr_p (y_move rfl) rfl rfl ?_
  refine tr_p (y_ext rfl rfl) rfl rfl ?_
  refine tr_p (y_ext rfl rfl) rfl rfl ?_
  refine tr_p (y_assign rfl) rfl rfl ?_
  refine tr_p (y_assign rfl) rfl rfl ?_
  refine tr_nil ?_
  refine tr_thenN ?_
  refine tr_seq ?_
  refine tr_region ?_
  refine tr_p (y_move rfl) rfl rfl ?_
  refine tr_p (y_sub rfl rfl) rfl rfl ?_
  refine tr_p (y_assign rfl) rfl rfl ?_
  refine tr_nil ?_
  refine tr_thenN ?_
  refine tr_ret ?_
  exact tr_ret1 rfl rfl ⟨_, rfl, H⟩
def F.chain_Chain_api_Agg_At.j1 (Q : S_api_Agg → Bool → H → Prop) (x4 : Addr) (h : H) : Prop :=
  ld_S_api_Agg h x4 fun y3 =>
  stH h x4 y3.cells fun h5 =>
  ld_S_api_Agg h5 x4 fun y6 =>
  Q y6 false h5
def F.chain_Chain_api_Agg_At.j2 (Q : S_api_Agg → Bool → H → Prop) (x0 : Option Addr) (x4 : Addr) (x6 : Int) (x22 : Bool) (h : H) : Prop :=
  (x22 = true →
  nn x0 fun a11 =>
  ldL h (a11.add 0) fun y13 =>
  idxA y13 x6 6 fun a15 =>
  ld_S_api_Agg h (a15.add 1) fun y17 =>
  stH h x4 y17.cells fun h19 =>
  ld_S_api_Agg h19 x4 fun y20 =>
  Q y20 true h19) ∧
  (x22 = false →
  F.chain_Chain_api_Agg_At.j1 Q x4 h)
/-- (*spate/chain.Chain[spate/api.Agg]).At -/
def F.chain_Chain_api_Agg_At (p0 : Option Addr) (p1 : Int) (h : H) (Q : S_api_Agg → Bool → H → Prop) : Prop :=
  new h (((⟨0, 0, 0, 0⟩ : S_api_Agg) : S_api_Agg).cells.toArray) ty_35 fun a2 h1 =>
  F.chain_Chain_api_Agg_place p0 p1 h1 fun r9 h8 =>
  ((decide (r9 ≥ 0)) = true →
  nn p0 fun a23 =>
  ldL h8 (a23.add 0) fun y25 =>
  idxA y25 r9 6 fun a27 =>
  ldB h8 (a27.add 5) fun y29 =>
  F.chain_Chain_api_Agg_At.j2 Q p0 a2 r9 (!y29) h8) ∧
  ((decide (r9 ≥ 0)) = false →
  F.chain_Chain_api_Agg_At.j2 Q p0 a2 r9 false h8)
theorem F.chain_Chain_api_Agg_At_ok {p0 : Option Addr} {p1 : Int} {h : H} {Q : S_api_Agg → Bool → H → Prop} (H : F.chain_Chain_api_Agg_At p0 p1 h Q) : Fn PP 65 ([(.pointer p0), (.int .i64 p1)] : List Value).toArray h fun r h' => ∃ r0 r1, r = .tuple #[(.agg r0.cells.toArray), (.bool r1)] ∧ Q r0 r1 h' := by
  unfold F.chain_Chain_api_Agg_At at H
  refine fn_of Try.func65 Try.ntmps65 rfl rfl fun w0 => ?_
  refine tr_sub [(0, (.pointer p0)), (1, (.int .i64 p1))] ⟨rfl, rfl, trivial⟩ ?_
  refine tr_seq ?_
  refine tr_region ?_
  refine tr_e (f_alloc (cs := ((⟨0, 0, 0, 0⟩ : S_api_Agg) : S_api_Agg).cells.toArray) Try.zeroValue35 rfl H) rfl rfl ?_
  rintro _ h1 ⟨a2, rfl, H⟩
  refine tr_p (y_assign rfl) rfl rfl ?_
  refine tr_nil ?_
  refine tr_thenN ?_
  refine tr_seq_j (fun L' h => ∃ (x4 : Addr), L' = [(4, (.pointer (some x4)))] ∧ F.chain_Chain_api_Agg_At.j1 Q x4 h) ?_ ?_
  · rintro L' h ⟨x4, rfl, H⟩
    unfold F.chain_Chain_api_Agg_At.j1 at H
    refine tr_seq ?_
    refine tr_region ?_
    obtain ⟨y3, k4, H⟩ := H
    refine tr_h (y_ldS Try.isAgg35 Try.sizeOf35 rfl rfl) k4 rfl rfl ?_
    refine tr_e (f_store (vs := y3.cells) Try.sizeOf35 rfl rfl cellsOfStruct rfl (by intro v hv; exact ones_S_api_Agg _ v hv) H) rfl rfl ?_
    rintro _ h5 ⟨rfl, H⟩
    refine tr_p (y_assign rfl) rfl rfl ?_
    refine tr_nil ?_
    refine tr_thenN ?_
    refine tr_ret ?_
    obtain ⟨y6, k7, H⟩ := H
    exact tr_rv2 rfl (rv_cellS Try.isAgg35 Try.sizeOf35 rfl rfl k7) (rv_tmp rfl) ⟨_, _, rfl, H⟩
  · refine tr_seq ?_
    refine tr_region ?_
    refine tr_p (y_move rfl) rfl rfl ?_
    refine tr_p (y_move rfl) rfl rfl ?_
    refine tr_e (e_call Try.call69 rfl (F.chain_Chain_api_Agg_place_ok H)) rfl rfl ?_
    rintro _ h8 ⟨r9, rfl, H⟩
    refine tr_p (y_assign rfl) rfl rfl ?_
    refine tr_nil ?_
    refine tr_thenN ?_
    refine tr_seq_j (fun L' h => ∃ (x0 : Option Addr) (x4 : Addr) (x6 : Int) (x22 : Bool), L' = [(0, (.pointer x0)), (4, (.pointer (some x4))), (6, (.int .i64 x6)), (22, (.bool x22))] ∧ F.chain_Chain_api_Agg_At.j2 Q x0 x4 x6 x22 h) ?_ ?_
    · rintro L' h ⟨x0, x4, x6, x22, rfl, H⟩
      unfold F.chain_Chain_api_Agg_At.j2 at H
      refine tr_cond rfl (fun g10 => ?_) (fun g10 => ?_)
      · replace H := H.1 g10
        refine tr_seq ?_
        refine tr_region ?_
        refine tr_p (y_move rfl) rfl rfl ?_
        obtain ⟨a11, e12, H⟩ := H
        refine tr_p (f_nn rfl e12) rfl rfl ?_
        refine tr_p (y_fa (off := 0) Try.runUnderlying121 fo_121_0 rfl) rfl rfl ?_
        obtain ⟨y13, k14, H⟩ := H
        refine tr_h (y_ld Try.isAgg119 rfl) k14 rfl rfl ?_
        refine tr_p (y_move rfl) rfl rfl ?_
        obtain ⟨a15, e16, H⟩ := H
        refine tr_p (f_idx (s := y13) Try.runUnderlying119 Try.sizeOf123 rfl rfl e16) rfl rfl ?_
        refine tr_p (y_fa (off := 1) Try.runUnderlying123 fo_123_1 rfl) rfl rfl ?_
        obtain ⟨y17, k18, H⟩ := H
        refine tr_h (y_ldS Try.isAgg35 Try.sizeOf35 rfl rfl) k18 rfl rfl ?_
        refine tr_e (f_store (vs := y17.cells) Try.sizeOf35 rfl rfl cellsOfStruct rfl (by intro v hv; exact ones_S_api_Agg _ v hv) H) rfl rfl ?_
        rintro _ h19 ⟨rfl, H⟩
        refine tr_p (y_assign rfl) rfl rfl ?_
        refine tr_nil ?_
        refine tr_thenN ?_
        refine tr_ret ?_
        refine tr_thenR ?_
        obtain ⟨y20, k21, H⟩ := H
        exact tr_rv2 rfl (rv_cellS Try.isAgg35 Try.sizeOf35 rfl rfl k21) (rv_tmp rfl) ⟨_, _, rfl, H⟩
      · replace H := H.2 g10
        refine tr_skip ?_
        refine tr_thenN ?_
        exact tr_join [(4, (.pointer (some x4)))] ⟨rfl, trivial⟩ ⟨_, rfl, H⟩
    · refine tr_region ?_
      refine tr_p (y_move rfl) rfl rfl ?_
      refine tr_p (y_geq rfl rfl) rfl rfl ?_
      refine tr_p (y_move rfl) rfl rfl ?_
      refine tr_split (t := 12) rfl (fun g22 => ?_) (fun g22 => ?_)
      · replace H := H.1 g22
        refine tr_p (y_move rfl) rfl rfl ?_
        obtain ⟨a23, e24, H⟩ := H
        refine tr_p (f_nn rfl e24) rfl rfl ?_
        refine tr_p (y_fa (off := 0) Try.runUnderlying121 fo_121_0 rfl) rfl rfl ?_
        obtain ⟨y25, k26, H⟩ := H
        refine tr_h (y_ld Try.isAgg119 rfl) k26 rfl rfl ?_
        refine tr_p (y_move rfl) rfl rfl ?_
        obtain ⟨a27, e28, H⟩ := H
        refine tr_p (f_idx (s := y25) Try.runUnderlying119 Try.sizeOf123 rfl rfl e28) rfl rfl ?_
        refine tr_p (y_fa (off := 5) Try.runUnderlying123 fo_123_2 rfl) rfl rfl ?_
        obtain ⟨y29, k30, H⟩ := H
        refine tr_h (y_ld Try.isAgg4 rfl) k30 rfl rfl ?_
        refine tr_p (y_not rfl) rfl rfl ?_
        refine tr_p (y_pick_t rfl rfl) rfl rfl ?_
        refine tr_nil ?_
        refine tr_thenN ?_
        exact tr_join [(0, (.pointer p0)), (4, (.pointer (some a2))), (6, (.int .i64 r9)), (22, (.bool (!y29)))] ⟨rfl, rfl, rfl, rfl, trivial⟩ ⟨_, _, _, _, rfl, H⟩
      · replace H := H.2 g22
        refine tr_s rfl rfl ?_
        refine tr_s rfl rfl ?_
        refine tr_s rfl rfl ?_
        refine tr_s rfl rfl ?_
        refine tr_s rfl rfl ?_
        refine tr_s rfl rfl ?_
        refine tr_s rfl rfl ?_
        refine tr_s rfl rfl ?_
        refine tr_s rfl rfl ?_
        refine tr_p (y_pick_f rfl rfl) rfl rfl ?_
        refine tr_nil ?_
        refine tr_thenN ?_
        exact tr_join [(0, (.pointer p0)), (4, (.pointer (some a2))), (6, (.int .i64 r9)), (22, (.bool false))] ⟨rfl, rfl, rfl, rfl, trivial⟩ ⟨_, _, _, _, rfl, H⟩
/-- spate/shard.at -/
def F.shard_at (p0 : Option Addr) (p1 : Int) (h : H) (Q : S_api_Agg → Bool → H → Prop) : Prop :=
  new h (((⟨0, 0, 0, 0⟩ : S_api_Agg) : S_api_Agg).cells.toArray) ty_35 fun a2 h1 =>
  (p0.isNone = true →
  stH h1 a2 ((⟨0, 0, 0, 0⟩ : S_api_Agg).cells) fun h4 =>
  ld_S_api_Agg h4 a2 fun y5 =>
  Q y5 false h4) ∧
  (p0.isNone = false →
  (((p1 == 0)) = true →
  F.chain_Chain_api_Agg_Newest p0 h1 fun r9 r10 r11 h8 =>
  new h8 (((⟨0, 0, 0, 0⟩ : S_api_Agg) : S_api_Agg).cells.toArray) ty_35 fun a13 h12 =>
  stH h12 a13 r9.cells fun h14 =>
  ld_S_api_Agg h14 a13 fun y15 =>
  stH h14 a2 y15.cells fun h17 =>
  ld_S_api_Agg h17 a2 fun y18 =>
  Q y18 r11 h17) ∧
  (((p1 == 0)) = false →
  F.chain_Chain_api_Agg_At p0 p1 h1 fun r21 r22 h20 =>
  stH h20 a2 r21.cells fun h23 =>
  ld_S_api_Agg h23 a2 fun y24 =>
  Q y24 r22 h23))
theorem F.shard_at_ok {p0 : Option Addr} {p1 : Int} {h : H} {Q : S_api_Agg → Bool → H → Prop} (H : F.shard_at p0 p1 h Q) : Fn PP 44 ([(.pointer p0), (.int .i64 p1)] : List Value).toArray h fun r h' => ∃ r0 r1, r = .tuple #[(.agg r0.cells.toArray), (.bool r1)] ∧ Q r0 r1 h' := by
  unfold F.shard_at at H
  refine fn_of Try.func44 Try.ntmps44 rfl rfl fun w0 => ?_
  refine tr_sub [(0, (.pointer p0)), (1, (.int .i64 p1))] ⟨rfl, rfl, trivial⟩ ?_
  refine tr_seq ?_
  refine tr_region ?_
  refine tr_e (f_alloc (cs := ((⟨0, 0, 0, 0⟩ : S_api_Agg) : S_api_Agg).cells.toArray) Try.zeroValue35 rfl H) rfl rfl ?_
  rintro _ h1 ⟨a2, rfl, H⟩
  refine tr_p (y_assign rfl) rfl rfl ?_
  refine tr_nil ?_
  refine tr_thenN ?_
  refine tr_seq ?_
  refine tr_seq ?_
  refine tr_region ?_
  refine tr_p (y_move rfl) rfl rfl ?_
  refine tr_p (y_pnil_eql Try.runUnderlying77 rfl rfl) rfl rfl ?_
  refine tr_nil ?_
  refine tr_thenN ?_
  refine tr_cond rfl (fun g3 => ?_) (fun g3 => ?_)
  · replace H := H.1 g3
    refine tr_seq ?_
    refine tr_region ?_
    refine tr_p (f_build rfl (bd_35_ )) rfl rfl ?_
    refine tr_e (f_store (vs := (⟨0, 0, 0, 0⟩ : S_api_Agg).cells) Try.sizeOf35 rfl rfl cellsOfStruct rfl (by intro v hv; exact ones_S_api_Agg _ v hv) H) rfl rfl ?_
    rintro _ h4 ⟨rfl, H⟩
    refine tr_p (y_assign rfl) rfl rfl ?_
    refine tr_nil ?_
    refine tr_thenN ?_
    refine tr_ret ?_
    refine tr_thenR ?_
    obtain ⟨y5, k6, H⟩ := H
    exact tr_rv2 rfl (rv_cellS Try.isAgg35 Try.sizeOf35 rfl rfl k6) (rv_tmp rfl) ⟨_, _, rfl, H⟩
  · replace H := H.2 g3
    refine tr_skip ?_
    refine tr_thenN ?_
    refine tr_seq ?_
    refine tr_seq ?_
    refine tr_region ?_
    refine tr_p (y_move rfl) rfl rfl ?_
    refine tr_p (y_eql rfl rfl) rfl rfl ?_
    refine tr_nil ?_
    refine tr_thenN ?_
    refine tr_cond rfl (fun g7 => ?_) (fun g7 => ?_)
    · replace H := H.1 g7
      refine tr_seq ?_
      refine tr_region ?_
      refine tr_p (y_move rfl) rfl rfl ?_
      refine tr_e (e_call Try.call39 rfl (F.chain_Chain_api_Agg_Newest_ok H)) rfl rfl ?_
      rintro _ h8 ⟨r9, r10, r11, rfl, H⟩
      refine tr_p (y_move rfl) rfl rfl ?_
      refine tr_p (y_ext rfl rfl) rfl rfl ?_
      refine tr_p (y_ext rfl rfl) rfl rfl ?_
      refine tr_p (y_ext rfl rfl) rfl rfl ?_
      refine tr_e (f_alloc (cs := ((⟨0, 0, 0, 0⟩ : S_api_Agg) : S_api_Agg).cells.toArray) Try.zeroValue35 rfl H) rfl rfl ?_
      rintro _ h12 ⟨a13, rfl, H⟩
      refine tr_e (f_store (vs := r9.cells) Try.sizeOf35 rfl rfl cellsOfStruct rfl (by intro v hv; exact ones_S_api_Agg _ v hv) H) rfl rfl ?_
      rintro _ h14 ⟨rfl, H⟩
      refine tr_p (y_assign rfl) rfl rfl ?_
      refine tr_p (y_assign rfl) rfl rfl ?_
      refine tr_nil ?_
      refine tr_thenN ?_
      refine tr_seq ?_
      refine tr_region ?_
      obtain ⟨y15, k16, H⟩ := H
      refine tr_h (y_ldS Try.isAgg35 Try.sizeOf35 rfl rfl) k16 rfl rfl ?_
      refine tr_p (y_move rfl) rfl rfl ?_
      refine tr_e (f_store (vs := y15.cells) Try.sizeOf35 rfl rfl cellsOfStruct rfl (by intro v hv; exact ones_S_api_Agg _ v hv) H) rfl rfl ?_
      rintro _ h17 ⟨rfl, H⟩
      refine tr_p (y_assign rfl) rfl rfl ?_
      refine tr_nil ?_
      refine tr_thenN ?_
      refine tr_ret ?_
      refine tr_thenR ?_
      obtain ⟨y18, k19, H⟩ := H
      exact tr_rv2 rfl (rv_cellS Try.isAgg35 Try.sizeOf35 rfl rfl k19) (rv_tmp rfl) ⟨_, _, rfl, H⟩
    · replace H := H.2 g7
      refine tr_skip ?_
      refine tr_thenN ?_
      refine tr_seq ?_
      refine tr_region ?_
      refine tr_p (y_move rfl) rfl rfl ?_
      refine tr_p (y_move rfl) rfl rfl ?_
      refine tr_e (e_call Try.call65 rfl (F.chain_Chain_api_Agg_At_ok H)) rfl rfl ?_
      rintro _ h20 ⟨r21, r22, rfl, H⟩
      refine tr_p (y_ext rfl rfl) rfl rfl ?_
      refine tr_p (y_ext rfl rfl) rfl rfl ?_
      refine tr_e (f_store (vs := r21.cells) Try.sizeOf35 rfl rfl cellsOfStruct rfl (by intro v hv; exact ones_S_api_Agg _ v hv) H) rfl rfl ?_
      rintro _ h23 ⟨rfl, H⟩
      refine tr_p (y_assign rfl) rfl rfl ?_
      refine tr_nil ?_
      refine tr_thenN ?_
      refine tr_ret ?_
      obtain ⟨y24, k25, H⟩ := H
      exact tr_rv2 rfl (rv_cellS Try.isAgg35 Try.sizeOf35 rfl rfl k25) (rv_tmp rfl) ⟨_, _, rfl, H⟩
/-- (*spate/shard.Shard).At -/
def F.shard_Shard_At (p0 : Option Addr) (p1 : S_api_Cell) (p2 : Int) (h : H) (Q : S_api_Agg → H → Prop) : Prop :=
  new h p1.cells.toArray ty_24 fun a2 h1 =>
  new h1 (((⟨0, 0, 0, 0⟩ : S_api_Agg) : S_api_Agg).cells.toArray) ty_35 fun a4 h3 =>
  ld_S_api_Cell h3 a2 fun y5 =>
  F.shard_Shard_chain p0 y5 h3 fun r8 h7 =>
  F.shard_at r8 p2 h7 fun r10 r11 h9 =>
  new h9 (((⟨0, 0, 0, 0⟩ : S_api_Agg) : S_api_Agg).cells.toArray) ty_35 fun a13 h12 =>
  stH h12 a13 r10.cells fun h14 =>
  ld_S_api_Agg h14 a13 fun y15 =>
  stH h14 a4 y15.cells fun h17 =>
  ld_S_api_Agg h17 a4 fun y18 =>
  Q y18 h17
theorem F.shard_Shard_At_ok {p0 : Option Addr} {p1 : S_api_Cell} {p2 : Int} {h : H} {Q : S_api_Agg → H → Prop} (H : F.shard_Shard_At p0 p1 p2 h Q) : Fn PP 19 ([(.pointer p0), (.agg p1.cells.toArray), (.int .i64 p2)] : List Value).toArray h fun r h' => ∃ r0, r = (.agg r0.cells.toArray) ∧ Q r0 h' := by
  unfold F.shard_Shard_At at H
  refine fn_of Try.func19 Try.ntmps19 rfl rfl fun w0 => ?_
  refine tr_sub [(0, (.pointer p0)), (1, (.agg p1.cells.toArray)), (2, (.int .i64 p2))] ⟨rfl, rfl, rfl, trivial⟩ ?_
  refine tr_seq ?_
  refine tr_region ?_
  refine tr_e (f_box (cs := p1.cells.toArray) rfl rfl H) rfl rfl ?_
  rintro _ h1 ⟨a2, rfl, H⟩
  refine tr_e (f_alloc (cs := ((⟨0, 0, 0, 0⟩ : S_api_Agg) : S_api_Agg).cells.toArray) Try.zeroValue35 rfl H) rfl rfl ?_
  rintro _ h3 ⟨a4, rfl, H⟩
  refine tr_nil ?_
  refine tr_thenN ?_
  refine tr_seq ?_
  refine tr_region ?_
  refine tr_p (y_move rfl) rfl rfl ?_
  obtain ⟨y5, k6, H⟩ := H
  refine tr_h (y_ldS Try.isAgg24 Try.sizeOf24 rfl rfl) k6 rfl rfl ?_
  refine tr_e (e_call Try.call45 rfl (F.shard_Shard_chain_ok H)) rfl rfl ?_
  rintro _ h7 ⟨r8, rfl, H⟩
  refine tr_p (y_move rfl) rfl rfl ?_
  refine tr_e (e_call Try.call44 rfl (F.shard_at_ok H)) rfl rfl ?_
  rintro _ h9 ⟨r10, r11, rfl, H⟩
  refine tr_p (y_move rfl) rfl rfl ?_
  refine tr_p (y_ext rfl rfl) rfl rfl ?_
  refine tr_p (y_ext rfl rfl) rfl rfl ?_
  refine tr_e (f_alloc (cs := ((⟨0, 0, 0, 0⟩ : S_api_Agg) : S_api_Agg).cells.toArray) Try.zeroValue35 rfl H) rfl rfl ?_
  rintro _ h12 ⟨a13, rfl, H⟩
  refine tr_e (f_store (vs := r10.cells) Try.sizeOf35 rfl rfl cellsOfStruct rfl (by intro v hv; exact ones_S_api_Agg _ v hv) H) rfl rfl ?_
  rintro _ h14 ⟨rfl, H⟩
  refine tr_p (y_assign rfl) rfl rfl ?_
  refine tr_nil ?_
  refine tr_thenN ?_
  refine tr_seq ?_
  refine tr_region ?_
  obtain ⟨y15, k16, H⟩ := H
  refine tr_h (y_ldS Try.isAgg35 Try.sizeOf35 rfl rfl) k16 rfl rfl ?_
  refine tr_e (f_store (vs := y15.cells) Try.sizeOf35 rfl rfl cellsOfStruct rfl (by intro v hv; exact ones_S_api_Agg _ v hv) H) rfl rfl ?_
  rintro _ h17 ⟨rfl, H⟩
  refine tr_nil ?_
  refine tr_thenN ?_
  refine tr_ret ?_
  obtain ⟨y18, k19, H⟩ := H
  exact tr_rv1 rfl (rv_cellS Try.isAgg35 Try.sizeOf35 rfl rfl k19) ⟨_, rfl, H⟩
/-- (*spate/shard.Shard).Get -/
def F.shard_Shard_Get (p0 : Option Addr) (p1 : S_api_Cell) (h : H) (Q : S_api_Agg → H → Prop) : Prop :=
  new h p1.cells.toArray ty_24 fun a2 h1 =>
  new h1 (((⟨0, 0, 0, 0⟩ : S_api_Agg) : S_api_Agg).cells.toArray) ty_35 fun a4 h3 =>
  ld_S_api_Cell h3 a2 fun y5 =>
  F.shard_Shard_At p0 y5 0 h3 fun r8 h7 =>
  stH h7 a4 r8.cells fun h9 =>
  ld_S_api_Agg h9 a4 fun y10 =>
  Q y10 h9
theorem F.shard_Shard_Get_ok {p0 : Option Addr} {p1 : S_api_Cell} {h : H} {Q : S_api_Agg → H → Prop} (H : F.shard_Shard_Get p0 p1 h Q) : Fn PP 17 ([(.pointer p0), (.agg p1.cells.toArray)] : List Value).toArray h fun r h' => ∃ r0, r = (.agg r0.cells.toArray) ∧ Q r0 h' := by
  unfold F.shard_Shard_Get at H
  refine fn_of Try.func17 Try.ntmps17 rfl rfl fun w0 => ?_
  refine tr_sub [(0, (.pointer p0)), (1, (.agg p1.cells.toArray))] ⟨rfl, rfl, trivial⟩ ?_
  refine tr_seq ?_
  refine tr_region ?_
  refine tr_e (f_box (cs := p1.cells.toArray) rfl rfl H) rfl rfl ?_
  rintro _ h1 ⟨a2, rfl, H⟩
  refine tr_e (f_alloc (cs := ((⟨0, 0, 0, 0⟩ : S_api_Agg) : S_api_Agg).cells.toArray) Try.zeroValue35 rfl H) rfl rfl ?_
  rintro _ h3 ⟨a4, rfl, H⟩
  refine tr_nil ?_
  refine tr_thenN ?_
  refine tr_seq ?_
  refine tr_region ?_
  refine tr_p (y_move rfl) rfl rfl ?_
  obtain ⟨y5, k6, H⟩ := H
  refine tr_h (y_ldS Try.isAgg24 Try.sizeOf24 rfl rfl) k6 rfl rfl ?_
  refine tr_e (e_call Try.call19 rfl (F.shard_Shard_At_ok H)) rfl rfl ?_
  rintro _ h7 ⟨r8, rfl, H⟩
  refine tr_e (f_store (vs := r8.cells) Try.sizeOf35 rfl rfl cellsOfStruct rfl (by intro v hv; exact ones_S_api_Agg _ v hv) H) rfl rfl ?_
  rintro _ h9 ⟨rfl, H⟩
  refine tr_nil ?_
  refine tr_thenN ?_
  refine tr_ret ?_
  obtain ⟨y10, k11, H⟩ := H
  exact tr_rv1 rfl (rv_cellS Try.isAgg35 Try.sizeOf35 rfl rfl k11) ⟨_, rfl, H⟩
def F.spatelaw7_head.j1 (Q : Bool → H → Prop) (x1 : Option Addr) (h : H) : Prop :=
  new h (((⟨0, (⟨#[]⟩ : ByteArray), 0⟩ : S_api_Cell) : S_api_Cell).cells.toArray) ty_24 fun a5 h4 =>
  stH h4 a5 ((⟨0, (⟨#[97]⟩ : ByteArray), 0⟩ : S_api_Cell).cells) fun h6 =>
  ld_S_api_Cell h6 a5 fun y7 =>
  F.spatelaw7_one 5 h6 fun r10 h9 =>
  Cells h9 a5 y7.cells ∧
  F.shard_Shard_Put x1 1 (⟨y7, r10⟩ : S_api_Row) h9 fun r13 h12 =>
  ld_S_api_Cell h12 a5 fun y14 =>
  F.spatelaw7_one 6 h12 fun r17 h16 =>
  Cells h16 a5 y14.cells ∧
  F.shard_Shard_Put x1 2 (⟨y14, r17⟩ : S_api_Row) h16 fun r20 h19 =>
  (((r13 == 0)) = true →
  (((r20 == 0)) = true →
  nn x1 fun a23 =>
  F.shard_counts_Units (some (a23.add 0)) h19 fun r26 h25 =>
  (((r26 == 3)) = true →
  nn x1 fun a28 =>
  F.shard_counts_Cells (some (a28.add 0)) h25 fun r31 h30 =>
  (((r31 == 1)) = true →
  F.shard_Shard_Most x1 h30 fun r34 h33 =>
  (((r34 == 2)) = true →
  ld_S_api_Cell h33 a5 fun y36 =>
  F.shard_Shard_Get x1 y36 h33 fun r39 h38 =>
  F.spatelaw7_one 6 h38 fun r41 h40 =>
  (((r39.Count == r41.Count) && ((r39.Sum == r41.Sum) && ((r39.Min == r41.Min) && ((r39.Max == r41.Max) && true)))) = true →
  ld_S_api_Cell h40 a5 fun y43 =>
  F.shard_Shard_At x1 y43 1 h40 fun r46 h45 =>
  F.spatelaw7_one 5 h45 fun r48 h47 =>
  Q ((r46.Count == r48.Count) && ((r46.Sum == r48.Sum) && ((r46.Min == r48.Min) && ((r46.Max == r48.Max) && true)))) h47) ∧
  (((r39.Count == r41.Count) && ((r39.Sum == r41.Sum) && ((r39.Min == r41.Min) && ((r39.Max == r41.Max) && true)))) = false →
  Q false h40)) ∧
  (((r34 == 2)) = false →
  Q false h33)) ∧
  (((r31 == 1)) = false →
  Q false h30)) ∧
  (((r26 == 3)) = false →
  Q false h25)) ∧
  (((r20 == 0)) = false →
  Q false h19)) ∧
  (((r13 == 0)) = false →
  Q false h19)
def F.spatelaw7_head.j2 (Q : Bool → H → Prop) (x1 : Option Addr) (x15 : Bool) (h : H) : Prop :=
  (x15 = true →
  Q false h) ∧
  (x15 = false →
  F.spatelaw7_head.j1 Q x1 h)
/-- spate/spatelaw7.head -/
def F.spatelaw7_head  (h : H) (Q : Bool → H → Prop) : Prop :=
  F.shard_New 6 h fun r2 r3 h1 =>
  (((r3 != 0)) = true →
  F.spatelaw7_head.j2 Q r2 true h1) ∧
  (((r3 != 0)) = false →
  F.spatelaw7_head.j2 Q r2 r2.isNone h1)
theorem F.spatelaw7_head_ok  {h : H} {Q : Bool → H → Prop} (H : F.spatelaw7_head  h Q) : Fn PP 12 ([] : List Value).toArray h fun r h' => ∃ r0, r = (.bool r0) ∧ Q r0 h' := by
  unfold F.spatelaw7_head at H
  refine fn_of Try.func12 Try.ntmps12 rfl rfl fun w0 => ?_
  refine tr_sub [] trivial ?_
  refine tr_seq ?_
  refine tr_region ?_
  refine tr_p (y_assign rfl) rfl rfl ?_
  refine tr_nil ?_
  refine tr_thenN ?_
  refine tr_seq ?_
  refine tr_region ?_
  refine tr_e (e_call Try.call13 rfl (F.shard_New_ok H)) rfl rfl ?_
  rintro _ h1 ⟨r2, r3, rfl, H⟩
  refine tr_p (y_move rfl) rfl rfl ?_
  refine tr_p (y_ext rfl rfl) rfl rfl ?_
  refine tr_p (y_ext rfl rfl) rfl rfl ?_
  refine tr_p (y_assign rfl) rfl rfl ?_
  refine tr_p (y_assign rfl) rfl rfl ?_
  refine tr_nil ?_
  refine tr_thenN ?_
  refine tr_seq_j (fun L' h => ∃ (x1 : Option Addr), L' = [(1, (.pointer x1))] ∧ F.spatelaw7_head.j1 Q x1 h) ?_ ?_
  · rintro L' h ⟨x1, rfl, H⟩
    unfold F.spatelaw7_head.j1 at H
    refine tr_seq ?_
    refine tr_region ?_
    refine tr_p (f_build rfl (bd_24_1 (⟨#[97]⟩ : ByteArray))) rfl rfl ?_
    refine tr_e (f_alloc (cs := ((⟨0, (⟨#[]⟩ : ByteArray), 0⟩ : S_api_Cell) : S_api_Cell).cells.toArray) Try.zeroValue24 rfl H) rfl rfl ?_
    rintro _ h4 ⟨a5, rfl, H⟩
    refine tr_e (f_store (vs := (⟨0, (⟨#[97]⟩ : ByteArray), 0⟩ : S_api_Cell).cells) Try.sizeOf24 rfl rfl cellsOfStruct rfl (by intro v hv; exact ones_S_api_Cell _ v hv) H) rfl rfl ?_
    rintro _ h6 ⟨rfl, H⟩
    refine tr_nil ?_
    refine tr_thenN ?_
    refine tr_seq ?_
    refine tr_draw mixed [0, 0, 0, 6, 15, 31] (by kernel_rfl) ?_
    refine g_p 0 1 rfl (by kernel_rfl) (y_move rfl) rfl rfl ?_
    obtain ⟨y7, k8, H⟩ := H
    refine g_h 1 3 rfl (by kernel_rfl) (y_ldS Try.isAgg24 Try.sizeOf24 rfl rfl) k8 rfl rfl ?_
    refine g_e 2 7 [(1, fun h => Cells h a5 y7.cells)] (by kernel_rfl) rfl (by kernel_rfl) (e_call Try.call20 rfl (F.spatelaw7_one_ok H)) rfl rfl ?_
    rintro _ h9 ⟨r10, rfl, H⟩
    obtain ⟨k11, H⟩ := H
    refine ⟨And.intro k11 trivial, ?_⟩
    refine g_p 3 15 rfl (by kernel_rfl) (f_build rfl (bd_43_0_1 y7 r10)) rfl rfl ?_
    refine g_e 4 31 [] (by kernel_rfl) rfl (by kernel_rfl) (e_call Try.call18 rfl (F.shard_Shard_Put_ok H)) rfl rfl ?_
    rintro _ h12 ⟨r13, rfl, H⟩
    refine ⟨trivial, ?_⟩
    refine g_p 5 63 rfl (by kernel_rfl) (y_assign rfl) rfl rfl ?_
    refine g_d (by kernel_rfl) ?_
    refine tr_thenN ?_
    refine tr_seq ?_
    refine tr_draw mixed [0, 0, 0, 6, 15, 31] (by kernel_rfl) ?_
    refine g_p 0 1 rfl (by kernel_rfl) (y_move rfl) rfl rfl ?_
    obtain ⟨y14, k15, H⟩ := H
    refine g_h 1 3 rfl (by kernel_rfl) (y_ldS Try.isAgg24 Try.sizeOf24 rfl rfl) k15 rfl rfl ?_
    refine g_e 2 7 [(1, fun h => Cells h a5 y14.cells)] (by kernel_rfl) rfl (by kernel_rfl) (e_call Try.call20 rfl (F.spatelaw7_one_ok H)) rfl rfl ?_
    rintro _ h16 ⟨r17, rfl, H⟩
    obtain ⟨k18, H⟩ := H
    refine ⟨And.intro k18 trivial, ?_⟩
    refine g_p 3 15 rfl (by kernel_rfl) (f_build rfl (bd_43_0_1 y14 r17)) rfl rfl ?_
    refine g_e 4 31 [] (by kernel_rfl) rfl (by kernel_rfl) (e_call Try.call18 rfl (F.shard_Shard_Put_ok H)) rfl rfl ?_
    rintro _ h19 ⟨r20, rfl, H⟩
    refine ⟨trivial, ?_⟩
    refine g_p 5 63 rfl (by kernel_rfl) (y_assign rfl) rfl rfl ?_
    refine g_d (by kernel_rfl) ?_
    refine tr_thenN ?_
    refine tr_seq ?_
    refine tr_region ?_
    refine tr_p (y_move rfl) rfl rfl ?_
    refine tr_p (y_eql rfl rfl) rfl rfl ?_
    refine tr_p (y_move rfl) rfl rfl ?_
    refine tr_split (t := 29) rfl (fun g21 => ?_) (fun g21 => ?_)
    · replace H := H.1 g21
      refine tr_p (y_move rfl) rfl rfl ?_
      refine tr_p (y_eql rfl rfl) rfl rfl ?_
      refine tr_p (y_pick_t rfl rfl) rfl rfl ?_
      refine tr_p (y_move rfl) rfl rfl ?_
      refine tr_split (t := 33) rfl (fun g22 => ?_) (fun g22 => ?_)
      · replace H := H.1 g22
        refine tr_p (y_move rfl) rfl rfl ?_
        obtain ⟨a23, e24, H⟩ := H
        refine tr_p (f_nn rfl e24) rfl rfl ?_
        refine tr_p (y_fa (off := 0) Try.runUnderlying54 fo_54_0 rfl) rfl rfl ?_
        refine tr_e (e_call Try.call22 rfl (F.shard_counts_Units_ok H)) rfl rfl ?_
        rintro _ h25 ⟨r26, rfl, H⟩
        refine tr_p (y_eql rfl rfl) rfl rfl ?_
        refine tr_p (y_pick_t rfl rfl) rfl rfl ?_
        refine tr_p (y_move rfl) rfl rfl ?_
        refine tr_split (t := 40) rfl (fun g27 => ?_) (fun g27 => ?_)
        · replace H := H.1 g27
          refine tr_p (y_move rfl) rfl rfl ?_
          obtain ⟨a28, e29, H⟩ := H
          refine tr_p (f_nn rfl e29) rfl rfl ?_
          refine tr_p (y_fa (off := 0) Try.runUnderlying54 fo_54_0 rfl) rfl rfl ?_
          refine tr_e (e_call Try.call23 rfl (F.shard_counts_Cells_ok H)) rfl rfl ?_
          rintro _ h30 ⟨r31, rfl, H⟩
          refine tr_p (y_eql rfl rfl) rfl rfl ?_
          refine tr_p (y_pick_t rfl rfl) rfl rfl ?_
          refine tr_p (y_move rfl) rfl rfl ?_
          refine tr_split (t := 47) rfl (fun g32 => ?_) (fun g32 => ?_)
          · replace H := H.1 g32
            refine tr_p (y_move rfl) rfl rfl ?_
            refine tr_e (e_call Try.call24 rfl (F.shard_Shard_Most_ok H)) rfl rfl ?_
            rintro _ h33 ⟨r34, rfl, H⟩
            refine tr_p (y_eql rfl rfl) rfl rfl ?_
            refine tr_p (y_pick_t rfl rfl) rfl rfl ?_
            refine tr_p (y_move rfl) rfl rfl ?_
            refine tr_split (t := 52) rfl (fun g35 => ?_) (fun g35 => ?_)
            · replace H := H.1 g35
              refine tr_p (y_move rfl) rfl rfl ?_
              obtain ⟨y36, k37, H⟩ := H
              refine tr_h (y_ldS Try.isAgg24 Try.sizeOf24 rfl rfl) k37 rfl rfl ?_
              refine tr_e (e_call Try.call17 rfl (F.shard_Shard_Get_ok H)) rfl rfl ?_
              rintro _ h38 ⟨r39, rfl, H⟩
              refine tr_e (e_call Try.call20 rfl (F.spatelaw7_one_ok H)) rfl rfl ?_
              rintro _ h40 ⟨r41, rfl, H⟩
              refine tr_p (st_eql (b := ((r39.Count == r41.Count) && ((r39.Sum == r41.Sum) && ((r39.Min == r41.Min) && ((r39.Max == r41.Max) && true))))) eqg_35 (fun w => eqst_35 r39 r41 9998 w) rfl rfl) rfl rfl ?_
              refine tr_p (y_pick_t rfl rfl) rfl rfl ?_
              refine tr_p (y_move rfl) rfl rfl ?_
              refine tr_split (t := 59) rfl (fun g42 => ?_) (fun g42 => ?_)
              · replace H := H.1 g42
                refine tr_p (y_move rfl) rfl rfl ?_
                obtain ⟨y43, k44, H⟩ := H
                refine tr_h (y_ldS Try.isAgg24 Try.sizeOf24 rfl rfl) k44 rfl rfl ?_
                refine tr_e (e_call Try.call19 rfl (F.shard_Shard_At_ok H)) rfl rfl ?_
                rintro _ h45 ⟨r46, rfl, H⟩
                refine tr_e (e_call Try.call20 rfl (F.spatelaw7_one_ok H)) rfl rfl ?_
                rintro _ h47 ⟨r48, rfl, H⟩
                refine tr_p (st_eql (b := ((r46.Count == r48.Count) && ((r46.Sum == r48.Sum) && ((r46.Min == r48.Min) && ((r46.Max == r48.Max) && true))))) eqg_35 (fun w => eqst_35 r46 r48 9998 w) rfl rfl) rfl rfl ?_
                refine tr_p (y_pick_t rfl rfl) rfl rfl ?_
                refine tr_p (y_assign rfl) rfl rfl ?_
                refine tr_nil ?_
                refine tr_thenN ?_
                refine tr_ret ?_
                exact tr_ret1 rfl rfl ⟨_, rfl, H⟩
              · replace H := H.2 g42
                refine tr_s rfl rfl ?_
                refine tr_s rfl rfl ?_
                refine tr_s rfl rfl ?_
                refine tr_s rfl rfl ?_
                refine tr_s rfl rfl ?_
                refine tr_p (y_pick_f rfl rfl) rfl rfl ?_
                refine tr_p (y_assign rfl) rfl rfl ?_
                refine tr_nil ?_
                refine tr_thenN ?_
                refine tr_ret ?_
                exact tr_ret1 rfl rfl ⟨_, rfl, H⟩
            · replace H := H.2 g35
              refine tr_s rfl rfl ?_
              refine tr_s rfl rfl ?_
              refine tr_s rfl rfl ?_
              refine tr_s rfl rfl ?_
              refine tr_s rfl rfl ?_
              refine tr_p (y_pick_f rfl rfl) rfl rfl ?_
              refine tr_p (y_move rfl) rfl rfl ?_
              refine tr_s rfl rfl ?_
              refine tr_s rfl rfl ?_
              refine tr_s rfl rfl ?_
              refine tr_s rfl rfl ?_
              refine tr_s rfl rfl ?_
              refine tr_p (y_pick_f rfl rfl) rfl rfl ?_
              refine tr_p (y_assign rfl) rfl rfl ?_
              refine tr_nil ?_
              refine tr_thenN ?_
              refine tr_ret ?_
              exact tr_ret1 rfl rfl ⟨_, rfl, H⟩
          · replace H := H.2 g32
            refine tr_s rfl rfl ?_
            refine tr_s rfl rfl ?_
            refine tr_s rfl rfl ?_
            refine tr_p (y_pick_f rfl rfl) rfl rfl ?_
            refine tr_p (y_move rfl) rfl rfl ?_
            refine tr_s rfl rfl ?_
            refine tr_s rfl rfl ?_
            refine tr_s rfl rfl ?_
            refine tr_s rfl rfl ?_
            refine tr_s rfl rfl ?_
            refine tr_p (y_pick_f rfl rfl) rfl rfl ?_
            refine tr_p (y_move rfl) rfl rfl ?_
            refine tr_s rfl rfl ?_
            refine tr_s rfl rfl ?_
            refine tr_s rfl rfl ?_
            refine tr_s rfl rfl ?_
            refine tr_s rfl rfl ?_
            refine tr_p (y_pick_f rfl rfl) rfl rfl ?_
            refine tr_p (y_assign rfl) rfl rfl ?_
            refine tr_nil ?_
            refine tr_thenN ?_
            refine tr_ret ?_
            exact tr_ret1 rfl rfl ⟨_, rfl, H⟩
        · replace H := H.2 g27
          refine tr_s rfl rfl ?_
          refine tr_s rfl rfl ?_
          refine tr_s rfl rfl ?_
          refine tr_s rfl rfl ?_
          refine tr_s rfl rfl ?_
          refine tr_p (y_pick_f rfl rfl) rfl rfl ?_
          refine tr_p (y_move rfl) rfl rfl ?_
          refine tr_s rfl rfl ?_
          refine tr_s rfl rfl ?_
          refine tr_s rfl rfl ?_
          refine tr_p (y_pick_f rfl rfl) rfl rfl ?_
          refine tr_p (y_move rfl) rfl rfl ?_
          refine tr_s rfl rfl ?_
          refine tr_s rfl rfl ?_
          refine tr_s rfl rfl ?_
          refine tr_s rfl rfl ?_
          refine tr_s rfl rfl ?_
          refine tr_p (y_pick_f rfl rfl) rfl rfl ?_
          refine tr_p (y_move rfl) rfl rfl ?_
          refine tr_s rfl rfl ?_
          refine tr_s rfl rfl ?_
          refine tr_s rfl rfl ?_
          refine tr_s rfl rfl ?_
          refine tr_s rfl rfl ?_
          refine tr_p (y_pick_f rfl rfl) rfl rfl ?_
          refine tr_p (y_assign rfl) rfl rfl ?_
          refine tr_nil ?_
          refine tr_thenN ?_
          refine tr_ret ?_
          exact tr_ret1 rfl rfl ⟨_, rfl, H⟩
      · replace H := H.2 g22
        refine tr_s rfl rfl ?_
        refine tr_s rfl rfl ?_
        refine tr_s rfl rfl ?_
        refine tr_s rfl rfl ?_
        refine tr_s rfl rfl ?_
        refine tr_p (y_pick_f rfl rfl) rfl rfl ?_
        refine tr_p (y_move rfl) rfl rfl ?_
        refine tr_s rfl rfl ?_
        refine tr_s rfl rfl ?_
        refine tr_s rfl rfl ?_
        refine tr_s rfl rfl ?_
        refine tr_s rfl rfl ?_
        refine tr_p (y_pick_f rfl rfl) rfl rfl ?_
        refine tr_p (y_move rfl) rfl rfl ?_
        refine tr_s rfl rfl ?_
        refine tr_s rfl rfl ?_
        refine tr_s rfl rfl ?_
        refine tr_p (y_pick_f rfl rfl) rfl rfl ?_
        refine tr_p (y_move rfl) rfl rfl ?_
        refine tr_s rfl rfl ?_
        refine tr_s rfl rfl ?_
        refine tr_s rfl rfl ?_
        refine tr_s rfl rfl ?_
        refine tr_s rfl rfl ?_
        refine tr_p (y_pick_f rfl rfl) rfl rfl ?_
        refine tr_p (y_move rfl) rfl rfl ?_
        refine tr_s rfl rfl ?_
        refine tr_s rfl rfl ?_
        refine tr_s rfl rfl ?_
        refine tr_s rfl rfl ?_
        refine tr_s rfl rfl ?_
        refine tr_p (y_pick_f rfl rfl) rfl rfl ?_
        refine tr_p (y_assign rfl) rfl rfl ?_
        refine tr_nil ?_
        refine tr_thenN ?_
        refine tr_ret ?_
        exact tr_ret1 rfl rfl ⟨_, rfl, H⟩
    · replace H := H.2 g21
      refine tr_s rfl rfl ?_
      refine tr_s rfl rfl ?_
      refine tr_p (y_pick_f rfl rfl) rfl rfl ?_
      refine tr_p (y_move rfl) rfl rfl ?_
      refine tr_s rfl rfl ?_
      refine tr_s rfl rfl ?_
      refine tr_s rfl rfl ?_
      refine tr_s rfl rfl ?_
      refine tr_s rfl rfl ?_
      refine tr_p (y_pick_f rfl rfl) rfl rfl ?_
      refine tr_p (y_move rfl) rfl rfl ?_
      refine tr_s rfl rfl ?_
      refine tr_s rfl rfl ?_
      refine tr_s rfl rfl ?_
      refine tr_s rfl rfl ?_
      refine tr_s rfl rfl ?_
      refine tr_p (y_pick_f rfl rfl) rfl rfl ?_
      refine tr_p (y_move rfl) rfl rfl ?_
      refine tr_s rfl rfl ?_
      refine tr_s rfl rfl ?_
      refine tr_s rfl rfl ?_
      refine tr_p (y_pick_f rfl rfl) rfl rfl ?_
      refine tr_p (y_move rfl) rfl rfl ?_
      refine tr_s rfl rfl ?_
      refine tr_s rfl rfl ?_
      refine tr_s rfl rfl ?_
      refine tr_s rfl rfl ?_
      refine tr_s rfl rfl ?_
      refine tr_p (y_pick_f rfl rfl) rfl rfl ?_
      refine tr_p (y_move rfl) rfl rfl ?_
      refine tr_s rfl rfl ?_
      refine tr_s rfl rfl ?_
      refine tr_s rfl rfl ?_
      refine tr_s rfl rfl ?_
      refine tr_s rfl rfl ?_
      refine tr_p (y_pick_f rfl rfl) rfl rfl ?_
      refine tr_p (y_assign rfl) rfl rfl ?_
      refine tr_nil ?_
      refine tr_thenN ?_
      refine tr_ret ?_
      exact tr_ret1 rfl rfl ⟨_, rfl, H⟩
  · refine tr_seq_j (fun L' h => ∃ (x1 : Option Addr) (x15 : Bool), L' = [(1, (.pointer x1)), (15, (.bool x15))] ∧ F.spatelaw7_head.j2 Q x1 x15 h) ?_ ?_
    · rintro L' h ⟨x1, x15, rfl, H⟩
      unfold F.spatelaw7_head.j2 at H
      refine tr_cond rfl (fun g49 => ?_) (fun g49 => ?_)
      · replace H := H.1 g49
        refine tr_seq ?_
        refine tr_region ?_
        refine tr_p (y_assign rfl) rfl rfl ?_
        refine tr_nil ?_
        refine tr_thenN ?_
        refine tr_ret ?_
        refine tr_thenR ?_
        exact tr_ret1 rfl rfl ⟨_, rfl, H⟩
      · replace H := H.2 g49
        refine tr_skip ?_
        refine tr_thenN ?_
        exact tr_join [(1, (.pointer x1))] ⟨rfl, trivial⟩ ⟨_, rfl, H⟩
    · refine tr_region ?_
      refine tr_p (y_move rfl) rfl rfl ?_
      refine tr_p (y_neq rfl rfl) rfl rfl ?_
      refine tr_p (y_move rfl) rfl rfl ?_
      refine tr_split (t := 12) rfl (fun g50 => ?_) (fun g50 => ?_)
      · replace H := H.1 g50
        refine tr_s rfl rfl ?_
        refine tr_s rfl rfl ?_
        refine tr_p (y_pick_t rfl rfl) rfl rfl ?_
        refine tr_nil ?_
        refine tr_thenN ?_
        exact tr_join [(1, (.pointer r2)), (15, (.bool true))] ⟨rfl, rfl, trivial⟩ ⟨_, _, rfl, H⟩
      · replace H := H.2 g50
        refine tr_p (y_move rfl) rfl rfl ?_
        refine tr_p (y_pnil_eql Try.runUnderlying27 rfl rfl) rfl rfl ?_
        refine tr_p (y_pick_f rfl rfl) rfl rfl ?_
        refine tr_nil ?_
        refine tr_thenN ?_
        exact tr_join [(1, (.pointer r2)), (15, (.bool r2.isNone))] ⟨rfl, rfl, trivial⟩ ⟨_, _, rfl, H⟩
def F.spatelaw7_within.j1 (Q : Int → H → Prop) (x5 : Int) (h : H) : Prop :=
  Q x5 h
/-- spate/spatelaw7.within -/
def F.spatelaw7_within (p0 : Int) (p1 : Int) (h : H) (Q : Int → H → Prop) : Prop :=
  (p1 : Int) ≠ 0 ∧
  ((decide ((Int.tmod p0 p1) < 0)) = true →
  F.spatelaw7_within.j1 Q (IntKind.wrap .i64 ((Int.tmod p0 p1) + p1)) h) ∧
  ((decide ((Int.tmod p0 p1) < 0)) = false →
  F.spatelaw7_within.j1 Q (Int.tmod p0 p1) h)
theorem F.spatelaw7_within_ok {p0 : Int} {p1 : Int} {h : H} {Q : Int → H → Prop} (H : F.spatelaw7_within p0 p1 h Q) : Fn PP 15 ([(.int .i64 p0), (.int .i64 p1)] : List Value).toArray h fun r h' => ∃ r0, r = (.int .i64 r0) ∧ Q r0 h' := by
  unfold F.spatelaw7_within at H
  refine fn_of Try.func15 Try.ntmps15 rfl rfl fun w0 => ?_
  refine tr_sub [(0, (.int .i64 p0)), (1, (.int .i64 p1))] ⟨rfl, rfl, trivial⟩ ?_
  refine tr_seq ?_
  refine tr_region ?_
  refine tr_p (y_assign rfl) rfl rfl ?_
  refine tr_nil ?_
  refine tr_thenN ?_
  refine tr_seq ?_
  refine tr_region ?_
  refine tr_p (y_move rfl) rfl rfl ?_
  refine tr_p (y_move rfl) rfl rfl ?_
  obtain ⟨e1, H⟩ := H
  refine tr_p (y_rem rfl rfl e1) rfl rfl ?_
  refine tr_p (y_assign rfl) rfl rfl ?_
  refine tr_nil ?_
  refine tr_thenN ?_
  refine tr_seq_j (fun L' h => ∃ (x5 : Int), L' = [(5, (.int .i64 x5))] ∧ F.spatelaw7_within.j1 Q x5 h) ?_ ?_
  · rintro L' h ⟨x5, rfl, H⟩
    unfold F.spatelaw7_within.j1 at H
    refine tr_seq ?_
    refine tr_region ?_
    refine tr_p (y_move rfl) rfl rfl ?_
    refine tr_p (y_assign rfl) rfl rfl ?_
    refine tr_nil ?_
    refine tr_thenN ?_
    refine tr_ret ?_
    exact tr_ret1 rfl rfl ⟨_, rfl, H⟩
  · refine tr_seq ?_
    refine tr_region ?_
    refine tr_p (y_move rfl) rfl rfl ?_
    refine tr_p (y_lss rfl rfl) rfl rfl ?_
    refine tr_nil ?_
    refine tr_thenN ?_
    refine tr_cond rfl (fun g2 => ?_) (fun g2 => ?_)
    · replace H := H.1 g2
      refine tr_region ?_
      refine tr_p (y_move rfl) rfl rfl ?_
      refine tr_p (y_move rfl) rfl rfl ?_
      refine tr_p (y_add rfl rfl) rfl rfl ?_
      refine tr_p (y_assign rfl) rfl rfl ?_
      refine tr_nil ?_
      refine tr_thenN ?_
      exact tr_join [(5, (.int .i64 (IntKind.wrap .i64 ((Int.tmod p0 p1) + p1))))] ⟨rfl, trivial⟩ ⟨_, rfl, H⟩
    · replace H := H.2 g2
      refine tr_skip ?_
      refine tr_thenN ?_
      exact tr_join [(5, (.int .i64 (Int.tmod p0 p1)))] ⟨rfl, trivial⟩ ⟨_, rfl, H⟩
def F.spatelaw7_few.j1 (Q : S_api_Cell → H → Prop) (x1 : Addr) (x2 : Addr) (x3 : ByteArray) (h : H) : Prop :=
  ldI .i64 h (x1.add 0) fun y5 =>
  ldI .i64 h (x1.add 2) fun y7 =>
  (3 : Int) ≠ 0 ∧
  F.spatelaw7_within y5 2 h fun r11 h10 =>
  cellH h10 (x1.add 2) = some (.int .i64 y7) ∧
  stH h10 x2 ((⟨r11, x3, (Int.tmod y7 3)⟩ : S_api_Cell).cells) fun h13 =>
  ld_S_api_Cell h13 x2 fun y14 =>
  Q y14 h13
/-- spate/spatelaw7.few -/
def F.spatelaw7_few (p0 : S_api_Cell) (h : H) (Q : S_api_Cell → H → Prop) : Prop :=
  new h p0.cells.toArray ty_24 fun a2 h1 =>
  new h1 (((⟨0, (⟨#[]⟩ : ByteArray), 0⟩ : S_api_Cell) : S_api_Cell).cells.toArray) ty_24 fun a4 h3 =>
  ldS h3 (a2.add 1) fun y16 =>
  ((decide ((y16.size : Int) > 0)) = true →
  ldS h3 (a2.add 1) fun y19 =>
  idxS y19 0 fun b21 =>
  (4 : Int) ≠ 0 ∧
  newL h3 #[(.int .u8 (IntKind.wrap .u8 (97 + (Int.tmod b21 4))))] ty_5 1 fun s25 h24 =>
  runT PP (convert 46 9 s25.enc) h24 fun s27 h26 =>
  F.spatelaw7_few.j1 Q a2 a4 s27 h26) ∧
  ((decide ((y16.size : Int) > 0)) = false →
  F.spatelaw7_few.j1 Q a2 a4 (⟨#[107]⟩ : ByteArray) h3)
theorem F.spatelaw7_few_ok {p0 : S_api_Cell} {h : H} {Q : S_api_Cell → H → Prop} (H : F.spatelaw7_few p0 h Q) : Fn PP 14 ([(.agg p0.cells.toArray)] : List Value).toArray h fun r h' => ∃ r0, r = (.agg r0.cells.toArray) ∧ Q r0 h' := by
  unfold F.spatelaw7_few at H
  refine fn_of Try.func14 Try.ntmps14 rfl rfl fun w0 => ?_
  refine tr_sub [(0, (.agg p0.cells.toArray))] ⟨rfl, trivial⟩ ?_
  refine tr_seq ?_
  refine tr_region ?_
  refine tr_e (f_box (cs := p0.cells.toArray) rfl rfl H) rfl rfl ?_
  rintro _ h1 ⟨a2, rfl, H⟩
  refine tr_e (f_alloc (cs := ((⟨0, (⟨#[]⟩ : ByteArray), 0⟩ : S_api_Cell) : S_api_Cell).cells.toArray) Try.zeroValue24 rfl H) rfl rfl ?_
  rintro _ h3 ⟨a4, rfl, H⟩
  refine tr_nil ?_
  refine tr_thenN ?_
  refine tr_seq ?_
  refine tr_region ?_
  refine tr_p (y_assign rfl) rfl rfl ?_
  refine tr_nil ?_
  refine tr_thenN ?_
  refine tr_seq_j (fun L' h => ∃ (x1 : Addr) (x2 : Addr) (x3 : ByteArray), L' = [(1, (.pointer (some x1))), (2, (.pointer (some x2))), (3, (.string x3))] ∧ F.spatelaw7_few.j1 Q x1 x2 x3 h) ?_ ?_
  · rintro L' h ⟨x1, x2, x3, rfl, H⟩
    unfold F.spatelaw7_few.j1 at H
    refine tr_seq ?_
    refine tr_draw mixed [0, 1, 3, 0, 0, 16, 48, 127, 255] (by kernel_rfl) ?_
    refine g_p 0 1 rfl (by kernel_rfl) (y_fa (off := 0) Try.runUnderlying24 fo_24_0 rfl) rfl rfl ?_
    obtain ⟨y5, k6, H⟩ := H
    refine g_h 1 3 rfl (by kernel_rfl) (y_ld Try.isAgg3 rfl) k6 rfl rfl ?_
    refine g_p 3 11 rfl (by kernel_rfl) (y_move rfl) rfl rfl ?_
    refine g_p 4 27 rfl (by kernel_rfl) (y_fa (off := 2) Try.runUnderlying24 fo_24_2 rfl) rfl rfl ?_
    obtain ⟨y7, k8, H⟩ := H
    refine g_h 5 59 rfl (by kernel_rfl) (y_ld Try.isAgg2 rfl) k8 rfl rfl ?_
    obtain ⟨e9, H⟩ := H
    refine g_p 6 123 rfl (by kernel_rfl) (y_rem rfl rfl e9) rfl rfl ?_
    refine g_e 2 127 [(5, fun h => cellH h (x1.add 2) = some (.int .i64 y7))] (by kernel_rfl) rfl (by kernel_rfl) (e_call Try.call15 rfl (F.spatelaw7_within_ok H)) rfl rfl ?_
    rintro _ h10 ⟨r11, rfl, H⟩
    obtain ⟨k12, H⟩ := H
    refine ⟨And.intro k12 trivial, ?_⟩
    refine g_p 7 255 rfl (by kernel_rfl) (f_build rfl (bd_24_0_1_2 r11 x3 (Int.tmod y7 3))) rfl rfl ?_
    refine g_e 8 511 [] (by kernel_rfl) rfl (by kernel_rfl) (f_store (vs := (⟨r11, x3, (Int.tmod y7 3)⟩ : S_api_Cell).cells) Try.sizeOf24 rfl rfl cellsOfStruct rfl (by intro v hv; exact ones_S_api_Cell _ v hv) H) rfl rfl ?_
    rintro _ h13 ⟨rfl, H⟩
    refine ⟨trivial, ?_⟩
    refine g_d (by kernel_rfl) ?_
    refine tr_thenN ?_
    refine tr_ret ?_
    obtain ⟨y14, k15, H⟩ := H
    exact tr_rv1 rfl (rv_cellS Try.isAgg24 Try.sizeOf24 rfl rfl k15) ⟨_, rfl, H⟩
  · refine tr_seq ?_
    refine tr_region ?_
    refine tr_p (y_fa (off := 1) Try.runUnderlying24 fo_24_1 rfl) rfl rfl ?_
    obtain ⟨y16, k17, H⟩ := H
    refine tr_h (y_ld Try.isAgg9 rfl) k17 rfl rfl ?_
    refine tr_p (y_lenS Try.runUnderlying9 rfl) rfl rfl ?_
    refine tr_p (y_gtr rfl rfl) rfl rfl ?_
    refine tr_nil ?_
    refine tr_thenN ?_
    refine tr_cond rfl (fun g18 => ?_) (fun g18 => ?_)
    · replace H := H.1 g18
      refine tr_region ?_
      refine tr_p (y_fa (off := 1) Try.runUnderlying24 fo_24_1 rfl) rfl rfl ?_
      obtain ⟨y19, k20, H⟩ := H
      refine tr_h (y_ld Try.isAgg9 rfl) k20 rfl rfl ?_
      obtain ⟨b21, e22, H⟩ := H
      refine tr_p (f_idxS Try.runUnderlying9 rfl rfl e22) rfl rfl ?_
      obtain ⟨e23, H⟩ := H
      refine tr_p (y_rem rfl rfl e23) rfl rfl ?_
      refine tr_p (y_add rfl rfl) rfl rfl ?_
      refine tr_e (f_buildL (cs := #[(.int .u8 (IntKind.wrap .u8 (97 + (Int.tmod b21 4))))]) rfl rfl (bl_46_1_0 (IntKind.wrap .u8 (97 + (Int.tmod b21 4)))) H) rfl rfl ?_
      rintro _ h24 ⟨s25, rfl, H⟩
      refine tr_e (f_cvtT rfl H) rfl rfl ?_
      rintro _ h26 ⟨s27, rfl, H⟩
      refine tr_p (y_assign rfl) rfl rfl ?_
      refine tr_nil ?_
      refine tr_thenN ?_
      exact tr_join [(1, (.pointer (some a2))), (2, (.pointer (some a4))), (3, (.string s27))] ⟨rfl, rfl, rfl, trivial⟩ ⟨_, _, _, rfl, H⟩
    · replace H := H.2 g18
      refine tr_skip ?_
      refine tr_thenN ?_
      exact tr_join [(1, (.pointer (some a2))), (2, (.pointer (some a4))), (3, (.string (⟨#[107]⟩ : ByteArray)))] ⟨rfl, rfl, rfl, trivial⟩ ⟨_, _, _, rfl, H⟩
/-- (*spate/chain.Chain[spate/api.Agg]).Kill -/
def F.chain_Chain_api_Agg_Kill (p0 : Option Addr) (p1 : Int) (h : H) (Q : Int → Int → H → Prop) : Prop :=
  F.chain_Chain_api_Agg_may p0 p1 h fun r2 h1 =>
  (((r2 != 0)) = true →
  Q 0 r2 h1) ∧
  (((r2 != 0)) = false →
  F.chain_Chain_api_Agg_Newest p0 h1 fun r5 r6 r7 h4 =>
  new h4 (((⟨0, 0, 0, 0⟩ : S_api_Agg) : S_api_Agg).cells.toArray) ty_35 fun a9 h8 =>
  stH h8 a9 r5.cells fun h10 =>
  ((!r7) = true →
  Q 0 44 h10) ∧
  ((!r7) = false →
  F.chain_Chain_api_Agg_lay p0 (⟨p1, (⟨0, 0, 0, 0⟩ : S_api_Agg), true⟩ : S_chain_version_api_Agg) h10 fun r13 h12 =>
  Q r13 0 h12))
theorem F.chain_Chain_api_Agg_Kill_ok {p0 : Option Addr} {p1 : Int} {h : H} {Q : Int → Int → H → Prop} (H : F.chain_Chain_api_Agg_Kill p0 p1 h Q) : Fn PP 46 ([(.pointer p0), (.int .i64 p1)] : List Value).toArray h fun r h' => ∃ r0 r1, r = .tuple #[(.int .i64 r0), (.int .i64 r1)] ∧ Q r0 r1 h' := by
  unfold F.chain_Chain_api_Agg_Kill at H
  refine fn_of Try.func46 Try.ntmps46 rfl rfl fun w0 => ?_
  refine tr_sub [(0, (.pointer p0)), (1, (.int .i64 p1))] ⟨rfl, rfl, trivial⟩ ?_
  refine tr_seq ?_
  refine tr_region ?_
  refine tr_p (y_assign rfl) rfl rfl ?_
  refine tr_p (y_assign rfl) rfl rfl ?_
  refine tr_nil ?_
  refine tr_thenN ?_
  refine tr_seq ?_
  refine tr_seq ?_
  refine tr_region ?_
  refine tr_p (y_move rfl) rfl rfl ?_
  refine tr_p (y_move rfl) rfl rfl ?_
  refine tr_e (e_call Try.call63 rfl (F.chain_Chain_api_Agg_may_ok H)) rfl rfl ?_
  rintro _ h1 ⟨r2, rfl, H⟩
  refine tr_p (y_assign rfl) rfl rfl ?_
  refine tr_nil ?_
  refine tr_thenN ?_
  refine tr_seq ?_
  refine tr_region ?_
  refine tr_p (y_move rfl) rfl rfl ?_
  refine tr_p (y_neq rfl rfl) rfl rfl ?_
  refine tr_nil ?_
  refine tr_thenN ?_
  refine tr_cond rfl (fun g3 => ?_) (fun g3 => ?_)
  · replace H := H.1 g3
    refine tr_seq ?_
    refine tr_region ?_
    refine tr_p (y_move rfl) rfl rfl ?_
    refine tr_p (y_assign rfl) rfl rfl ?_
    refine tr_p (y_assign rfl) rfl rfl ?_
    refine tr_nil ?_
    refine tr_thenN ?_
    refine tr_ret ?_
    refine tr_thenR ?_
    exact tr_ret2 rfl rfl rfl ⟨_, _, rfl, H⟩
  · replace H := H.2 g3
    refine tr_skip ?_
    refine tr_thenN ?_
    refine tr_seq ?_
    refine tr_seq ?_
    refine tr_region ?_
    refine tr_p (y_move rfl) rfl rfl ?_
    refine tr_e (e_call Try.call39 rfl (F.chain_Chain_api_Agg_Newest_ok H)) rfl rfl ?_
    rintro _ h4 ⟨r5, r6, r7, rfl, H⟩
    refine tr_p (y_move rfl) rfl rfl ?_
    refine tr_p (y_ext rfl rfl) rfl rfl ?_
    refine tr_p (y_ext rfl rfl) rfl rfl ?_
    refine tr_p (y_ext rfl rfl) rfl rfl ?_
    refine tr_e (f_alloc (cs := ((⟨0, 0, 0, 0⟩ : S_api_Agg) : S_api_Agg).cells.toArray) Try.zeroValue35 rfl H) rfl rfl ?_
    rintro _ h8 ⟨a9, rfl, H⟩
    refine tr_e (f_store (vs := r5.cells) Try.sizeOf35 rfl rfl cellsOfStruct rfl (by intro v hv; exact ones_S_api_Agg _ v hv) H) rfl rfl ?_
    rintro _ h10 ⟨rfl, H⟩
    refine tr_p (y_assign rfl) rfl rfl ?_
    refine tr_p (y_assign rfl) rfl rfl ?_
    refine tr_nil ?_
    refine tr_thenN ?_
    refine tr_seq ?_
    refine tr_region ?_
    refine tr_p (y_move rfl) rfl rfl ?_
    refine tr_p (y_not rfl) rfl rfl ?_
    refine tr_nil ?_
    refine tr_thenN ?_
    refine tr_cond rfl (fun g11 => ?_) (fun g11 => ?_)
    · replace H := H.1 g11
      refine tr_seq ?_
      refine tr_region ?_
      refine tr_p (y_assign rfl) rfl rfl ?_
      refine tr_p (y_assign rfl) rfl rfl ?_
      refine tr_nil ?_
      refine tr_thenN ?_
      refine tr_ret ?_
      refine tr_thenR ?_
      exact tr_ret2 rfl rfl rfl ⟨_, _, rfl, H⟩
    · replace H := H.2 g11
      refine tr_skip ?_
      refine tr_thenN ?_
      refine tr_seq ?_
      refine tr_region ?_
      refine tr_p (y_move rfl) rfl rfl ?_
      refine tr_p (y_move rfl) rfl rfl ?_
      refine tr_p (f_build rfl (bd_123_0_2 p1 true)) rfl rfl ?_
      refine tr_e (e_call Try.call64 rfl (F.chain_Chain_api_Agg_lay_ok H)) rfl rfl ?_
      rintro _ h12 ⟨r13, rfl, H⟩
      refine tr_p (y_assign rfl) rfl rfl ?_
      refine tr_p (y_assign rfl) rfl rfl ?_
      refine tr_nil ?_
      refine tr_thenN ?_
      refine tr_ret ?_
      exact tr_ret2 rfl rfl rfl ⟨_, _, rfl, H⟩
def F.shard_Shard_Kill.j1 (Q : Int → H → Prop) (x0 : Option Addr) (x1 : Int) (x5 : Addr) (h : H) : Prop :=
  ld_S_api_Cell h x5 fun y9 =>
  F.shard_Shard_chain x0 y9 h fun r12 h11 =>
  (r12.isNone = true →
  Q 44 h11) ∧
  (r12.isNone = false →
  F.chain_Chain_api_Agg_Kill r12 x1 h11 fun r15 r16 h14 =>
  (((r16 != 0)) = true →
  Q r16 h14) ∧
  (((r16 != 0)) = false →
  nn x0 fun a18 =>
  ldI .i64 h14 ((a18.add 0).add 0) fun y20 =>
  nn x0 fun a22 =>
  stH h14 ((a22.add 0).add 0) [(.int .i64 (IntKind.wrap .i64 (y20 + (IntKind.wrap .i64 (r15 - 1)))))] fun h24 =>
  nn x0 fun a25 =>
  ldI .i64 h24 ((a25.add 0).add 1) fun y27 =>
  nn x0 fun a29 =>
  stH h24 ((a29.add 0).add 1) [(.int .i64 (IntKind.wrap .i64 (y27 - 1)))] fun h31 =>
  Q 0 h31))
def F.shard_Shard_Kill.j2 (Q : Int → H → Prop) (x0 : Option Addr) (x1 : Int) (x5 : Addr) (x25 : Bool) (h : H) : Prop :=
  (x25 = true →
  Q 1 h) ∧
  (x25 = false →
  F.shard_Shard_Kill.j1 Q x0 x1 x5 h)
/-- (*spate/shard.Shard).Kill -/
def F.shard_Shard_Kill (p0 : Option Addr) (p1 : Int) (p2 : S_api_Cell) (h : H) (Q : Int → H → Prop) : Prop :=
  new h p2.cells.toArray ty_24 fun a2 h1 =>
  ld_S_api_Cell h1 a2 fun y3 =>
  F.shard_key y3 h1 fun r6 r7 h5 =>
  (((r7 != 0)) = true →
  Q r7 h5) ∧
  (((r7 != 0)) = false →
  ((decide (p1 < 1)) = true →
  F.shard_Shard_Kill.j2 Q p0 p1 a2 true h5) ∧
  ((decide (p1 < 1)) = false →
  F.shard_Shard_Kill.j2 Q p0 p1 a2 (decide (p1 > 1099511627776)) h5))
theorem F.shard_Shard_Kill_ok {p0 : Option Addr} {p1 : Int} {p2 : S_api_Cell} {h : H} {Q : Int → H → Prop} (H : F.shard_Shard_Kill p0 p1 p2 h Q) : Fn PP 21 ([(.pointer p0), (.int .i64 p1), (.agg p2.cells.toArray)] : List Value).toArray h fun r h' => ∃ r0, r = (.int .i64 r0) ∧ Q r0 h' := by
  unfold F.shard_Shard_Kill at H
  refine fn_of Try.func21 Try.ntmps21 rfl rfl fun w0 => ?_
  refine tr_sub [(0, (.pointer p0)), (1, (.int .i64 p1)), (2, (.agg p2.cells.toArray))] ⟨rfl, rfl, rfl, trivial⟩ ?_
  refine tr_seq ?_
  refine tr_region ?_
  refine tr_e (f_box (cs := p2.cells.toArray) rfl rfl H) rfl rfl ?_
  rintro _ h1 ⟨a2, rfl, H⟩
  refine tr_p (y_assign rfl) rfl rfl ?_
  refine tr_nil ?_
  refine tr_thenN ?_
  refine tr_seq ?_
  refine tr_seq ?_
  refine tr_region ?_
  obtain ⟨y3, k4, H⟩ := H
  refine tr_h (y_ldS Try.isAgg24 Try.sizeOf24 rfl rfl) k4 rfl rfl ?_
  refine tr_e (e_call Try.call36 rfl (F.shard_key_ok H)) rfl rfl ?_
  rintro _ h5 ⟨r6, r7, rfl, H⟩
  refine tr_p (y_move rfl) rfl rfl ?_
  refine tr_p (y_ext rfl rfl) rfl rfl ?_
  refine tr_p (y_ext rfl rfl) rfl rfl ?_
  refine tr_p (y_assign rfl) rfl rfl ?_
  refine tr_p (y_assign rfl) rfl rfl ?_
  refine tr_nil ?_
  refine tr_thenN ?_
  refine tr_seq ?_
  refine tr_region ?_
  refine tr_p (y_move rfl) rfl rfl ?_
  refine tr_p (y_neq rfl rfl) rfl rfl ?_
  refine tr_nil ?_
  refine tr_thenN ?_
  refine tr_cond rfl (fun g8 => ?_) (fun g8 => ?_)
  · replace H := H.1 g8
    refine tr_seq ?_
    refine tr_region ?_
    refine tr_p (y_move rfl) rfl rfl ?_
    refine tr_p (y_assign rfl) rfl rfl ?_
    refine tr_nil ?_
    refine tr_thenN ?_
    refine tr_ret ?_
    refine tr_thenR ?_
    exact tr_ret1 rfl rfl ⟨_, rfl, H⟩
  · replace H := H.2 g8
    refine tr_skip ?_
    refine tr_thenN ?_
    refine tr_seq_j (fun L' h => ∃ (x0 : Option Addr) (x1 : Int) (x5 : Addr), L' = [(0, (.pointer x0)), (1, (.int .i64 x1)), (5, (.pointer (some x5)))] ∧ F.shard_Shard_Kill.j1 Q x0 x1 x5 h) ?_ ?_
    · rintro L' h ⟨x0, x1, x5, rfl, H⟩
      unfold F.shard_Shard_Kill.j1 at H
      refine tr_seq ?_
      refine tr_region ?_
      refine tr_p (y_move rfl) rfl rfl ?_
      obtain ⟨y9, k10, H⟩ := H
      refine tr_h (y_ldS Try.isAgg24 Try.sizeOf24 rfl rfl) k10 rfl rfl ?_
      refine tr_e (e_call Try.call45 rfl (F.shard_Shard_chain_ok H)) rfl rfl ?_
      rintro _ h11 ⟨r12, rfl, H⟩
      refine tr_p (y_assign rfl) rfl rfl ?_
      refine tr_nil ?_
      refine tr_thenN ?_
      refine tr_seq ?_
      refine tr_seq ?_
      refine tr_region ?_
      refine tr_p (y_move rfl) rfl rfl ?_
      refine tr_p (y_pnil_eql Try.runUnderlying77 rfl rfl) rfl rfl ?_
      refine tr_nil ?_
      refine tr_thenN ?_
      refine tr_cond rfl (fun g13 => ?_) (fun g13 => ?_)
      · replace H := H.1 g13
        refine tr_seq ?_
        refine tr_region ?_
        refine tr_p (y_assign rfl) rfl rfl ?_
        refine tr_nil ?_
        refine tr_thenN ?_
        refine tr_ret ?_
        refine tr_thenR ?_
        exact tr_ret1 rfl rfl ⟨_, rfl, H⟩
      · replace H := H.2 g13
        refine tr_skip ?_
        refine tr_thenN ?_
        refine tr_seq ?_
        refine tr_region ?_
        refine tr_p (y_move rfl) rfl rfl ?_
        refine tr_p (y_move rfl) rfl rfl ?_
        refine tr_e (e_call Try.call46 rfl (F.chain_Chain_api_Agg_Kill_ok H)) rfl rfl ?_
        rintro _ h14 ⟨r15, r16, rfl, H⟩
        refine tr_p (y_move rfl) rfl rfl ?_
        refine tr_p (y_ext rfl rfl) rfl rfl ?_
        refine tr_p (y_ext rfl rfl) rfl rfl ?_
        refine tr_p (y_assign rfl) rfl rfl ?_
        refine tr_p (y_assign rfl) rfl rfl ?_
        refine tr_nil ?_
        refine tr_thenN ?_
        refine tr_seq ?_
        refine tr_seq ?_
        refine tr_region ?_
        refine tr_p (y_move rfl) rfl rfl ?_
        refine tr_p (y_neq rfl rfl) rfl rfl ?_
        refine tr_nil ?_
        refine tr_thenN ?_
        refine tr_cond rfl (fun g17 => ?_) (fun g17 => ?_)
        · replace H := H.1 g17
          refine tr_seq ?_
          refine tr_region ?_
          refine tr_p (y_move rfl) rfl rfl ?_
          refine tr_p (y_assign rfl) rfl rfl ?_
          refine tr_nil ?_
          refine tr_thenN ?_
          refine tr_ret ?_
          refine tr_thenR ?_
          exact tr_ret1 rfl rfl ⟨_, rfl, H⟩
        · replace H := H.2 g17
          refine tr_skip ?_
          refine tr_thenN ?_
          refine tr_seq ?_
          refine tr_region ?_
          refine tr_p (y_move rfl) rfl rfl ?_
          obtain ⟨a18, e19, H⟩ := H
          refine tr_p (f_nn rfl e19) rfl rfl ?_
          refine tr_p (y_fa (off := 0) Try.runUnderlying54 fo_54_0 rfl) rfl rfl ?_
          refine tr_p (y_fa (off := 0) Try.runUnderlying51 fo_51_0 rfl) rfl rfl ?_
          obtain ⟨y20, k21, H⟩ := H
          refine tr_h (y_ld Try.isAgg3 rfl) k21 rfl rfl ?_
          refine tr_p (y_move rfl) rfl rfl ?_
          refine tr_p (y_sub rfl rfl) rfl rfl ?_
          refine tr_p (y_add rfl rfl) rfl rfl ?_
          obtain ⟨a22, e23, H⟩ := H
          refine tr_p (f_nn rfl e23) rfl rfl ?_
          refine tr_p (y_fa (off := 0) Try.runUnderlying54 fo_54_0 rfl) rfl rfl ?_
          refine tr_p (y_fa (off := 0) Try.runUnderlying51 fo_51_0 rfl) rfl rfl ?_
          refine tr_e (f_store (vs := [(.int .i64 (IntKind.wrap .i64 (y20 + (IntKind.wrap .i64 (r15 - 1)))))]) Try.sizeOf3 rfl rfl rfl rfl (one1 rfl) H) rfl rfl ?_
          rintro _ h24 ⟨rfl, H⟩
          refine tr_nil ?_
          refine tr_thenN ?_
          refine tr_seq ?_
          refine tr_region ?_
          refine tr_p (y_move rfl) rfl rfl ?_
          obtain ⟨a25, e26, H⟩ := H
          refine tr_p (f_nn rfl e26) rfl rfl ?_
          refine tr_p (y_fa (off := 0) Try.runUnderlying54 fo_54_0 rfl) rfl rfl ?_
          refine tr_p (y_fa (off := 1) Try.runUnderlying51 fo_51_1 rfl) rfl rfl ?_
          obtain ⟨y27, k28, H⟩ := H
          refine tr_h (y_ld Try.isAgg3 rfl) k28 rfl rfl ?_
          refine tr_p (y_sub rfl rfl) rfl rfl ?_
          obtain ⟨a29, e30, H⟩ := H
          refine tr_p (f_nn rfl e30) rfl rfl ?_
          refine tr_p (y_fa (off := 0) Try.runUnderlying54 fo_54_0 rfl) rfl rfl ?_
          refine tr_p (y_fa (off := 1) Try.runUnderlying51 fo_51_1 rfl) rfl rfl ?_
          refine tr_e (f_store (vs := [(.int .i64 (IntKind.wrap .i64 (y27 - 1)))]) Try.sizeOf3 rfl rfl rfl rfl (one1 rfl) H) rfl rfl ?_
          rintro _ h31 ⟨rfl, H⟩
          refine tr_nil ?_
          refine tr_thenN ?_
          refine tr_seq ?_
          refine tr_region ?_
          refine tr_p (y_assign rfl) rfl rfl ?_
          refine tr_nil ?_
          refine tr_thenN ?_
          refine tr_ret ?_
          exact tr_ret1 rfl rfl ⟨_, rfl, H⟩
    · refine tr_seq_j (fun L' h => ∃ (x0 : Option Addr) (x1 : Int) (x5 : Addr) (x25 : Bool), L' = [(0, (.pointer x0)), (1, (.int .i64 x1)), (5, (.pointer (some x5))), (25, (.bool x25))] ∧ F.shard_Shard_Kill.j2 Q x0 x1 x5 x25 h) ?_ ?_
      · rintro L' h ⟨x0, x1, x5, x25, rfl, H⟩
        unfold F.shard_Shard_Kill.j2 at H
        refine tr_cond rfl (fun g32 => ?_) (fun g32 => ?_)
        · replace H := H.1 g32
          refine tr_seq ?_
          refine tr_region ?_
          refine tr_p (y_assign rfl) rfl rfl ?_
          refine tr_nil ?_
          refine tr_thenN ?_
          refine tr_ret ?_
          refine tr_thenR ?_
          exact tr_ret1 rfl rfl ⟨_, rfl, H⟩
        · replace H := H.2 g32
          refine tr_skip ?_
          refine tr_thenN ?_
          exact tr_join [(0, (.pointer x0)), (1, (.int .i64 x1)), (5, (.pointer (some x5)))] ⟨rfl, rfl, rfl, trivial⟩ ⟨_, _, _, rfl, H⟩
      · refine tr_region ?_
        refine tr_p (y_move rfl) rfl rfl ?_
        refine tr_p (y_lss rfl rfl) rfl rfl ?_
        refine tr_p (y_move rfl) rfl rfl ?_
        refine tr_split (t := 22) rfl (fun g33 => ?_) (fun g33 => ?_)
        · replace H := H.1 g33
          refine tr_s rfl rfl ?_
          refine tr_s rfl rfl ?_
          refine tr_p (y_pick_t rfl rfl) rfl rfl ?_
          refine tr_nil ?_
          refine tr_thenN ?_
          exact tr_join [(0, (.pointer p0)), (1, (.int .i64 p1)), (5, (.pointer (some a2))), (25, (.bool true))] ⟨rfl, rfl, rfl, rfl, trivial⟩ ⟨_, _, _, _, rfl, H⟩
        · replace H := H.2 g33
          refine tr_p (y_move rfl) rfl rfl ?_
          refine tr_p (y_gtr rfl rfl) rfl rfl ?_
          refine tr_p (y_pick_f rfl rfl) rfl rfl ?_
          refine tr_nil ?_
          refine tr_thenN ?_
          exact tr_join [(0, (.pointer p0)), (1, (.int .i64 p1)), (5, (.pointer (some a2))), (25, (.bool (decide (p1 > 1099511627776))))] ⟨rfl, rfl, rfl, rfl, trivial⟩ ⟨_, _, _, _, rfl, H⟩
def F.chain_Chain_api_Agg_Prune.j3 (Q : Int → H → Prop) (x0 : Option Addr) (x5 : Int) (x10 : Sl) (h : H) : Prop :=
  nn x0 fun a45 =>
  stH h (a45.add 0) [x10.enc] fun h47 =>
  Q (IntKind.wrap .i64 (x5 - (x10.len : Int))) h47
def F.chain_Chain_api_Agg_Prune.j4 (Q : Int → H → Prop) (x0 : Option Addr) (x5 : Int) (x10 : Sl) (x68 : Bool) (h : H) : Prop :=
  (x68 = true →
  F.chain_Chain_api_Agg_Prune.j3 Q x0 x5 (⟨none, 0, 0⟩ : Sl) h) ∧
  (x68 = false →
  F.chain_Chain_api_Agg_Prune.j3 Q x0 x5 x10 h)
def F.chain_Chain_api_Agg_Prune.l2 (Q : Int → H → Prop) : Nat → (Option Addr) → Int → Sl → Sl → Sl → Int → Int → H → Prop
  | 0, _, _, _, _, _, _, _, _ => False
  | q2 + 1, x0, x5, x6, x10, x44, x45, x46, h =>
    ((decide (x46 < x45)) = true →
    idxA x44 x46 6 fun a27 =>
    ld_S_chain_version_api_Agg h a27 fun y29 =>
    new h (((⟨0, (⟨0, 0, 0, 0⟩ : S_api_Agg), false⟩ : S_chain_version_api_Agg) : S_chain_version_api_Agg).cells.toArray) ty_123 fun a32 h31 =>
    stH h31 a32 y29.cells fun h33 =>
    idxA x6 x46 1 fun a34 =>
    ldB h33 a34 fun y36 =>
    (y36 = true →
    ld_S_chain_version_api_Agg h33 a32 fun y39 =>
    newL h33 ((y39.cells).toArray) ty_123 1 fun s42 h41 =>
    runL PP (Builtin.append_ #[119, 119] 119 #[x10.enc, s42.enc]) h41 fun s44 h43 =>
    (F.chain_Chain_api_Agg_Prune.l2 Q q2) x0 x5 x6 s44 x44 x45 (IntKind.wrap .i64 (x46 + 1)) h43) ∧
    (y36 = false →
    (F.chain_Chain_api_Agg_Prune.l2 Q q2) x0 x5 x6 x10 x44 x45 (IntKind.wrap .i64 (x46 + 1)) h33)) ∧
    ((decide (x46 < x45)) = false →
    ((((x10.len : Int) == 1)) = true →
    idxA x10 0 6 fun a50 =>
    ldB h (a50.add 5) fun y52 =>
    F.chain_Chain_api_Agg_Prune.j4 Q x0 x5 x10 y52 h) ∧
    ((((x10.len : Int) == 1)) = false →
    F.chain_Chain_api_Agg_Prune.j4 Q x0 x5 x10 false h))
def F.chain_Chain_api_Agg_Prune.l1 (Q : Int → H → Prop) : Nat → (Option Addr) → Int → Sl → Sl → Int → Int → H → Prop
  | 0, _, _, _, _, _, _, _ => False
  | q1 + 1, x0, x5, x6, x26, x27, x28, h =>
    ((decide (x28 < x27)) = true →
    idxA x26 x28 1 fun a12 =>
    ldI .i64 h a12 fun y14 =>
    F.chain_Chain_api_Agg_place x0 y14 h fun r17 h16 =>
    ((decide (r17 ≥ 0)) = true →
    idxA x6 r17 1 fun a19 =>
    stH h16 a19 [(.bool true)] fun h21 =>
    (F.chain_Chain_api_Agg_Prune.l1 Q q1) x0 x5 x6 x26 x27 (IntKind.wrap .i64 (x28 + 1)) h21) ∧
    ((decide (r17 ≥ 0)) = false →
    (F.chain_Chain_api_Agg_Prune.l1 Q q1) x0 x5 x6 x26 x27 (IntKind.wrap .i64 (x28 + 1)) h16)) ∧
    ((decide (x28 < x27)) = false →
    nn x0 fun a22 =>
    ldL h (a22.add 0) fun y24 =>
    ∃ m, F.chain_Chain_api_Agg_Prune.l2 Q m x0 x5 x6 (⟨none, 0, 0⟩ : Sl) y24 (y24.len : Int) 0 h)
/-- (*spate/chain.Chain[spate/api.Agg]).Prune -/
def F.chain_Chain_api_Agg_Prune (p0 : Option Addr) (p1 : Sl) (h : H) (Q : Int → H → Prop) : Prop :=
  nn p0 fun a1 =>
  ldL h (a1.add 0) fun y3 =>
  ((((y3.len : Int) == 0)) = true →
  Q 0 h) ∧
  ((((y3.len : Int) == 0)) = false →
  runL PP (Instr.makeSlice 137 (.int .i64 (y3.len : Int)) (.int .i64 (y3.len : Int))) h fun s7 h6 =>
  idxA s7 (IntKind.wrap .i64 ((y3.len : Int) - 1)) 1 fun a8 =>
  stH h6 a8 [(.bool true)] fun h10 =>
  ∃ m, F.chain_Chain_api_Agg_Prune.l1 Q m p0 (y3.len : Int) s7 p1 (p1.len : Int) 0 h10)
theorem F.chain_Chain_api_Agg_Prune_ok {p0 : Option Addr} {p1 : Sl} {h : H} {Q : Int → H → Prop} (H : F.chain_Chain_api_Agg_Prune p0 p1 h Q) : Fn PP 50 ([(.pointer p0), p1.enc] : List Value).toArray h fun r h' => ∃ r0, r = (.int .i64 r0) ∧ Q r0 h' := by
  unfold F.chain_Chain_api_Agg_Prune at H
  refine fn_of Try.func50 Try.ntmps50 rfl rfl fun w0 => ?_
  refine tr_sub [(0, (.pointer p0)), (1, p1.enc)] ⟨rfl, rfl, trivial⟩ ?_
  refine tr_seq ?_
  refine tr_region ?_
  refine tr_p (y_assign rfl) rfl rfl ?_
  refine tr_nil ?_
  refine tr_thenN ?_
  refine tr_seq ?_
  refine tr_region ?_
  refine tr_p (y_move rfl) rfl rfl ?_
  obtain ⟨a1, e2, H⟩ := H
  refine tr_p (f_nn rfl e2) rfl rfl ?_
  refine tr_p (y_fa (off := 0) Try.runUnderlying121 fo_121_0 rfl) rfl rfl ?_
  obtain ⟨y3, k4, H⟩ := H
  refine tr_h (y_ld Try.isAgg119 rfl) k4 rfl rfl ?_
  refine tr_p (y_len (ts := #[]) Try.runUnderlying119 (o := y3.ptr) (n := y3.len) (cap := y3.cap) rfl) rfl rfl ?_
  refine tr_p (y_assign rfl) rfl rfl ?_
  refine tr_nil ?_
  refine tr_thenN ?_
  refine tr_seq ?_
  refine tr_seq ?_
  refine tr_region ?_
  refine tr_p (y_move rfl) rfl rfl ?_
  refine tr_p (y_eql rfl rfl) rfl rfl ?_
  refine tr_nil ?_
  refine tr_thenN ?_
  refine tr_cond rfl (fun g5 => ?_) (fun g5 => ?_)
  · replace H := H.1 g5
    refine tr_seq ?_
    refine tr_region ?_
    refine tr_p (y_assign rfl) rfl rfl ?_
    refine tr_nil ?_
    refine tr_thenN ?_
    refine tr_ret ?_
    refine tr_thenR ?_
    exact tr_ret1 rfl rfl ⟨_, rfl, H⟩
  · replace H := H.2 g5
    refine tr_skip ?_
    refine tr_thenN ?_
    refine tr_seq ?_
    refine tr_region ?_
    refine tr_p (y_move rfl) rfl rfl ?_
    refine tr_e (f_make rfl rfl H) rfl rfl ?_
    rintro _ h6 ⟨s7, rfl, H⟩
    refine tr_p (y_assign rfl) rfl rfl ?_
    refine tr_nil ?_
    refine tr_thenN ?_
    refine tr_seq ?_
    refine tr_region ?_
    refine tr_p (y_move rfl) rfl rfl ?_
    refine tr_p (y_move rfl) rfl rfl ?_
    refine tr_p (y_sub rfl rfl) rfl rfl ?_
    obtain ⟨a8, e9, H⟩ := H
    refine tr_p (f_idx (s := s7) Try.runUnderlying137 Try.sizeOf4 rfl rfl e9) rfl rfl ?_
    refine tr_e (f_store (vs := [(.bool true)]) Try.sizeOf4 rfl rfl rfl rfl (one1 rfl) H) rfl rfl ?_
    rintro _ h10 ⟨rfl, H⟩
    refine tr_nil ?_
    refine tr_thenN ?_
    refine tr_seq ?_
    refine tr_seq ?_
    refine tr_region ?_
    refine tr_p (y_move rfl) rfl rfl ?_
    refine tr_p (y_len (ts := #[]) Try.runUnderlying26 (o := p1.ptr) (n := p1.len) (cap := p1.cap) rfl) rfl rfl ?_
    refine tr_p (y_move rfl) rfl rfl ?_
    refine tr_nil ?_
    refine tr_thenN ?_
    refine tr_block ?_
    obtain ⟨m55, H⟩ := H
    refine tr_sub [(0, (.pointer p0)), (5, (.int .i64 (y3.len : Int))), (6, s7.enc), (26, p1.enc), (27, (.int .i64 (p1.len : Int))), (28, (.int .i64 0))] ⟨rfl, rfl, rfl, rfl, rfl, rfl, trivial⟩ ?_
    refine tr_loop_j (fun m L' h => ∃ (x0 : Option Addr) (x5 : Int) (x6 : Sl) (x26 : Sl) (x27 : Int) (x28 : Int), L' = [(0, (.pointer x0)), (5, (.int .i64 x5)), (6, x6.enc), (26, x26.enc), (27, (.int .i64 x27)), (28, (.int .i64 x28))] ∧ F.chain_Chain_api_Agg_Prune.l1 Q m x0 x5 x6 x26 x27 x28 h) ?_ ?_ m55 ⟨_, _, _, _, _, _, rfl, H⟩
    · rintro L' h ⟨_, _, _, _, _, _, _, H⟩; exact H
    · rintro q1 L' h ⟨x0, x5, x6, x26, x27, x28, rfl, H⟩
      unfold F.chain_Chain_api_Agg_Prune.l1 at H
      refine tr_seq ?_
      refine tr_region ?_
      refine tr_p (y_lss rfl rfl) rfl rfl ?_
      refine tr_nil ?_
      refine tr_thenN ?_
      refine tr_seq ?_
      refine tr_cond rfl (fun g11 => ?_) (fun g11 => ?_)
      · replace H := H.1 g11
        refine tr_skip ?_
        refine tr_thenN ?_
        refine tr_seq ?_
        refine tr_block ?_
        refine tr_seq ?_
        refine tr_region ?_
        obtain ⟨a12, e13, H⟩ := H
        refine tr_p (f_idx (s := x26) Try.runUnderlying26 Try.sizeOf3 rfl rfl e13) rfl rfl ?_
        obtain ⟨y14, k15, H⟩ := H
        refine tr_h (y_ld Try.isAgg3 rfl) k15 rfl rfl ?_
        refine tr_p (y_assign rfl) rfl rfl ?_
        refine tr_nil ?_
        refine tr_thenN ?_
        refine tr_seq ?_
        refine tr_region ?_
        refine tr_p (y_move rfl) rfl rfl ?_
        refine tr_p (y_move rfl) rfl rfl ?_
        refine tr_e (e_call Try.call69 rfl (F.chain_Chain_api_Agg_place_ok H)) rfl rfl ?_
        rintro _ h16 ⟨r17, rfl, H⟩
        refine tr_p (y_assign rfl) rfl rfl ?_
        refine tr_nil ?_
        refine tr_thenN ?_
        refine tr_seq ?_
        refine tr_region ?_
        refine tr_p (y_move rfl) rfl rfl ?_
        refine tr_p (y_geq rfl rfl) rfl rfl ?_
        refine tr_nil ?_
        refine tr_thenN ?_
        refine tr_cond rfl (fun g18 => ?_) (fun g18 => ?_)
        · replace H := H.1 g18
          refine tr_region ?_
          refine tr_p (y_move rfl) rfl rfl ?_
          refine tr_p (y_move rfl) rfl rfl ?_
          obtain ⟨a19, e20, H⟩ := H
          refine tr_p (f_idx (s := x6) Try.runUnderlying137 Try.sizeOf4 rfl rfl e20) rfl rfl ?_
          refine tr_e (f_store (vs := [(.bool true)]) Try.sizeOf4 rfl rfl rfl rfl (one1 rfl) H) rfl rfl ?_
          rintro _ h21 ⟨rfl, H⟩
          refine tr_nil ?_
          refine tr_blockN ?_
          refine tr_thenN ?_
          refine tr_region ?_
          refine tr_p (y_add rfl rfl) rfl rfl ?_
          refine tr_p (y_move rfl) rfl rfl ?_
          refine tr_nil ?_
          refine tr_thenN ?_
          exact tr_join [(0, (.pointer x0)), (5, (.int .i64 x5)), (6, x6.enc), (26, x26.enc), (27, (.int .i64 x27)), (28, (.int .i64 (IntKind.wrap .i64 (x28 + 1))))] ⟨rfl, rfl, rfl, rfl, rfl, rfl, trivial⟩ ⟨_, _, _, _, _, _, rfl, H⟩
        · replace H := H.2 g18
          refine tr_skip ?_
          refine tr_blockN ?_
          refine tr_thenN ?_
          refine tr_region ?_
          refine tr_p (y_add rfl rfl) rfl rfl ?_
          refine tr_p (y_move rfl) rfl rfl ?_
          refine tr_nil ?_
          refine tr_thenN ?_
          exact tr_join [(0, (.pointer x0)), (5, (.int .i64 x5)), (6, x6.enc), (26, x26.enc), (27, (.int .i64 x27)), (28, (.int .i64 (IntKind.wrap .i64 (x28 + 1))))] ⟨rfl, rfl, rfl, rfl, rfl, rfl, trivial⟩ ⟨_, _, _, _, _, _, rfl, H⟩
      · replace H := H.2 g11
        refine tr_exit ?_
        refine tr_thenE ?_
        refine tr_thenE ?_
        refine tr_hit ?_
        refine tr_thenN ?_
        refine tr_seq ?_
        refine tr_region ?_
        refine tr_p (y_assign rfl) rfl rfl ?_
        refine tr_nil ?_
        refine tr_thenN ?_
        refine tr_seq ?_
        refine tr_seq ?_
        refine tr_region ?_
        refine tr_p (y_move rfl) rfl rfl ?_
        obtain ⟨a22, e23, H⟩ := H
        refine tr_p (f_nn rfl e23) rfl rfl ?_
        refine tr_p (y_fa (off := 0) Try.runUnderlying121 fo_121_0 rfl) rfl rfl ?_
        obtain ⟨y24, k25, H⟩ := H
        refine tr_h (y_ld Try.isAgg119 rfl) k25 rfl rfl ?_
        refine tr_p (y_len (ts := #[]) Try.runUnderlying119 (o := y24.ptr) (n := y24.len) (cap := y24.cap) rfl) rfl rfl ?_
        refine tr_p (y_move rfl) rfl rfl ?_
        refine tr_nil ?_
        refine tr_thenN ?_
        refine tr_block ?_
        obtain ⟨m54, H⟩ := H
        refine tr_sub [(0, (.pointer x0)), (5, (.int .i64 x5)), (6, x6.enc), (10, (⟨none, 0, 0⟩ : Sl).enc), (44, y24.enc), (45, (.int .i64 (y24.len : Int))), (46, (.int .i64 0))] ⟨rfl, rfl, rfl, rfl, rfl, rfl, rfl, trivial⟩ ?_
        refine tr_loop_j (fun m L' h => ∃ (x0 : Option Addr) (x5 : Int) (x6 : Sl) (x10 : Sl) (x44 : Sl) (x45 : Int) (x46 : Int), L' = [(0, (.pointer x0)), (5, (.int .i64 x5)), (6, x6.enc), (10, x10.enc), (44, x44.enc), (45, (.int .i64 x45)), (46, (.int .i64 x46))] ∧ F.chain_Chain_api_Agg_Prune.l2 Q m x0 x5 x6 x10 x44 x45 x46 h) ?_ ?_ m54 ⟨_, _, _, _, _, _, _, rfl, H⟩
        · rintro L' h ⟨_, _, _, _, _, _, _, _, H⟩; exact H
        · rintro q2 L' h ⟨x0, x5, x6, x10, x44, x45, x46, rfl, H⟩
          unfold F.chain_Chain_api_Agg_Prune.l2 at H
          refine tr_seq ?_
          refine tr_region ?_
          refine tr_p (y_lss rfl rfl) rfl rfl ?_
          refine tr_nil ?_
          refine tr_thenN ?_
          refine tr_seq ?_
          refine tr_cond rfl (fun g26 => ?_) (fun g26 => ?_)
          · replace H := H.1 g26
            refine tr_skip ?_
            refine tr_thenN ?_
            refine tr_seq ?_
            refine tr_block ?_
            refine tr_seq ?_
            refine tr_region ?_
            refine tr_p (y_move rfl) rfl rfl ?_
            obtain ⟨a27, e28, H⟩ := H
            refine tr_p (f_idx (s := x44) Try.runUnderlying119 Try.sizeOf123 rfl rfl e28) rfl rfl ?_
            obtain ⟨y29, k30, H⟩ := H
            refine tr_h (y_ldS Try.isAgg123 Try.sizeOf123 rfl rfl) k30 rfl rfl ?_
            refine tr_e (f_alloc (cs := ((⟨0, (⟨0, 0, 0, 0⟩ : S_api_Agg), false⟩ : S_chain_version_api_Agg) : S_chain_version_api_Agg).cells.toArray) Try.zeroValue123 rfl H) rfl rfl ?_
            rintro _ h31 ⟨a32, rfl, H⟩
            refine tr_p (y_assign rfl) rfl rfl ?_
            refine tr_e (f_store (vs := y29.cells) Try.sizeOf123 rfl rfl cellsOfStruct rfl (by intro v hv; exact ones_S_chain_version_api_Agg _ v hv) H) rfl rfl ?_
            rintro _ h33 ⟨rfl, H⟩
            refine tr_nil ?_
            refine tr_thenN ?_
            refine tr_seq ?_
            refine tr_region ?_
            refine tr_p (y_move rfl) rfl rfl ?_
            refine tr_p (y_move rfl) rfl rfl ?_
            obtain ⟨a34, e35, H⟩ := H
            refine tr_p (f_idx (s := x6) Try.runUnderlying137 Try.sizeOf4 rfl rfl e35) rfl rfl ?_
            obtain ⟨y36, k37, H⟩ := H
            refine tr_h (y_ld Try.isAgg4 rfl) k37 rfl rfl ?_
            refine tr_nil ?_
            refine tr_thenN ?_
            refine tr_cond rfl (fun g38 => ?_) (fun g38 => ?_)
            · replace H := H.1 g38
              refine tr_region ?_
              refine tr_p (y_move rfl) rfl rfl ?_
              obtain ⟨y39, k40, H⟩ := H
              refine tr_h (y_ldS Try.isAgg123 Try.sizeOf123 rfl rfl) k40 rfl rfl ?_
              refine tr_e (f_buildL (cs := (y39.cells).toArray) rfl rfl (bl_119_1_0 y39) H) rfl rfl ?_
              rintro _ h41 ⟨s42, rfl, H⟩
              refine tr_e (f_app rfl H) rfl rfl ?_
              rintro _ h43 ⟨s44, rfl, H⟩
              refine tr_p (y_assign rfl) rfl rfl ?_
              refine tr_nil ?_
              refine tr_blockN ?_
              refine tr_thenN ?_
              refine tr_region ?_
              refine tr_p (y_add rfl rfl) rfl rfl ?_
              refine tr_p (y_move rfl) rfl rfl ?_
              refine tr_nil ?_
              refine tr_thenN ?_
              exact tr_join [(0, (.pointer x0)), (5, (.int .i64 x5)), (6, x6.enc), (10, s44.enc), (44, x44.enc), (45, (.int .i64 x45)), (46, (.int .i64 (IntKind.wrap .i64 (x46 + 1))))] ⟨rfl, rfl, rfl, rfl, rfl, rfl, rfl, trivial⟩ ⟨_, _, _, _, _, _, _, rfl, H⟩
            · replace H := H.2 g38
              refine tr_skip ?_
              refine tr_blockN ?_
              refine tr_thenN ?_
              refine tr_region ?_
              refine tr_p (y_add rfl rfl) rfl rfl ?_
              refine tr_p (y_move rfl) rfl rfl ?_
              refine tr_nil ?_
              refine tr_thenN ?_
              exact tr_join [(0, (.pointer x0)), (5, (.int .i64 x5)), (6, x6.enc), (10, x10.enc), (44, x44.enc), (45, (.int .i64 x45)), (46, (.int .i64 (IntKind.wrap .i64 (x46 + 1))))] ⟨rfl, rfl, rfl, rfl, rfl, rfl, rfl, trivial⟩ ⟨_, _, _, _, _, _, _, rfl, H⟩
          · replace H := H.2 g26
            refine tr_exit ?_
            refine tr_thenE ?_
            refine tr_thenE ?_
            refine tr_hit ?_
            refine tr_thenN ?_
            refine tr_seq_j (fun L' h => ∃ (x0 : Option Addr) (x5 : Int) (x10 : Sl), L' = [(0, (.pointer x0)), (5, (.int .i64 x5)), (10, x10.enc)] ∧ F.chain_Chain_api_Agg_Prune.j3 Q x0 x5 x10 h) ?_ ?_
            · rintro L' h ⟨x0, x5, x10, rfl, H⟩
              unfold F.chain_Chain_api_Agg_Prune.j3 at H
              refine tr_seq ?_
              refine tr_region ?_
              refine tr_p (y_move rfl) rfl rfl ?_
              refine tr_p (y_move rfl) rfl rfl ?_
              obtain ⟨a45, e46, H⟩ := H
              refine tr_p (f_nn rfl e46) rfl rfl ?_
              refine tr_p (y_fa (off := 0) Try.runUnderlying121 fo_121_0 rfl) rfl rfl ?_
              refine tr_e (f_store (vs := [x10.enc]) Try.sizeOf119 rfl rfl rfl rfl (one1 rfl) H) rfl rfl ?_
              rintro _ h47 ⟨rfl, H⟩
              refine tr_nil ?_
              refine tr_thenN ?_
              refine tr_seq ?_
              refine tr_region ?_
              refine tr_p (y_move rfl) rfl rfl ?_
              refine tr_p (y_move rfl) rfl rfl ?_
              refine tr_p (y_len (ts := #[]) Try.runUnderlying119 (o := x10.ptr) (n := x10.len) (cap := x10.cap) rfl) rfl rfl ?_
              refine tr_p (y_sub rfl rfl) rfl rfl ?_
              refine tr_p (y_assign rfl) rfl rfl ?_
              refine tr_nil ?_
              refine tr_thenN ?_
              refine tr_ret ?_
              exact tr_ret1 rfl rfl ⟨_, rfl, H⟩
            · refine tr_seq_j (fun L' h => ∃ (x0 : Option Addr) (x5 : Int) (x10 : Sl) (x68 : Bool), L' = [(0, (.pointer x0)), (5, (.int .i64 x5)), (10, x10.enc), (68, (.bool x68))] ∧ F.chain_Chain_api_Agg_Prune.j4 Q x0 x5 x10 x68 h) ?_ ?_
              · rintro L' h ⟨x0, x5, x10, x68, rfl, H⟩
                unfold F.chain_Chain_api_Agg_Prune.j4 at H
                refine tr_cond rfl (fun g48 => ?_) (fun g48 => ?_)
                · replace H := H.1 g48
                  refine tr_region ?_
                  refine tr_p (y_assign rfl) rfl rfl ?_
                  refine tr_nil ?_
                  refine tr_thenN ?_
                  exact tr_join [(0, (.pointer x0)), (5, (.int .i64 x5)), (10, (⟨none, 0, 0⟩ : Sl).enc)] ⟨rfl, rfl, rfl, trivial⟩ ⟨_, _, _, rfl, H⟩
                · replace H := H.2 g48
                  refine tr_skip ?_
                  refine tr_thenN ?_
                  exact tr_join [(0, (.pointer x0)), (5, (.int .i64 x5)), (10, x10.enc)] ⟨rfl, rfl, rfl, trivial⟩ ⟨_, _, _, rfl, H⟩
              · refine tr_region ?_
                refine tr_p (y_move rfl) rfl rfl ?_
                refine tr_p (y_len (ts := #[]) Try.runUnderlying119 (o := x10.ptr) (n := x10.len) (cap := x10.cap) rfl) rfl rfl ?_
                refine tr_p (y_eql rfl rfl) rfl rfl ?_
                refine tr_p (y_move rfl) rfl rfl ?_
                refine tr_split (t := 63) rfl (fun g49 => ?_) (fun g49 => ?_)
                · replace H := H.1 g49
                  refine tr_p (y_move rfl) rfl rfl ?_
                  obtain ⟨a50, e51, H⟩ := H
                  refine tr_p (f_idx (s := x10) Try.runUnderlying119 Try.sizeOf123 rfl rfl e51) rfl rfl ?_
                  refine tr_p (y_fa (off := 5) Try.runUnderlying123 fo_123_2 rfl) rfl rfl ?_
                  obtain ⟨y52, k53, H⟩ := H
                  refine tr_h (y_ld Try.isAgg4 rfl) k53 rfl rfl ?_
                  refine tr_p (y_pick_t rfl rfl) rfl rfl ?_
                  refine tr_nil ?_
                  refine tr_thenN ?_
                  exact tr_join [(0, (.pointer x0)), (5, (.int .i64 x5)), (10, x10.enc), (68, (.bool y52))] ⟨rfl, rfl, rfl, rfl, trivial⟩ ⟨_, _, _, _, rfl, H⟩
                · replace H := H.2 g49
                  refine tr_s rfl rfl ?_
                  refine tr_s rfl rfl ?_
                  refine tr_s rfl rfl ?_
                  refine tr_s rfl rfl ?_
                  refine tr_p (y_pick_f rfl rfl) rfl rfl ?_
                  refine tr_nil ?_
                  refine tr_thenN ?_
                  exact tr_join [(0, (.pointer x0)), (5, (.int .i64 x5)), (10, x10.enc), (68, (.bool false))] ⟨rfl, rfl, rfl, rfl, trivial⟩ ⟨_, _, _, _, rfl, H⟩
def F.table_Table_chain_Chain_api_Agg_Drop.j2 (Q : (Option Addr) → Bool → H → Prop) (C1 : (Option Addr) → (Option Addr) → Int → Int → Int → H → Prop) (x0 : Option Addr) (x4 : Option Addr) (x8 : Int) (x10 : Int) (x11 : Int) (h : H) : Prop :=
  (x10 : Int) ≠ 0 ∧
  C1 x0 x4 x8 x10 (Int.tmod (IntKind.wrap .i64 (x11 + 1)) x10) h
def F.table_Table_chain_Chain_api_Agg_Drop.l1 (Q : (Option Addr) → Bool → H → Prop) : Nat → (Option Addr) → (Option Addr) → Int → Int → Int → H → Prop
  | 0, _, _, _, _, _, _ => False
  | q1 + 1, x0, x4, x8, x10, x11, h =>
    nn x0 fun a61 =>
    ldL h (a61.add 0) fun y63 =>
    idxA y63 x11 3 fun a65 =>
    ldI .u8 h (a65.add 0) fun y67 =>
    (((y67 != 0)) = true →
    nn x0 fun a71 =>
    ldL h (a71.add 0) fun y73 =>
    nn x0 fun a75 =>
    ldL h (a75.add 0) fun y77 =>
    idxA y77 x11 3 fun a79 =>
    ldS h (a79.add 1) fun y81 =>
    F.table_home_chain_Chain_api_Agg y73 y81 h fun r84 h83 =>
    (x10 : Int) ≠ 0 ∧
    (x10 : Int) ≠ 0 ∧
    ((decide ((Int.tmod (IntKind.wrap .i64 ((IntKind.wrap .i64 (x11 - r84)) + x10)) x10) ≥ (Int.tmod (IntKind.wrap .i64 ((IntKind.wrap .i64 (x11 - x8)) + x10)) x10))) = true →
    nn x0 fun a88 =>
    ldL h83 (a88.add 0) fun y90 =>
    nn x0 fun a92 =>
    ldL h83 (a92.add 0) fun y94 =>
    idxA y94 x11 3 fun a96 =>
    ld_S_table_place_chain_Chain_api_Agg h83 a96 fun y98 =>
    idxA y90 x8 3 fun a100 =>
    stH h83 a100 y98.cells fun h102 =>
    F.table_Table_chain_Chain_api_Agg_Drop.j2 Q (F.table_Table_chain_Chain_api_Agg_Drop.l1 Q q1) x0 x4 x11 x10 x11 h102) ∧
    ((decide ((Int.tmod (IntKind.wrap .i64 ((IntKind.wrap .i64 (x11 - r84)) + x10)) x10) ≥ (Int.tmod (IntKind.wrap .i64 ((IntKind.wrap .i64 (x11 - x8)) + x10)) x10))) = false →
    F.table_Table_chain_Chain_api_Agg_Drop.j2 Q (F.table_Table_chain_Chain_api_Agg_Drop.l1 Q q1) x0 x4 x8 x10 x11 h83)) ∧
    (((y67 != 0)) = false →
    nn x0 fun a103 =>
    ldL h (a103.add 0) fun y105 =>
    idxA y105 x8 3 fun a107 =>
    stH h a107 ((⟨0, (⟨#[]⟩ : ByteArray), none⟩ : S_table_place_chain_Chain_api_Agg).cells) fun h109 =>
    Q x4 true h109)
/-- (*spate/table.Table[*spate/chain.Chain[spate/api.Agg]]).Drop -/
def F.table_Table_chain_Chain_api_Agg_Drop (p0 : Option Addr) (p1 : ByteArray) (h : H) (Q : (Option Addr) → Bool → H → Prop) : Prop :=
  F.table_Table_chain_Chain_api_Agg_Move p0 4 h fun r2 h1 =>
  nn p0 fun a3 =>
  ldL h1 (a3.add 1) fun y5 =>
  F.table_find_chain_Chain_api_Agg y5 p1 h1 fun r8 r9 h7 =>
  (r9 = true →
  nn p0 fun a11 =>
  ldL h7 (a11.add 1) fun y13 =>
  idxA y13 r8 3 fun a15 =>
  ldP h7 (a15.add 2) fun y17 =>
  nn p0 fun a19 =>
  ldL h7 (a19.add 1) fun y21 =>
  idxA y21 r8 3 fun a23 =>
  stH h7 a23 ((⟨2, (⟨#[]⟩ : ByteArray), none⟩ : S_table_place_chain_Chain_api_Agg).cells) fun h25 =>
  nn p0 fun a26 =>
  ldI .i64 h25 (a26.add 3) fun y28 =>
  nn p0 fun a30 =>
  stH h25 (a30.add 3) [(.int .i64 (IntKind.wrap .i64 (y28 - 1)))] fun h32 =>
  Q y17 true h32) ∧
  (r9 = false →
  nn p0 fun a33 =>
  ldL h7 (a33.add 0) fun y35 =>
  F.table_find_chain_Chain_api_Agg y35 p1 h7 fun r38 r39 h37 =>
  ((!r39) = true →
  Q none false h37) ∧
  ((!r39) = false →
  nn p0 fun a41 =>
  ldL h37 (a41.add 0) fun y43 =>
  idxA y43 r38 3 fun a45 =>
  ldP h37 (a45.add 2) fun y47 =>
  nn p0 fun a49 =>
  ldI .i64 h37 (a49.add 3) fun y51 =>
  nn p0 fun a53 =>
  stH h37 (a53.add 3) [(.int .i64 (IntKind.wrap .i64 (y51 - 1)))] fun h55 =>
  nn p0 fun a56 =>
  ldL h55 (a56.add 0) fun y58 =>
  ((y58.len : Int) : Int) ≠ 0 ∧
  ∃ m, F.table_Table_chain_Chain_api_Agg_Drop.l1 Q m p0 y47 r38 (y58.len : Int) (Int.tmod (IntKind.wrap .i64 (r38 + 1)) (y58.len : Int)) h55))
theorem F.table_Table_chain_Chain_api_Agg_Drop_ok {p0 : Option Addr} {p1 : ByteArray} {h : H} {Q : (Option Addr) → Bool → H → Prop} (H : F.table_Table_chain_Chain_api_Agg_Drop p0 p1 h Q) : Fn PP 51 ([(.pointer p0), (.string p1)] : List Value).toArray h fun r h' => ∃ r0 r1, r = .tuple #[(.pointer r0), (.bool r1)] ∧ Q r0 r1 h' := by
  unfold F.table_Table_chain_Chain_api_Agg_Drop at H
  refine fn_of Try.func51 Try.ntmps51 rfl rfl fun w0 => ?_
  refine tr_sub [(0, (.pointer p0)), (1, (.string p1))] ⟨rfl, rfl, trivial⟩ ?_
  refine tr_seq ?_
  refine tr_region ?_
  refine tr_p (y_assign rfl) rfl rfl ?_
  refine tr_p (y_assign rfl) rfl rfl ?_
  refine tr_nil ?_
  refine tr_thenN ?_
  refine tr_seq ?_
  refine tr_region ?_
  refine tr_p (y_move rfl) rfl rfl ?_
  refine tr_e (e_call Try.call61 rfl (F.table_Table_chain_Chain_api_Agg_Move_ok H)) rfl rfl ?_
  rintro _ h1 ⟨r2, rfl, H⟩
  refine tr_nil ?_
  refine tr_thenN ?_
  refine tr_seq ?_
  refine tr_seq ?_
  refine tr_region ?_
  refine tr_p (y_move rfl) rfl rfl ?_
  obtain ⟨a3, e4, H⟩ := H
  refine tr_p (f_nn rfl e4) rfl rfl ?_
  refine tr_p (y_fa (off := 1) Try.runUnderlying106 fo_106_1 rfl) rfl rfl ?_
  obtain ⟨y5, k6, H⟩ := H
  refine tr_h (y_ld Try.isAgg104 rfl) k6 rfl rfl ?_
  refine tr_p (y_move rfl) rfl rfl ?_
  refine tr_e (e_call Try.call62 rfl (F.table_find_chain_Chain_api_Agg_ok H)) rfl rfl ?_
  rintro _ h7 ⟨r8, r9, rfl, H⟩
  refine tr_p (y_move rfl) rfl rfl ?_
  refine tr_p (y_ext rfl rfl) rfl rfl ?_
  refine tr_p (y_ext rfl rfl) rfl rfl ?_
  refine tr_p (y_assign rfl) rfl rfl ?_
  refine tr_p (y_assign rfl) rfl rfl ?_
  refine tr_nil ?_
  refine tr_thenN ?_
  refine tr_seq ?_
  refine tr_region ?_
  refine tr_p (y_move rfl) rfl rfl ?_
  refine tr_nil ?_
  refine tr_thenN ?_
  refine tr_cond rfl (fun g10 => ?_) (fun g10 => ?_)
  · replace H := H.1 g10
    refine tr_seq ?_
    refine tr_region ?_
    refine tr_p (y_move rfl) rfl rfl ?_
    obtain ⟨a11, e12, H⟩ := H
    refine tr_p (f_nn rfl e12) rfl rfl ?_
    refine tr_p (y_fa (off := 1) Try.runUnderlying106 fo_106_1 rfl) rfl rfl ?_
    obtain ⟨y13, k14, H⟩ := H
    refine tr_h (y_ld Try.isAgg104 rfl) k14 rfl rfl ?_
    refine tr_p (y_move rfl) rfl rfl ?_
    obtain ⟨a15, e16, H⟩ := H
    refine tr_p (f_idx (s := y13) Try.runUnderlying104 Try.sizeOf118 rfl rfl e16) rfl rfl ?_
    refine tr_p (y_fa (off := 2) Try.runUnderlying118 fo_118_2 rfl) rfl rfl ?_
    obtain ⟨y17, k18, H⟩ := H
    refine tr_h (y_ld Try.isAgg77 rfl) k18 rfl rfl ?_
    refine tr_p (y_assign rfl) rfl rfl ?_
    refine tr_nil ?_
    refine tr_thenN ?_
    refine tr_seq ?_
    refine tr_region ?_
    refine tr_p (y_move rfl) rfl rfl ?_
    obtain ⟨a19, e20, H⟩ := H
    refine tr_p (f_nn rfl e20) rfl rfl ?_
    refine tr_p (y_fa (off := 1) Try.runUnderlying106 fo_106_1 rfl) rfl rfl ?_
    obtain ⟨y21, k22, H⟩ := H
    refine tr_h (y_ld Try.isAgg104 rfl) k22 rfl rfl ?_
    refine tr_p (y_move rfl) rfl rfl ?_
    refine tr_p (f_build rfl (bd_118_0 2)) rfl rfl ?_
    obtain ⟨a23, e24, H⟩ := H
    refine tr_p (f_idx (s := y21) Try.runUnderlying104 Try.sizeOf118 rfl rfl e24) rfl rfl ?_
    refine tr_e (f_store (vs := (⟨2, (⟨#[]⟩ : ByteArray), none⟩ : S_table_place_chain_Chain_api_Agg).cells) Try.sizeOf118 rfl rfl cellsOfStruct rfl (by intro v hv; exact ones_S_table_place_chain_Chain_api_Agg _ v hv) H) rfl rfl ?_
    rintro _ h25 ⟨rfl, H⟩
    refine tr_nil ?_
    refine tr_thenN ?_
    refine tr_seq ?_
    refine tr_region ?_
    refine tr_p (y_move rfl) rfl rfl ?_
    obtain ⟨a26, e27, H⟩ := H
    refine tr_p (f_nn rfl e27) rfl rfl ?_
    refine tr_p (y_fa (off := 3) Try.runUnderlying106 fo_106_3 rfl) rfl rfl ?_
    obtain ⟨y28, k29, H⟩ := H
    refine tr_h (y_ld Try.isAgg3 rfl) k29 rfl rfl ?_
    refine tr_p (y_sub rfl rfl) rfl rfl ?_
    obtain ⟨a30, e31, H⟩ := H
    refine tr_p (f_nn rfl e31) rfl rfl ?_
    refine tr_p (y_fa (off := 3) Try.runUnderlying106 fo_106_3 rfl) rfl rfl ?_
    refine tr_e (f_store (vs := [(.int .i64 (IntKind.wrap .i64 (y28 - 1)))]) Try.sizeOf3 rfl rfl rfl rfl (one1 rfl) H) rfl rfl ?_
    rintro _ h32 ⟨rfl, H⟩
    refine tr_nil ?_
    refine tr_thenN ?_
    refine tr_seq ?_
    refine tr_region ?_
    refine tr_p (y_move rfl) rfl rfl ?_
    refine tr_p (y_assign rfl) rfl rfl ?_
    refine tr_p (y_assign rfl) rfl rfl ?_
    refine tr_nil ?_
    refine tr_thenN ?_
    refine tr_ret ?_
    refine tr_thenR ?_
    exact tr_ret2 rfl rfl rfl ⟨_, _, rfl, H⟩
  · replace H := H.2 g10
    refine tr_skip ?_
    refine tr_thenN ?_
    refine tr_seq ?_
    refine tr_region ?_
    refine tr_p (y_move rfl) rfl rfl ?_
    obtain ⟨a33, e34, H⟩ := H
    refine tr_p (f_nn rfl e34) rfl rfl ?_
    refine tr_p (y_fa (off := 0) Try.runUnderlying106 fo_106_0 rfl) rfl rfl ?_
    obtain ⟨y35, k36, H⟩ := H
    refine tr_h (y_ld Try.isAgg104 rfl) k36 rfl rfl ?_
    refine tr_p (y_move rfl) rfl rfl ?_
    refine tr_e (e_call Try.call62 rfl (F.table_find_chain_Chain_api_Agg_ok H)) rfl rfl ?_
    rintro _ h37 ⟨r38, r39, rfl, H⟩
    refine tr_p (y_move rfl) rfl rfl ?_
    refine tr_p (y_ext rfl rfl) rfl rfl ?_
    refine tr_p (y_ext rfl rfl) rfl rfl ?_
    refine tr_p (y_assign rfl) rfl rfl ?_
    refine tr_p (y_assign rfl) rfl rfl ?_
    refine tr_nil ?_
    refine tr_thenN ?_
    refine tr_seq ?_
    refine tr_seq ?_
    refine tr_region ?_
    refine tr_p (y_move rfl) rfl rfl ?_
    refine tr_p (y_not rfl) rfl rfl ?_
    refine tr_nil ?_
    refine tr_thenN ?_
    refine tr_cond rfl (fun g40 => ?_) (fun g40 => ?_)
    · replace H := H.1 g40
      refine tr_seq ?_
      refine tr_region ?_
      refine tr_p (y_move rfl) rfl rfl ?_
      refine tr_p (y_assign rfl) rfl rfl ?_
      refine tr_p (y_assign rfl) rfl rfl ?_
      refine tr_nil ?_
      refine tr_thenN ?_
      refine tr_ret ?_
      refine tr_thenR ?_
      exact tr_ret2 rfl rfl rfl ⟨_, _, rfl, H⟩
    · replace H := H.2 g40
      refine tr_skip ?_
      refine tr_thenN ?_
      refine tr_seq ?_
      refine tr_region ?_
      refine tr_p (y_move rfl) rfl rfl ?_
      obtain ⟨a41, e42, H⟩ := H
      refine tr_p (f_nn rfl e42) rfl rfl ?_
      refine tr_p (y_fa (off := 0) Try.runUnderlying106 fo_106_0 rfl) rfl rfl ?_
      obtain ⟨y43, k44, H⟩ := H
      refine tr_h (y_ld Try.isAgg104 rfl) k44 rfl rfl ?_
      refine tr_p (y_move rfl) rfl rfl ?_
      obtain ⟨a45, e46, H⟩ := H
      refine tr_p (f_idx (s := y43) Try.runUnderlying104 Try.sizeOf118 rfl rfl e46) rfl rfl ?_
      refine tr_p (y_fa (off := 2) Try.runUnderlying118 fo_118_2 rfl) rfl rfl ?_
      obtain ⟨y47, k48, H⟩ := H
      refine tr_h (y_ld Try.isAgg77 rfl) k48 rfl rfl ?_
      refine tr_p (y_assign rfl) rfl rfl ?_
      refine tr_nil ?_
      refine tr_thenN ?_
      refine tr_seq ?_
      refine tr_region ?_
      refine tr_p (y_move rfl) rfl rfl ?_
      obtain ⟨a49, e50, H⟩ := H
      refine tr_p (f_nn rfl e50) rfl rfl ?_
      refine tr_p (y_fa (off := 3) Try.runUnderlying106 fo_106_3 rfl) rfl rfl ?_
      obtain ⟨y51, k52, H⟩ := H
      refine tr_h (y_ld Try.isAgg3 rfl) k52 rfl rfl ?_
      refine tr_p (y_sub rfl rfl) rfl rfl ?_
      obtain ⟨a53, e54, H⟩ := H
      refine tr_p (f_nn rfl e54) rfl rfl ?_
      refine tr_p (y_fa (off := 3) Try.runUnderlying106 fo_106_3 rfl) rfl rfl ?_
      refine tr_e (f_store (vs := [(.int .i64 (IntKind.wrap .i64 (y51 - 1)))]) Try.sizeOf3 rfl rfl rfl rfl (one1 rfl) H) rfl rfl ?_
      rintro _ h55 ⟨rfl, H⟩
      refine tr_nil ?_
      refine tr_thenN ?_
      refine tr_seq ?_
      refine tr_region ?_
      refine tr_p (y_move rfl) rfl rfl ?_
      obtain ⟨a56, e57, H⟩ := H
      refine tr_p (f_nn rfl e57) rfl rfl ?_
      refine tr_p (y_fa (off := 0) Try.runUnderlying106 fo_106_0 rfl) rfl rfl ?_
      obtain ⟨y58, k59, H⟩ := H
      refine tr_h (y_ld Try.isAgg104 rfl) k59 rfl rfl ?_
      refine tr_p (y_len (ts := #[]) Try.runUnderlying104 (o := y58.ptr) (n := y58.len) (cap := y58.cap) rfl) rfl rfl ?_
      refine tr_p (y_assign rfl) rfl rfl ?_
      refine tr_nil ?_
      refine tr_thenN ?_
      refine tr_seq ?_
      refine tr_seq ?_
      refine tr_region ?_
      refine tr_p (y_move rfl) rfl rfl ?_
      refine tr_p (y_add rfl rfl) rfl rfl ?_
      refine tr_p (y_move rfl) rfl rfl ?_
      obtain ⟨e60, H⟩ := H
      refine tr_p (y_rem rfl rfl e60) rfl rfl ?_
      refine tr_p (y_assign rfl) rfl rfl ?_
      refine tr_nil ?_
      refine tr_thenN ?_
      refine tr_block ?_
      obtain ⟨m110, H⟩ := H
      refine tr_sub [(0, (.pointer p0)), (4, (.pointer y47)), (8, (.int .i64 r38)), (10, (.int .i64 (y58.len : Int))), (11, (.int .i64 (Int.tmod (IntKind.wrap .i64 (r38 + 1)) (y58.len : Int))))] ⟨rfl, rfl, rfl, rfl, rfl, trivial⟩ ?_
      refine tr_loop_j (fun m L' h => ∃ (x0 : Option Addr) (x4 : Option Addr) (x8 : Int) (x10 : Int) (x11 : Int), L' = [(0, (.pointer x0)), (4, (.pointer x4)), (8, (.int .i64 x8)), (10, (.int .i64 x10)), (11, (.int .i64 x11))] ∧ F.table_Table_chain_Chain_api_Agg_Drop.l1 Q m x0 x4 x8 x10 x11 h) ?_ ?_ m110 ⟨_, _, _, _, _, rfl, H⟩
      · rintro L' h ⟨_, _, _, _, _, _, H⟩; exact H
      · rintro q1 L' h ⟨x0, x4, x8, x10, x11, rfl, H⟩
        unfold F.table_Table_chain_Chain_api_Agg_Drop.l1 at H
        refine tr_seq ?_
        refine tr_seq ?_
        refine tr_region ?_
        refine tr_p (y_move rfl) rfl rfl ?_
        obtain ⟨a61, e62, H⟩ := H
        refine tr_p (f_nn rfl e62) rfl rfl ?_
        refine tr_p (y_fa (off := 0) Try.runUnderlying106 fo_106_0 rfl) rfl rfl ?_
        obtain ⟨y63, k64, H⟩ := H
        refine tr_h (y_ld Try.isAgg104 rfl) k64 rfl rfl ?_
        refine tr_p (y_move rfl) rfl rfl ?_
        obtain ⟨a65, e66, H⟩ := H
        refine tr_p (f_idx (s := y63) Try.runUnderlying104 Try.sizeOf118 rfl rfl e66) rfl rfl ?_
        refine tr_p (y_fa (off := 0) Try.runUnderlying118 fo_118_0 rfl) rfl rfl ?_
        obtain ⟨y67, k68, H⟩ := H
        refine tr_h (y_ld Try.isAgg5 rfl) k68 rfl rfl ?_
        refine tr_p (y_neq rfl rfl) rfl rfl ?_
        refine tr_nil ?_
        refine tr_thenN ?_
        refine tr_cond rfl (fun g69 => ?_) (fun g69 => ?_)
        · replace H := H.1 g69
          refine tr_skip ?_
          refine tr_thenN ?_
          refine tr_seq_j (fun L' h => ∃ (x0 : Option Addr) (x4 : Option Addr) (x8 : Int) (x10 : Int) (x11 : Int), L' = [(0, (.pointer x0)), (4, (.pointer x4)), (8, (.int .i64 x8)), (10, (.int .i64 x10)), (11, (.int .i64 x11))] ∧ F.table_Table_chain_Chain_api_Agg_Drop.j2 Q (F.table_Table_chain_Chain_api_Agg_Drop.l1 Q q1) x0 x4 x8 x10 x11 h) ?_ ?_
          · rintro L' h ⟨x0, x4, x8, x10, x11, rfl, H⟩
            unfold F.table_Table_chain_Chain_api_Agg_Drop.j2 at H
            refine tr_region ?_
            refine tr_p (y_move rfl) rfl rfl ?_
            refine tr_p (y_add rfl rfl) rfl rfl ?_
            refine tr_p (y_move rfl) rfl rfl ?_
            obtain ⟨e70, H⟩ := H
            refine tr_p (y_rem rfl rfl e70) rfl rfl ?_
            refine tr_p (y_assign rfl) rfl rfl ?_
            refine tr_nil ?_
            refine tr_thenN ?_
            exact tr_join [(0, (.pointer x0)), (4, (.pointer x4)), (8, (.int .i64 x8)), (10, (.int .i64 x10)), (11, (.int .i64 (Int.tmod (IntKind.wrap .i64 (x11 + 1)) x10)))] ⟨rfl, rfl, rfl, rfl, rfl, trivial⟩ ⟨_, _, _, _, _, rfl, H⟩
          · refine tr_block ?_
            refine tr_seq ?_
            refine tr_draw mixed [0, 1, 3, 7, 0, 16, 48, 112, 0, 496, 1008, 2032, 4095, 8191] (by kernel_rfl) ?_
            refine g_p 0 1 rfl (by kernel_rfl) (y_move rfl) rfl rfl ?_
            obtain ⟨a71, e72, H⟩ := H
            refine g_p 1 3 rfl (by kernel_rfl) (f_nn rfl e72) rfl rfl ?_
            refine g_p 2 7 rfl (by kernel_rfl) (y_fa (off := 0) Try.runUnderlying106 fo_106_0 rfl) rfl rfl ?_
            obtain ⟨y73, k74, H⟩ := H
            refine g_h 3 15 rfl (by kernel_rfl) (y_ld Try.isAgg104 rfl) k74 rfl rfl ?_
            refine g_p 4 31 rfl (by kernel_rfl) (y_move rfl) rfl rfl ?_
            obtain ⟨a75, e76, H⟩ := H
            refine g_p 5 63 rfl (by kernel_rfl) (f_nn rfl e76) rfl rfl ?_
            refine g_p 6 127 rfl (by kernel_rfl) (y_fa (off := 0) Try.runUnderlying106 fo_106_0 rfl) rfl rfl ?_
            obtain ⟨y77, k78, H⟩ := H
            refine g_h 7 255 rfl (by kernel_rfl) (y_ld Try.isAgg104 rfl) k78 rfl rfl ?_
            refine g_p 8 511 rfl (by kernel_rfl) (y_move rfl) rfl rfl ?_
            obtain ⟨a79, e80, H⟩ := H
            refine g_p 9 1023 rfl (by kernel_rfl) (f_idx (s := y77) Try.runUnderlying104 Try.sizeOf118 rfl rfl e80) rfl rfl ?_
            refine g_p 10 2047 rfl (by kernel_rfl) (y_fa (off := 1) Try.runUnderlying118 fo_118_1 rfl) rfl rfl ?_
            obtain ⟨y81, k82, H⟩ := H
            refine g_h 11 4095 rfl (by kernel_rfl) (y_ld Try.isAgg9 rfl) k82 rfl rfl ?_
            refine g_e 12 8191 [] (by kernel_rfl) rfl (by kernel_rfl) (e_call Try.call70 rfl (F.table_home_chain_Chain_api_Agg_ok H)) rfl rfl ?_
            rintro _ h83 ⟨r84, rfl, H⟩
            refine ⟨trivial, ?_⟩
            refine g_p 13 16383 rfl (by kernel_rfl) (y_assign rfl) rfl rfl ?_
            refine g_d (by kernel_rfl) ?_
            refine tr_thenN ?_
            refine tr_seq ?_
            refine tr_draw mixed [0, 0, 3, 0, 15, 0, 63, 0, 0, 384, 0, 1920, 0, 8064, 16383] (by kernel_rfl) ?_
            refine g_p 0 1 rfl (by kernel_rfl) (y_move rfl) rfl rfl ?_
            refine g_p 1 3 rfl (by kernel_rfl) (y_move rfl) rfl rfl ?_
            refine g_p 2 7 rfl (by kernel_rfl) (y_sub rfl rfl) rfl rfl ?_
            refine g_p 3 15 rfl (by kernel_rfl) (y_move rfl) rfl rfl ?_
            refine g_p 4 31 rfl (by kernel_rfl) (y_add rfl rfl) rfl rfl ?_
            refine g_p 5 63 rfl (by kernel_rfl) (y_move rfl) rfl rfl ?_
            obtain ⟨e85, H⟩ := H
            refine g_p 6 127 rfl (by kernel_rfl) (y_rem rfl rfl e85) rfl rfl ?_
            refine g_p 7 255 rfl (by kernel_rfl) (y_move rfl) rfl rfl ?_
            refine g_p 8 511 rfl (by kernel_rfl) (y_move rfl) rfl rfl ?_
            refine g_p 9 1023 rfl (by kernel_rfl) (y_sub rfl rfl) rfl rfl ?_
            refine g_p 10 2047 rfl (by kernel_rfl) (y_move rfl) rfl rfl ?_
            refine g_p 11 4095 rfl (by kernel_rfl) (y_add rfl rfl) rfl rfl ?_
            refine g_p 12 8191 rfl (by kernel_rfl) (y_move rfl) rfl rfl ?_
            obtain ⟨e86, H⟩ := H
            refine g_p 13 16383 rfl (by kernel_rfl) (y_rem rfl rfl e86) rfl rfl ?_
            refine g_p 14 32767 rfl (by kernel_rfl) (y_geq rfl rfl) rfl rfl ?_
            refine g_d (by kernel_rfl) ?_
            refine tr_thenN ?_
            refine tr_cond rfl (fun g87 => ?_) (fun g87 => ?_)
            · replace H := H.1 g87
              refine tr_draw mixed [0, 1, 3, 7, 0, 0, 32, 96, 224, 0, 992, 2016, 0, 4095, 12287, 32767] (by kernel_rfl) ?_
              refine g_p 0 1 rfl (by kernel_rfl) (y_move rfl) rfl rfl ?_
              obtain ⟨a88, e89, H⟩ := H
              refine g_p 1 3 rfl (by kernel_rfl) (f_nn rfl e89) rfl rfl ?_
              refine g_p 2 7 rfl (by kernel_rfl) (y_fa (off := 0) Try.runUnderlying106 fo_106_0 rfl) rfl rfl ?_
              obtain ⟨y90, k91, H⟩ := H
              refine g_h 3 15 rfl (by kernel_rfl) (y_ld Try.isAgg104 rfl) k91 rfl rfl ?_
              refine g_p 4 31 rfl (by kernel_rfl) (y_move rfl) rfl rfl ?_
              refine g_p 5 63 rfl (by kernel_rfl) (y_move rfl) rfl rfl ?_
              obtain ⟨a92, e93, H⟩ := H
              refine g_p 6 127 rfl (by kernel_rfl) (f_nn rfl e93) rfl rfl ?_
              refine g_p 7 255 rfl (by kernel_rfl) (y_fa (off := 0) Try.runUnderlying106 fo_106_0 rfl) rfl rfl ?_
              obtain ⟨y94, k95, H⟩ := H
              refine g_h 8 511 rfl (by kernel_rfl) (y_ld Try.isAgg104 rfl) k95 rfl rfl ?_
              refine g_p 9 1023 rfl (by kernel_rfl) (y_move rfl) rfl rfl ?_
              obtain ⟨a96, e97, H⟩ := H
              refine g_p 10 2047 rfl (by kernel_rfl) (f_idx (s := y94) Try.runUnderlying104 Try.sizeOf118 rfl rfl e97) rfl rfl ?_
              obtain ⟨y98, k99, H⟩ := H
              refine g_h 11 4095 rfl (by kernel_rfl) (y_ldS Try.isAgg118 Try.sizeOf118 rfl rfl) k99 rfl rfl ?_
              refine g_p 12 8191 rfl (by kernel_rfl) (y_move rfl) rfl rfl ?_
              obtain ⟨a100, e101, H⟩ := H
              refine g_p 13 16383 rfl (by kernel_rfl) (f_idx (s := y90) Try.runUnderlying104 Try.sizeOf118 rfl rfl e101) rfl rfl ?_
              refine g_e 14 32767 [] (by kernel_rfl) rfl (by kernel_rfl) (f_store (vs := y98.cells) Try.sizeOf118 rfl rfl cellsOfStruct rfl (by intro v hv; exact ones_S_table_place_chain_Chain_api_Agg _ v hv) H) rfl rfl ?_
              rintro _ h102 ⟨rfl, H⟩
              refine ⟨trivial, ?_⟩
              refine g_e 15 65535 [] (by kernel_rfl) rfl (by kernel_rfl) (yp_ev (y_assign rfl)) rfl rfl ?_
              rintro _ _ ⟨rfl, rfl⟩
              refine ⟨trivial, ?_⟩
              refine g_d (by kernel_rfl) ?_
              refine tr_blockN ?_
              refine tr_thenN ?_
              exact tr_join [(0, (.pointer x0)), (4, (.pointer x4)), (8, (.int .i64 x11)), (10, (.int .i64 x10)), (11, (.int .i64 x11))] ⟨rfl, rfl, rfl, rfl, rfl, trivial⟩ ⟨_, _, _, _, _, rfl, H⟩
            · replace H := H.2 g87
              refine tr_skip ?_
              refine tr_blockN ?_
              refine tr_thenN ?_
              exact tr_join [(0, (.pointer x0)), (4, (.pointer x4)), (8, (.int .i64 x8)), (10, (.int .i64 x10)), (11, (.int .i64 x11))] ⟨rfl, rfl, rfl, rfl, rfl, trivial⟩ ⟨_, _, _, _, _, rfl, H⟩
        · replace H := H.2 g69
          refine tr_exit ?_
          refine tr_thenE ?_
          refine tr_thenE ?_
          refine tr_hit ?_
          refine tr_thenN ?_
          refine tr_seq ?_
          refine tr_region ?_
          refine tr_p (y_move rfl) rfl rfl ?_
          obtain ⟨a103, e104, H⟩ := H
          refine tr_p (f_nn rfl e104) rfl rfl ?_
          refine tr_p (y_fa (off := 0) Try.runUnderlying106 fo_106_0 rfl) rfl rfl ?_
          obtain ⟨y105, k106, H⟩ := H
          refine tr_h (y_ld Try.isAgg104 rfl) k106 rfl rfl ?_
          refine tr_p (y_move rfl) rfl rfl ?_
          refine tr_p (f_build rfl (bd_118_ )) rfl rfl ?_
          obtain ⟨a107, e108, H⟩ := H
          refine tr_p (f_idx (s := y105) Try.runUnderlying104 Try.sizeOf118 rfl rfl e108) rfl rfl ?_
          refine tr_e (f_store (vs := (⟨0, (⟨#[]⟩ : ByteArray), none⟩ : S_table_place_chain_Chain_api_Agg).cells) Try.sizeOf118 rfl rfl cellsOfStruct rfl (by intro v hv; exact ones_S_table_place_chain_Chain_api_Agg _ v hv) H) rfl rfl ?_
          rintro _ h109 ⟨rfl, H⟩
          refine tr_nil ?_
          refine tr_thenN ?_
          refine tr_seq ?_
          refine tr_region ?_
          refine tr_p (y_move rfl) rfl rfl ?_
          refine tr_p (y_assign rfl) rfl rfl ?_
          refine tr_p (y_assign rfl) rfl rfl ?_
          refine tr_nil ?_
          refine tr_thenN ?_
          refine tr_ret ?_
          exact tr_ret2 rfl rfl rfl ⟨_, _, rfl, H⟩
def F.shard_Shard_Prune.l1 (Q : Int → H → Prop) : Nat → List Nat → (Option Addr) → Addr → Sl → Int → Int → H → Prop
  | 0, _, _, _, _, _, _, _ => False
  | q1 + 1, ds, x0, x5, x30, x31, x32, h =>
    ((decide (x32 < x31)) = true →
    idxA x30 x32 1 fun a37 =>
    ldS h a37 fun y39 =>
    nn x0 fun a41 =>
    ldP h (a41.add 3) fun y43 =>
    F.table_Table_chain_Chain_api_Agg_Drop y43 y39 h fun r46 r47 h45 =>
    (F.shard_Shard_Prune.l1 Q q1) ds x0 x5 x30 x31 (IntKind.wrap .i64 (x32 + 1)) h45) ∧
    ((decide (x32 < x31)) = false →
    nn x0 fun a48 =>
    ldI .i64 h ((a48.add 0).add 0) fun y50 =>
    ldI .i64 h x5 fun y52 =>
    nn x0 fun a54 =>
    stH h ((a54.add 0).add 0) [(.int .i64 (IntKind.wrap .i64 (y50 - y52)))] fun h56 =>
    ldI .i64 h56 x5 fun y57 =>
    shuts ds h56 fun h59 =>
    Q y57 h59)
/-- (*spate/shard.Shard).Prune -/
def F.shard_Shard_Prune (p0 : Option Addr) (p1 : Sl) (h : H) (Q : Int → H → Prop) : Prop :=
  new h #[p1.enc] ty_26 fun a2 h1 =>
  new h1 #[(.int .i64 0)] ty_3 fun a4 h3 =>
  stH h3 a4 [(.int .i64 0)] fun h5 =>
  new h5 #[(⟨none, 0, 0⟩ : Sl).enc] ty_99 fun a7 h6 =>
  nn p0 fun a8 =>
  ldP h6 (a8.add 3) fun y10 =>
  F.table_Table_chain_Chain_api_Agg_All y10 h6 fun r13 h12 =>
  rng PP r13 h12 [] (fun bg1 l1 args h K1 J1 => ∃ (y1_16 : ByteArray), ∃ (y1_17 : Option Addr), args = [(.string y1_16), (.pointer y1_17)] ∧
    bg1 h fun h14 =>
    ldI .i64 h14 a4 fun y15 =>
    ldL h14 a2 fun y17 =>
    F.chain_Chain_api_Agg_Prune y1_17 y17 h14 fun r20 h19 =>
    cellH h19 a4 = some (.int .i64 y15) ∧
    stH h19 a4 [(.int .i64 (IntKind.wrap .i64 (y15 + r20)))] fun h22 =>
    F.chain_Chain_api_Agg_Len y1_17 h22 fun r24 h23 =>
    (((r24 == 0)) = true →
    ldL h23 a7 fun y26 =>
    newL h23 #[(.string y1_16)] ty_9 1 fun s29 h28 =>
    runL PP (Builtin.append_ #[99, 99] 99 #[y26.enc, s29.enc]) h28 fun s31 h30 =>
    stH h30 a7 [s31.enc] fun h32 =>
    K1 h32) ∧
    (((r24 == 0)) = false →
    K1 h23)) (fun h33 =>
    ldL h33 a7 fun y34 =>
    ∃ m, F.shard_Shard_Prune.l1 Q m (h12.size :: ([] : List Nat)) p0 a4 y34 (y34.len : Int) 0 h33) (fun jj h61 =>
    True)
theorem F.shard_Shard_Prune_ok {p0 : Option Addr} {p1 : Sl} {h : H} {Q : Int → H → Prop} (H : F.shard_Shard_Prune p0 p1 h Q) : Fn PP 25 ([(.pointer p0), p1.enc] : List Value).toArray h fun r h' => ∃ r0, r = (.int .i64 r0) ∧ Q r0 h' := by
  unfold F.shard_Shard_Prune at H
  refine fn_ofM Try.func25 Try.ntmps25 rfl rfl fun w0 => ?_
  refine tr_sub [(0, (.pointer p0)), (1, p1.enc)] ⟨rfl, rfl, trivial⟩ ?_
  refine tr_seq ?_
  refine tr_region ?_
  refine tr_e (f_box (cs := #[p1.enc]) rfl rfl H) rfl rfl ?_
  rintro _ h1 ⟨a2, rfl, H⟩
  refine tr_p (y_assign rfl) rfl rfl ?_
  refine tr_nil ?_
  refine tr_thenN ?_
  refine tr_seq ?_
  refine tr_region ?_
  refine tr_e (f_alloc (cs := #[(.int .i64 0)]) Try.zeroValue3 rfl H) rfl rfl ?_
  rintro _ h3 ⟨a4, rfl, H⟩
  refine tr_e (f_store (vs := [(.int .i64 0)]) Try.sizeOf3 rfl rfl rfl rfl (one1 rfl) H) rfl rfl ?_
  rintro _ h5 ⟨rfl, H⟩
  refine tr_nil ?_
  refine tr_thenN ?_
  refine tr_seq ?_
  refine tr_region ?_
  refine tr_e (f_alloc (cs := #[(⟨none, 0, 0⟩ : Sl).enc]) Try.zeroValue99 rfl H) rfl rfl ?_
  rintro _ h6 ⟨a7, rfl, H⟩
  refine tr_nil ?_
  refine tr_thenN ?_
  refine tr_seq ?_
  refine tr_seq ?_
  refine tr_region ?_
  refine tr_p (y_move rfl) rfl rfl ?_
  obtain ⟨a8, e9, H⟩ := H
  refine tr_p (f_nn rfl e9) rfl rfl ?_
  refine tr_p (y_fa (off := 3) Try.runUnderlying54 fo_54_1 rfl) rfl rfl ?_
  obtain ⟨y10, k11, H⟩ := H
  refine tr_h (y_ld Try.isAgg52 rfl) k11 rfl rfl ?_
  refine tr_e (e_call Try.call47 rfl (F.table_Table_chain_Chain_api_Agg_All_ok H)) rfl rfl ?_
  rintro r13 h12 ⟨_, rfl, H⟩
  refine tr_nil ?_
  refine tr_thenN ?_
  refine tr_block ?_
  refine tr_range rfl (by kernel_rfl) H ?_ ?_ ?_
  · intro bg1 l1 args h K1 J1 w1 hbg1 H
    obtain ⟨y1_16, y1_17, rfl, H⟩ := H
    refine ⟨rfl, ?_⟩
    refine tr_sub [(0, (.pointer p0)), (1, p1.enc), (3, (.pointer (some a2))), (4, (.int .i64 0)), (5, (.pointer (some a4))), (6, (.pointer (some a7))), (11, (.pointer p0)), (12, (.pointer (some a8))), (13, (.pointer (some (a8.add 3)))), (14, (.pointer y10)), (15, r13), (16, (.string y1_16)), (17, (.pointer y1_17))] ⟨rfl, rfl, rfl, rfl, rfl, rfl, rfl, rfl, rfl, rfl, rfl, rfl, rfl, trivial⟩ ?_
    refine tr_seq ?_
    refine tr_region ?_
    refine tr_p (y_assign rfl) rfl rfl ?_
    refine tr_nil ?_
    refine tr_thenN ?_
    refine tr_region ?_
    refine tr_p (y_assign rfl) rfl rfl ?_
    refine tr_nil ?_
    refine tr_thenN ?_
    refine tr_bgn hbg1 H fun h14 H => ?_
    refine tr_block ?_
    refine tr_seq ?_
    refine tr_draw mixed [0, 0, 0, 6, 15, 31] (by kernel_rfl) ?_
    obtain ⟨y15, k16, H⟩ := H
    refine g_h 0 1 rfl (by kernel_rfl) (y_ld Try.isAgg3 rfl) k16 rfl rfl ?_
    refine g_p 1 3 rfl (by kernel_rfl) (y_move rfl) rfl rfl ?_
    obtain ⟨y17, k18, H⟩ := H
    refine g_h 2 7 rfl (by kernel_rfl) (y_ld Try.isAgg26 rfl) k18 rfl rfl ?_
    refine g_e 3 15 [(0, fun h => cellH h a4 = some (.int .i64 y15))] (by kernel_rfl) rfl (by kernel_rfl) (e_call Try.call50 rfl (F.chain_Chain_api_Agg_Prune_ok H)) rfl rfl ?_
    rintro _ h19 ⟨r20, rfl, H⟩
    obtain ⟨k21, H⟩ := H
    refine ⟨And.intro k21 trivial, ?_⟩
    refine g_p 4 31 rfl (by kernel_rfl) (y_add rfl rfl) rfl rfl ?_
    refine g_e 5 63 [] (by kernel_rfl) rfl (by kernel_rfl) (f_store (vs := [(.int .i64 (IntKind.wrap .i64 (y15 + r20)))]) Try.sizeOf3 rfl rfl rfl rfl (one1 rfl) H) rfl rfl ?_
    rintro _ h22 ⟨rfl, H⟩
    refine ⟨trivial, ?_⟩
    refine g_d (by kernel_rfl) ?_
    refine tr_thenN ?_
    refine tr_seq ?_
    refine tr_region ?_
    refine tr_p (y_move rfl) rfl rfl ?_
    refine tr_e (e_call Try.call48 rfl (F.chain_Chain_api_Agg_Len_ok H)) rfl rfl ?_
    rintro _ h23 ⟨r24, rfl, H⟩
    refine tr_p (y_eql rfl rfl) rfl rfl ?_
    refine tr_nil ?_
    refine tr_thenN ?_
    refine tr_cond rfl (fun g25 => ?_) (fun g25 => ?_)
    · replace H := H.1 g25
      refine tr_region ?_
      obtain ⟨y26, k27, H⟩ := H
      refine tr_h (y_ld Try.isAgg99 rfl) k27 rfl rfl ?_
      refine tr_p (y_move rfl) rfl rfl ?_
      refine tr_e (f_buildL (cs := #[(.string y1_16)]) rfl rfl (bl_99_1_0 y1_16) H) rfl rfl ?_
      rintro _ h28 ⟨s29, rfl, H⟩
      refine tr_e (f_app rfl H) rfl rfl ?_
      rintro _ h30 ⟨s31, rfl, H⟩
      refine tr_e (f_store (vs := [s31.enc]) Try.sizeOf99 rfl rfl rfl rfl (one1 rfl) H) rfl rfl ?_
      rintro _ h32 ⟨rfl, H⟩
      refine tr_nil ?_
      refine tr_blockN ?_
      exact tr_rN H
    · replace H := H.2 g25
      refine tr_skip ?_
      refine tr_blockN ?_
      exact tr_rN H
  · intro h33 H
    refine tr_blockN ?_
    refine tr_thenN ?_
    refine tr_seq ?_
    refine tr_seq ?_
    refine tr_region ?_
    obtain ⟨y34, k35, H⟩ := H
    refine tr_h (y_ld Try.isAgg99 rfl) k35 rfl rfl ?_
    refine tr_p (y_len (ts := #[]) Try.runUnderlying99 (o := y34.ptr) (n := y34.len) (cap := y34.cap) rfl) rfl rfl ?_
    refine tr_p (y_move rfl) rfl rfl ?_
    refine tr_nil ?_
    refine tr_thenN ?_
    refine tr_block ?_
    obtain ⟨m60, H⟩ := H
    refine tr_sub [(0, (.pointer p0)), (5, (.pointer (some a4))), (30, y34.enc), (31, (.int .i64 (y34.len : Int))), (32, (.int .i64 0))] ⟨rfl, rfl, rfl, rfl, rfl, trivial⟩ ?_
    refine tr_loop_jD (fun m ds L' h => ∃ (x0 : Option Addr) (x5 : Addr) (x30 : Sl) (x31 : Int) (x32 : Int), L' = [(0, (.pointer x0)), (5, (.pointer (some x5))), (30, x30.enc), (31, (.int .i64 x31)), (32, (.int .i64 x32))] ∧ F.shard_Shard_Prune.l1 Q m ds x0 x5 x30 x31 x32 h) ?_ ?_ m60 (h12.size :: ([] : List Nat)) rfl ⟨_, _, _, _, _, rfl, H⟩
    · rintro ds L' h ⟨_, _, _, _, _, _, H⟩; exact H
    · rintro q1 ds L' h ⟨x0, x5, x30, x31, x32, rfl, H⟩
      unfold F.shard_Shard_Prune.l1 at H
      refine tr_seq ?_
      refine tr_region ?_
      refine tr_p (y_lss rfl rfl) rfl rfl ?_
      refine tr_nil ?_
      refine tr_thenN ?_
      refine tr_seq ?_
      refine tr_cond rfl (fun g36 => ?_) (fun g36 => ?_)
      · replace H := H.1 g36
        refine tr_skip ?_
        refine tr_thenN ?_
        refine tr_seq ?_
        refine tr_block ?_
        refine tr_seq ?_
        refine tr_region ?_
        obtain ⟨a37, e38, H⟩ := H
        refine tr_p (f_idx (s := x30) Try.runUnderlying99 Try.sizeOf9 rfl rfl e38) rfl rfl ?_
        obtain ⟨y39, k40, H⟩ := H
        refine tr_h (y_ld Try.isAgg9 rfl) k40 rfl rfl ?_
        refine tr_p (y_assign rfl) rfl rfl ?_
        refine tr_nil ?_
        refine tr_thenN ?_
        refine tr_region ?_
        refine tr_p (y_move rfl) rfl rfl ?_
        obtain ⟨a41, e42, H⟩ := H
        refine tr_p (f_nn rfl e42) rfl rfl ?_
        refine tr_p (y_fa (off := 3) Try.runUnderlying54 fo_54_1 rfl) rfl rfl ?_
        obtain ⟨y43, k44, H⟩ := H
        refine tr_h (y_ld Try.isAgg52 rfl) k44 rfl rfl ?_
        refine tr_p (y_move rfl) rfl rfl ?_
        refine tr_e (e_call Try.call51 rfl (F.table_Table_chain_Chain_api_Agg_Drop_ok H)) rfl rfl ?_
        rintro _ h45 ⟨r46, r47, rfl, H⟩
        refine tr_nil ?_
        refine tr_blockN ?_
        refine tr_thenN ?_
        refine tr_region ?_
        refine tr_p (y_add rfl rfl) rfl rfl ?_
        refine tr_p (y_move rfl) rfl rfl ?_
        refine tr_nil ?_
        refine tr_thenN ?_
        exact tr_joinD ds [(0, (.pointer x0)), (5, (.pointer (some x5))), (30, x30.enc), (31, (.int .i64 x31)), (32, (.int .i64 (IntKind.wrap .i64 (x32 + 1))))] rfl ⟨rfl, rfl, rfl, rfl, rfl, trivial⟩ ⟨_, _, _, _, _, rfl, H⟩
      · replace H := H.2 g36
        refine tr_exit ?_
        refine tr_thenE ?_
        refine tr_thenE ?_
        refine tr_hit ?_
        refine tr_thenN ?_
        refine tr_seq ?_
        refine tr_draw mixed [0, 1, 3, 7, 15, 0, 63, 127, 255, 511, 1023] (by kernel_rfl) ?_
        refine g_p 0 1 rfl (by kernel_rfl) (y_move rfl) rfl rfl ?_
        obtain ⟨a48, e49, H⟩ := H
        refine g_p 1 3 rfl (by kernel_rfl) (f_nn rfl e49) rfl rfl ?_
        refine g_p 2 7 rfl (by kernel_rfl) (y_fa (off := 0) Try.runUnderlying54 fo_54_0 rfl) rfl rfl ?_
        refine g_p 3 15 rfl (by kernel_rfl) (y_fa (off := 0) Try.runUnderlying51 fo_51_0 rfl) rfl rfl ?_
        obtain ⟨y50, k51, H⟩ := H
        refine g_h 4 31 rfl (by kernel_rfl) (y_ld Try.isAgg3 rfl) k51 rfl rfl ?_
        obtain ⟨y52, k53, H⟩ := H
        refine g_h 5 63 rfl (by kernel_rfl) (y_ld Try.isAgg3 rfl) k53 rfl rfl ?_
        refine g_p 6 127 rfl (by kernel_rfl) (y_sub rfl rfl) rfl rfl ?_
        obtain ⟨a54, e55, H⟩ := H
        refine g_p 7 255 rfl (by kernel_rfl) (f_nn rfl e55) rfl rfl ?_
        refine g_p 8 511 rfl (by kernel_rfl) (y_fa (off := 0) Try.runUnderlying54 fo_54_0 rfl) rfl rfl ?_
        refine g_p 9 1023 rfl (by kernel_rfl) (y_fa (off := 0) Try.runUnderlying51 fo_51_0 rfl) rfl rfl ?_
        refine g_e 10 2047 [] (by kernel_rfl) rfl (by kernel_rfl) (f_store (vs := [(.int .i64 (IntKind.wrap .i64 (y50 - y52)))]) Try.sizeOf3 rfl rfl rfl rfl (one1 rfl) H) rfl rfl ?_
        rintro _ h56 ⟨rfl, H⟩
        refine ⟨trivial, ?_⟩
        refine g_d (by kernel_rfl) ?_
        refine tr_thenN ?_
        refine tr_seq ?_
        refine tr_region ?_
        obtain ⟨y57, k58, H⟩ := H
        refine tr_h (y_ld Try.isAgg3 rfl) k58 rfl rfl ?_
        refine tr_p (y_assign rfl) rfl rfl ?_
        refine tr_nil ?_
        refine tr_thenN ?_
        refine tr_ret ?_
        refine tr_shut ds rfl H fun h59 H => ?_
        exact tr_ret1 rfl rfl ⟨_, rfl, H⟩
  · intro jj c h61 hjc H
    simp at hjc
end Go.Proofs.Ytoccbnhahaoeiaa.V
namespace Go.Proofs.Ytoccbnhahaoeiaa.V
open Go
set_option linter.unusedVariables false
set_option maxRecDepth 100000
/-- cmp.isNaN[int] -/
def F.cmp_isNaN_int (p0 : Int) (h : H) (Q : Bool → H → Prop) : Prop :=
  Q ((p0 != p0)) h
theorem F.cmp_isNaN_int_ok {p0 : Int} {h : H} {Q : Bool → H → Prop} (H : F.cmp_isNaN_int p0 h Q) : Fn PP 85 ([(.int .i64 p0)] : List Value).toArray h fun r h' => ∃ r0, r = (.bool r0) ∧ Q r0 h' := by
  unfold F.cmp_isNaN_int at H
  refine fn_of Try.func85 Try.ntmps85 rfl rfl fun w0 => ?_
  refine tr_sub [(0, (.int .i64 p0))] ⟨rfl, trivial⟩ ?_
  refine tr_seq ?_
  refine tr_region ?_
  refine tr_p (y_assign rfl) rfl rfl ?_
  refine tr_nil ?_
  refine tr_thenN ?_
  refine tr_seq ?_
  refine tr_region ?_
  refine tr_p (y_move rfl) rfl rfl ?_
  refine tr_p (y_move rfl) rfl rfl ?_
  refine tr_p (y_neq rfl rfl) rfl rfl ?_
  refine tr_p (y_assign rfl) rfl rfl ?_
  refine tr_nil ?_
  refine tr_thenN ?_
  refine tr_ret ?_
  exact tr_ret1 rfl rfl ⟨_, rfl, H⟩
/-- cmp.Compare[int] -/
def F.cmp_Compare_int (p0 : Int) (p1 : Int) (h : H) (Q : Int → H → Prop) : Prop :=
  F.cmp_isNaN_int p0 h fun r2 h1 =>
  F.cmp_isNaN_int p1 h1 fun r4 h3 =>
  (r2 = true →
  (r4 = true →
  Q 0 h3) ∧
  (r4 = false →
  Q (-1) h3)) ∧
  (r2 = false →
  (r4 = true →
  Q 1 h3) ∧
  (r4 = false →
  ((decide (p0 < p1)) = true →
  Q (-1) h3) ∧
  ((decide (p0 < p1)) = false →
  ((decide (p0 > p1)) = true →
  Q 1 h3) ∧
  ((decide (p0 > p1)) = false →
  Q 0 h3))))
theorem F.cmp_Compare_int_ok {p0 : Int} {p1 : Int} {h : H} {Q : Int → H → Prop} (H : F.cmp_Compare_int p0 p1 h Q) : Fn PP 72 ([(.int .i64 p0), (.int .i64 p1)] : List Value).toArray h fun r h' => ∃ r0, r = (.int .i64 r0) ∧ Q r0 h' := by
  unfold F.cmp_Compare_int at H
  refine fn_of Try.func72 Try.ntmps72 rfl rfl fun w0 => ?_
  refine tr_sub [(0, (.int .i64 p0)), (1, (.int .i64 p1))] ⟨rfl, rfl, trivial⟩ ?_
  refine tr_seq ?_
  refine tr_region ?_
  refine tr_p (y_assign rfl) rfl rfl ?_
  refine tr_nil ?_
  refine tr_thenN ?_
  refine tr_seq ?_
  refine tr_region ?_
  refine tr_p (y_move rfl) rfl rfl ?_
  refine tr_e (e_call Try.call85 rfl (F.cmp_isNaN_int_ok H)) rfl rfl ?_
  rintro _ h1 ⟨r2, rfl, H⟩
  refine tr_p (y_assign rfl) rfl rfl ?_
  refine tr_nil ?_
  refine tr_thenN ?_
  refine tr_seq ?_
  refine tr_region ?_
  refine tr_p (y_move rfl) rfl rfl ?_
  refine tr_e (e_call Try.call85 rfl (F.cmp_isNaN_int_ok H)) rfl rfl ?_
  rintro _ h3 ⟨r4, rfl, H⟩
  refine tr_p (y_assign rfl) rfl rfl ?_
  refine tr_nil ?_
  refine tr_thenN ?_
  refine tr_seq ?_
  refine tr_seq ?_
  refine tr_region ?_
  refine tr_p (y_move rfl) rfl rfl ?_
  refine tr_nil ?_
  refine tr_thenN ?_
  refine tr_cond rfl (fun g5 => ?_) (fun g5 => ?_)
  · replace H := H.1 g5
    refine tr_seq ?_
    refine tr_seq ?_
    refine tr_region ?_
    refine tr_p (y_move rfl) rfl rfl ?_
    refine tr_nil ?_
    refine tr_thenN ?_
    refine tr_cond rfl (fun g6 => ?_) (fun g6 => ?_)
    · replace H := H.1 g6
      refine tr_seq ?_
      refine tr_region ?_
      refine tr_p (y_assign rfl) rfl rfl ?_
      refine tr_nil ?_
      refine tr_thenN ?_
      refine tr_ret ?_
      refine tr_thenR ?_
      refine tr_thenR ?_
      exact tr_ret1 rfl rfl ⟨_, rfl, H⟩
    · replace H := H.2 g6
      refine tr_skip ?_
      refine tr_thenN ?_
      refine tr_seq ?_
      refine tr_region ?_
      refine tr_p (y_assign rfl) rfl rfl ?_
      refine tr_nil ?_
      refine tr_thenN ?_
      refine tr_ret ?_
      refine tr_thenR ?_
      exact tr_ret1 rfl rfl ⟨_, rfl, H⟩
  · replace H := H.2 g5
    refine tr_skip ?_
    refine tr_thenN ?_
    refine tr_seq ?_
    refine tr_seq ?_
    refine tr_region ?_
    refine tr_p (y_move rfl) rfl rfl ?_
    refine tr_nil ?_
    refine tr_thenN ?_
    refine tr_cond rfl (fun g7 => ?_) (fun g7 => ?_)
    · replace H := H.1 g7
      refine tr_seq ?_
      refine tr_region ?_
      refine tr_p (y_assign rfl) rfl rfl ?_
      refine tr_nil ?_
      refine tr_thenN ?_
      refine tr_ret ?_
      refine tr_thenR ?_
      exact tr_ret1 rfl rfl ⟨_, rfl, H⟩
    · replace H := H.2 g7
      refine tr_skip ?_
      refine tr_thenN ?_
      refine tr_seq ?_
      refine tr_seq ?_
      refine tr_region ?_
      refine tr_p (y_move rfl) rfl rfl ?_
      refine tr_p (y_move rfl) rfl rfl ?_
      refine tr_p (y_lss rfl rfl) rfl rfl ?_
      refine tr_nil ?_
      refine tr_thenN ?_
      refine tr_cond rfl (fun g8 => ?_) (fun g8 => ?_)
      · replace H := H.1 g8
        refine tr_seq ?_
        refine tr_region ?_
        refine tr_p (y_assign rfl) rfl rfl ?_
        refine tr_nil ?_
        refine tr_thenN ?_
        refine tr_ret ?_
        refine tr_thenR ?_
        exact tr_ret1 rfl rfl ⟨_, rfl, H⟩
      · replace H := H.2 g8
        refine tr_skip ?_
        refine tr_thenN ?_
        refine tr_seq ?_
        refine tr_seq ?_
        refine tr_region ?_
        refine tr_p (y_move rfl) rfl rfl ?_
        refine tr_p (y_move rfl) rfl rfl ?_
        refine tr_p (y_gtr rfl rfl) rfl rfl ?_
        refine tr_nil ?_
        refine tr_thenN ?_
        refine tr_cond rfl (fun g9 => ?_) (fun g9 => ?_)
        · replace H := H.1 g9
          refine tr_seq ?_
          refine tr_region ?_
          refine tr_p (y_assign rfl) rfl rfl ?_
          refine tr_nil ?_
          refine tr_thenN ?_
          refine tr_ret ?_
          refine tr_thenR ?_
          exact tr_ret1 rfl rfl ⟨_, rfl, H⟩
        · replace H := H.2 g9
          refine tr_skip ?_
          refine tr_thenN ?_
          refine tr_seq ?_
          refine tr_region ?_
          refine tr_p (y_assign rfl) rfl rfl ?_
          refine tr_nil ?_
          refine tr_thenN ?_
          refine tr_ret ?_
          exact tr_ret1 rfl rfl ⟨_, rfl, H⟩
/-- internal/bytealg.CompareString -/
def F.internal_bytealg_CompareString (p0 : ByteArray) (p1 : ByteArray) (h : H) (Q : Int → H → Prop) : Prop :=
  Q (cmpM p0 p1) h
theorem F.internal_bytealg_CompareString_ok {p0 : ByteArray} {p1 : ByteArray} {h : H} {Q : Int → H → Prop} (H : F.internal_bytealg_CompareString p0 p1 h Q) : Fn PP 86 ([(.string p0), (.string p1)] : List Value).toArray h fun r h' => ∃ r0, r = (.int .i64 r0) ∧ Q r0 h' := by
  unfold F.internal_bytealg_CompareString at H
  refine fn_of Try.func86 Try.ntmps86 rfl rfl fun w0 => ?_
  refine tr_sub [(0, (.string p0)), (1, (.string p1))] ⟨rfl, rfl, trivial⟩ ?_
  refine tr_seq ?_
  refine tr_region ?_
  refine tr_p (y_assign rfl) rfl rfl ?_
  refine tr_nil ?_
  refine tr_thenN ?_
  refine tr_seq ?_
  refine tr_region ?_
  refine tr_p (y_move rfl) rfl rfl ?_
  refine tr_p (y_move rfl) rfl rfl ?_
  refine tr_p (y_cmpS cmpS_91 rfl) rfl rfl ?_
  refine tr_p (y_assign rfl) rfl rfl ?_
  refine tr_nil ?_
  refine tr_thenN ?_
  refine tr_ret ?_
  exact tr_ret1 rfl rfl ⟨_, rfl, H⟩
/-- strings.Compare -/
def F.strings_Compare (p0 : ByteArray) (p1 : ByteArray) (h : H) (Q : Int → H → Prop) : Prop :=
  F.internal_bytealg_CompareString p0 p1 h fun r2 h1 =>
  Q r2 h1
theorem F.strings_Compare_ok {p0 : ByteArray} {p1 : ByteArray} {h : H} {Q : Int → H → Prop} (H : F.strings_Compare p0 p1 h Q) : Fn PP 73 ([(.string p0), (.string p1)] : List Value).toArray h fun r h' => ∃ r0, r = (.int .i64 r0) ∧ Q r0 h' := by
  unfold F.strings_Compare at H
  refine fn_of Try.func73 Try.ntmps73 rfl rfl fun w0 => ?_
  refine tr_sub [(0, (.string p0)), (1, (.string p1))] ⟨rfl, rfl, trivial⟩ ?_
  refine tr_seq ?_
  refine tr_region ?_
  refine tr_p (y_assign rfl) rfl rfl ?_
  refine tr_nil ?_
  refine tr_thenN ?_
  refine tr_seq ?_
  refine tr_region ?_
  refine tr_p (y_move rfl) rfl rfl ?_
  refine tr_p (y_move rfl) rfl rfl ?_
  refine tr_e (e_call Try.call86 rfl (F.internal_bytealg_CompareString_ok H)) rfl rfl ?_
  rintro _ h1 ⟨r2, rfl, H⟩
  refine tr_p (y_assign rfl) rfl rfl ?_
  refine tr_nil ?_
  refine tr_thenN ?_
  refine tr_ret ?_
  exact tr_ret1 rfl rfl ⟨_, rfl, H⟩
/-- cmp.isNaN[int64] -/
def F.cmp_isNaN_int64 (p0 : Int) (h : H) (Q : Bool → H → Prop) : Prop :=
  Q ((p0 != p0)) h
theorem F.cmp_isNaN_int64_ok {p0 : Int} {h : H} {Q : Bool → H → Prop} (H : F.cmp_isNaN_int64 p0 h Q) : Fn PP 87 ([(.int .i64 p0)] : List Value).toArray h fun r h' => ∃ r0, r = (.bool r0) ∧ Q r0 h' := by
  unfold F.cmp_isNaN_int64 at H
  refine fn_of Try.func87 Try.ntmps87 rfl rfl fun w0 => ?_
  refine tr_sub [(0, (.int .i64 p0))] ⟨rfl, trivial⟩ ?_
  refine tr_seq ?_
  refine tr_region ?_
  refine tr_p (y_assign rfl) rfl rfl ?_
  refine tr_nil ?_
  refine tr_thenN ?_
  refine tr_seq ?_
  refine tr_region ?_
  refine tr_p (y_move rfl) rfl rfl ?_
  refine tr_p (y_move rfl) rfl rfl ?_
  refine tr_p (y_neq rfl rfl) rfl rfl ?_
  refine tr_p (y_assign rfl) rfl rfl ?_
  refine tr_nil ?_
  refine tr_thenN ?_
  refine tr_ret ?_
  exact tr_ret1 rfl rfl ⟨_, rfl, H⟩
/-- cmp.Compare[int64] -/
def F.cmp_Compare_int64 (p0 : Int) (p1 : Int) (h : H) (Q : Int → H → Prop) : Prop :=
  F.cmp_isNaN_int64 p0 h fun r2 h1 =>
  F.cmp_isNaN_int64 p1 h1 fun r4 h3 =>
  (r2 = true →
  (r4 = true →
  Q 0 h3) ∧
  (r4 = false →
  Q (-1) h3)) ∧
  (r2 = false →
  (r4 = true →
  Q 1 h3) ∧
  (r4 = false →
  ((decide (p0 < p1)) = true →
  Q (-1) h3) ∧
  ((decide (p0 < p1)) = false →
  ((decide (p0 > p1)) = true →
  Q 1 h3) ∧
  ((decide (p0 > p1)) = false →
  Q 0 h3))))
theorem F.cmp_Compare_int64_ok {p0 : Int} {p1 : Int} {h : H} {Q : Int → H → Prop} (H : F.cmp_Compare_int64 p0 p1 h Q) : Fn PP 74 ([(.int .i64 p0), (.int .i64 p1)] : List Value).toArray h fun r h' => ∃ r0, r = (.int .i64 r0) ∧ Q r0 h' := by
  unfold F.cmp_Compare_int64 at H
  refine fn_of Try.func74 Try.ntmps74 rfl rfl fun w0 => ?_
  refine tr_sub [(0, (.int .i64 p0)), (1, (.int .i64 p1))] ⟨rfl, rfl, trivial⟩ ?_
  refine tr_seq ?_
  refine tr_region ?_
  refine tr_p (y_assign rfl) rfl rfl ?_
  refine tr_nil ?_
  refine tr_thenN ?_
  refine tr_seq ?_
  refine tr_region ?_
  refine tr_p (y_move rfl) rfl rfl ?_
  refine tr_e (e_call Try.call87 rfl (F.cmp_isNaN_int64_ok H)) rfl rfl ?_
  rintro _ h1 ⟨r2, rfl, H⟩
  refine tr_p (y_assign rfl) rfl rfl ?_
  refine tr_nil ?_
  refine tr_thenN ?_
  refine tr_seq ?_
  refine tr_region ?_
  refine tr_p (y_move rfl) rfl rfl ?_
  refine tr_e (e_call Try.call87 rfl (F.cmp_isNaN_int64_ok H)) rfl rfl ?_
  rintro _ h3 ⟨r4, rfl, H⟩
  refine tr_p (y_assign rfl) rfl rfl ?_
  refine tr_nil ?_
  refine tr_thenN ?_
  refine tr_seq ?_
  refine tr_seq ?_
  refine tr_region ?_
  refine tr_p (y_move rfl) rfl rfl ?_
  refine tr_nil ?_
  refine tr_thenN ?_
  refine tr_cond rfl (fun g5 => ?_) (fun g5 => ?_)
  · replace H := H.1 g5
    refine tr_seq ?_
    refine tr_seq ?_
    refine tr_region ?_
    refine tr_p (y_move rfl) rfl rfl ?_
    refine tr_nil ?_
    refine tr_thenN ?_
    refine tr_cond rfl (fun g6 => ?_) (fun g6 => ?_)
    · replace H := H.1 g6
      refine tr_seq ?_
      refine tr_region ?_
      refine tr_p (y_assign rfl) rfl rfl ?_
      refine tr_nil ?_
      refine tr_thenN ?_
      refine tr_ret ?_
      refine tr_thenR ?_
      refine tr_thenR ?_
      exact tr_ret1 rfl rfl ⟨_, rfl, H⟩
    · replace H := H.2 g6
      refine tr_skip ?_
      refine tr_thenN ?_
      refine tr_seq ?_
      refine tr_region ?_
      refine tr_p (y_assign rfl) rfl rfl ?_
      refine tr_nil ?_
      refine tr_thenN ?_
      refine tr_ret ?_
      refine tr_thenR ?_
      exact tr_ret1 rfl rfl ⟨_, rfl, H⟩
  · replace H := H.2 g5
    refine tr_skip ?_
    refine tr_thenN ?_
    refine tr_seq ?_
    refine tr_seq ?_
    refine tr_region ?_
    refine tr_p (y_move rfl) rfl rfl ?_
    refine tr_nil ?_
    refine tr_thenN ?_
    refine tr_cond rfl (fun g7 => ?_) (fun g7 => ?_)
    · replace H := H.1 g7
      refine tr_seq ?_
      refine tr_region ?_
      refine tr_p (y_assign rfl) rfl rfl ?_
      refine tr_nil ?_
      refine tr_thenN ?_
      refine tr_ret ?_
      refine tr_thenR ?_
      exact tr_ret1 rfl rfl ⟨_, rfl, H⟩
    · replace H := H.2 g7
      refine tr_skip ?_
      refine tr_thenN ?_
      refine tr_seq ?_
      refine tr_seq ?_
      refine tr_region ?_
      refine tr_p (y_move rfl) rfl rfl ?_
      refine tr_p (y_move rfl) rfl rfl ?_
      refine tr_p (y_lss rfl rfl) rfl rfl ?_
      refine tr_nil ?_
      refine tr_thenN ?_
      refine tr_cond rfl (fun g8 => ?_) (fun g8 => ?_)
      · replace H := H.1 g8
        refine tr_seq ?_
        refine tr_region ?_
        refine tr_p (y_assign rfl) rfl rfl ?_
        refine tr_nil ?_
        refine tr_thenN ?_
        refine tr_ret ?_
        refine tr_thenR ?_
        exact tr_ret1 rfl rfl ⟨_, rfl, H⟩
      · replace H := H.2 g8
        refine tr_skip ?_
        refine tr_thenN ?_
        refine tr_seq ?_
        refine tr_seq ?_
        refine tr_region ?_
        refine tr_p (y_move rfl) rfl rfl ?_
        refine tr_p (y_move rfl) rfl rfl ?_
        refine tr_p (y_gtr rfl rfl) rfl rfl ?_
        refine tr_nil ?_
        refine tr_thenN ?_
        refine tr_cond rfl (fun g9 => ?_) (fun g9 => ?_)
        · replace H := H.1 g9
          refine tr_seq ?_
          refine tr_region ?_
          refine tr_p (y_assign rfl) rfl rfl ?_
          refine tr_nil ?_
          refine tr_thenN ?_
          refine tr_ret ?_
          refine tr_thenR ?_
          exact tr_ret1 rfl rfl ⟨_, rfl, H⟩
        · replace H := H.2 g9
          refine tr_skip ?_
          refine tr_thenN ?_
          refine tr_seq ?_
          refine tr_region ?_
          refine tr_p (y_assign rfl) rfl rfl ?_
          refine tr_nil ?_
          refine tr_thenN ?_
          refine tr_ret ?_
          exact tr_ret1 rfl rfl ⟨_, rfl, H⟩
def F.cmp_Or_int.l1 (Q : Int → H → Prop) : Nat → Int → Sl → Int → Int → H → Prop
  | 0, _, _, _, _, _ => False
  | q1 + 1, x3, x6, x7, x8, h =>
    ((decide (x8 < x7)) = true →
    idxA x6 x8 1 fun a2 =>
    ldI .i64 h a2 fun y4 =>
    (((y4 != x3)) = true →
    Q y4 h) ∧
    (((y4 != x3)) = false →
    (F.cmp_Or_int.l1 Q q1) x3 x6 x7 (IntKind.wrap .i64 (x8 + 1)) h)) ∧
    ((decide (x8 < x7)) = false →
    Q x3 h)
/-- cmp.Or[int] -/
def F.cmp_Or_int (p0 : Sl) (h : H) (Q : Int → H → Prop) : Prop :=
  ∃ m, F.cmp_Or_int.l1 Q m 0 p0 (p0.len : Int) 0 h
theorem F.cmp_Or_int_ok {p0 : Sl} {h : H} {Q : Int → H → Prop} (H : F.cmp_Or_int p0 h Q) : Fn PP 71 ([p0.enc] : List Value).toArray h fun r h' => ∃ r0, r = (.int .i64 r0) ∧ Q r0 h' := by
  unfold F.cmp_Or_int at H
  refine fn_of Try.func71 Try.ntmps71 rfl rfl fun w0 => ?_
  refine tr_sub [(0, p0.enc)] ⟨rfl, trivial⟩ ?_
  refine tr_seq ?_
  refine tr_region ?_
  refine tr_p (y_assign rfl) rfl rfl ?_
  refine tr_nil ?_
  refine tr_thenN ?_
  refine tr_seq ?_
  refine tr_region ?_
  refine tr_p (y_assign rfl) rfl rfl ?_
  refine tr_nil ?_
  refine tr_thenN ?_
  refine tr_seq ?_
  refine tr_seq ?_
  refine tr_region ?_
  refine tr_p (y_move rfl) rfl rfl ?_
  refine tr_p (y_len (ts := #[]) Try.runUnderlying26 (o := p0.ptr) (n := p0.len) (cap := p0.cap) rfl) rfl rfl ?_
  refine tr_p (y_move rfl) rfl rfl ?_
  refine tr_nil ?_
  refine tr_thenN ?_
  refine tr_block ?_
  obtain ⟨m7, H⟩ := H
  refine tr_sub [(3, (.int .i64 0)), (6, p0.enc), (7, (.int .i64 (p0.len : Int))), (8, (.int .i64 0))] ⟨rfl, rfl, rfl, rfl, trivial⟩ ?_
  refine tr_loop_j (fun m L' h => ∃ (x3 : Int) (x6 : Sl) (x7 : Int) (x8 : Int), L' = [(3, (.int .i64 x3)), (6, x6.enc), (7, (.int .i64 x7)), (8, (.int .i64 x8))] ∧ F.cmp_Or_int.l1 Q m x3 x6 x7 x8 h) ?_ ?_ m7 ⟨_, _, _, _, rfl, H⟩
  · rintro L' h ⟨_, _, _, _, _, H⟩; exact H
  · rintro q1 L' h ⟨x3, x6, x7, x8, rfl, H⟩
    unfold F.cmp_Or_int.l1 at H
    refine tr_seq ?_
    refine tr_region ?_
    refine tr_p (y_lss rfl rfl) rfl rfl ?_
    refine tr_nil ?_
    refine tr_thenN ?_
    refine tr_seq ?_
    refine tr_cond rfl (fun g1 => ?_) (fun g1 => ?_)
    · replace H := H.1 g1
      refine tr_skip ?_
      refine tr_thenN ?_
      refine tr_seq ?_
      refine tr_block ?_
      refine tr_seq ?_
      refine tr_region ?_
      obtain ⟨a2, e3, H⟩ := H
      refine tr_p (f_idx (s := x6) Try.runUnderlying26 Try.sizeOf3 rfl rfl e3) rfl rfl ?_
      obtain ⟨y4, k5, H⟩ := H
      refine tr_h (y_ld Try.isAgg3 rfl) k5 rfl rfl ?_
      refine tr_p (y_assign rfl) rfl rfl ?_
      refine tr_nil ?_
      refine tr_thenN ?_
      refine tr_seq ?_
      refine tr_region ?_
      refine tr_p (y_move rfl) rfl rfl ?_
      refine tr_p (y_move rfl) rfl rfl ?_
      refine tr_p (y_neq rfl rfl) rfl rfl ?_
      refine tr_nil ?_
      refine tr_thenN ?_
      refine tr_cond rfl (fun g6 => ?_) (fun g6 => ?_)
      · replace H := H.1 g6
        refine tr_seq ?_
        refine tr_region ?_
        refine tr_p (y_move rfl) rfl rfl ?_
        refine tr_p (y_assign rfl) rfl rfl ?_
        refine tr_nil ?_
        refine tr_thenN ?_
        refine tr_ret ?_
        refine tr_blockR ?_
        refine tr_thenR ?_
        refine tr_thenR ?_
        refine tr_blockR ?_
        refine tr_thenR ?_
        exact tr_ret1 rfl rfl ⟨_, rfl, H⟩
      · replace H := H.2 g6
        refine tr_skip ?_
        refine tr_blockN ?_
        refine tr_thenN ?_
        refine tr_region ?_
        refine tr_p (y_add rfl rfl) rfl rfl ?_
        refine tr_p (y_move rfl) rfl rfl ?_
        refine tr_nil ?_
        refine tr_thenN ?_
        exact tr_join [(3, (.int .i64 x3)), (6, x6.enc), (7, (.int .i64 x7)), (8, (.int .i64 (IntKind.wrap .i64 (x8 + 1))))] ⟨rfl, rfl, rfl, rfl, trivial⟩ ⟨_, _, _, _, rfl, H⟩
    · replace H := H.2 g1
      refine tr_exit ?_
      refine tr_thenE ?_
      refine tr_thenE ?_
      refine tr_hit ?_
      refine tr_thenN ?_
      refine tr_seq ?_
      refine tr_region ?_
      refine tr_p (y_move rfl) rfl rfl ?_
      refine tr_p (y_assign rfl) rfl rfl ?_
      refine tr_nil ?_
      refine tr_thenN ?_
      refine tr_ret ?_
      exact tr_ret1 rfl rfl ⟨_, rfl, H⟩
/-- spate/merge.Compare -/
def F.merge_Compare (p0 : S_api_Cell) (p1 : S_api_Cell) (h : H) (Q : Int → H → Prop) : Prop :=
  new h p0.cells.toArray ty_24 fun a2 h1 =>
  new h1 p1.cells.toArray ty_24 fun a4 h3 =>
  ldI .i64 h3 (a2.add 0) fun y5 =>
  ldI .i64 h3 (a4.add 0) fun y7 =>
  ldS h3 (a2.add 1) fun y9 =>
  ldS h3 (a4.add 1) fun y11 =>
  ldI .i64 h3 (a2.add 2) fun y13 =>
  ldI .i64 h3 (a4.add 2) fun y15 =>
  F.cmp_Compare_int y5 y7 h3 fun r18 h17 =>
  cellH h17 (a4.add 2) = some (.int .i64 y15) ∧
  cellH h17 (a2.add 2) = some (.int .i64 y13) ∧
  cellH h17 (a4.add 1) = some (.string y11) ∧
  cellH h17 (a2.add 1) = some (.string y9) ∧
  F.strings_Compare y9 y11 h17 fun r24 h23 =>
  cellH h23 (a4.add 2) = some (.int .i64 y15) ∧
  cellH h23 (a2.add 2) = some (.int .i64 y13) ∧
  F.cmp_Compare_int64 y13 y15 h23 fun r28 h27 =>
  newL h27 #[(.int .i64 r18), (.int .i64 r24), (.int .i64 r28)] ty_3 3 fun s30 h29 =>
  F.cmp_Or_int s30 h29 fun r32 h31 =>
  Q r32 h31
theorem F.merge_Compare_ok {p0 : S_api_Cell} {p1 : S_api_Cell} {h : H} {Q : Int → H → Prop} (H : F.merge_Compare p0 p1 h Q) : Fn PP 53 ([(.agg p0.cells.toArray), (.agg p1.cells.toArray)] : List Value).toArray h fun r h' => ∃ r0, r = (.int .i64 r0) ∧ Q r0 h' := by
  unfold F.merge_Compare at H
  refine fn_of Try.func53 Try.ntmps53 rfl rfl fun w0 => ?_
  refine tr_sub [(0, (.agg p0.cells.toArray)), (1, (.agg p1.cells.toArray))] ⟨rfl, rfl, trivial⟩ ?_
  refine tr_seq ?_
  refine tr_region ?_
  refine tr_e (f_box (cs := p0.cells.toArray) rfl rfl H) rfl rfl ?_
  rintro _ h1 ⟨a2, rfl, H⟩
  refine tr_e (f_box (cs := p1.cells.toArray) rfl rfl H) rfl rfl ?_
  rintro _ h3 ⟨a4, rfl, H⟩
  refine tr_p (y_assign rfl) rfl rfl ?_
  refine tr_nil ?_
  refine tr_thenN ?_
  refine tr_seq ?_
  refine tr_draw mixed [0, 1, 0, 4, 15, 0, 32, 0, 128, 511, 0, 1024, 0, 4096, 16383, 32767, 65535, 131071] (by kernel_rfl) ?_
  refine g_p 0 1 rfl (by kernel_rfl) (y_fa (off := 0) Try.runUnderlying24 fo_24_0 rfl) rfl rfl ?_
  obtain ⟨y5, k6, H⟩ := H
  refine g_h 1 3 rfl (by kernel_rfl) (y_ld Try.isAgg3 rfl) k6 rfl rfl ?_
  refine g_p 2 7 rfl (by kernel_rfl) (y_fa (off := 0) Try.runUnderlying24 fo_24_0 rfl) rfl rfl ?_
  obtain ⟨y7, k8, H⟩ := H
  refine g_h 3 15 rfl (by kernel_rfl) (y_ld Try.isAgg3 rfl) k8 rfl rfl ?_
  refine g_p 5 47 rfl (by kernel_rfl) (y_fa (off := 1) Try.runUnderlying24 fo_24_1 rfl) rfl rfl ?_
  obtain ⟨y9, k10, H⟩ := H
  refine g_h 6 111 rfl (by kernel_rfl) (y_ld Try.isAgg9 rfl) k10 rfl rfl ?_
  refine g_p 7 239 rfl (by kernel_rfl) (y_fa (off := 1) Try.runUnderlying24 fo_24_1 rfl) rfl rfl ?_
  obtain ⟨y11, k12, H⟩ := H
  refine g_h 8 495 rfl (by kernel_rfl) (y_ld Try.isAgg9 rfl) k12 rfl rfl ?_
  refine g_p 10 1519 rfl (by kernel_rfl) (y_fa (off := 2) Try.runUnderlying24 fo_24_2 rfl) rfl rfl ?_
  obtain ⟨y13, k14, H⟩ := H
  refine g_h 11 3567 rfl (by kernel_rfl) (y_ld Try.isAgg2 rfl) k14 rfl rfl ?_
  refine g_p 12 7663 rfl (by kernel_rfl) (y_fa (off := 2) Try.runUnderlying24 fo_24_2 rfl) rfl rfl ?_
  obtain ⟨y15, k16, H⟩ := H
  refine g_h 13 15855 rfl (by kernel_rfl) (y_ld Try.isAgg2 rfl) k16 rfl rfl ?_
  refine g_e 4 15871 [(13, fun h => cellH h (a4.add 2) = some (.int .i64 y15)), (11, fun h => cellH h (a2.add 2) = some (.int .i64 y13)), (8, fun h => cellH h (a4.add 1) = some (.string y11)), (6, fun h => cellH h (a2.add 1) = some (.string y9))] (by kernel_rfl) rfl (by kernel_rfl) (e_call Try.call72 rfl (F.cmp_Compare_int_ok H)) rfl rfl ?_
  rintro _ h17 ⟨r18, rfl, H⟩
  obtain ⟨k19, k20, k21, k22, H⟩ := H
  refine ⟨And.intro k19 (And.intro k20 (And.intro k21 (And.intro k22 trivial))), ?_⟩
  refine g_e 9 16383 [(13, fun h => cellH h (a4.add 2) = some (.int .i64 y15)), (11, fun h => cellH h (a2.add 2) = some (.int .i64 y13))] (by kernel_rfl) rfl (by kernel_rfl) (e_call Try.call73 rfl (F.strings_Compare_ok H)) rfl rfl ?_
  rintro _ h23 ⟨r24, rfl, H⟩
  obtain ⟨k25, k26, H⟩ := H
  refine ⟨And.intro k25 (And.intro k26 trivial), ?_⟩
  refine g_e 14 32767 [] (by kernel_rfl) rfl (by kernel_rfl) (e_call Try.call74 rfl (F.cmp_Compare_int64_ok H)) rfl rfl ?_
  rintro _ h27 ⟨r28, rfl, H⟩
  refine ⟨trivial, ?_⟩
  refine g_e 15 65535 [] (by kernel_rfl) rfl (by kernel_rfl) (f_buildL (cs := #[(.int .i64 r18), (.int .i64 r24), (.int .i64 r28)]) rfl rfl (bl_26_3_0_1_2 r18 r24 r28) H) rfl rfl ?_
  rintro _ h29 ⟨s30, rfl, H⟩
  refine ⟨trivial, ?_⟩
  refine g_e 16 131071 [] (by kernel_rfl) rfl (by kernel_rfl) (e_call Try.call71 rfl (F.cmp_Or_int_ok H)) rfl rfl ?_
  rintro _ h31 ⟨r32, rfl, H⟩
  refine ⟨trivial, ?_⟩
  refine g_p 17 262143 rfl (by kernel_rfl) (y_assign rfl) rfl rfl ?_
  refine g_d (by kernel_rfl) ?_
  refine tr_thenN ?_
  refine tr_ret ?_
  exact tr_ret1 rfl rfl ⟨_, rfl, H⟩
/-- (*spate/shard.Shard).Range$1 -/
def F.shard_Shard_Range_1 (p0 : S_api_Cell) (p1 : Addr) (p2 : Addr) (h : H) (Q : Bool → H → Prop) : Prop :=
  new h p0.cells.toArray ty_24 fun a2 h1 =>
  ld_S_api_Cell h1 p1 fun y3 =>
  ld_S_api_Cell h1 a2 fun y5 =>
  F.merge_Compare y3 y5 h1 fun r8 h7 =>
  ((decide (r8 ≤ 0)) = true →
  ld_S_api_Cell h7 a2 fun y10 =>
  ld_S_api_Cell h7 p2 fun y12 =>
  F.merge_Compare y10 y12 h7 fun r15 h14 =>
  Q (decide (r15 < 0)) h14) ∧
  ((decide (r8 ≤ 0)) = false →
  Q false h7)
theorem F.shard_Shard_Range_1_ok {p0 : S_api_Cell} {p1 : Addr} {p2 : Addr} {h : H} {Q : Bool → H → Prop} (H : F.shard_Shard_Range_1 p0 p1 p2 h Q) : Fn PP 52 ([(.agg p0.cells.toArray), (.pointer (some p1)), (.pointer (some p2))] : List Value).toArray h fun r h' => ∃ r0, r = (.bool r0) ∧ Q r0 h' := by
  unfold F.shard_Shard_Range_1 at H
  refine fn_of Try.func52 Try.ntmps52 rfl rfl fun w0 => ?_
  refine tr_sub [(0, (.agg p0.cells.toArray)), (1, (.pointer (some p1))), (2, (.pointer (some p2)))] ⟨rfl, rfl, rfl, trivial⟩ ?_
  refine tr_seq ?_
  refine tr_region ?_
  refine tr_e (f_box (cs := p0.cells.toArray) rfl rfl H) rfl rfl ?_
  rintro _ h1 ⟨a2, rfl, H⟩
  refine tr_p (y_assign rfl) rfl rfl ?_
  refine tr_nil ?_
  refine tr_thenN ?_
  refine tr_seq ?_
  refine tr_region ?_
  obtain ⟨y3, k4, H⟩ := H
  refine tr_h (y_ldS Try.isAgg24 Try.sizeOf24 rfl rfl) k4 rfl rfl ?_
  obtain ⟨y5, k6, H⟩ := H
  refine tr_h (y_ldS Try.isAgg24 Try.sizeOf24 rfl rfl) k6 rfl rfl ?_
  refine tr_e (e_call Try.call53 rfl (F.merge_Compare_ok H)) rfl rfl ?_
  rintro _ h7 ⟨r8, rfl, H⟩
  refine tr_p (y_leq rfl rfl) rfl rfl ?_
  refine tr_p (y_move rfl) rfl rfl ?_
  refine tr_split (t := 9) rfl (fun g9 => ?_) (fun g9 => ?_)
  · replace H := H.1 g9
    obtain ⟨y10, k11, H⟩ := H
    refine tr_h (y_ldS Try.isAgg24 Try.sizeOf24 rfl rfl) k11 rfl rfl ?_
    obtain ⟨y12, k13, H⟩ := H
    refine tr_h (y_ldS Try.isAgg24 Try.sizeOf24 rfl rfl) k13 rfl rfl ?_
    refine tr_e (e_call Try.call53 rfl (F.merge_Compare_ok H)) rfl rfl ?_
    rintro _ h14 ⟨r15, rfl, H⟩
    refine tr_p (y_lss rfl rfl) rfl rfl ?_
    refine tr_p (y_pick_t rfl rfl) rfl rfl ?_
    refine tr_p (y_assign rfl) rfl rfl ?_
    refine tr_nil ?_
    refine tr_thenN ?_
    refine tr_ret ?_
    exact tr_ret1 rfl rfl ⟨_, rfl, H⟩
  · replace H := H.2 g9
    refine tr_s rfl rfl ?_
    refine tr_s rfl rfl ?_
    refine tr_s rfl rfl ?_
    refine tr_s rfl rfl ?_
    refine tr_p (y_pick_f rfl rfl) rfl rfl ?_
    refine tr_p (y_assign rfl) rfl rfl ?_
    refine tr_nil ?_
    refine tr_thenN ?_
    refine tr_ret ?_
    exact tr_ret1 rfl rfl ⟨_, rfl, H⟩
def F.merge_Cell.l2 (Q : S_api_Cell → Int → H → Prop) : Nat → ByteArray → Addr → Addr → Int → Sl → Int → H → Prop
  | 0, _, _, _, _, _, _, _ => False
  | q2 + 1, x0, x2, x4, x5, x6, x8, h =>
    ((decide (x5 < (x0.size : Int))) = true →
    0 ≤ (8 : Int) ∧
    idxS x0 x5 fun b42 =>
    (F.merge_Cell.l2 Q q2) x0 x2 x4 (IntKind.wrap .i64 (x5 + 1)) x6 (bitsOf .or .u64 (IntKind.wrap .u64 (x8 * (2 ^ (min (8 : Int).toNat (IntKind.bits .u64)) : Int))) (IntKind.wrap .u64 b42)) h) ∧
    ((decide (x5 < (x0.size : Int))) = false →
    runT PP (convert 46 9 x6.enc) h fun s45 h44 =>
    stH h44 (x4.add 1) [(.string s45)] fun h46 =>
    stH h46 (x4.add 2) [(.int .i64 (IntKind.wrap .i64 (IntKind.wrap .u64 (x8 - 9223372036854775808))))] fun h47 =>
    ld_S_api_Cell h47 x4 fun y48 =>
    F.merge_may y48 h47 fun r51 h50 =>
    (((r51 != 0)) = true →
    stH h50 x2 ((⟨0, (⟨#[]⟩ : ByteArray), 0⟩ : S_api_Cell).cells) fun h53 =>
    ld_S_api_Cell h53 x2 fun y54 =>
    Q y54 r51 h53) ∧
    (((r51 != 0)) = false →
    ld_S_api_Cell h50 x4 fun y56 =>
    stH h50 x2 y56.cells fun h58 =>
    ld_S_api_Cell h58 x2 fun y59 =>
    Q y59 0 h58))
def F.merge_Cell.l1 (Q : S_api_Cell → Int → H → Prop) : Nat → ByteArray → Addr → Addr → Int → Sl → H → Prop
  | 0, _, _, _, _, _, _ => False
  | q1 + 1, x0, x2, x4, x5, x6, h =>
    (((x5 == (x0.size : Int))) = true →
    stH h x2 ((⟨0, (⟨#[]⟩ : ByteArray), 0⟩ : S_api_Cell).cells) fun h13 =>
    ld_S_api_Cell h13 x2 fun y14 =>
    Q y14 11 h13) ∧
    (((x5 == (x0.size : Int))) = false →
    idxS x0 x5 fun b16 =>
    (((b16 != 0)) = true →
    idxS x0 x5 fun b19 =>
    newL h #[(.int .u8 b19)] ty_5 1 fun s22 h21 =>
    runL PP (Builtin.append_ #[46, 46] 46 #[x6.enc, s22.enc]) h21 fun s24 h23 =>
    (F.merge_Cell.l1 Q q1) x0 x2 x4 (IntKind.wrap .i64 (x5 + 1)) s24 h23) ∧
    (((b16 != 0)) = false →
    ((((IntKind.wrap .i64 (x5 + 1)) == (x0.size : Int))) = true →
    stH h x2 ((⟨0, (⟨#[]⟩ : ByteArray), 0⟩ : S_api_Cell).cells) fun h26 =>
    ld_S_api_Cell h26 x2 fun y27 =>
    Q y27 11 h26) ∧
    ((((IntKind.wrap .i64 (x5 + 1)) == (x0.size : Int))) = false →
    idxS x0 (IntKind.wrap .i64 ((IntKind.wrap .i64 (x5 + 2)) - 1)) fun b29 =>
    (((b29 == 1)) = true →
    ((decide ((IntKind.wrap .i64 ((x0.size : Int) - (IntKind.wrap .i64 (x5 + 2)))) < 8)) = true →
    stH h x2 ((⟨0, (⟨#[]⟩ : ByteArray), 0⟩ : S_api_Cell).cells) fun h33 =>
    ld_S_api_Cell h33 x2 fun y34 =>
    Q y34 11 h33) ∧
    ((decide ((IntKind.wrap .i64 ((x0.size : Int) - (IntKind.wrap .i64 (x5 + 2)))) < 8)) = false →
    ((decide ((IntKind.wrap .i64 ((x0.size : Int) - (IntKind.wrap .i64 (x5 + 2)))) > 8)) = true →
    stH h x2 ((⟨0, (⟨#[]⟩ : ByteArray), 0⟩ : S_api_Cell).cells) fun h37 =>
    ld_S_api_Cell h37 x2 fun y38 =>
    Q y38 13 h37) ∧
    ((decide ((IntKind.wrap .i64 ((x0.size : Int) - (IntKind.wrap .i64 (x5 + 2)))) > 8)) = false →
    ∃ m, F.merge_Cell.l2 Q m x0 x2 x4 (IntKind.wrap .i64 (x5 + 2)) x6 0 h))) ∧
    (((b29 == 1)) = false →
    idxS x0 (IntKind.wrap .i64 ((IntKind.wrap .i64 (x5 + 2)) - 1)) fun b62 =>
    (((b62 != 255)) = true →
    stH h x2 ((⟨0, (⟨#[]⟩ : ByteArray), 0⟩ : S_api_Cell).cells) fun h65 =>
    ld_S_api_Cell h65 x2 fun y66 =>
    Q y66 12 h65) ∧
    (((b62 != 255)) = false →
    newL h #[(.int .u8 0)] ty_5 1 fun s69 h68 =>
    runL PP (Builtin.append_ #[46, 46] 46 #[x6.enc, s69.enc]) h68 fun s71 h70 =>
    (F.merge_Cell.l1 Q q1) x0 x2 x4 (IntKind.wrap .i64 (x5 + 2)) s71 h70)))))
/-- spate/merge.Cell -/
def F.merge_Cell (p0 : ByteArray) (h : H) (Q : S_api_Cell → Int → H → Prop) : Prop :=
  new h (((⟨0, (⟨#[]⟩ : ByteArray), 0⟩ : S_api_Cell) : S_api_Cell).cells.toArray) ty_24 fun a2 h1 =>
  ((p0.toList == (⟨#[]⟩ : ByteArray).toList) = true →
  stH h1 a2 ((⟨0, (⟨#[]⟩ : ByteArray), 0⟩ : S_api_Cell).cells) fun h4 =>
  ld_S_api_Cell h4 a2 fun y5 =>
  Q y5 11 h4) ∧
  ((p0.toList == (⟨#[]⟩ : ByteArray).toList) = false →
  idxS p0 0 fun b7 =>
  new h1 (((⟨0, (⟨#[]⟩ : ByteArray), 0⟩ : S_api_Cell) : S_api_Cell).cells.toArray) ty_24 fun a10 h9 =>
  stH h9 a10 ((⟨(IntKind.wrap .i64 b7), (⟨#[]⟩ : ByteArray), 0⟩ : S_api_Cell).cells) fun h11 =>
  ∃ m, F.merge_Cell.l1 Q m p0 a2 a10 1 (⟨none, 0, 0⟩ : Sl) h11)
theorem F.merge_Cell_ok {p0 : ByteArray} {h : H} {Q : S_api_Cell → Int → H → Prop} (H : F.merge_Cell p0 h Q) : Fn PP 54 ([(.string p0)] : List Value).toArray h fun r h' => ∃ r0 r1, r = .tuple #[(.agg r0.cells.toArray), (.int .i64 r1)] ∧ Q r0 r1 h' := by
  unfold F.merge_Cell at H
  refine fn_of Try.func54 Try.ntmps54 rfl rfl fun w0 => ?_
  refine tr_sub [(0, (.string p0))] ⟨rfl, trivial⟩ ?_
  refine tr_seq ?_
  refine tr_region ?_
  refine tr_e (f_alloc (cs := ((⟨0, (⟨#[]⟩ : ByteArray), 0⟩ : S_api_Cell) : S_api_Cell).cells.toArray) Try.zeroValue24 rfl H) rfl rfl ?_
  rintro _ h1 ⟨a2, rfl, H⟩
  refine tr_p (y_assign rfl) rfl rfl ?_
  refine tr_nil ?_
  refine tr_thenN ?_
  refine tr_seq ?_
  refine tr_seq ?_
  refine tr_region ?_
  refine tr_p (y_move rfl) rfl rfl ?_
  refine tr_p (y_seql rfl rfl) rfl rfl ?_
  refine tr_nil ?_
  refine tr_thenN ?_
  refine tr_cond rfl (fun g3 => ?_) (fun g3 => ?_)
  · replace H := H.1 g3
    refine tr_seq ?_
    refine tr_region ?_
    refine tr_p (f_build rfl (bd_24_ )) rfl rfl ?_
    refine tr_e (f_store (vs := (⟨0, (⟨#[]⟩ : ByteArray), 0⟩ : S_api_Cell).cells) Try.sizeOf24 rfl rfl cellsOfStruct rfl (by intro v hv; exact ones_S_api_Cell _ v hv) H) rfl rfl ?_
    rintro _ h4 ⟨rfl, H⟩
    refine tr_p (y_assign rfl) rfl rfl ?_
    refine tr_nil ?_
    refine tr_thenN ?_
    refine tr_ret ?_
    refine tr_thenR ?_
    obtain ⟨y5, k6, H⟩ := H
    exact tr_rv2 rfl (rv_cellS Try.isAgg24 Try.sizeOf24 rfl rfl k6) (rv_tmp rfl) ⟨_, _, rfl, H⟩
  · replace H := H.2 g3
    refine tr_skip ?_
    refine tr_thenN ?_
    refine tr_seq ?_
    refine tr_region ?_
    refine tr_p (y_move rfl) rfl rfl ?_
    obtain ⟨b7, e8, H⟩ := H
    refine tr_p (f_idxS Try.runUnderlying9 rfl rfl e8) rfl rfl ?_
    refine tr_p (y_cvt Try.runUnderlying5 Try.runUnderlying3 rfl) rfl rfl ?_
    refine tr_p (f_build rfl (bd_24_0 (IntKind.wrap .i64 b7))) rfl rfl ?_
    refine tr_e (f_alloc (cs := ((⟨0, (⟨#[]⟩ : ByteArray), 0⟩ : S_api_Cell) : S_api_Cell).cells.toArray) Try.zeroValue24 rfl H) rfl rfl ?_
    rintro _ h9 ⟨a10, rfl, H⟩
    refine tr_e (f_store (vs := (⟨(IntKind.wrap .i64 b7), (⟨#[]⟩ : ByteArray), 0⟩ : S_api_Cell).cells) Try.sizeOf24 rfl rfl cellsOfStruct rfl (by intro v hv; exact ones_S_api_Cell _ v hv) H) rfl rfl ?_
    rintro _ h11 ⟨rfl, H⟩
    refine tr_nil ?_
    refine tr_thenN ?_
    refine tr_seq ?_
    refine tr_region ?_
    refine tr_p (y_assign rfl) rfl rfl ?_
    refine tr_nil ?_
    refine tr_thenN ?_
    refine tr_seq ?_
    refine tr_region ?_
    refine tr_p (y_assign rfl) rfl rfl ?_
    refine tr_nil ?_
    refine tr_thenN ?_
    refine tr_seq ?_
    refine tr_block ?_
    obtain ⟨m72, H⟩ := H
    refine tr_sub [(0, (.string p0)), (2, (.pointer (some a2))), (4, (.pointer (some a10))), (5, (.int .i64 1)), (6, (⟨none, 0, 0⟩ : Sl).enc)] ⟨rfl, rfl, rfl, rfl, rfl, trivial⟩ ?_
    refine tr_loop_j (fun m L' h => ∃ (x0 : ByteArray) (x2 : Addr) (x4 : Addr) (x5 : Int) (x6 : Sl), L' = [(0, (.string x0)), (2, (.pointer (some x2))), (4, (.pointer (some x4))), (5, (.int .i64 x5)), (6, x6.enc)] ∧ F.merge_Cell.l1 Q m x0 x2 x4 x5 x6 h) ?_ ?_ m72 ⟨_, _, _, _, _, rfl, H⟩
    · rintro L' h ⟨_, _, _, _, _, _, H⟩; exact H
    · rintro q1 L' h ⟨x0, x2, x4, x5, x6, rfl, H⟩
      unfold F.merge_Cell.l1 at H
      refine tr_block ?_
      refine tr_seq ?_
      refine tr_seq ?_
      refine tr_region ?_
      refine tr_p (y_move rfl) rfl rfl ?_
      refine tr_p (y_move rfl) rfl rfl ?_
      refine tr_p (y_lenS Try.runUnderlying9 rfl) rfl rfl ?_
      refine tr_p (y_eql rfl rfl) rfl rfl ?_
      refine tr_nil ?_
      refine tr_thenN ?_
      refine tr_cond rfl (fun g12 => ?_) (fun g12 => ?_)
      · replace H := H.1 g12
        refine tr_seq ?_
        refine tr_region ?_
        refine tr_p (f_build rfl (bd_24_ )) rfl rfl ?_
        refine tr_e (f_store (vs := (⟨0, (⟨#[]⟩ : ByteArray), 0⟩ : S_api_Cell).cells) Try.sizeOf24 rfl rfl cellsOfStruct rfl (by intro v hv; exact ones_S_api_Cell _ v hv) H) rfl rfl ?_
        rintro _ h13 ⟨rfl, H⟩
        refine tr_p (y_assign rfl) rfl rfl ?_
        refine tr_nil ?_
        refine tr_thenN ?_
        refine tr_ret ?_
        refine tr_thenR ?_
        refine tr_blockR ?_
        refine tr_thenR ?_
        refine tr_blockR ?_
        refine tr_thenR ?_
        obtain ⟨y14, k15, H⟩ := H
        exact tr_rv2 rfl (rv_cellS Try.isAgg24 Try.sizeOf24 rfl rfl k15) (rv_tmp rfl) ⟨_, _, rfl, H⟩
      · replace H := H.2 g12
        refine tr_skip ?_
        refine tr_thenN ?_
        refine tr_seq ?_
        refine tr_seq ?_
        refine tr_region ?_
        refine tr_p (y_move rfl) rfl rfl ?_
        refine tr_p (y_move rfl) rfl rfl ?_
        obtain ⟨b16, e17, H⟩ := H
        refine tr_p (f_idxS Try.runUnderlying9 rfl rfl e17) rfl rfl ?_
        refine tr_p (y_neq rfl rfl) rfl rfl ?_
        refine tr_nil ?_
        refine tr_thenN ?_
        refine tr_cond rfl (fun g18 => ?_) (fun g18 => ?_)
        · replace H := H.1 g18
          refine tr_seq ?_
          refine tr_region ?_
          refine tr_p (y_move rfl) rfl rfl ?_
          refine tr_p (y_move rfl) rfl rfl ?_
          refine tr_p (y_move rfl) rfl rfl ?_
          obtain ⟨b19, e20, H⟩ := H
          refine tr_p (f_idxS Try.runUnderlying9 rfl rfl e20) rfl rfl ?_
          refine tr_e (f_buildL (cs := #[(.int .u8 b19)]) rfl rfl (bl_46_1_0 b19) H) rfl rfl ?_
          rintro _ h21 ⟨s22, rfl, H⟩
          refine tr_e (f_app rfl H) rfl rfl ?_
          rintro _ h23 ⟨s24, rfl, H⟩
          refine tr_p (y_assign rfl) rfl rfl ?_
          refine tr_nil ?_
          refine tr_thenN ?_
          refine tr_seq ?_
          refine tr_region ?_
          refine tr_p (y_move rfl) rfl rfl ?_
          refine tr_p (y_add rfl rfl) rfl rfl ?_
          refine tr_p (y_assign rfl) rfl rfl ?_
          refine tr_nil ?_
          refine tr_thenN ?_
          refine tr_exit ?_
          refine tr_thenE ?_
          refine tr_hit ?_
          refine tr_thenN ?_
          exact tr_join [(0, (.string x0)), (2, (.pointer (some x2))), (4, (.pointer (some x4))), (5, (.int .i64 (IntKind.wrap .i64 (x5 + 1)))), (6, s24.enc)] ⟨rfl, rfl, rfl, rfl, rfl, trivial⟩ ⟨_, _, _, _, _, rfl, H⟩
        · replace H := H.2 g18
          refine tr_skip ?_
          refine tr_thenN ?_
          refine tr_seq ?_
          refine tr_seq ?_
          refine tr_region ?_
          refine tr_p (y_move rfl) rfl rfl ?_
          refine tr_p (y_add rfl rfl) rfl rfl ?_
          refine tr_p (y_move rfl) rfl rfl ?_
          refine tr_p (y_lenS Try.runUnderlying9 rfl) rfl rfl ?_
          refine tr_p (y_eql rfl rfl) rfl rfl ?_
          refine tr_nil ?_
          refine tr_thenN ?_
          refine tr_cond rfl (fun g25 => ?_) (fun g25 => ?_)
          · replace H := H.1 g25
            refine tr_seq ?_
            refine tr_region ?_
            refine tr_p (f_build rfl (bd_24_ )) rfl rfl ?_
            refine tr_e (f_store (vs := (⟨0, (⟨#[]⟩ : ByteArray), 0⟩ : S_api_Cell).cells) Try.sizeOf24 rfl rfl cellsOfStruct rfl (by intro v hv; exact ones_S_api_Cell _ v hv) H) rfl rfl ?_
            rintro _ h26 ⟨rfl, H⟩
            refine tr_p (y_assign rfl) rfl rfl ?_
            refine tr_nil ?_
            refine tr_thenN ?_
            refine tr_ret ?_
            refine tr_thenR ?_
            refine tr_blockR ?_
            refine tr_thenR ?_
            refine tr_blockR ?_
            refine tr_thenR ?_
            obtain ⟨y27, k28, H⟩ := H
            exact tr_rv2 rfl (rv_cellS Try.isAgg24 Try.sizeOf24 rfl rfl k28) (rv_tmp rfl) ⟨_, _, rfl, H⟩
          · replace H := H.2 g25
            refine tr_skip ?_
            refine tr_thenN ?_
            refine tr_seq ?_
            refine tr_region ?_
            refine tr_p (y_move rfl) rfl rfl ?_
            refine tr_p (y_add rfl rfl) rfl rfl ?_
            refine tr_p (y_assign rfl) rfl rfl ?_
            refine tr_nil ?_
            refine tr_thenN ?_
            refine tr_seq ?_
            refine tr_seq ?_
            refine tr_region ?_
            refine tr_p (y_move rfl) rfl rfl ?_
            refine tr_p (y_move rfl) rfl rfl ?_
            refine tr_p (y_sub rfl rfl) rfl rfl ?_
            obtain ⟨b29, e30, H⟩ := H
            refine tr_p (f_idxS Try.runUnderlying9 rfl rfl e30) rfl rfl ?_
            refine tr_p (y_eql rfl rfl) rfl rfl ?_
            refine tr_nil ?_
            refine tr_thenN ?_
            refine tr_cond rfl (fun g31 => ?_) (fun g31 => ?_)
            · replace H := H.1 g31
              refine tr_exit ?_
              refine tr_thenE ?_
              refine tr_miss rfl ?_
              refine tr_thenE ?_
              refine tr_hit ?_
              refine tr_thenN ?_
              refine tr_seq ?_
              refine tr_seq ?_
              refine tr_region ?_
              refine tr_p (y_move rfl) rfl rfl ?_
              refine tr_p (y_lenS Try.runUnderlying9 rfl) rfl rfl ?_
              refine tr_p (y_move rfl) rfl rfl ?_
              refine tr_p (y_sub rfl rfl) rfl rfl ?_
              refine tr_p (y_assign rfl) rfl rfl ?_
              refine tr_nil ?_
              refine tr_thenN ?_
              refine tr_block ?_
              refine tr_seq ?_
              refine tr_region ?_
              refine tr_p (y_move rfl) rfl rfl ?_
              refine tr_p (y_lss rfl rfl) rfl rfl ?_
              refine tr_p (y_assign rfl) rfl rfl ?_
              refine tr_nil ?_
              refine tr_thenN ?_
              refine tr_cond rfl (fun g32 => ?_) (fun g32 => ?_)
              · replace H := H.1 g32
                refine tr_seq ?_
                refine tr_region ?_
                refine tr_p (f_build rfl (bd_24_ )) rfl rfl ?_
                refine tr_e (f_store (vs := (⟨0, (⟨#[]⟩ : ByteArray), 0⟩ : S_api_Cell).cells) Try.sizeOf24 rfl rfl cellsOfStruct rfl (by intro v hv; exact ones_S_api_Cell _ v hv) H) rfl rfl ?_
                rintro _ h33 ⟨rfl, H⟩
                refine tr_p (y_assign rfl) rfl rfl ?_
                refine tr_nil ?_
                refine tr_thenN ?_
                refine tr_ret ?_
                refine tr_blockR ?_
                refine tr_thenR ?_
                obtain ⟨y34, k35, H⟩ := H
                exact tr_rv2 rfl (rv_cellS Try.isAgg24 Try.sizeOf24 rfl rfl k35) (rv_tmp rfl) ⟨_, _, rfl, H⟩
              · replace H := H.2 g32
                refine tr_seq ?_
                refine tr_region ?_
                refine tr_p (y_move rfl) rfl rfl ?_
                refine tr_p (y_gtr rfl rfl) rfl rfl ?_
                refine tr_p (y_assign rfl) rfl rfl ?_
                refine tr_nil ?_
                refine tr_thenN ?_
                refine tr_cond rfl (fun g36 => ?_) (fun g36 => ?_)
                · replace H := H.1 g36
                  refine tr_seq ?_
                  refine tr_region ?_
                  refine tr_p (f_build rfl (bd_24_ )) rfl rfl ?_
                  refine tr_e (f_store (vs := (⟨0, (⟨#[]⟩ : ByteArray), 0⟩ : S_api_Cell).cells) Try.sizeOf24 rfl rfl cellsOfStruct rfl (by intro v hv; exact ones_S_api_Cell _ v hv) H) rfl rfl ?_
                  rintro _ h37 ⟨rfl, H⟩
                  refine tr_p (y_assign rfl) rfl rfl ?_
                  refine tr_nil ?_
                  refine tr_thenN ?_
                  refine tr_ret ?_
                  refine tr_blockR ?_
                  refine tr_thenR ?_
                  obtain ⟨y38, k39, H⟩ := H
                  exact tr_rv2 rfl (rv_cellS Try.isAgg24 Try.sizeOf24 rfl rfl k39) (rv_tmp rfl) ⟨_, _, rfl, H⟩
                · replace H := H.2 g36
                  refine tr_skip ?_
                  refine tr_blockN ?_
                  refine tr_thenN ?_
                  refine tr_seq ?_
                  refine tr_region ?_
                  refine tr_p (y_assign rfl) rfl rfl ?_
                  refine tr_nil ?_
                  refine tr_thenN ?_
                  refine tr_seq ?_
                  refine tr_block ?_
                  obtain ⟨m61, H⟩ := H
                  refine tr_sub [(0, (.string x0)), (2, (.pointer (some x2))), (4, (.pointer (some x4))), (5, (.int .i64 (IntKind.wrap .i64 (x5 + 2)))), (6, x6.enc), (8, (.int .u64 0))] ⟨rfl, rfl, rfl, rfl, rfl, rfl, trivial⟩ ?_
                  refine tr_loop_j (fun m L' h => ∃ (x0 : ByteArray) (x2 : Addr) (x4 : Addr) (x5 : Int) (x6 : Sl) (x8 : Int), L' = [(0, (.string x0)), (2, (.pointer (some x2))), (4, (.pointer (some x4))), (5, (.int .i64 x5)), (6, x6.enc), (8, (.int .u64 x8))] ∧ F.merge_Cell.l2 Q m x0 x2 x4 x5 x6 x8 h) ?_ ?_ m61 ⟨_, _, _, _, _, _, rfl, H⟩
                  · rintro L' h ⟨_, _, _, _, _, _, _, H⟩; exact H
                  · rintro q2 L' h ⟨x0, x2, x4, x5, x6, x8, rfl, H⟩
                    unfold F.merge_Cell.l2 at H
                    refine tr_seq ?_
                    refine tr_seq ?_
                    refine tr_region ?_
                    refine tr_p (y_move rfl) rfl rfl ?_
                    refine tr_p (y_move rfl) rfl rfl ?_
                    refine tr_p (y_lenS Try.runUnderlying9 rfl) rfl rfl ?_
                    refine tr_p (y_lss rfl rfl) rfl rfl ?_
                    refine tr_nil ?_
                    refine tr_thenN ?_
                    refine tr_cond rfl (fun g40 => ?_) (fun g40 => ?_)
                    · replace H := H.1 g40
                      refine tr_skip ?_
                      refine tr_thenN ?_
                      refine tr_seq ?_
                      refine tr_block ?_
                      refine tr_region ?_
                      refine tr_p (y_move rfl) rfl rfl ?_
                      obtain ⟨e41, H⟩ := H
                      refine tr_p (y_shl rfl rfl e41) rfl rfl ?_
                      refine tr_p (y_move rfl) rfl rfl ?_
                      refine tr_p (y_move rfl) rfl rfl ?_
                      obtain ⟨b42, e43, H⟩ := H
                      refine tr_p (f_idxS Try.runUnderlying9 rfl rfl e43) rfl rfl ?_
                      refine tr_p (y_cvt Try.runUnderlying5 Try.runUnderlying109 rfl) rfl rfl ?_
                      refine tr_p (y_or rfl rfl) rfl rfl ?_
                      refine tr_p (y_assign rfl) rfl rfl ?_
                      refine tr_nil ?_
                      refine tr_blockN ?_
                      refine tr_thenN ?_
                      refine tr_region ?_
                      refine tr_p (y_move rfl) rfl rfl ?_
                      refine tr_p (y_add rfl rfl) rfl rfl ?_
                      refine tr_p (y_assign rfl) rfl rfl ?_
                      refine tr_nil ?_
                      refine tr_thenN ?_
                      exact tr_join [(0, (.string x0)), (2, (.pointer (some x2))), (4, (.pointer (some x4))), (5, (.int .i64 (IntKind.wrap .i64 (x5 + 1)))), (6, x6.enc), (8, (.int .u64 (bitsOf .or .u64 (IntKind.wrap .u64 (x8 * (2 ^ (min (8 : Int).toNat (IntKind.bits .u64)) : Int))) (IntKind.wrap .u64 b42))))] ⟨rfl, rfl, rfl, rfl, rfl, rfl, trivial⟩ ⟨_, _, _, _, _, _, rfl, H⟩
                    · replace H := H.2 g40
                      refine tr_exit ?_
                      refine tr_thenE ?_
                      refine tr_thenE ?_
                      refine tr_hit ?_
                      refine tr_thenN ?_
                      refine tr_seq ?_
                      refine tr_region ?_
                      refine tr_p (y_move rfl) rfl rfl ?_
                      refine tr_e (f_cvtT rfl H) rfl rfl ?_
                      rintro _ h44 ⟨s45, rfl, H⟩
                      refine tr_p (y_move rfl) rfl rfl ?_
                      refine tr_p (y_sub rfl rfl) rfl rfl ?_
                      refine tr_p (y_cvt Try.runUnderlying109 Try.runUnderlying2 rfl) rfl rfl ?_
                      refine tr_p (y_fa (off := 1) Try.runUnderlying24 fo_24_1 rfl) rfl rfl ?_
                      refine tr_e (f_store (vs := [(.string s45)]) Try.sizeOf9 rfl rfl rfl rfl (one1 rfl) H) rfl rfl ?_
                      rintro _ h46 ⟨rfl, H⟩
                      refine tr_p (y_fa (off := 2) Try.runUnderlying24 fo_24_2 rfl) rfl rfl ?_
                      refine tr_e (f_store (vs := [(.int .i64 (IntKind.wrap .i64 (IntKind.wrap .u64 (x8 - 9223372036854775808))))]) Try.sizeOf2 rfl rfl rfl rfl (one1 rfl) H) rfl rfl ?_
                      rintro _ h47 ⟨rfl, H⟩
                      refine tr_nil ?_
                      refine tr_thenN ?_
                      refine tr_seq ?_
                      refine tr_seq ?_
                      refine tr_region ?_
                      obtain ⟨y48, k49, H⟩ := H
                      refine tr_h (y_ldS Try.isAgg24 Try.sizeOf24 rfl rfl) k49 rfl rfl ?_
                      refine tr_e (e_call Try.call75 rfl (F.merge_may_ok H)) rfl rfl ?_
                      rintro _ h50 ⟨r51, rfl, H⟩
                      refine tr_p (y_assign rfl) rfl rfl ?_
                      refine tr_nil ?_
                      refine tr_thenN ?_
                      refine tr_seq ?_
                      refine tr_region ?_
                      refine tr_p (y_move rfl) rfl rfl ?_
                      refine tr_p (y_neq rfl rfl) rfl rfl ?_
                      refine tr_nil ?_
                      refine tr_thenN ?_
                      refine tr_cond rfl (fun g52 => ?_) (fun g52 => ?_)
                      · replace H := H.1 g52
                        refine tr_seq ?_
                        refine tr_region ?_
                        refine tr_p (f_build rfl (bd_24_ )) rfl rfl ?_
                        refine tr_p (y_move rfl) rfl rfl ?_
                        refine tr_e (f_store (vs := (⟨0, (⟨#[]⟩ : ByteArray), 0⟩ : S_api_Cell).cells) Try.sizeOf24 rfl rfl cellsOfStruct rfl (by intro v hv; exact ones_S_api_Cell _ v hv) H) rfl rfl ?_
                        rintro _ h53 ⟨rfl, H⟩
                        refine tr_p (y_assign rfl) rfl rfl ?_
                        refine tr_nil ?_
                        refine tr_thenN ?_
                        refine tr_ret ?_
                        refine tr_thenR ?_
                        obtain ⟨y54, k55, H⟩ := H
                        exact tr_rv2 rfl (rv_cellS Try.isAgg24 Try.sizeOf24 rfl rfl k55) (rv_tmp rfl) ⟨_, _, rfl, H⟩
                      · replace H := H.2 g52
                        refine tr_skip ?_
                        refine tr_thenN ?_
                        refine tr_seq ?_
                        refine tr_region ?_
                        obtain ⟨y56, k57, H⟩ := H
                        refine tr_h (y_ldS Try.isAgg24 Try.sizeOf24 rfl rfl) k57 rfl rfl ?_
                        refine tr_e (f_store (vs := y56.cells) Try.sizeOf24 rfl rfl cellsOfStruct rfl (by intro v hv; exact ones_S_api_Cell _ v hv) H) rfl rfl ?_
                        rintro _ h58 ⟨rfl, H⟩
                        refine tr_p (y_assign rfl) rfl rfl ?_
                        refine tr_nil ?_
                        refine tr_thenN ?_
                        refine tr_ret ?_
                        obtain ⟨y59, k60, H⟩ := H
                        exact tr_rv2 rfl (rv_cellS Try.isAgg24 Try.sizeOf24 rfl rfl k60) (rv_tmp rfl) ⟨_, _, rfl, H⟩
            · replace H := H.2 g31
              refine tr_skip ?_
              refine tr_thenN ?_
              refine tr_seq ?_
              refine tr_seq ?_
              refine tr_region ?_
              refine tr_p (y_move rfl) rfl rfl ?_
              refine tr_p (y_move rfl) rfl rfl ?_
              refine tr_p (y_sub rfl rfl) rfl rfl ?_
              obtain ⟨b62, e63, H⟩ := H
              refine tr_p (f_idxS Try.runUnderlying9 rfl rfl e63) rfl rfl ?_
              refine tr_p (y_neq rfl rfl) rfl rfl ?_
              refine tr_nil ?_
              refine tr_thenN ?_
              refine tr_cond rfl (fun g64 => ?_) (fun g64 => ?_)
              · replace H := H.1 g64
                refine tr_seq ?_
                refine tr_region ?_
                refine tr_p (f_build rfl (bd_24_ )) rfl rfl ?_
                refine tr_e (f_store (vs := (⟨0, (⟨#[]⟩ : ByteArray), 0⟩ : S_api_Cell).cells) Try.sizeOf24 rfl rfl cellsOfStruct rfl (by intro v hv; exact ones_S_api_Cell _ v hv) H) rfl rfl ?_
                rintro _ h65 ⟨rfl, H⟩
                refine tr_p (y_assign rfl) rfl rfl ?_
                refine tr_nil ?_
                refine tr_thenN ?_
                refine tr_ret ?_
                refine tr_thenR ?_
                refine tr_blockR ?_
                refine tr_thenR ?_
                refine tr_blockR ?_
                refine tr_thenR ?_
                obtain ⟨y66, k67, H⟩ := H
                exact tr_rv2 rfl (rv_cellS Try.isAgg24 Try.sizeOf24 rfl rfl k67) (rv_tmp rfl) ⟨_, _, rfl, H⟩
              · replace H := H.2 g64
                refine tr_skip ?_
                refine tr_thenN ?_
                refine tr_region ?_
                refine tr_p (y_move rfl) rfl rfl ?_
                refine tr_e (f_buildL (cs := #[(.int .u8 0)]) rfl rfl (bl_46_1_0 0) H) rfl rfl ?_
                rintro _ h68 ⟨s69, rfl, H⟩
                refine tr_e (f_app rfl H) rfl rfl ?_
                rintro _ h70 ⟨s71, rfl, H⟩
                refine tr_p (y_assign rfl) rfl rfl ?_
                refine tr_nil ?_
                refine tr_blockN ?_
                refine tr_thenN ?_
                exact tr_join [(0, (.string x0)), (2, (.pointer (some x2))), (4, (.pointer (some x4))), (5, (.int .i64 (IntKind.wrap .i64 (x5 + 2)))), (6, s71.enc)] ⟨rfl, rfl, rfl, rfl, rfl, trivial⟩ ⟨_, _, _, _, _, rfl, H⟩
def F.shard_Shard_Range.j1 (Q : Sl → H → Prop) (ds : List Nat) (x11 : Addr) (h : H) : Prop :=
  ldL h x11 fun y14 =>
  shuts ds h fun h16 =>
  Q y14 h16
def F.shard_Shard_Range.j2 (Q : Sl → H → Prop) (K1 : H → Prop) (J1 : Nat → H → Prop) (l1 : Nat) (x11 : Addr) (x15 : Addr) (x17 : Addr) (x47 : Bool) (h : H) : Prop :=
  (x47 = true →
  ldL h x11 fun y44 =>
  ld_S_api_Cell h x15 fun y46 =>
  ld_S_api_Agg h x17 fun y48 =>
  newL h (((⟨y46, y48⟩ : S_api_Row).cells).toArray) ty_43 1 fun s51 h50 =>
  runL PP (Builtin.append_ #[59, 59] 59 #[y44.enc, s51.enc]) h50 fun s53 h52 =>
  stH h52 x11 [s53.enc] fun h54 =>
  K1 h54) ∧
  (x47 = false →
  K1 h)
/-- (*spate/shard.Shard).Range -/
def F.shard_Shard_Range (p0 : Option Addr) (p1 : Int) (p2 : S_api_Cell) (p3 : S_api_Cell) (p4 : Int) (h : H) (Q : Sl → H → Prop) : Prop :=
  new h #[(.int .i64 p1)] ty_3 fun a2 h1 =>
  new h1 p2.cells.toArray ty_24 fun a4 h3 =>
  new h3 p3.cells.toArray ty_24 fun a6 h5 =>
  new h5 #[(.int .i64 p4)] ty_3 fun a8 h7 =>
  new h7 #[(⟨none, 0, 0⟩ : Sl).enc] ty_59 fun a10 h9 =>
  new h9 #[.nilFunc] ty_101 fun a12 h11 =>
  stH h11 a12 [(.func (.func 52) #[] #[(.pointer (some a4)), (.pointer (some a6))])] fun h13 =>
  nn p0 fun a17 =>
  ldP h13 (a17.add 3) fun y19 =>
  F.table_Table_chain_Chain_api_Agg_All y19 h13 fun r22 h21 =>
  rng PP r22 h21 [Code.exit 0] (fun bg1 l1 args h K1 J1 => ∃ (y1_25 : ByteArray), ∃ (y1_26 : Option Addr), args = [(.string y1_25), (.pointer y1_26)] ∧
    bg1 h fun h23 =>
    ldL h23 a10 fun y24 =>
    ldI .i64 h23 a8 fun y26 =>
    ((decide ((y24.len : Int) ≥ y26)) = true →
    J1 0 h23) ∧
    ((decide ((y24.len : Int) ≥ y26)) = false →
    F.merge_Cell y1_25 h23 fun r30 r31 h29 =>
    new h29 (((⟨0, (⟨#[]⟩ : ByteArray), 0⟩ : S_api_Cell) : S_api_Cell).cells.toArray) ty_24 fun a33 h32 =>
    stH h32 a33 r30.cells fun h34 =>
    ldI .i64 h34 a2 fun y35 =>
    F.shard_at y1_26 y35 h34 fun r38 r39 h37 =>
    new h37 (((⟨0, 0, 0, 0⟩ : S_api_Agg) : S_api_Agg).cells.toArray) ty_35 fun a41 h40 =>
    stH h40 a41 r38.cells fun h42 =>
    (r39 = true →
    ldV h42 a12 fun y56 =>
    ld_S_api_Cell h42 a33 fun y58 =>
    CV PP y56 [(.agg y58.cells.toArray)] h42 fun u h60 => ∃ (r61 : Bool), u = (.bool r61) ∧
    F.shard_Shard_Range.j2 Q K1 J1 l1 a10 a33 a41 r61 h60) ∧
    (r39 = false →
    F.shard_Shard_Range.j2 Q K1 J1 l1 a10 a33 a41 false h42))) (fun h62 =>
    F.shard_Shard_Range.j1 Q (h21.size :: ([] : List Nat)) a10 h62) (fun jj h63 =>
    (jj = 0 →
      F.shard_Shard_Range.j1 Q (h21.size :: ([] : List Nat)) a10 h63))
theorem F.shard_Shard_Range_ok {p0 : Option Addr} {p1 : Int} {p2 : S_api_Cell} {p3 : S_api_Cell} {p4 : Int} {h : H} {Q : Sl → H → Prop} (H : F.shard_Shard_Range p0 p1 p2 p3 p4 h Q) : Fn PP 27 ([(.pointer p0), (.int .i64 p1), (.agg p2.cells.toArray), (.agg p3.cells.toArray), (.int .i64 p4)] : List Value).toArray h fun r h' => ∃ r0, r = r0.enc ∧ Q r0 h' := by
  unfold F.shard_Shard_Range at H
  refine fn_ofM Try.func27 Try.ntmps27 rfl rfl fun w0 => ?_
  refine tr_sub [(0, (.pointer p0)), (1, (.int .i64 p1)), (2, (.agg p2.cells.toArray)), (3, (.agg p3.cells.toArray)), (4, (.int .i64 p4))] ⟨rfl, rfl, rfl, rfl, rfl, trivial⟩ ?_
  refine tr_seq ?_
  refine tr_region ?_
  refine tr_e (f_box (cs := #[(.int .i64 p1)]) rfl rfl H) rfl rfl ?_
  rintro _ h1 ⟨a2, rfl, H⟩
  refine tr_e (f_box (cs := p2.cells.toArray) rfl rfl H) rfl rfl ?_
  rintro _ h3 ⟨a4, rfl, H⟩
  refine tr_e (f_box (cs := p3.cells.toArray) rfl rfl H) rfl rfl ?_
  rintro _ h5 ⟨a6, rfl, H⟩
  refine tr_e (f_box (cs := #[(.int .i64 p4)]) rfl rfl H) rfl rfl ?_
  rintro _ h7 ⟨a8, rfl, H⟩
  refine tr_p (y_assign rfl) rfl rfl ?_
  refine tr_nil ?_
  refine tr_thenN ?_
  refine tr_seq ?_
  refine tr_region ?_
  refine tr_e (f_alloc (cs := #[(⟨none, 0, 0⟩ : Sl).enc]) Try.zeroValue59 rfl H) rfl rfl ?_
  rintro _ h9 ⟨a10, rfl, H⟩
  refine tr_nil ?_
  refine tr_thenN ?_
  refine tr_seq ?_
  refine tr_region ?_
  refine tr_p (y_fn rfl rfl) rfl rfl ?_
  refine tr_e (f_alloc (cs := #[.nilFunc]) Try.zeroValue101 rfl H) rfl rfl ?_
  rintro _ h11 ⟨a12, rfl, H⟩
  refine tr_e (f_store (vs := [(.func (.func 52) #[] #[(.pointer (some a4)), (.pointer (some a6))])]) Try.sizeOf101 rfl rfl rfl rfl (one1 (by rfl)) H) rfl rfl ?_
  rintro _ h13 ⟨rfl, H⟩
  refine tr_nil ?_
  refine tr_thenN ?_
  refine tr_seq_jD (fun ds L' h => ∃ (x11 : Addr), L' = [(11, (.pointer (some x11)))] ∧ F.shard_Shard_Range.j1 Q ds x11 h) ?_ ?_
  · rintro ds L' h ⟨x11, rfl, H⟩
    unfold F.shard_Shard_Range.j1 at H
    refine tr_seq ?_
    refine tr_region ?_
    obtain ⟨y14, k15, H⟩ := H
    refine tr_h (y_ld Try.isAgg59 rfl) k15 rfl rfl ?_
    refine tr_p (y_assign rfl) rfl rfl ?_
    refine tr_nil ?_
    refine tr_thenN ?_
    refine tr_ret ?_
    refine tr_shut ds rfl H fun h16 H => ?_
    exact tr_ret1 rfl rfl ⟨_, rfl, H⟩
  · refine tr_seq ?_
    refine tr_region ?_
    refine tr_p (y_move rfl) rfl rfl ?_
    obtain ⟨a17, e18, H⟩ := H
    refine tr_p (f_nn rfl e18) rfl rfl ?_
    refine tr_p (y_fa (off := 3) Try.runUnderlying54 fo_54_1 rfl) rfl rfl ?_
    obtain ⟨y19, k20, H⟩ := H
    refine tr_h (y_ld Try.isAgg52 rfl) k20 rfl rfl ?_
    refine tr_e (e_call Try.call47 rfl (F.table_Table_chain_Chain_api_Agg_All_ok H)) rfl rfl ?_
    rintro r22 h21 ⟨_, rfl, H⟩
    refine tr_nil ?_
    refine tr_thenN ?_
    refine tr_block ?_
    refine tr_range rfl (by kernel_rfl) H ?_ ?_ ?_
    · intro bg1 l1 args h K1 J1 w1 hbg1 H
      obtain ⟨y1_25, y1_26, rfl, H⟩ := H
      refine ⟨rfl, ?_⟩
      refine tr_sub [(0, (.pointer p0)), (1, (.int .i64 p1)), (2, (.agg p2.cells.toArray)), (3, (.agg p3.cells.toArray)), (4, (.int .i64 p4)), (6, (.pointer (some a2))), (7, (.pointer (some a4))), (8, (.pointer (some a6))), (9, (.pointer (some a8))), (10, (⟨none, 0, 0⟩ : Sl).enc), (11, (.pointer (some a10))), (19, (.func (.func 52) #[] #[(.pointer (some a4)), (.pointer (some a6))])), (12, (.pointer (some a12))), (20, (.pointer p0)), (21, (.pointer (some a17))), (22, (.pointer (some (a17.add 3)))), (23, (.pointer y19)), (24, r22), (25, (.string y1_25)), (26, (.pointer y1_26))] ⟨rfl, rfl, rfl, rfl, rfl, rfl, rfl, rfl, rfl, rfl, rfl, rfl, rfl, rfl, rfl, rfl, rfl, rfl, rfl, rfl, trivial⟩ ?_
      refine tr_seq ?_
      refine tr_region ?_
      refine tr_p (y_assign rfl) rfl rfl ?_
      refine tr_nil ?_
      refine tr_thenN ?_
      refine tr_region ?_
      refine tr_p (y_assign rfl) rfl rfl ?_
      refine tr_nil ?_
      refine tr_thenN ?_
      refine tr_bgn hbg1 H fun h23 H => ?_
      refine tr_block ?_
      refine tr_seq ?_
      refine tr_seq ?_
      refine tr_region ?_
      obtain ⟨y24, k25, H⟩ := H
      refine tr_h (y_ld Try.isAgg59 rfl) k25 rfl rfl ?_
      refine tr_p (y_len (ts := #[]) Try.runUnderlying59 (o := y24.ptr) (n := y24.len) (cap := y24.cap) rfl) rfl rfl ?_
      obtain ⟨y26, k27, H⟩ := H
      refine tr_h (y_ld Try.isAgg3 rfl) k27 rfl rfl ?_
      refine tr_p (y_geq rfl rfl) rfl rfl ?_
      refine tr_nil ?_
      refine tr_thenN ?_
      refine tr_cond rfl (fun g28 => ?_) (fun g28 => ?_)
      · replace H := H.1 g28
        refine tr_exit ?_
        refine tr_thenE ?_
        refine tr_miss rfl ?_
        exact tr_rE 0 rfl H
      · replace H := H.2 g28
        refine tr_skip ?_
        refine tr_thenN ?_
        refine tr_seq ?_
        refine tr_region ?_
        refine tr_p (y_move rfl) rfl rfl ?_
        refine tr_e (e_call Try.call54 rfl (F.merge_Cell_ok H)) rfl rfl ?_
        rintro _ h29 ⟨r30, r31, rfl, H⟩
        refine tr_p (y_move rfl) rfl rfl ?_
        refine tr_p (y_ext rfl rfl) rfl rfl ?_
        refine tr_p (y_ext rfl rfl) rfl rfl ?_
        refine tr_e (f_alloc (cs := ((⟨0, (⟨#[]⟩ : ByteArray), 0⟩ : S_api_Cell) : S_api_Cell).cells.toArray) Try.zeroValue24 rfl H) rfl rfl ?_
        rintro _ h32 ⟨a33, rfl, H⟩
        refine tr_e (f_store (vs := r30.cells) Try.sizeOf24 rfl rfl cellsOfStruct rfl (by intro v hv; exact ones_S_api_Cell _ v hv) H) rfl rfl ?_
        rintro _ h34 ⟨rfl, H⟩
        refine tr_p (y_assign rfl) rfl rfl ?_
        refine tr_nil ?_
        refine tr_thenN ?_
        refine tr_seq ?_
        refine tr_region ?_
        refine tr_p (y_move rfl) rfl rfl ?_
        obtain ⟨y35, k36, H⟩ := H
        refine tr_h (y_ld Try.isAgg3 rfl) k36 rfl rfl ?_
        refine tr_e (e_call Try.call44 rfl (F.shard_at_ok H)) rfl rfl ?_
        rintro _ h37 ⟨r38, r39, rfl, H⟩
        refine tr_p (y_move rfl) rfl rfl ?_
        refine tr_p (y_ext rfl rfl) rfl rfl ?_
        refine tr_p (y_ext rfl rfl) rfl rfl ?_
        refine tr_e (f_alloc (cs := ((⟨0, 0, 0, 0⟩ : S_api_Agg) : S_api_Agg).cells.toArray) Try.zeroValue35 rfl H) rfl rfl ?_
        rintro _ h40 ⟨a41, rfl, H⟩
        refine tr_e (f_store (vs := r38.cells) Try.sizeOf35 rfl rfl cellsOfStruct rfl (by intro v hv; exact ones_S_api_Agg _ v hv) H) rfl rfl ?_
        rintro _ h42 ⟨rfl, H⟩
        refine tr_p (y_assign rfl) rfl rfl ?_
        refine tr_nil ?_
        refine tr_thenN ?_
        refine tr_seq_j (fun L' h => ∃ (x11 : Addr) (x15 : Addr) (x17 : Addr) (x47 : Bool), L' = [(11, (.pointer (some x11))), (15, (.pointer (some x15))), (17, (.pointer (some x17))), (47, (.bool x47))] ∧ F.shard_Shard_Range.j2 Q K1 J1 l1 x11 x15 x17 x47 h) ?_ ?_
        · rintro L' h ⟨x11, x15, x17, x47, rfl, H⟩
          unfold F.shard_Shard_Range.j2 at H
          refine tr_cond rfl (fun g43 => ?_) (fun g43 => ?_)
          · replace H := H.1 g43
            refine tr_region ?_
            obtain ⟨y44, k45, H⟩ := H
            refine tr_h (y_ld Try.isAgg59 rfl) k45 rfl rfl ?_
            obtain ⟨y46, k47, H⟩ := H
            refine tr_h (y_ldS Try.isAgg24 Try.sizeOf24 rfl rfl) k47 rfl rfl ?_
            obtain ⟨y48, k49, H⟩ := H
            refine tr_h (y_ldS Try.isAgg35 Try.sizeOf35 rfl rfl) k49 rfl rfl ?_
            refine tr_p (f_build rfl (bd_43_0_1 y46 y48)) rfl rfl ?_
            refine tr_e (f_buildL (cs := ((⟨y46, y48⟩ : S_api_Row).cells).toArray) rfl rfl (bl_59_1_0 (⟨y46, y48⟩ : S_api_Row)) H) rfl rfl ?_
            rintro _ h50 ⟨s51, rfl, H⟩
            refine tr_e (f_app rfl H) rfl rfl ?_
            rintro _ h52 ⟨s53, rfl, H⟩
            refine tr_e (f_store (vs := [s53.enc]) Try.sizeOf59 rfl rfl rfl rfl (one1 rfl) H) rfl rfl ?_
            rintro _ h54 ⟨rfl, H⟩
            refine tr_nil ?_
            refine tr_blockN ?_
            exact tr_rN H
          · replace H := H.2 g43
            refine tr_skip ?_
            refine tr_blockN ?_
            exact tr_rN H
        · refine tr_region ?_
          refine tr_p (y_move rfl) rfl rfl ?_
          refine tr_p (y_move rfl) rfl rfl ?_
          refine tr_split (t := 43) rfl (fun g55 => ?_) (fun g55 => ?_)
          · replace H := H.1 g55
            obtain ⟨y56, k57, H⟩ := H
            refine tr_h (y_ld Try.isAgg101 rfl) k57 rfl rfl ?_
            obtain ⟨y58, k59, H⟩ := H
            refine tr_h (y_ldS Try.isAgg24 Try.sizeOf24 rfl rfl) k59 rfl rfl ?_
            refine tr_e (e_callD rfl rfl H) rfl rfl ?_
            rintro _ h60 ⟨r61, rfl, H⟩
            refine tr_p (y_pick_t rfl rfl) rfl rfl ?_
            refine tr_nil ?_
            refine tr_thenN ?_
            exact tr_join [(11, (.pointer (some a10))), (15, (.pointer (some a33))), (17, (.pointer (some a41))), (47, (.bool r61))] ⟨rfl, rfl, rfl, rfl, trivial⟩ ⟨_, _, _, _, rfl, H⟩
          · replace H := H.2 g55
            refine tr_s rfl rfl ?_
            refine tr_s rfl rfl ?_
            refine tr_s rfl rfl ?_
            refine tr_p (y_pick_f rfl rfl) rfl rfl ?_
            refine tr_nil ?_
            refine tr_thenN ?_
            exact tr_join [(11, (.pointer (some a10))), (15, (.pointer (some a33))), (17, (.pointer (some a41))), (47, (.bool false))] ⟨rfl, rfl, rfl, rfl, trivial⟩ ⟨_, _, _, _, rfl, H⟩
    · intro h62 H
      refine tr_blockN ?_
      refine tr_thenN ?_
      exact tr_joinD (h21.size :: ([] : List Nat)) [(11, (.pointer (some a10)))] rfl ⟨rfl, trivial⟩ ⟨_, rfl, H⟩
    · intro jj c h63 hjc H
      rcases jj with _ | jj
      · obtain rfl : Code.exit 0 = c := by simpa using hjc
        replace H := H rfl
        refine tr_exit ?_
        refine tr_hit ?_
        refine tr_thenN ?_
        exact tr_joinD (h21.size :: ([] : List Nat)) [(11, (.pointer (some a10)))] rfl ⟨rfl, trivial⟩ ⟨_, rfl, H⟩
      · simp at hjc
/-- spate/spatelaw7.all -/
def F.spatelaw7_all (p0 : Option Addr) (p1 : Int) (h : H) (Q : Sl → H → Prop) : Prop :=
  F.shard_Shard_Range p0 p1 (⟨0, (⟨#[]⟩ : ByteArray), 0⟩ : S_api_Cell) (⟨9, (⟨#[]⟩ : ByteArray), 0⟩ : S_api_Cell) 1048576 h fun r2 h1 =>
  Q r2 h1
theorem F.spatelaw7_all_ok {p0 : Option Addr} {p1 : Int} {h : H} {Q : Sl → H → Prop} (H : F.spatelaw7_all p0 p1 h Q) : Fn PP 28 ([(.pointer p0), (.int .i64 p1)] : List Value).toArray h fun r h' => ∃ r0, r = r0.enc ∧ Q r0 h' := by
  unfold F.spatelaw7_all at H
  refine fn_of Try.func28 Try.ntmps28 rfl rfl fun w0 => ?_
  refine tr_sub [(0, (.pointer p0)), (1, (.int .i64 p1))] ⟨rfl, rfl, trivial⟩ ?_
  refine tr_seq ?_
  refine tr_region ?_
  refine tr_p (y_assign rfl) rfl rfl ?_
  refine tr_nil ?_
  refine tr_thenN ?_
  refine tr_seq ?_
  refine tr_region ?_
  refine tr_p (y_move rfl) rfl rfl ?_
  refine tr_p (y_move rfl) rfl rfl ?_
  refine tr_p (f_build rfl (bd_24_ )) rfl rfl ?_
  refine tr_p (f_build rfl (bd_24_0 9)) rfl rfl ?_
  refine tr_e (e_call Try.call27 rfl (F.shard_Shard_Range_ok H)) rfl rfl ?_
  rintro _ h1 ⟨r2, rfl, H⟩
  refine tr_p (y_assign rfl) rfl rfl ?_
  refine tr_nil ?_
  refine tr_thenN ?_
  refine tr_ret ?_
  exact tr_ret1 rfl rfl ⟨_, rfl, H⟩
def F.spatelaw7_SameRows.l1 (Q : Bool → H → Prop) : Nat → Sl → Sl → Int → H → Prop
  | 0, _, _, _, _ => False
  | q1 + 1, x0, x1, x5, h =>
    ((decide (x5 < (x0.len : Int))) = true →
    idxA x0 x5 7 fun a3 =>
    ld_S_api_Row h a3 fun y5 =>
    idxA x1 x5 7 fun a7 =>
    ld_S_api_Row h a7 fun y9 =>
    ((!((((y5.Cell.View == y9.Cell.View) && ((y5.Cell.Key.toList == y9.Cell.Key.toList) && ((y5.Cell.Start == y9.Cell.Start) && true)))) && ((((y5.Agg.Count == y9.Agg.Count) && ((y5.Agg.Sum == y9.Agg.Sum) && ((y5.Agg.Min == y9.Agg.Min) && ((y5.Agg.Max == y9.Agg.Max) && true))))) && true))) = true →
    Q false h) ∧
    ((!((((y5.Cell.View == y9.Cell.View) && ((y5.Cell.Key.toList == y9.Cell.Key.toList) && ((y5.Cell.Start == y9.Cell.Start) && true)))) && ((((y5.Agg.Count == y9.Agg.Count) && ((y5.Agg.Sum == y9.Agg.Sum) && ((y5.Agg.Min == y9.Agg.Min) && ((y5.Agg.Max == y9.Agg.Max) && true))))) && true))) = false →
    (F.spatelaw7_SameRows.l1 Q q1) x0 x1 (IntKind.wrap .i64 (x5 + 1)) h)) ∧
    ((decide (x5 < (x0.len : Int))) = false →
    Q true h)
/-- spate/spatelaw7.SameRows -/
def F.spatelaw7_SameRows (p0 : Sl) (p1 : Sl) (h : H) (Q : Bool → H → Prop) : Prop :=
  ((((p0.len : Int) != (p1.len : Int))) = true →
  Q false h) ∧
  ((((p0.len : Int) != (p1.len : Int))) = false →
  ∃ m, F.spatelaw7_SameRows.l1 Q m p0 p1 0 h)
theorem F.spatelaw7_SameRows_ok {p0 : Sl} {p1 : Sl} {h : H} {Q : Bool → H → Prop} (H : F.spatelaw7_SameRows p0 p1 h Q) : Fn PP 31 ([p0.enc, p1.enc] : List Value).toArray h fun r h' => ∃ r0, r = (.bool r0) ∧ Q r0 h' := by
  unfold F.spatelaw7_SameRows at H
  refine fn_of Try.func31 Try.ntmps31 rfl rfl fun w0 => ?_
  refine tr_sub [(0, p0.enc), (1, p1.enc)] ⟨rfl, rfl, trivial⟩ ?_
  refine tr_seq ?_
  refine tr_region ?_
  refine tr_p (y_assign rfl) rfl rfl ?_
  refine tr_nil ?_
  refine tr_thenN ?_
  refine tr_seq ?_
  refine tr_seq ?_
  refine tr_region ?_
  refine tr_p (y_move rfl) rfl rfl ?_
  refine tr_p (y_len (ts := #[]) Try.runUnderlying59 (o := p0.ptr) (n := p0.len) (cap := p0.cap) rfl) rfl rfl ?_
  refine tr_p (y_move rfl) rfl rfl ?_
  refine tr_p (y_len (ts := #[]) Try.runUnderlying59 (o := p1.ptr) (n := p1.len) (cap := p1.cap) rfl) rfl rfl ?_
  refine tr_p (y_neq rfl rfl) rfl rfl ?_
  refine tr_nil ?_
  refine tr_thenN ?_
  refine tr_cond rfl (fun g1 => ?_) (fun g1 => ?_)
  · replace H := H.1 g1
    refine tr_seq ?_
    refine tr_region ?_
    refine tr_p (y_assign rfl) rfl rfl ?_
    refine tr_nil ?_
    refine tr_thenN ?_
    refine tr_ret ?_
    refine tr_thenR ?_
    exact tr_ret1 rfl rfl ⟨_, rfl, H⟩
  · replace H := H.2 g1
    refine tr_skip ?_
    refine tr_thenN ?_
    refine tr_seq ?_
    refine tr_seq ?_
    refine tr_region ?_
    refine tr_p (y_assign rfl) rfl rfl ?_
    refine tr_nil ?_
    refine tr_thenN ?_
    refine tr_block ?_
    obtain ⟨m12, H⟩ := H
    refine tr_sub [(0, p0.enc), (1, p1.enc), (5, (.int .i64 0))] ⟨rfl, rfl, rfl, trivial⟩ ?_
    refine tr_loop_j (fun m L' h => ∃ (x0 : Sl) (x1 : Sl) (x5 : Int), L' = [(0, x0.enc), (1, x1.enc), (5, (.int .i64 x5))] ∧ F.spatelaw7_SameRows.l1 Q m x0 x1 x5 h) ?_ ?_ m12 ⟨_, _, _, rfl, H⟩
    · rintro L' h ⟨_, _, _, _, H⟩; exact H
    · rintro q1 L' h ⟨x0, x1, x5, rfl, H⟩
      unfold F.spatelaw7_SameRows.l1 at H
      refine tr_seq ?_
      refine tr_seq ?_
      refine tr_region ?_
      refine tr_p (y_move rfl) rfl rfl ?_
      refine tr_p (y_move rfl) rfl rfl ?_
      refine tr_p (y_len (ts := #[]) Try.runUnderlying59 (o := x0.ptr) (n := x0.len) (cap := x0.cap) rfl) rfl rfl ?_
      refine tr_p (y_lss rfl rfl) rfl rfl ?_
      refine tr_nil ?_
      refine tr_thenN ?_
      refine tr_cond rfl (fun g2 => ?_) (fun g2 => ?_)
      · replace H := H.1 g2
        refine tr_skip ?_
        refine tr_thenN ?_
        refine tr_seq ?_
        refine tr_block ?_
        refine tr_seq ?_
        refine tr_draw mixed [0, 0, 3, 7, 0, 0, 48, 112, 255] (by kernel_rfl) ?_
        refine g_p 0 1 rfl (by kernel_rfl) (y_move rfl) rfl rfl ?_
        refine g_p 1 3 rfl (by kernel_rfl) (y_move rfl) rfl rfl ?_
        obtain ⟨a3, e4, H⟩ := H
        refine g_p 2 7 rfl (by kernel_rfl) (f_idx (s := x0) Try.runUnderlying59 Try.sizeOf43 rfl rfl e4) rfl rfl ?_
        obtain ⟨y5, k6, H⟩ := H
        refine g_h 3 15 rfl (by kernel_rfl) (y_ldS Try.isAgg43 Try.sizeOf43 rfl rfl) k6 rfl rfl ?_
        refine g_p 4 31 rfl (by kernel_rfl) (y_move rfl) rfl rfl ?_
        refine g_p 5 63 rfl (by kernel_rfl) (y_move rfl) rfl rfl ?_
        obtain ⟨a7, e8, H⟩ := H
        refine g_p 6 127 rfl (by kernel_rfl) (f_idx (s := x1) Try.runUnderlying59 Try.sizeOf43 rfl rfl e8) rfl rfl ?_
        obtain ⟨y9, k10, H⟩ := H
        refine g_h 7 255 rfl (by kernel_rfl) (y_ldS Try.isAgg43 Try.sizeOf43 rfl rfl) k10 rfl rfl ?_
        refine g_p 8 511 rfl (by kernel_rfl) (st_neq (b := ((((y5.Cell.View == y9.Cell.View) && ((y5.Cell.Key.toList == y9.Cell.Key.toList) && ((y5.Cell.Start == y9.Cell.Start) && true)))) && ((((y5.Agg.Count == y9.Agg.Count) && ((y5.Agg.Sum == y9.Agg.Sum) && ((y5.Agg.Min == y9.Agg.Min) && ((y5.Agg.Max == y9.Agg.Max) && true))))) && true))) eqg_43 (fun w => eqst_43 y5 y9 9997 w) rfl rfl) rfl rfl ?_
        refine g_d (by kernel_rfl) ?_
        refine tr_thenN ?_
        refine tr_cond rfl (fun g11 => ?_) (fun g11 => ?_)
        · replace H := H.1 g11
          refine tr_seq ?_
          refine tr_region ?_
          refine tr_p (y_assign rfl) rfl rfl ?_
          refine tr_nil ?_
          refine tr_thenN ?_
          refine tr_ret ?_
          refine tr_blockR ?_
          refine tr_thenR ?_
          refine tr_thenR ?_
          refine tr_blockR ?_
          refine tr_thenR ?_
          exact tr_ret1 rfl rfl ⟨_, rfl, H⟩
        · replace H := H.2 g11
          refine tr_skip ?_
          refine tr_blockN ?_
          refine tr_thenN ?_
          refine tr_region ?_
          refine tr_p (y_move rfl) rfl rfl ?_
          refine tr_p (y_add rfl rfl) rfl rfl ?_
          refine tr_p (y_assign rfl) rfl rfl ?_
          refine tr_nil ?_
          refine tr_thenN ?_
          exact tr_join [(0, x0.enc), (1, x1.enc), (5, (.int .i64 (IntKind.wrap .i64 (x5 + 1))))] ⟨rfl, rfl, rfl, trivial⟩ ⟨_, _, _, rfl, H⟩
      · replace H := H.2 g2
        refine tr_exit ?_
        refine tr_thenE ?_
        refine tr_thenE ?_
        refine tr_hit ?_
        refine tr_thenN ?_
        refine tr_seq ?_
        refine tr_region ?_
        refine tr_p (y_assign rfl) rfl rfl ?_
        refine tr_nil ?_
        refine tr_thenN ?_
        refine tr_ret ?_
        exact tr_ret1 rfl rfl ⟨_, rfl, H⟩
/-- spate/spatelaw7.apply -/
def F.spatelaw7_apply (p0 : Option Addr) (p1 : Int) (p2 : S_spatelaw7_Step) (h : H) (Q : Int → H → Prop) : Prop :=
  new h p2.cells.toArray ty_66 fun a2 h1 =>
  ld_S_api_Cell h1 (a2.add 2) fun y3 =>
  F.spatelaw7_few y3 h1 fun r6 h5 =>
  new h5 (((⟨0, (⟨#[]⟩ : ByteArray), 0⟩ : S_api_Cell) : S_api_Cell).cells.toArray) ty_24 fun a8 h7 =>
  stH h7 a8 r6.cells fun h9 =>
  ldI .i64 h9 (a2.add 0) fun y10 =>
  F.spatelaw7_within y10 4 h9 fun r13 h12 =>
  (((r13 == 0)) = true →
  ld_S_api_Cell h12 a8 fun y15 =>
  F.shard_Shard_Kill p0 p1 y15 h12 fun r18 h17 =>
  Q r18 h17) ∧
  (((r13 == 0)) = false →
  (((r13 == 1)) = true →
  ldL h12 (a2.add 10) fun y20 =>
  ((decide ((y20.len : Int) ≤ 20)) = true →
  ldL h12 (a2.add 10) fun y23 =>
  F.shard_Shard_Prune p0 y23 h12 fun r26 h25 =>
  Q 0 h25) ∧
  ((decide ((y20.len : Int) ≤ 20)) = false →
  Q 0 h12)) ∧
  (((r13 == 1)) = false →
  ld_S_api_Cell h12 a8 fun y27 =>
  ldI .i64 h12 ((a2.add 5).add 1) fun y29 =>
  F.spatelaw7_one y29 h12 fun r32 h31 =>
  Cells h31 a8 y27.cells ∧
  F.shard_Shard_Put p0 p1 (⟨y27, r32⟩ : S_api_Row) h31 fun r35 h34 =>
  Q r35 h34))
theorem F.spatelaw7_apply_ok {p0 : Option Addr} {p1 : Int} {p2 : S_spatelaw7_Step} {h : H} {Q : Int → H → Prop} (H : F.spatelaw7_apply p0 p1 p2 h Q) : Fn PP 30 ([(.pointer p0), (.int .i64 p1), (.agg p2.cells.toArray)] : List Value).toArray h fun r h' => ∃ r0, r = (.int .i64 r0) ∧ Q r0 h' := by
  unfold F.spatelaw7_apply at H
  refine fn_of Try.func30 Try.ntmps30 rfl rfl fun w0 => ?_
  refine tr_sub [(0, (.pointer p0)), (1, (.int .i64 p1)), (2, (.agg p2.cells.toArray))] ⟨rfl, rfl, rfl, trivial⟩ ?_
  refine tr_seq ?_
  refine tr_region ?_
  refine tr_e (f_box (cs := p2.cells.toArray) rfl rfl H) rfl rfl ?_
  rintro _ h1 ⟨a2, rfl, H⟩
  refine tr_p (y_assign rfl) rfl rfl ?_
  refine tr_nil ?_
  refine tr_thenN ?_
  refine tr_seq ?_
  refine tr_region ?_
  refine tr_p (y_fa (off := 2) Try.runUnderlying66 fo_66_2 rfl) rfl rfl ?_
  obtain ⟨y3, k4, H⟩ := H
  refine tr_h (y_ldS Try.isAgg24 Try.sizeOf24 rfl rfl) k4 rfl rfl ?_
  refine tr_e (e_call Try.call14 rfl (F.spatelaw7_few_ok H)) rfl rfl ?_
  rintro _ h5 ⟨r6, rfl, H⟩
  refine tr_e (f_alloc (cs := ((⟨0, (⟨#[]⟩ : ByteArray), 0⟩ : S_api_Cell) : S_api_Cell).cells.toArray) Try.zeroValue24 rfl H) rfl rfl ?_
  rintro _ h7 ⟨a8, rfl, H⟩
  refine tr_e (f_store (vs := r6.cells) Try.sizeOf24 rfl rfl cellsOfStruct rfl (by intro v hv; exact ones_S_api_Cell _ v hv) H) rfl rfl ?_
  rintro _ h9 ⟨rfl, H⟩
  refine tr_nil ?_
  refine tr_thenN ?_
  refine tr_seq ?_
  refine tr_seq ?_
  refine tr_region ?_
  refine tr_p (y_fa (off := 0) Try.runUnderlying66 fo_66_0 rfl) rfl rfl ?_
  obtain ⟨y10, k11, H⟩ := H
  refine tr_h (y_ld Try.isAgg3 rfl) k11 rfl rfl ?_
  refine tr_e (e_call Try.call15 rfl (F.spatelaw7_within_ok H)) rfl rfl ?_
  rintro _ h12 ⟨r13, rfl, H⟩
  refine tr_nil ?_
  refine tr_thenN ?_
  refine tr_block ?_
  refine tr_seq ?_
  refine tr_region ?_
  refine tr_p (y_eql rfl rfl) rfl rfl ?_
  refine tr_p (y_assign rfl) rfl rfl ?_
  refine tr_nil ?_
  refine tr_thenN ?_
  refine tr_cond rfl (fun g14 => ?_) (fun g14 => ?_)
  · replace H := H.1 g14
    refine tr_seq ?_
    refine tr_region ?_
    refine tr_p (y_move rfl) rfl rfl ?_
    refine tr_p (y_move rfl) rfl rfl ?_
    obtain ⟨y15, k16, H⟩ := H
    refine tr_h (y_ldS Try.isAgg24 Try.sizeOf24 rfl rfl) k16 rfl rfl ?_
    refine tr_e (e_call Try.call21 rfl (F.shard_Shard_Kill_ok H)) rfl rfl ?_
    rintro _ h17 ⟨r18, rfl, H⟩
    refine tr_p (y_assign rfl) rfl rfl ?_
    refine tr_nil ?_
    refine tr_thenN ?_
    refine tr_ret ?_
    refine tr_blockR ?_
    refine tr_thenR ?_
    exact tr_ret1 rfl rfl ⟨_, rfl, H⟩
  · replace H := H.2 g14
    refine tr_seq ?_
    refine tr_region ?_
    refine tr_p (y_eql rfl rfl) rfl rfl ?_
    refine tr_p (y_assign rfl) rfl rfl ?_
    refine tr_nil ?_
    refine tr_thenN ?_
    refine tr_cond rfl (fun g19 => ?_) (fun g19 => ?_)
    · replace H := H.1 g19
      refine tr_seq ?_
      refine tr_seq ?_
      refine tr_region ?_
      refine tr_p (y_fa (off := 10) Try.runUnderlying66 fo_66_5 rfl) rfl rfl ?_
      obtain ⟨y20, k21, H⟩ := H
      refine tr_h (y_ld Try.isAgg26 rfl) k21 rfl rfl ?_
      refine tr_p (y_len (ts := #[]) Try.runUnderlying26 (o := y20.ptr) (n := y20.len) (cap := y20.cap) rfl) rfl rfl ?_
      refine tr_p (y_leq rfl rfl) rfl rfl ?_
      refine tr_nil ?_
      refine tr_thenN ?_
      refine tr_cond rfl (fun g22 => ?_) (fun g22 => ?_)
      · replace H := H.1 g22
        refine tr_region ?_
        refine tr_p (y_move rfl) rfl rfl ?_
        refine tr_p (y_fa (off := 10) Try.runUnderlying66 fo_66_5 rfl) rfl rfl ?_
        obtain ⟨y23, k24, H⟩ := H
        refine tr_h (y_ld Try.isAgg26 rfl) k24 rfl rfl ?_
        refine tr_e (e_call Try.call25 rfl (F.shard_Shard_Prune_ok H)) rfl rfl ?_
        rintro _ h25 ⟨r26, rfl, H⟩
        refine tr_nil ?_
        refine tr_thenN ?_
        refine tr_seq ?_
        refine tr_region ?_
        refine tr_p (y_assign rfl) rfl rfl ?_
        refine tr_nil ?_
        refine tr_thenN ?_
        refine tr_ret ?_
        refine tr_blockR ?_
        refine tr_thenR ?_
        exact tr_ret1 rfl rfl ⟨_, rfl, H⟩
      · replace H := H.2 g22
        refine tr_skip ?_
        refine tr_thenN ?_
        refine tr_seq ?_
        refine tr_region ?_
        refine tr_p (y_assign rfl) rfl rfl ?_
        refine tr_nil ?_
        refine tr_thenN ?_
        refine tr_ret ?_
        refine tr_blockR ?_
        refine tr_thenR ?_
        exact tr_ret1 rfl rfl ⟨_, rfl, H⟩
    · replace H := H.2 g19
      refine tr_skip ?_
      refine tr_blockN ?_
      refine tr_thenN ?_
      refine tr_seq ?_
      refine tr_draw mixed [0, 0, 0, 0, 8, 24, 56, 124, 255, 511] (by kernel_rfl) ?_
      refine g_p 0 1 rfl (by kernel_rfl) (y_move rfl) rfl rfl ?_
      refine g_p 1 3 rfl (by kernel_rfl) (y_move rfl) rfl rfl ?_
      obtain ⟨y27, k28, H⟩ := H
      refine g_h 2 7 rfl (by kernel_rfl) (y_ldS Try.isAgg24 Try.sizeOf24 rfl rfl) k28 rfl rfl ?_
      refine g_p 3 15 rfl (by kernel_rfl) (y_fa (off := 5) Try.runUnderlying66 fo_66_3 rfl) rfl rfl ?_
      refine g_p 4 31 rfl (by kernel_rfl) (y_fa (off := 1) Try.runUnderlying35 fo_35_1 rfl) rfl rfl ?_
      obtain ⟨y29, k30, H⟩ := H
      refine g_h 5 63 rfl (by kernel_rfl) (y_ld Try.isAgg2 rfl) k30 rfl rfl ?_
      refine g_e 6 127 [(2, fun h => Cells h a8 y27.cells)] (by kernel_rfl) rfl (by kernel_rfl) (e_call Try.call20 rfl (F.spatelaw7_one_ok H)) rfl rfl ?_
      rintro _ h31 ⟨r32, rfl, H⟩
      obtain ⟨k33, H⟩ := H
      refine ⟨And.intro k33 trivial, ?_⟩
      refine g_p 7 255 rfl (by kernel_rfl) (f_build rfl (bd_43_0_1 y27 r32)) rfl rfl ?_
      refine g_e 8 511 [] (by kernel_rfl) rfl (by kernel_rfl) (e_call Try.call18 rfl (F.shard_Shard_Put_ok H)) rfl rfl ?_
      rintro _ h34 ⟨r35, rfl, H⟩
      refine ⟨trivial, ?_⟩
      refine g_p 9 1023 rfl (by kernel_rfl) (y_assign rfl) rfl rfl ?_
      refine g_d (by kernel_rfl) ?_
      refine tr_thenN ?_
      refine tr_ret ?_
      exact tr_ret1 rfl rfl ⟨_, rfl, H⟩
/-- spate/spatelaw7.LendInts -/
def F.spatelaw7_LendInts (p0 : Sl) (h : H) (Q : Sl → H → Prop) : Prop :=
  runL PP (Instr.makeSlice 26 (.int .i64 0) (.int .i64 (IntKind.wrap .i64 ((p0.len : Int) + 3)))) h fun s2 h1 =>
  runL PP (Builtin.append_ #[26, 26] 26 #[s2.enc, p0.enc]) h1 fun s4 h3 =>
  newL h3 #[(.int .i64 (-77))] ty_3 1 fun s6 h5 =>
  runL PP (Builtin.append_ #[26, 26] 26 #[s4.enc, s6.enc]) h5 fun s8 h7 =>
  cutL s8 0 (p0.len : Int) 1 fun s10 =>
  Q s10 h7
theorem F.spatelaw7_LendInts_ok {p0 : Sl} {h : H} {Q : Sl → H → Prop} (H : F.spatelaw7_LendInts p0 h Q) : Fn PP 29 ([p0.enc] : List Value).toArray h fun r h' => ∃ r0, r = r0.enc ∧ Q r0 h' := by
  unfold F.spatelaw7_LendInts at H
  refine fn_of Try.func29 Try.ntmps29 rfl rfl fun w0 => ?_
  refine tr_sub [(0, p0.enc)] ⟨rfl, trivial⟩ ?_
  refine tr_seq ?_
  refine tr_region ?_
  refine tr_p (y_assign rfl) rfl rfl ?_
  refine tr_nil ?_
  refine tr_thenN ?_
  refine tr_seq ?_
  refine tr_region ?_
  refine tr_p (y_move rfl) rfl rfl ?_
  refine tr_p (y_len (ts := #[]) Try.runUnderlying26 (o := p0.ptr) (n := p0.len) (cap := p0.cap) rfl) rfl rfl ?_
  refine tr_p (y_add rfl rfl) rfl rfl ?_
  refine tr_e (f_make rfl rfl H) rfl rfl ?_
  rintro _ h1 ⟨s2, rfl, H⟩
  refine tr_p (y_move rfl) rfl rfl ?_
  refine tr_e (f_app rfl H) rfl rfl ?_
  rintro _ h3 ⟨s4, rfl, H⟩
  refine tr_p (y_assign rfl) rfl rfl ?_
  refine tr_nil ?_
  refine tr_thenN ?_
  refine tr_seq ?_
  refine tr_region ?_
  refine tr_p (y_move rfl) rfl rfl ?_
  refine tr_e (f_buildL (cs := #[(.int .i64 (-77))]) rfl rfl (bl_26_1_0 (-77)) H) rfl rfl ?_
  rintro _ h5 ⟨s6, rfl, H⟩
  refine tr_e (f_app rfl H) rfl rfl ?_
  rintro _ h7 ⟨s8, rfl, H⟩
  refine tr_p (y_move rfl) rfl rfl ?_
  refine tr_p (y_len (ts := #[]) Try.runUnderlying26 (o := p0.ptr) (n := p0.len) (cap := p0.cap) rfl) rfl rfl ?_
  obtain ⟨s10, e9, H⟩ := H
  refine tr_p (f_cutL (s := s8) none (some (.i64, (p0.len : Int))) Try.runUnderlying26 Try.sizeOf3 rfl rfl rfl e9) rfl rfl ?_
  refine tr_p (y_assign rfl) rfl rfl ?_
  refine tr_nil ?_
  refine tr_thenN ?_
  refine tr_ret ?_
  exact tr_ret1 rfl rfl ⟨_, rfl, H⟩
end Go.Proofs.Ytoccbnhahaoeiaa.V
namespace Go.Proofs.Ytoccbnhahaoeiaa.V
open Go
set_option linter.unusedVariables false
set_option maxRecDepth 100000
def F.spatelaw7_ShardPast.j4 (Q : Bool → H → Prop) (C1 : Sl → (Option Addr) → Int → Sl → Sl → Int → H → Prop) (x1 : Sl) (x5 : Option Addr) (x7 : Int) (x8 : Sl) (x9 : Sl) (x10 : Int) (h : H) : Prop :=
  C1 x1 x5 x7 x8 x9 (IntKind.wrap .i64 (x10 + 1)) h
def F.spatelaw7_ShardPast.j8 (Q : Bool → H → Prop) (C1 : Sl → (Option Addr) → Int → Sl → Sl → Int → H → Prop) (x1 : Sl) (x5 : Option Addr) (x7 : Int) (x8 : Sl) (x9 : Sl) (x10 : Int) (x117 : Bool) (h : H) : Prop :=
  (x117 = true →
  Q false h) ∧
  (x117 = false →
  F.spatelaw7_ShardPast.j4 Q C1 x1 x5 x7 x8 x9 x10 h)
def F.spatelaw7_ShardPast.l7 (Q : Bool → H → Prop) (C1 : Sl → (Option Addr) → Int → Sl → Sl → Int → H → Prop) : Nat → Sl → (Option Addr) → Int → Sl → Sl → Int → Int → H → Prop
  | 0, _, _, _, _, _, _, _, _ => False
  | q7 + 1, x1, x5, x7, x8, x9, x10, x11, h =>
    ((decide (x11 < (x8.len : Int))) = true →
    idxA x8 x11 1 fun a7 =>
    ldI .i64 h a7 fun y9 =>
    idxA x9 x11 1 fun a11 =>
    ldL h a11 fun y13 =>
    F.spatelaw7_all x5 y9 h fun r16 h15 =>
    cellH h15 a11 = some y13.enc ∧
    F.spatelaw7_SameRows r16 y13 h15 fun r19 h18 =>
    ((!r19) = true →
    Q false h18) ∧
    ((!r19) = false →
    (F.spatelaw7_ShardPast.l7 Q C1 q7) x1 x5 x7 x8 x9 x10 (IntKind.wrap .i64 (x11 + 1)) h18)) ∧
    ((decide (x11 < (x8.len : Int))) = false →
    F.spatelaw7_all x5 x7 h fun r23 h22 =>
    F.spatelaw7_all x5 0 h22 fun r25 h24 =>
    F.spatelaw7_SameRows r23 r25 h24 fun r27 h26 =>
    ((!r27) = true →
    F.spatelaw7_ShardPast.j8 Q C1 x1 x5 x7 x8 x9 x10 true h26) ∧
    ((!r27) = false →
    F.spatelaw7_all x5 (IntKind.wrap .i64 (x7 + 5)) h26 fun r30 h29 =>
    F.spatelaw7_all x5 0 h29 fun r32 h31 =>
    F.spatelaw7_SameRows r30 r32 h31 fun r34 h33 =>
    F.spatelaw7_ShardPast.j8 Q C1 x1 x5 x7 x8 x9 x10 (!r34) h33))
def F.spatelaw7_ShardPast.j6 (Q : Bool → H → Prop) (C1 : Sl → (Option Addr) → Int → Sl → Sl → Int → H → Prop) (x1 : Sl) (x5 : Option Addr) (x7 : Int) (x8 : Sl) (x9 : Sl) (x10 : Int) (h : H) : Prop :=
  ∃ m, F.spatelaw7_ShardPast.l7 Q C1 m x1 x5 x7 x8 x9 x10 0 h
def F.spatelaw7_ShardPast.j5 (Q : Bool → H → Prop) (C1 : Sl → (Option Addr) → Int → Sl → Sl → Int → H → Prop) (x1 : Sl) (x5 : Option Addr) (x7 : Int) (x8 : Sl) (x9 : Sl) (x10 : Int) (h : H) : Prop :=
  idxA x1 x10 15 fun a36 =>
  ldI .i64 h (a36.add 0) fun y38 =>
  F.spatelaw7_within y38 4 h fun r41 h40 =>
  (((r41 != 1)) = true →
  idxA x1 x10 15 fun a43 =>
  ld_S_spatelaw7_Step h40 a43 fun y45 =>
  F.spatelaw7_apply x5 x7 y45 h40 fun r48 h47 =>
  F.spatelaw7_ShardPast.j6 Q C1 x1 x5 x7 x8 x9 x10 h47) ∧
  (((r41 != 1)) = false →
  F.spatelaw7_ShardPast.j6 Q C1 x1 x5 x7 x8 x9 x10 h40)
def F.spatelaw7_ShardPast.j3 (Q : Bool → H → Prop) (C1 : Sl → (Option Addr) → Int → Sl → Sl → Int → H → Prop) (x1 : Sl) (x5 : Option Addr) (x7 : Int) (x8 : Sl) (x9 : Sl) (x10 : Int) (h : H) : Prop :=
  idxA x1 x10 15 fun a49 =>
  ldI .i64 h (a49.add 1) fun y51 =>
  F.spatelaw7_within y51 4 h fun r54 h53 =>
  (((r54 == 0)) = true →
  newL h53 #[(.int .i64 x7)] ty_3 1 fun s57 h56 =>
  runL PP (Builtin.append_ #[26, 26] 26 #[x8.enc, s57.enc]) h56 fun s59 h58 =>
  F.spatelaw7_all x5 0 h58 fun r61 h60 =>
  newL h60 #[r61.enc] ty_59 1 fun s63 h62 =>
  runL PP (Builtin.append_ #[63, 63] 63 #[x9.enc, s63.enc]) h62 fun s65 h64 =>
  F.spatelaw7_ShardPast.j5 Q C1 x1 x5 (IntKind.wrap .i64 (x7 + 1)) s59 s65 x10 h64) ∧
  (((r54 == 0)) = false →
  (((r54 == 1)) = true →
  F.spatelaw7_LendInts x8 h53 fun r68 h67 =>
  F.shard_Shard_Prune x5 r68 h67 fun r70 h69 =>
  F.spatelaw7_ShardPast.j5 Q C1 x1 x5 x7 x8 x9 x10 h69) ∧
  (((r54 == 1)) = false →
  (((r54 == 2)) = true →
  ((decide ((x8.len : Int) > 2)) = true →
  cutL x8 1 (x8.len : Int) 1 fun s74 =>
  cutL x9 1 (x9.len : Int) 1 fun s76 =>
  F.spatelaw7_ShardPast.j5 Q C1 x1 x5 x7 s74 s76 x10 h53) ∧
  ((decide ((x8.len : Int) > 2)) = false →
  F.spatelaw7_ShardPast.j5 Q C1 x1 x5 x7 x8 x9 x10 h53)) ∧
  (((r54 == 2)) = false →
  F.spatelaw7_ShardPast.j5 Q C1 x1 x5 x7 x8 x9 x10 h53)))
def F.spatelaw7_ShardPast.j9 (Q : Bool → H → Prop) (C1 : Sl → (Option Addr) → Int → Sl → Sl → Int → H → Prop) (x1 : Sl) (x5 : Option Addr) (x7 : Int) (x8 : Sl) (x9 : Sl) (x10 : Int) (x32 : Bool) (h : H) : Prop :=
  (x32 = true →
  F.spatelaw7_ShardPast.j3 Q C1 x1 x5 x7 x8 x9 x10 h) ∧
  (x32 = false →
  F.spatelaw7_head  h fun r79 h78 =>
  Q r79 h78)
def F.spatelaw7_ShardPast.l2 (Q : Bool → H → Prop) : Nat → Sl → (Option Addr) → Int → Sl → Sl → Int → H → Prop
  | 0, _, _, _, _, _, _, _ => False
  | q2 + 1, x1, x5, x7, x8, x9, x10, h =>
    ((decide (x10 < (x1.len : Int))) = true →
    F.spatelaw7_ShardPast.j9 Q (F.spatelaw7_ShardPast.l2 Q q2) x1 x5 x7 x8 x9 x10 (decide (x10 < 80)) h) ∧
    ((decide (x10 < (x1.len : Int))) = false →
    F.spatelaw7_ShardPast.j9 Q (F.spatelaw7_ShardPast.l2 Q q2) x1 x5 x7 x8 x9 x10 false h)
def F.spatelaw7_ShardPast.j1 (Q : Bool → H → Prop) (x1 : Sl) (x5 : Option Addr) (h : H) : Prop :=
  ∃ m, F.spatelaw7_ShardPast.l2 Q m x1 x5 1 (⟨none, 0, 0⟩ : Sl) (⟨none, 0, 0⟩ : Sl) 0 h
def F.spatelaw7_ShardPast.j10 (Q : Bool → H → Prop) (x1 : Sl) (x5 : Option Addr) (x24 : Bool) (h : H) : Prop :=
  (x24 = true →
  Q false h) ∧
  (x24 = false →
  F.spatelaw7_ShardPast.j1 Q x1 x5 h)
/-- spate/spatelaw7.ShardPast -/
def F.spatelaw7_ShardPast (p0 : Int) (p1 : Sl) (h : H) (Q : Bool → H → Prop) : Prop :=
  F.spatelaw7_within p0 60 h fun r2 h1 =>
  F.shard_New (IntKind.wrap .i64 (2 + r2)) h1 fun r4 r5 h3 =>
  (((r5 != 0)) = true →
  F.spatelaw7_ShardPast.j10 Q p1 r4 true h3) ∧
  (((r5 != 0)) = false →
  F.spatelaw7_ShardPast.j10 Q p1 r4 r4.isNone h3)
theorem F.spatelaw7_ShardPast_ok {p0 : Int} {p1 : Sl} {h : H} {Q : Bool → H → Prop} (H : F.spatelaw7_ShardPast p0 p1 h Q) : Fn PP 8 ([(.int .i64 p0), p1.enc] : List Value).toArray h fun r h' => ∃ r0, r = (.bool r0) ∧ Q r0 h' := by
  unfold F.spatelaw7_ShardPast at H
  refine fn_of Try.func8 Try.ntmps8 rfl rfl fun w0 => ?_
  refine tr_sub [(0, (.int .i64 p0)), (1, p1.enc)] ⟨rfl, rfl, trivial⟩ ?_
  refine tr_seq ?_
  refine tr_region ?_
  refine tr_p (y_assign rfl) rfl rfl ?_
  refine tr_nil ?_
  refine tr_thenN ?_
  refine tr_seq ?_
  refine tr_region ?_
  refine tr_p (y_move rfl) rfl rfl ?_
  refine tr_e (e_call Try.call15 rfl (F.spatelaw7_within_ok H)) rfl rfl ?_
  rintro _ h1 ⟨r2, rfl, H⟩
  refine tr_p (y_add rfl rfl) rfl rfl ?_
  refine tr_e (e_call Try.call13 rfl (F.shard_New_ok H)) rfl rfl ?_
  rintro _ h3 ⟨r4, r5, rfl, H⟩
  refine tr_p (y_move rfl) rfl rfl ?_
  refine tr_p (y_ext rfl rfl) rfl rfl ?_
  refine tr_p (y_ext rfl rfl) rfl rfl ?_
  refine tr_p (y_assign rfl) rfl rfl ?_
  refine tr_p (y_assign rfl) rfl rfl ?_
  refine tr_nil ?_
  refine tr_thenN ?_
  refine tr_seq_j (fun L' h => ∃ (x1 : Sl) (x5 : Option Addr), L' = [(1, x1.enc), (5, (.pointer x5))] ∧ F.spatelaw7_ShardPast.j1 Q x1 x5 h) ?_ ?_
  · rintro L' h ⟨x1, x5, rfl, H⟩
    unfold F.spatelaw7_ShardPast.j1 at H
    refine tr_seq ?_
    refine tr_region ?_
    refine tr_p (y_assign rfl) rfl rfl ?_
    refine tr_nil ?_
    refine tr_thenN ?_
    refine tr_seq ?_
    refine tr_region ?_
    refine tr_p (y_assign rfl) rfl rfl ?_
    refine tr_nil ?_
    refine tr_thenN ?_
    refine tr_seq ?_
    refine tr_region ?_
    refine tr_p (y_assign rfl) rfl rfl ?_
    refine tr_nil ?_
    refine tr_thenN ?_
    refine tr_seq ?_
    refine tr_seq ?_
    refine tr_region ?_
    refine tr_p (y_assign rfl) rfl rfl ?_
    refine tr_nil ?_
    refine tr_thenN ?_
    refine tr_block ?_
    obtain ⟨m81, H⟩ := H
    refine tr_sub [(1, x1.enc), (5, (.pointer x5)), (7, (.int .i64 1)), (8, (⟨none, 0, 0⟩ : Sl).enc), (9, (⟨none, 0, 0⟩ : Sl).enc), (10, (.int .i64 0))] ⟨rfl, rfl, rfl, rfl, rfl, rfl, trivial⟩ ?_
    refine tr_loop_j (fun m L' h => ∃ (x1 : Sl) (x5 : Option Addr) (x7 : Int) (x8 : Sl) (x9 : Sl) (x10 : Int), L' = [(1, x1.enc), (5, (.pointer x5)), (7, (.int .i64 x7)), (8, x8.enc), (9, x9.enc), (10, (.int .i64 x10))] ∧ F.spatelaw7_ShardPast.l2 Q m x1 x5 x7 x8 x9 x10 h) ?_ ?_ m81 ⟨_, _, _, _, _, _, rfl, H⟩
    · rintro L' h ⟨_, _, _, _, _, _, _, H⟩; exact H
    · rintro q2 L' h ⟨x1, x5, x7, x8, x9, x10, rfl, H⟩
      unfold F.spatelaw7_ShardPast.l2 at H
      refine tr_seq_j (fun L' h => ∃ (x1 : Sl) (x5 : Option Addr) (x7 : Int) (x8 : Sl) (x9 : Sl) (x10 : Int), L' = [(1, x1.enc), (5, (.pointer x5)), (7, (.int .i64 x7)), (8, x8.enc), (9, x9.enc), (10, (.int .i64 x10))] ∧ F.spatelaw7_ShardPast.j3 Q (F.spatelaw7_ShardPast.l2 Q q2) x1 x5 x7 x8 x9 x10 h) ?_ ?_
      · rintro L' h ⟨x1, x5, x7, x8, x9, x10, rfl, H⟩
        unfold F.spatelaw7_ShardPast.j3 at H
        refine tr_seq_j (fun L' h => ∃ (x1 : Sl) (x5 : Option Addr) (x7 : Int) (x8 : Sl) (x9 : Sl) (x10 : Int), L' = [(1, x1.enc), (5, (.pointer x5)), (7, (.int .i64 x7)), (8, x8.enc), (9, x9.enc), (10, (.int .i64 x10))] ∧ F.spatelaw7_ShardPast.j4 Q (F.spatelaw7_ShardPast.l2 Q q2) x1 x5 x7 x8 x9 x10 h) ?_ ?_
        · rintro L' h ⟨x1, x5, x7, x8, x9, x10, rfl, H⟩
          unfold F.spatelaw7_ShardPast.j4 at H
          refine tr_region ?_
          refine tr_p (y_move rfl) rfl rfl ?_
          refine tr_p (y_add rfl rfl) rfl rfl ?_
          refine tr_p (y_assign rfl) rfl rfl ?_
          refine tr_nil ?_
          refine tr_thenN ?_
          exact tr_join [(1, x1.enc), (5, (.pointer x5)), (7, (.int .i64 x7)), (8, x8.enc), (9, x9.enc), (10, (.int .i64 (IntKind.wrap .i64 (x10 + 1))))] ⟨rfl, rfl, rfl, rfl, rfl, rfl, trivial⟩ ⟨_, _, _, _, _, _, rfl, H⟩
        · refine tr_block ?_
          refine tr_seq_j (fun L' h => ∃ (x1 : Sl) (x5 : Option Addr) (x7 : Int) (x8 : Sl) (x9 : Sl) (x10 : Int), L' = [(1, x1.enc), (5, (.pointer x5)), (7, (.int .i64 x7)), (8, x8.enc), (9, x9.enc), (10, (.int .i64 x10))] ∧ F.spatelaw7_ShardPast.j5 Q (F.spatelaw7_ShardPast.l2 Q q2) x1 x5 x7 x8 x9 x10 h) ?_ ?_
          · rintro L' h ⟨x1, x5, x7, x8, x9, x10, rfl, H⟩
            unfold F.spatelaw7_ShardPast.j5 at H
            refine tr_seq_j (fun L' h => ∃ (x1 : Sl) (x5 : Option Addr) (x7 : Int) (x8 : Sl) (x9 : Sl) (x10 : Int), L' = [(1, x1.enc), (5, (.pointer x5)), (7, (.int .i64 x7)), (8, x8.enc), (9, x9.enc), (10, (.int .i64 x10))] ∧ F.spatelaw7_ShardPast.j6 Q (F.spatelaw7_ShardPast.l2 Q q2) x1 x5 x7 x8 x9 x10 h) ?_ ?_
            · rintro L' h ⟨x1, x5, x7, x8, x9, x10, rfl, H⟩
              unfold F.spatelaw7_ShardPast.j6 at H
              refine tr_seq ?_
              refine tr_seq ?_
              refine tr_region ?_
              refine tr_p (y_assign rfl) rfl rfl ?_
              refine tr_nil ?_
              refine tr_thenN ?_
              refine tr_block ?_
              obtain ⟨m35, H⟩ := H
              refine tr_sub [(1, x1.enc), (5, (.pointer x5)), (7, (.int .i64 x7)), (8, x8.enc), (9, x9.enc), (10, (.int .i64 x10)), (11, (.int .i64 0))] ⟨rfl, rfl, rfl, rfl, rfl, rfl, rfl, trivial⟩ ?_
              refine tr_loop_j (fun m L' h => ∃ (x1 : Sl) (x5 : Option Addr) (x7 : Int) (x8 : Sl) (x9 : Sl) (x10 : Int) (x11 : Int), L' = [(1, x1.enc), (5, (.pointer x5)), (7, (.int .i64 x7)), (8, x8.enc), (9, x9.enc), (10, (.int .i64 x10)), (11, (.int .i64 x11))] ∧ F.spatelaw7_ShardPast.l7 Q (F.spatelaw7_ShardPast.l2 Q q2) m x1 x5 x7 x8 x9 x10 x11 h) ?_ ?_ m35 ⟨_, _, _, _, _, _, _, rfl, H⟩
              · rintro L' h ⟨_, _, _, _, _, _, _, _, H⟩; exact H
              · rintro q7 L' h ⟨x1, x5, x7, x8, x9, x10, x11, rfl, H⟩
                unfold F.spatelaw7_ShardPast.l7 at H
                refine tr_seq ?_
                refine tr_seq ?_
                refine tr_region ?_
                refine tr_p (y_move rfl) rfl rfl ?_
                refine tr_p (y_move rfl) rfl rfl ?_
                refine tr_p (y_len (ts := #[]) Try.runUnderlying26 (o := x8.ptr) (n := x8.len) (cap := x8.cap) rfl) rfl rfl ?_
                refine tr_p (y_lss rfl rfl) rfl rfl ?_
                refine tr_nil ?_
                refine tr_thenN ?_
                refine tr_cond rfl (fun g6 => ?_) (fun g6 => ?_)
                · replace H := H.1 g6
                  refine tr_skip ?_
                  refine tr_thenN ?_
                  refine tr_seq ?_
                  refine tr_block ?_
                  refine tr_seq ?_
                  refine tr_draw mixed [0, 0, 0, 6, 14, 31, 0, 0, 192, 448, 1023, 2047] (by kernel_rfl) ?_
                  refine g_p 0 1 rfl (by kernel_rfl) (y_move rfl) rfl rfl ?_
                  refine g_p 1 3 rfl (by kernel_rfl) (y_move rfl) rfl rfl ?_
                  refine g_p 2 7 rfl (by kernel_rfl) (y_move rfl) rfl rfl ?_
                  obtain ⟨a7, e8, H⟩ := H
                  refine g_p 3 15 rfl (by kernel_rfl) (f_idx (s := x8) Try.runUnderlying26 Try.sizeOf3 rfl rfl e8) rfl rfl ?_
                  obtain ⟨y9, k10, H⟩ := H
                  refine g_h 4 31 rfl (by kernel_rfl) (y_ld Try.isAgg3 rfl) k10 rfl rfl ?_
                  refine g_p 6 95 rfl (by kernel_rfl) (y_move rfl) rfl rfl ?_
                  refine g_p 7 223 rfl (by kernel_rfl) (y_move rfl) rfl rfl ?_
                  obtain ⟨a11, e12, H⟩ := H
                  refine g_p 8 479 rfl (by kernel_rfl) (f_idx (s := x9) Try.runUnderlying63 Try.sizeOf59 rfl rfl e12) rfl rfl ?_
                  obtain ⟨y13, k14, H⟩ := H
                  refine g_h 9 991 rfl (by kernel_rfl) (y_ld Try.isAgg59 rfl) k14 rfl rfl ?_
                  refine g_e 5 1023 [(9, fun h => cellH h a11 = some y13.enc)] (by kernel_rfl) rfl (by kernel_rfl) (e_call Try.call28 rfl (F.spatelaw7_all_ok H)) rfl rfl ?_
                  rintro _ h15 ⟨r16, rfl, H⟩
                  obtain ⟨k17, H⟩ := H
                  refine ⟨And.intro k17 trivial, ?_⟩
                  refine g_e 10 2047 [] (by kernel_rfl) rfl (by kernel_rfl) (e_call Try.call31 rfl (F.spatelaw7_SameRows_ok H)) rfl rfl ?_
                  rintro _ h18 ⟨r19, rfl, H⟩
                  refine ⟨trivial, ?_⟩
                  refine g_p 11 4095 rfl (by kernel_rfl) (y_not rfl) rfl rfl ?_
                  refine g_d (by kernel_rfl) ?_
                  refine tr_thenN ?_
                  refine tr_cond rfl (fun g20 => ?_) (fun g20 => ?_)
                  · replace H := H.1 g20
                    refine tr_seq ?_
                    refine tr_region ?_
                    refine tr_p (y_assign rfl) rfl rfl ?_
                    refine tr_nil ?_
                    refine tr_thenN ?_
                    refine tr_ret ?_
                    refine tr_blockR ?_
                    refine tr_thenR ?_
                    refine tr_thenR ?_
                    refine tr_blockR ?_
                    refine tr_thenR ?_
                    refine tr_blockR ?_
                    refine tr_thenR ?_
                    refine tr_thenR ?_
                    refine tr_blockR ?_
                    refine tr_thenR ?_
                    exact tr_ret1 rfl rfl ⟨_, rfl, H⟩
                  · replace H := H.2 g20
                    refine tr_skip ?_
                    refine tr_blockN ?_
                    refine tr_thenN ?_
                    refine tr_region ?_
                    refine tr_p (y_move rfl) rfl rfl ?_
                    refine tr_p (y_add rfl rfl) rfl rfl ?_
                    refine tr_p (y_assign rfl) rfl rfl ?_
                    refine tr_nil ?_
                    refine tr_thenN ?_
                    exact tr_join [(1, x1.enc), (5, (.pointer x5)), (7, (.int .i64 x7)), (8, x8.enc), (9, x9.enc), (10, (.int .i64 x10)), (11, (.int .i64 (IntKind.wrap .i64 (x11 + 1))))] ⟨rfl, rfl, rfl, rfl, rfl, rfl, rfl, trivial⟩ ⟨_, _, _, _, _, _, _, rfl, H⟩
                · replace H := H.2 g6
                  refine tr_exit ?_
                  refine tr_thenE ?_
                  refine tr_thenE ?_
                  refine tr_hit ?_
                  refine tr_thenN ?_
                  refine tr_seq_j (fun L' h => ∃ (x1 : Sl) (x5 : Option Addr) (x7 : Int) (x8 : Sl) (x9 : Sl) (x10 : Int) (x117 : Bool), L' = [(1, x1.enc), (5, (.pointer x5)), (7, (.int .i64 x7)), (8, x8.enc), (9, x9.enc), (10, (.int .i64 x10)), (117, (.bool x117))] ∧ F.spatelaw7_ShardPast.j8 Q (F.spatelaw7_ShardPast.l2 Q q2) x1 x5 x7 x8 x9 x10 x117 h) ?_ ?_
                  · rintro L' h ⟨x1, x5, x7, x8, x9, x10, x117, rfl, H⟩
                    unfold F.spatelaw7_ShardPast.j8 at H
                    refine tr_cond rfl (fun g21 => ?_) (fun g21 => ?_)
                    · replace H := H.1 g21
                      refine tr_seq ?_
                      refine tr_region ?_
                      refine tr_p (y_assign rfl) rfl rfl ?_
                      refine tr_nil ?_
                      refine tr_thenN ?_
                      refine tr_ret ?_
                      refine tr_blockR ?_
                      refine tr_thenR ?_
                      refine tr_thenR ?_
                      refine tr_blockR ?_
                      refine tr_thenR ?_
                      exact tr_ret1 rfl rfl ⟨_, rfl, H⟩
                    · replace H := H.2 g21
                      refine tr_skip ?_
                      refine tr_blockN ?_
                      refine tr_thenN ?_
                      exact tr_join [(1, x1.enc), (5, (.pointer x5)), (7, (.int .i64 x7)), (8, x8.enc), (9, x9.enc), (10, (.int .i64 x10))] ⟨rfl, rfl, rfl, rfl, rfl, rfl, trivial⟩ ⟨_, _, _, _, _, _, rfl, H⟩
                  · refine tr_region ?_
                    refine tr_p (y_move rfl) rfl rfl ?_
                    refine tr_p (y_move rfl) rfl rfl ?_
                    refine tr_e (e_call Try.call28 rfl (F.spatelaw7_all_ok H)) rfl rfl ?_
                    rintro _ h22 ⟨r23, rfl, H⟩
                    refine tr_p (y_move rfl) rfl rfl ?_
                    refine tr_e (e_call Try.call28 rfl (F.spatelaw7_all_ok H)) rfl rfl ?_
                    rintro _ h24 ⟨r25, rfl, H⟩
                    refine tr_e (e_call Try.call31 rfl (F.spatelaw7_SameRows_ok H)) rfl rfl ?_
                    rintro _ h26 ⟨r27, rfl, H⟩
                    refine tr_p (y_not rfl) rfl rfl ?_
                    refine tr_p (y_move rfl) rfl rfl ?_
                    refine tr_split (t := 108) rfl (fun g28 => ?_) (fun g28 => ?_)
                    · replace H := H.1 g28
                      refine tr_s rfl rfl ?_
                      refine tr_s rfl rfl ?_
                      refine tr_s rfl rfl ?_
                      refine tr_s rfl rfl ?_
                      refine tr_s rfl rfl ?_
                      refine tr_s rfl rfl ?_
                      refine tr_s rfl rfl ?_
                      refine tr_s rfl rfl ?_
                      refine tr_p (y_pick_t rfl rfl) rfl rfl ?_
                      refine tr_nil ?_
                      refine tr_thenN ?_
                      exact tr_join [(1, x1.enc), (5, (.pointer x5)), (7, (.int .i64 x7)), (8, x8.enc), (9, x9.enc), (10, (.int .i64 x10)), (117, (.bool true))] ⟨rfl, rfl, rfl, rfl, rfl, rfl, rfl, trivial⟩ ⟨_, _, _, _, _, _, _, rfl, H⟩
                    · replace H := H.2 g28
                      refine tr_p (y_move rfl) rfl rfl ?_
                      refine tr_p (y_move rfl) rfl rfl ?_
                      refine tr_p (y_add rfl rfl) rfl rfl ?_
                      refine tr_e (e_call Try.call28 rfl (F.spatelaw7_all_ok H)) rfl rfl ?_
                      rintro _ h29 ⟨r30, rfl, H⟩
                      refine tr_p (y_move rfl) rfl rfl ?_
                      refine tr_e (e_call Try.call28 rfl (F.spatelaw7_all_ok H)) rfl rfl ?_
                      rintro _ h31 ⟨r32, rfl, H⟩
                      refine tr_e (e_call Try.call31 rfl (F.spatelaw7_SameRows_ok H)) rfl rfl ?_
                      rintro _ h33 ⟨r34, rfl, H⟩
                      refine tr_p (y_not rfl) rfl rfl ?_
                      refine tr_p (y_pick_f rfl rfl) rfl rfl ?_
                      refine tr_nil ?_
                      refine tr_thenN ?_
                      exact tr_join [(1, x1.enc), (5, (.pointer x5)), (7, (.int .i64 x7)), (8, x8.enc), (9, x9.enc), (10, (.int .i64 x10)), (117, (.bool (!r34)))] ⟨rfl, rfl, rfl, rfl, rfl, rfl, rfl, trivial⟩ ⟨_, _, _, _, _, _, _, rfl, H⟩
            · refine tr_seq ?_
              refine tr_region ?_
              refine tr_p (y_move rfl) rfl rfl ?_
              refine tr_p (y_move rfl) rfl rfl ?_
              obtain ⟨a36, e37, H⟩ := H
              refine tr_p (f_idx (s := x1) Try.runUnderlying62 Try.sizeOf66 rfl rfl e37) rfl rfl ?_
              refine tr_p (y_fa (off := 0) Try.runUnderlying66 fo_66_0 rfl) rfl rfl ?_
              obtain ⟨y38, k39, H⟩ := H
              refine tr_h (y_ld Try.isAgg3 rfl) k39 rfl rfl ?_
              refine tr_e (e_call Try.call15 rfl (F.spatelaw7_within_ok H)) rfl rfl ?_
              rintro _ h40 ⟨r41, rfl, H⟩
              refine tr_p (y_neq rfl rfl) rfl rfl ?_
              refine tr_nil ?_
              refine tr_thenN ?_
              refine tr_cond rfl (fun g42 => ?_) (fun g42 => ?_)
              · replace H := H.1 g42
                refine tr_region ?_
                refine tr_p (y_move rfl) rfl rfl ?_
                refine tr_p (y_move rfl) rfl rfl ?_
                refine tr_p (y_move rfl) rfl rfl ?_
                refine tr_p (y_move rfl) rfl rfl ?_
                obtain ⟨a43, e44, H⟩ := H
                refine tr_p (f_idx (s := x1) Try.runUnderlying62 Try.sizeOf66 rfl rfl e44) rfl rfl ?_
                obtain ⟨y45, k46, H⟩ := H
                refine tr_h (y_ldS Try.isAgg66 Try.sizeOf66 rfl rfl) k46 rfl rfl ?_
                refine tr_e (e_call Try.call30 rfl (F.spatelaw7_apply_ok H)) rfl rfl ?_
                rintro _ h47 ⟨r48, rfl, H⟩
                refine tr_nil ?_
                refine tr_thenN ?_
                exact tr_join [(1, x1.enc), (5, (.pointer x5)), (7, (.int .i64 x7)), (8, x8.enc), (9, x9.enc), (10, (.int .i64 x10))] ⟨rfl, rfl, rfl, rfl, rfl, rfl, trivial⟩ ⟨_, _, _, _, _, _, rfl, H⟩
              · replace H := H.2 g42
                refine tr_skip ?_
                refine tr_thenN ?_
                exact tr_join [(1, x1.enc), (5, (.pointer x5)), (7, (.int .i64 x7)), (8, x8.enc), (9, x9.enc), (10, (.int .i64 x10))] ⟨rfl, rfl, rfl, rfl, rfl, rfl, trivial⟩ ⟨_, _, _, _, _, _, rfl, H⟩
          · refine tr_seq ?_
            refine tr_region ?_
            refine tr_p (y_move rfl) rfl rfl ?_
            refine tr_p (y_move rfl) rfl rfl ?_
            obtain ⟨a49, e50, H⟩ := H
            refine tr_p (f_idx (s := x1) Try.runUnderlying62 Try.sizeOf66 rfl rfl e50) rfl rfl ?_
            refine tr_p (y_fa (off := 1) Try.runUnderlying66 fo_66_1 rfl) rfl rfl ?_
            obtain ⟨y51, k52, H⟩ := H
            refine tr_h (y_ld Try.isAgg3 rfl) k52 rfl rfl ?_
            refine tr_e (e_call Try.call15 rfl (F.spatelaw7_within_ok H)) rfl rfl ?_
            rintro _ h53 ⟨r54, rfl, H⟩
            refine tr_nil ?_
            refine tr_thenN ?_
            refine tr_block ?_
            refine tr_seq ?_
            refine tr_region ?_
            refine tr_p (y_eql rfl rfl) rfl rfl ?_
            refine tr_p (y_assign rfl) rfl rfl ?_
            refine tr_nil ?_
            refine tr_thenN ?_
            refine tr_cond rfl (fun g55 => ?_) (fun g55 => ?_)
            · replace H := H.1 g55
              refine tr_seq ?_
              refine tr_region ?_
              refine tr_p (y_move rfl) rfl rfl ?_
              refine tr_p (y_move rfl) rfl rfl ?_
              refine tr_e (f_buildL (cs := #[(.int .i64 x7)]) rfl rfl (bl_26_1_0 x7) H) rfl rfl ?_
              rintro _ h56 ⟨s57, rfl, H⟩
              refine tr_e (f_app rfl H) rfl rfl ?_
              rintro _ h58 ⟨s59, rfl, H⟩
              refine tr_p (y_assign rfl) rfl rfl ?_
              refine tr_nil ?_
              refine tr_thenN ?_
              refine tr_seq ?_
              refine tr_region ?_
              refine tr_p (y_move rfl) rfl rfl ?_
              refine tr_p (y_move rfl) rfl rfl ?_
              refine tr_e (e_call Try.call28 rfl (F.spatelaw7_all_ok H)) rfl rfl ?_
              rintro _ h60 ⟨r61, rfl, H⟩
              refine tr_e (f_buildL (cs := #[r61.enc]) rfl rfl (bl_63_1_0 r61) H) rfl rfl ?_
              rintro _ h62 ⟨s63, rfl, H⟩
              refine tr_e (f_app rfl H) rfl rfl ?_
              rintro _ h64 ⟨s65, rfl, H⟩
              refine tr_p (y_assign rfl) rfl rfl ?_
              refine tr_nil ?_
              refine tr_thenN ?_
              refine tr_region ?_
              refine tr_p (y_move rfl) rfl rfl ?_
              refine tr_p (y_add rfl rfl) rfl rfl ?_
              refine tr_p (y_assign rfl) rfl rfl ?_
              refine tr_nil ?_
              refine tr_blockN ?_
              refine tr_thenN ?_
              exact tr_join [(1, x1.enc), (5, (.pointer x5)), (7, (.int .i64 (IntKind.wrap .i64 (x7 + 1)))), (8, s59.enc), (9, s65.enc), (10, (.int .i64 x10))] ⟨rfl, rfl, rfl, rfl, rfl, rfl, trivial⟩ ⟨_, _, _, _, _, _, rfl, H⟩
            · replace H := H.2 g55
              refine tr_seq ?_
              refine tr_region ?_
              refine tr_p (y_eql rfl rfl) rfl rfl ?_
              refine tr_p (y_assign rfl) rfl rfl ?_
              refine tr_nil ?_
              refine tr_thenN ?_
              refine tr_cond rfl (fun g66 => ?_) (fun g66 => ?_)
              · replace H := H.1 g66
                refine tr_region ?_
                refine tr_p (y_move rfl) rfl rfl ?_
                refine tr_p (y_move rfl) rfl rfl ?_
                refine tr_e (e_call Try.call29 rfl (F.spatelaw7_LendInts_ok H)) rfl rfl ?_
                rintro _ h67 ⟨r68, rfl, H⟩
                refine tr_e (e_call Try.call25 rfl (F.shard_Shard_Prune_ok H)) rfl rfl ?_
                rintro _ h69 ⟨r70, rfl, H⟩
                refine tr_nil ?_
                refine tr_blockN ?_
                refine tr_thenN ?_
                exact tr_join [(1, x1.enc), (5, (.pointer x5)), (7, (.int .i64 x7)), (8, x8.enc), (9, x9.enc), (10, (.int .i64 x10))] ⟨rfl, rfl, rfl, rfl, rfl, rfl, trivial⟩ ⟨_, _, _, _, _, _, rfl, H⟩
              · replace H := H.2 g66
                refine tr_seq ?_
                refine tr_region ?_
                refine tr_p (y_eql rfl rfl) rfl rfl ?_
                refine tr_p (y_assign rfl) rfl rfl ?_
                refine tr_nil ?_
                refine tr_thenN ?_
                refine tr_cond rfl (fun g71 => ?_) (fun g71 => ?_)
                · replace H := H.1 g71
                  refine tr_seq ?_
                  refine tr_region ?_
                  refine tr_p (y_move rfl) rfl rfl ?_
                  refine tr_p (y_len (ts := #[]) Try.runUnderlying26 (o := x8.ptr) (n := x8.len) (cap := x8.cap) rfl) rfl rfl ?_
                  refine tr_p (y_gtr rfl rfl) rfl rfl ?_
                  refine tr_nil ?_
                  refine tr_thenN ?_
                  refine tr_cond rfl (fun g72 => ?_) (fun g72 => ?_)
                  · replace H := H.1 g72
                    refine tr_seq ?_
                    refine tr_region ?_
                    refine tr_p (y_move rfl) rfl rfl ?_
                    obtain ⟨s74, e73, H⟩ := H
                    refine tr_p (f_cutL (s := x8) (some (.i64, 1)) none Try.runUnderlying26 Try.sizeOf3 rfl rfl rfl e73) rfl rfl ?_
                    refine tr_p (y_assign rfl) rfl rfl ?_
                    refine tr_nil ?_
                    refine tr_thenN ?_
                    refine tr_region ?_
                    refine tr_p (y_move rfl) rfl rfl ?_
                    obtain ⟨s76, e75, H⟩ := H
                    refine tr_p (f_cutL (s := x9) (some (.i64, 1)) none Try.runUnderlying63 Try.sizeOf59 rfl rfl rfl e75) rfl rfl ?_
                    refine tr_p (y_assign rfl) rfl rfl ?_
                    refine tr_nil ?_
                    refine tr_blockN ?_
                    refine tr_thenN ?_
                    exact tr_join [(1, x1.enc), (5, (.pointer x5)), (7, (.int .i64 x7)), (8, s74.enc), (9, s76.enc), (10, (.int .i64 x10))] ⟨rfl, rfl, rfl, rfl, rfl, rfl, trivial⟩ ⟨_, _, _, _, _, _, rfl, H⟩
                  · replace H := H.2 g72
                    refine tr_skip ?_
                    refine tr_blockN ?_
                    refine tr_thenN ?_
                    exact tr_join [(1, x1.enc), (5, (.pointer x5)), (7, (.int .i64 x7)), (8, x8.enc), (9, x9.enc), (10, (.int .i64 x10))] ⟨rfl, rfl, rfl, rfl, rfl, rfl, trivial⟩ ⟨_, _, _, _, _, _, rfl, H⟩
                · replace H := H.2 g71
                  refine tr_skip ?_
                  refine tr_blockN ?_
                  refine tr_thenN ?_
                  exact tr_join [(1, x1.enc), (5, (.pointer x5)), (7, (.int .i64 x7)), (8, x8.enc), (9, x9.enc), (10, (.int .i64 x10))] ⟨rfl, rfl, rfl, rfl, rfl, rfl, trivial⟩ ⟨_, _, _, _, _, _, rfl, H⟩
      · refine tr_seq_j (fun L' h => ∃ (x1 : Sl) (x5 : Option Addr) (x7 : Int) (x8 : Sl) (x9 : Sl) (x10 : Int) (x32 : Bool), L' = [(1, x1.enc), (5, (.pointer x5)), (7, (.int .i64 x7)), (8, x8.enc), (9, x9.enc), (10, (.int .i64 x10)), (32, (.bool x32))] ∧ F.spatelaw7_ShardPast.j9 Q (F.spatelaw7_ShardPast.l2 Q q2) x1 x5 x7 x8 x9 x10 x32 h) ?_ ?_
        · rintro L' h ⟨x1, x5, x7, x8, x9, x10, x32, rfl, H⟩
          unfold F.spatelaw7_ShardPast.j9 at H
          refine tr_cond rfl (fun g77 => ?_) (fun g77 => ?_)
          · replace H := H.1 g77
            refine tr_skip ?_
            refine tr_thenN ?_
            exact tr_join [(1, x1.enc), (5, (.pointer x5)), (7, (.int .i64 x7)), (8, x8.enc), (9, x9.enc), (10, (.int .i64 x10))] ⟨rfl, rfl, rfl, rfl, rfl, rfl, trivial⟩ ⟨_, _, _, _, _, _, rfl, H⟩
          · replace H := H.2 g77
            refine tr_exit ?_
            refine tr_thenE ?_
            refine tr_thenE ?_
            refine tr_hit ?_
            refine tr_thenN ?_
            refine tr_seq ?_
            refine tr_region ?_
            refine tr_e (e_call Try.call12 rfl (F.spatelaw7_head_ok H)) rfl rfl ?_
            rintro _ h78 ⟨r79, rfl, H⟩
            refine tr_p (y_assign rfl) rfl rfl ?_
            refine tr_nil ?_
            refine tr_thenN ?_
            refine tr_ret ?_
            exact tr_ret1 rfl rfl ⟨_, rfl, H⟩
        · refine tr_region ?_
          refine tr_p (y_move rfl) rfl rfl ?_
          refine tr_p (y_move rfl) rfl rfl ?_
          refine tr_p (y_len (ts := #[]) Try.runUnderlying62 (o := x1.ptr) (n := x1.len) (cap := x1.cap) rfl) rfl rfl ?_
          refine tr_p (y_lss rfl rfl) rfl rfl ?_
          refine tr_p (y_move rfl) rfl rfl ?_
          refine tr_split (t := 29) rfl (fun g80 => ?_) (fun g80 => ?_)
          · replace H := H.1 g80
            refine tr_p (y_move rfl) rfl rfl ?_
            refine tr_p (y_lss rfl rfl) rfl rfl ?_
            refine tr_p (y_pick_t rfl rfl) rfl rfl ?_
            refine tr_nil ?_
            refine tr_thenN ?_
            exact tr_join [(1, x1.enc), (5, (.pointer x5)), (7, (.int .i64 x7)), (8, x8.enc), (9, x9.enc), (10, (.int .i64 x10)), (32, (.bool (decide (x10 < 80))))] ⟨rfl, rfl, rfl, rfl, rfl, rfl, rfl, trivial⟩ ⟨_, _, _, _, _, _, _, rfl, H⟩
          · replace H := H.2 g80
            refine tr_s rfl rfl ?_
            refine tr_s rfl rfl ?_
            refine tr_p (y_pick_f rfl rfl) rfl rfl ?_
            refine tr_nil ?_
            refine tr_thenN ?_
            exact tr_join [(1, x1.enc), (5, (.pointer x5)), (7, (.int .i64 x7)), (8, x8.enc), (9, x9.enc), (10, (.int .i64 x10)), (32, (.bool false))] ⟨rfl, rfl, rfl, rfl, rfl, rfl, rfl, trivial⟩ ⟨_, _, _, _, _, _, _, rfl, H⟩
  · refine tr_seq_j (fun L' h => ∃ (x1 : Sl) (x5 : Option Addr) (x24 : Bool), L' = [(1, x1.enc), (5, (.pointer x5)), (24, (.bool x24))] ∧ F.spatelaw7_ShardPast.j10 Q x1 x5 x24 h) ?_ ?_
    · rintro L' h ⟨x1, x5, x24, rfl, H⟩
      unfold F.spatelaw7_ShardPast.j10 at H
      refine tr_cond rfl (fun g82 => ?_) (fun g82 => ?_)
      · replace H := H.1 g82
        refine tr_seq ?_
        refine tr_region ?_
        refine tr_p (y_assign rfl) rfl rfl ?_
        refine tr_nil ?_
        refine tr_thenN ?_
        refine tr_ret ?_
        refine tr_thenR ?_
        exact tr_ret1 rfl rfl ⟨_, rfl, H⟩
      · replace H := H.2 g82
        refine tr_skip ?_
        refine tr_thenN ?_
        exact tr_join [(1, x1.enc), (5, (.pointer x5))] ⟨rfl, rfl, trivial⟩ ⟨_, _, rfl, H⟩
    · refine tr_region ?_
      refine tr_p (y_move rfl) rfl rfl ?_
      refine tr_p (y_neq rfl rfl) rfl rfl ?_
      refine tr_p (y_move rfl) rfl rfl ?_
      refine tr_split (t := 21) rfl (fun g83 => ?_) (fun g83 => ?_)
      · replace H := H.1 g83
        refine tr_s rfl rfl ?_
        refine tr_s rfl rfl ?_
        refine tr_p (y_pick_t rfl rfl) rfl rfl ?_
        refine tr_nil ?_
        refine tr_thenN ?_
        exact tr_join [(1, p1.enc), (5, (.pointer r4)), (24, (.bool true))] ⟨rfl, rfl, rfl, trivial⟩ ⟨_, _, _, rfl, H⟩
      · replace H := H.2 g83
        refine tr_p (y_move rfl) rfl rfl ?_
        refine tr_p (y_pnil_eql Try.runUnderlying27 rfl rfl) rfl rfl ?_
        refine tr_p (y_pick_f rfl rfl) rfl rfl ?_
        refine tr_nil ?_
        refine tr_thenN ?_
        exact tr_join [(1, p1.enc), (5, (.pointer r4)), (24, (.bool r4.isNone))] ⟨rfl, rfl, rfl, trivial⟩ ⟨_, _, _, rfl, H⟩
end Go.Proofs.Ytoccbnhahaoeiaa.V
namespace Go.Proofs.Ytoccbnhahaoeiaa.V
open Go
set_option linter.unusedVariables false
set_option linter.unusedSimpArgs false
abbrev Cel := S_api_Cell
theorem cU_one (b : UInt8) : ∀ v ∈ cU b, v.oneCell' = true := one1 rfl
theorem Blk.cells3 {h : H} {n : Nat} {c : Cel} {e : TypeId} (k : Blk h n c.cells.toArray e) : Cells h ⟨n, 0, none⟩ c.cells := fun j v hv => by rw [add_lit, Nat.zero_add]; exact k.cell (by simpa using hv)
def mayC (c : Cel) : Int := if c.View < 0 ∨ c.View > 4 then 23 else if (c.Key.size : Int) > 32 then 21 else if c.Start < -2305843009213693952 ∨ c.Start > 2305843009213693952 then 22 else 0
theorem mayC_spec {h : H} {c : Cel} {Q : Int → H → Prop} (k : ∀ h', Ext h h' → Q (mayC c) h') : F.merge_may c h Q := by
  unfold F.merge_may
  refine new_of fun n h1 e1 e2 e3 e4 => ?_
  have k := k h1 e3
  unfold mayC at k
  simp only [F.merge_may.j1, F.merge_may.j2, add_lit, Nat.zero_add, ldI_iff (e2.cell (i := 0) (v := .int .i64 c.View) rfl), ldS_iff (e2.cell (i := 1) (v := .string c.Key) rfl), ldI_iff (e2.cell (i := 2) (v := .int .i64 c.Start) rfl), decide_eq_true_eq, decide_eq_false_iff_not]
  have hb : ¬ (c.View < 0 ∨ c.View > 4) → ((c.Key.size : Int) > 32 → Q 21 h1) ∧ (¬ (c.Key.size : Int) > 32 → (c.Start < -2305843009213693952 → (True → Q 22 h1) ∧ (true = false → Q 0 h1)) ∧ (¬ c.Start < -2305843009213693952 → (c.Start > 2305843009213693952 → Q 22 h1) ∧ (¬ c.Start > 2305843009213693952 → Q 0 h1))) := fun g => by
    rw [if_neg g] at k
    refine ⟨fun g1 => by rw [if_pos g1] at k; exact k, fun g1 => ?_⟩
    rw [if_neg g1] at k
    refine ⟨fun g2 => ⟨fun _ => by rw [if_pos (.inl g2)] at k; exact k, fun h => by cases h⟩, fun g2 => ⟨fun g3 => by rw [if_pos (.inr g3)] at k; exact k, fun g3 => by rw [if_neg (by omega)] at k; exact k⟩⟩
  refine ⟨fun g => ⟨fun _ => by rw [if_pos (.inl g)] at k; exact k, fun h => by cases h⟩, fun g => ⟨fun g2 => by rw [if_pos (.inr g2)] at k; exact k, fun g2 => hb (by omega)⟩⟩
def escL : List UInt8 → List UInt8
  | [] => []
  | b :: r => if b = 0 then 0 :: 255 :: escL r else b :: escL r
theorem escL_snoc (b : UInt8) : ∀ l, escL (l ++ [b]) = escL l ++ (if b = 0 then [0, 255] else [b])
  | [] => by by_cases h : b = 0 <;> simp [escL, h]
  | x :: r => by simp only [List.cons_append, escL, escL_snoc b r]; split <;> simp
theorem escL_len : ∀ l : List UInt8, (escL l).length ≤ 2 * l.length
  | [] => by simp [escL]
  | b :: r => by have := escL_len r; simp only [escL]; split <;> simp <;> omega
def beT (u : Nat) : Nat → List UInt8
  | 0 => []
  | j + 1 => UInt8.ofNat (u / 2 ^ (8 * j)) :: beT u j
theorem beT_len (u : Nat) : ∀ j, (beT u j).length = j
  | 0 => rfl
  | j + 1 => by simp [beT, beT_len u j]
def upU (n : Int) : Nat := (IntKind.wrap .u64 (IntKind.wrap .u64 n + 9223372036854775808)).toNat
def keyL (c : Cel) : List UInt8 := UInt8.ofNat c.View.toNat :: (escL c.Key.data.toList ++ [0, 1] ++ beT (upU c.Start) 8)
theorem wrap_u64 (n : Int) : IntKind.wrap .u64 n = n % 18446744073709551616 := by
  unfold IntKind.wrap; simp [IntKind.bits, IntKind.signed]
theorem wrap_u8 (n : Int) : IntKind.wrap .u8 n = n % 256 := by
  unfold IntKind.wrap; simp [IntKind.bits, IntKind.signed]
theorem upU_eq (n : Int) : ((upU n : Nat) : Int) = IntKind.wrap .u64 (IntKind.wrap .u64 n + 9223372036854775808) := by
  unfold upU
  rw [Int.toNat_of_nonneg]
  rw [wrap_u64]; omega
theorem fdiv_pow (u i : Nat) : Int.fdiv (u : Int) (2 ^ i : Int) = ((u / 2 ^ i : Nat) : Int) := by
  have e : (2 ^ i : Int) = ((2 ^ i : Nat) : Int) := by simp
  rw [e, Int.ofNat_fdiv]
theorem u8_of (n : Nat) : ((UInt8.ofNat n).toNat : Int) = IntKind.wrap .u8 (n : Int) := by
  rw [wrap_u8]; simp
theorem key_tail {h0 : H} {u : Nat} {Q : ByteArray → Int → H → Prop} {L0 : List UInt8} (hL0 : L0.length ≤ 1000) (k : ∀ h', Ext h0 h' → Q ⟨(L0 ++ beT u 8).toArray⟩ 0 h') :
    ∀ (j m : Nat) (h : H) (s : Sl) (L : List UInt8), j ≤ 8 → j < m → Ext h0 h → Owns h s 5 1 (L.flatMap cU) → Mine h0 s → L ++ beT u j = L0 ++ beT u 8 → F.merge_Key.l2 Q m s (u : Int) (8 * (j : Int) - 8) h
  | j, 0, h, s, L, _, hm, _, _, _, _ => by omega
  | j, m + 1, h, s, L, hj, hm, e0, ow, mi, hL => by
    unfold F.merge_Key.l2
    simp only [decide_eq_true_eq, decide_eq_false_iff_not]
    have hlen : L.length + j = L0.length + 8 := by have := congrArg List.length hL; simpa [beT_len] using this
    refine ⟨fun g => ⟨g, ?_⟩, fun g => ?_⟩
    · obtain ⟨i, rfl⟩ : ∃ i, j = i + 1 := ⟨j - 1, by omega⟩
      have hb : IntKind.wrap .u8 (Int.fdiv (u : Int) (2 ^ (min (8 * ((i + 1 : Nat) : Int) - 8).toNat (IntKind.bits .u64)) : Int)) = ((UInt8.ofNat (u / 2 ^ (8 * i))).toNat : Int) := by
        rw [u8_of, show (8 * ((i + 1 : Nat) : Int) - 8).toNat = 8 * i from by omega, show min (8 * i) (IntKind.bits .u64) = 8 * i from by simp [IntKind.bits]; omega]
        rw [fdiv_pow]
      rw [hb]
      refine push_mine (f := cU) (UInt8.ofNat (u / 2 ^ (8 * i))) e0 mi cU_len (by omega) el_Sluint8 ow cU_one (by omega) fun r h1 q1 q2 q3 q4 q5 => ?_
      rw [w64 (by omega) (by omega), show 8 * ((i + 1 : Nat) : Int) - 8 - 8 = 8 * (i : Int) - 8 from by omega]
      refine key_tail hL0 k i m h1 r _ (by omega) (by omega) q2 q1 q3 ?_
      rw [← hL]; simp [beT]
    · have : j = 0 := by omega
      subst this
      refine cvtT_of (l := L) el_Sluint8.slice Try.underlying5 Try.underlying9 ow.reads ?_
      have : L = L0 ++ beT u 8 := by simpa [beT] using hL
      rw [this]; exact k h e0
theorem key_loop {h0 : H} {c : Cel} {n : Nat} {Q : ByteArray → Int → H → Prop} {pre : UInt8} (hk : c.Key.size ≤ 32) (k : ∀ h', Ext h0 h' → Q ⟨(pre :: (escL c.Key.data.toList ++ [0, 1] ++ beT (upU c.Start) 8)).toArray⟩ 0 h') (hn : h0.size ≤ n) :
    ∀ (m i : Nat) (h : H) (s : Sl), i ≤ c.Key.size → c.Key.size - i < m → Ext h0 h → Blk h n c.cells.toArray tn_api_Cell → n < h.size → Owns h s 5 1 ((pre :: escL (c.Key.data.toList.take i)).flatMap cU) → Mine h0 s → s.blk ≠ some n →
    F.merge_Key.l1 Q m ⟨n, 0, none⟩ s (c.Key.size : Int) (i : Int) h
  | 0, i, h, s, _, hm, _, _, _, _, _, _ => by omega
  | m + 1, i, h, s, hi, hm, e0, bl, hnl, ow, mi, hne => by
    unfold F.merge_Key.l1
    simp only [decide_eq_true_eq, decide_eq_false_iff_not, add_lit, Nat.zero_add]
    have hel := escL_len (c.Key.data.toList.take i)
    rw [List.length_take, ← size_data] at hel
    refine ⟨fun g => ?_, fun g => ?_⟩
    · rw [ldS_iff (bl.cell (i := 1) (v := .string c.Key) rfl)]
      obtain ⟨b, hb⟩ : ∃ b, c.Key.data.toList[i]? = some b := ⟨_, List.getElem?_eq_getElem (by rw [← size_data]; omega)⟩
      refine idxS_of hb rfl ?_
      have htk : escL (c.Key.data.toList.take (i + 1)) = escL (c.Key.data.toList.take i) ++ (if b = 0 then [0, 255] else [b]) := by rw [List.take_add_one, hb]; exact escL_snoc b _
      refine push_mine (f := cU) b e0 mi cU_len (by omega) el_Sluint8 ow cU_one (by simp; omega) fun r h1 q1 q2 q3 q4 q5 => ?_
      have bl1 : Blk h1 n c.cells.toArray tn_api_Cell := q4.block bl hne
      have hg1 := q4.size
      have hne1 : r.blk ≠ some n := by
        rcases q5 with q5 | ⟨x, q5, q6⟩
        · rw [q5]; exact hne
        · rw [q5]; intro e; cases e; omega
      rw [ldS_iff (bl1.cell (i := 1) (v := .string c.Key) rfl)]
      refine idxS_of hb rfl ?_
      have hw : IntKind.wrap .i64 ((i : Int) + 1) = ((i + 1 : Nat) : Int) := by rw [w64 (by omega) (by omega)]; omega
      rw [hw, beq_iff_eq, beq_eq_false_iff_ne]
      have hb0 : (b.toNat : Int) = 0 ↔ b = 0 := by
        constructor
        · intro h; exact UInt8.toNat_inj.1 (by simpa using (by omega : b.toNat = 0))
        · intro h; subst h; rfl
      rw [hb0, Ne, hb0]
      refine ⟨fun g2 => ?_, fun g2 => ?_⟩
      · refine push_mine (f := cU) 255 q2 q3 cU_len (by omega) el_Sluint8 q1 cU_one (by simp; omega) fun r2 h2 p1 p2 p3 p4 p5 => ?_
        have hne2 : r2.blk ≠ some n := by
          rcases p5 with p5 | ⟨x, p5, p6⟩
          · rw [p5]; exact hne1
          · rw [p5]; intro e; cases e; omega
        refine key_loop hk k hn m (i + 1) h2 r2 (by omega) (by omega) p2 (p4.block bl1 hne1) (by have := p4.size; omega) ?_ p3 hne2
        rw [htk, if_pos g2]; subst g2; simpa using p1
      · refine key_loop hk k hn m (i + 1) h1 r (by omega) (by omega) q2 bl1 (by omega) ?_ q3 hne1
        rw [htk, if_neg g2]; simpa using q1
    · have hii : i = c.Key.size := by omega
      subst hii
      refine newL_of fun x h1 e1 e2 e3 e4 => ?_
      refine app_mine (f := cU) (M := [0, 1]) (e0.trans e3) mi cU_len (by omega) el_Sluint8 (ow.ext e3) (blk_reads (show Blk h1 x (([0, 1] : List UInt8).flatMap cU).toArray 5 from e2) rfl) cU_one (by simp; omega) fun r h2 q1 q2 q3 q4 q5 => ?_
      have bl1 : Blk h2 n c.cells.toArray tn_api_Cell := q4.block (e3.block bl (fun f => f)) hne
      rw [ldI_iff (bl1.cell (i := 2) (v := .int .i64 c.Start) rfl), ← upU_eq]
      refine ⟨9, ?_⟩
      have ht : c.Key.data.toList.take c.Key.size = c.Key.data.toList := List.take_of_length_le (by rw [← size_data]; omega)
      rw [ht] at q1
      have hl2 := escL_len c.Key.data.toList
      rw [← size_data] at hl2
      refine key_tail (L0 := pre :: (escL c.Key.data.toList ++ [0, 1])) (by simp; omega) (by simpa using k) 8 9 h2 r _ (by omega) (by omega) q2 q1 q3 (by simp)
theorem Key_spec {h : H} {c : Cel} {Q : ByteArray → Int → H → Prop} (k0 : mayC c ≠ 0 → ∀ h', Ext h h' → Q ⟨#[]⟩ (mayC c) h') (k1 : mayC c = 0 → ∀ h', Ext h h' → Q ⟨(keyL c).toArray⟩ 0 h') : F.merge_Key c h Q := by
  unfold F.merge_Key
  refine new_of fun n h1 e1 e2 e3 e4 => ?_
  refine ⟨c, e2.cells3, mayC_spec fun h2 f1 => ?_⟩
  have e5 := e3.trans f1
  have bl : Blk h2 n c.cells.toArray tn_api_Cell := f1.block e2 (fun f => f)
  refine ⟨fun g => k0 (by simpa using g) h2 e5, fun g => ?_⟩
  have hm : mayC c = 0 := by simpa using g
  simp only [add_lit, Nat.zero_add]
  rw [ldI_iff (bl.cell (i := 0) (v := .int .i64 c.View) rfl)]
  have hv : 0 ≤ c.View ∧ c.View ≤ 4 ∧ c.Key.size ≤ 32 := by
    unfold mayC at hm
    split at hm
    · omega
    · split at hm
      · omega
      · omega
  have hw : IntKind.wrap .u8 c.View = ((UInt8.ofNat c.View.toNat).toNat : Int) := by rw [u8_of, Int.toNat_of_nonneg hv.1]
  rw [hw]
  refine newL_of fun x h3 g1 g2 g3 g4 => ?_
  have bl3 : Blk h3 n c.cells.toArray tn_api_Cell := g3.block bl (fun f => f)
  rw [ldS_iff (bl3.cell (i := 1) (v := .string c.Key) rfl)]
  have hs := e5.size
  have hs3 := e3.size
  have hf1 := f1.size
  refine ⟨c.Key.size + 1, ?_⟩
  refine key_loop (h0 := h) (pre := UInt8.ofNat c.View.toNat) hv.2.2 (fun h' e => k1 hm h' e) (by omega) _ 0 h3 _ (by omega) (by omega) (e5.trans g3) bl3 (by omega) (show Owns h3 ⟨some ⟨x, 0, none⟩, 1, 1⟩ 5 1 [.int .u8 ((UInt8.ofNat c.View.toNat).toNat : Int)] from blk_owns (m := 1) g2 rfl (by simp [maxLen])) (fun b hb => by simp [Sl.blk] at hb; omega) (by simp [Sl.blk]; omega)
end Go.Proofs.Ytoccbnhahaoeiaa.V
namespace Go.Proofs.Ytoccbnhahaoeiaa.V
open Go
set_option linter.unusedVariables false
set_option linter.unusedSimpArgs false
/-- The key's letters, and what lies behind them; or the error. -/
def unesc : List UInt8 → Except Int (List UInt8 × List UInt8)
  | [] => .error 11
  | b :: r => if b ≠ 0 then (match unesc r with | .ok p => .ok (b :: p.1, p.2) | .error e => .error e) else
    match r with
    | [] => .error 11
    | x :: r' => if x = 1 then .ok ([], r') else if x ≠ 255 then .error 12 else (match unesc r' with | .ok p => .ok (0 :: p.1, p.2) | .error e => .error e)
def beV : Nat → List UInt8 → Nat
  | u, [] => u
  | u, b :: r => beV (u * 256 + b.toNat) r
def zeroC : Cel := ⟨0, ⟨#[]⟩, 0⟩
def startOf (u : Nat) : Int := IntKind.wrap .i64 (IntKind.wrap .u64 ((u : Int) - 9223372036854775808))
def finC (v : UInt8) (key t : List UInt8) : Cel × Int :=
  if t.length < 8 then (zeroC, 11) else if t.length > 8 then (zeroC, 13) else
  if mayC ⟨(v.toNat : Int), ⟨key.toArray⟩, startOf (beV 0 t)⟩ ≠ 0 then (zeroC, mayC ⟨(v.toNat : Int), ⟨key.toArray⟩, startOf (beV 0 t)⟩) else (⟨(v.toNat : Int), ⟨key.toArray⟩, startOf (beV 0 t)⟩, 0)
def cellM : List UInt8 → Cel × Int
  | [] => (zeroC, 11)
  | v :: r => match unesc r with
    | .error e => (zeroC, e)
    | .ok p => finC v p.1 p.2
theorem unesc_ne {b : UInt8} {r : List UInt8} (h : b ≠ 0) : unesc (b :: r) = (match unesc r with | .ok p => .ok (b :: p.1, p.2) | .error e => .error e) := by
  rw [unesc.eq_def]; simp only [if_pos h]
theorem cellM_cons (v : UInt8) (r : List UInt8) : cellM (v :: r) = (match unesc r with | .error e => (zeroC, e) | .ok p => finC v p.1 p.2) := rfl
theorem or_byte {u : Nat} {b : UInt8} (hu : u < 72057594037927936) : bitsOf .or .u64 (IntKind.wrap .u64 ((u : Int) * (2 ^ (min (8 : Int).toNat (IntKind.bits .u64)) : Int))) (IntKind.wrap .u64 (b.toNat : Int)) = ((u * 256 + b.toNat : Nat) : Int) := by
  have hb : b.toNat < 256 := b.toNat_lt
  have e1 : IntKind.wrap .u64 ((u : Int) * (2 ^ (min (8 : Int).toNat (IntKind.bits .u64)) : Int)) = ((u * 256 : Nat) : Int) := by
    rw [show (2 ^ (min (8 : Int).toNat (IntKind.bits .u64)) : Int) = 256 from by simp [IntKind.bits], wrap_u64]; omega
  have e2 : IntKind.wrap .u64 (b.toNat : Int) = ((b.toNat : Nat) : Int) := by rw [wrap_u64]; omega
  rw [e1, e2]
  simp only [bitsOf]
  rw [BitVec.ofInt_natCast, BitVec.ofInt_natCast, BitVec.toNat_or, BitVec.toNat_ofNat, BitVec.toNat_ofNat, wrap_u64]
  have e3 : u * 256 % 2 ^ (IntKind.bits .u64) = u * 256 := Nat.mod_eq_of_lt (by simp [IntKind.bits]; omega)
  have e4 : b.toNat % 2 ^ (IntKind.bits .u64) = b.toNat := Nat.mod_eq_of_lt (by simp [IntKind.bits]; omega)
  rw [e3, e4]
  have e5 : u * 256 ||| b.toNat = u * 256 + b.toNat := by
    have := Nat.two_pow_add_eq_or_of_lt (i := 8) hb u
    rw [show (2 : Nat) ^ 8 * u = u * 256 from by omega] at this
    exact this.symm
  rw [e5]; omega
theorem st_cell {h : H} {n : Nat} {c d : Cel} {K : H → Prop} (b : Blk h n c.cells.toArray tn_api_Cell) (k : ∀ h', Blk h' n d.cells.toArray tn_api_Cell → Only (· = n) h h' → h'.size = h.size → K h') : stH h ⟨n, 0, none⟩ d.cells K :=
  stH_of b (by simp [S_api_Cell.cells]) fun h' q1 q2 q3 => k h' (by rw [writeA_all (by simp [S_api_Cell.cells])] at q1; exact q1) q2 q3
theorem st_key {h : H} {n : Nat} {c : Cel} {s : ByteArray} {K : H → Prop} (b : Blk h n c.cells.toArray tn_api_Cell) (k : ∀ h', Blk h' n (⟨c.View, s, c.Start⟩ : Cel).cells.toArray tn_api_Cell → Only (· = n) h h' → h'.size = h.size → K h') : stH h ⟨n, 1, none⟩ [.string s] K :=
  stH_of b (by simp [S_api_Cell.cells]) fun h' q1 q2 q3 => k h' (by
    have : writeA (S_api_Cell.cells c).toArray 1 [.string s] = (⟨c.View, s, c.Start⟩ : Cel).cells.toArray := by simp [writeA, S_api_Cell.cells]
    rw [this] at q1; exact q1) q2 q3
theorem st_start {h : H} {n : Nat} {c : Cel} {u : Int} {K : H → Prop} (b : Blk h n c.cells.toArray tn_api_Cell) (k : ∀ h', Blk h' n (⟨c.View, c.Key, u⟩ : Cel).cells.toArray tn_api_Cell → Only (· = n) h h' → h'.size = h.size → K h') : stH h ⟨n, 2, none⟩ [.int .i64 u] K :=
  stH_of b (by simp [S_api_Cell.cells]) fun h' q1 q2 q3 => k h' (by
    have : writeA (S_api_Cell.cells c).toArray 2 [.int .i64 u] = (⟨c.View, c.Key, u⟩ : Cel).cells.toArray := by simp [writeA, S_api_Cell.cells]
    rw [this] at q1; exact q1) q2 q3
/-- An error is told. -/
theorem told_err {h0 h : H} {n : Nat} {c : Cel} {e : Int} {Q : Cel → Int → H → Prop} (k : ∀ h', Ext h0 h' → Q zeroC e h') (e0 : Ext h0 h) (hn : h0.size ≤ n) (b : Blk h n c.cells.toArray tn_api_Cell) :
    stH h ⟨n, 0, none⟩ ((⟨0, (⟨#[]⟩ : ByteArray), 0⟩ : S_api_Cell).cells) fun h13 => ld_S_api_Cell h13 ⟨n, 0, none⟩ fun y14 => Q y14 e h13 :=
  st_cell b fun h' q1 q2 q3 => ⟨zeroC, q1.cells3, k h' (e0.step q2 fun m hm e => by omega)⟩
theorem cell_tail {h0 : H} {str : ByteArray} {n2 n4 : Nat} {Q : Cel → Int → H → Prop} {v : UInt8} {key : List UInt8} (hs : str.size < 1000000000000000000) (hn2 : h0.size ≤ n2) (hn4 : h0.size ≤ n4) (hne : n2 ≠ n4) {U : Nat}
    (k : ∀ h', Ext h0 h' → Q (if mayC ⟨(v.toNat : Int), ⟨key.toArray⟩, startOf U⟩ ≠ 0 then (zeroC, mayC ⟨(v.toNat : Int), ⟨key.toArray⟩, startOf U⟩) else (⟨(v.toNat : Int), ⟨key.toArray⟩, startOf U⟩, 0)).1 (if mayC ⟨(v.toNat : Int), ⟨key.toArray⟩, startOf U⟩ ≠ 0 then (zeroC, mayC ⟨(v.toNat : Int), ⟨key.toArray⟩, startOf U⟩) else ((⟨(v.toNat : Int), ⟨key.toArray⟩, startOf U⟩ : Cel), 0)).2 h') :
    ∀ (m i u : Nat) (h : H) (s : Sl) (c2 : Cel), Ext h0 h → i ≤ str.size → str.size ≤ i + 8 → u < 256 ^ (i + 8 - str.size) → beV u (str.data.toList.drop i) = U → str.size - i < m → Blk h n2 c2.cells.toArray tn_api_Cell → Blk h n4 (⟨(v.toNat : Int), ⟨#[]⟩, 0⟩ : Cel).cells.toArray tn_api_Cell → Reads h s 1 (key.flatMap cU) →
    F.merge_Cell.l2 Q m str ⟨n2, 0, none⟩ ⟨n4, 0, none⟩ (i : Int) s (u : Int) h
  | 0, i, u, h, s, c2, _, _, _, _, _, hm, _, _, _ => by omega
  | m + 1, i, u, h, s, c2, e0, hi, hi8, hu, hU, hm, b2, b4, rd => by
    unfold F.merge_Cell.l2
    simp only [decide_eq_true_eq, decide_eq_false_iff_not]
    refine ⟨fun g => ⟨by omega, ?_⟩, fun g => ?_⟩
    · obtain ⟨b, hb⟩ : ∃ b, str.data.toList[i]? = some b := ⟨_, List.getElem?_eq_getElem (by rw [← size_data]; omega)⟩
      refine idxS_of hb rfl ?_
      have hd : str.data.toList.drop i = b :: str.data.toList.drop (i + 1) := by
        obtain ⟨hh, rfl⟩ := List.getElem?_eq_some_iff.1 hb
        exact List.drop_eq_getElem_cons hh
      rw [hd, beV] at hU
      have hp : 256 ^ (i + 8 - str.size) ≤ 256 ^ 7 := Nat.pow_le_pow_right (by omega) (by omega)
      rw [or_byte (by have : (256 : Nat) ^ 7 = 72057594037927936 := by decide
                      omega), show IntKind.wrap .i64 ((i : Int) + 1) = ((i + 1 : Nat) : Int) from by rw [w64 (by omega) (by omega)]; omega]
      have hbl := b.toNat_lt
      refine cell_tail hs hn2 hn4 hne k m (i + 1) _ h s c2 e0 (by omega) (by omega) ?_ hU (by omega) b2 b4 rd
      rw [show i + 1 + 8 - str.size = (i + 8 - str.size) + 1 from by omega, Nat.pow_succ]
      have : (u + 1) * 256 ≤ 256 ^ (i + 8 - str.size) * 256 := Nat.mul_le_mul_right _ hu
      omega
    · have hii : i = str.size := by omega
      subst hii
      have hd : str.data.toList.drop str.size = [] := List.drop_eq_nil_of_le (by rw [← size_data]; omega)
      rw [hd, beV] at hU
      subst hU
      refine cvtT_of (l := key) el_Sluint8.slice Try.underlying5 Try.underlying9 rd ?_
      simp only [add_lit, Nat.zero_add]
      refine st_key b4 fun h1 p1 p2 p3 => st_start p1 fun h2 p4 p5 p6 => ?_
      have e2 : Ext h0 h2 := (e0.step p2 fun m hm e => by omega).step p5 fun m hm e => by omega
      have b22 : Blk h2 n2 c2.cells.toArray tn_api_Cell := p5.block (p2.block b2 hne) hne
      refine ⟨_, p4.cells3, mayC_spec fun h3 f1 => ?_⟩
      have b23 : Blk h3 n2 c2.cells.toArray tn_api_Cell := f1.block b22 (fun f => f)
      have e3 := e2.trans f1
      refine ⟨fun g2 => ?_, fun g2 => ?_⟩
      · have g2 : mayC ⟨(v.toNat : Int), ⟨key.toArray⟩, startOf u⟩ ≠ 0 := by simpa [startOf] using g2
        simp only [if_pos g2] at k
        exact told_err k e3 hn2 b23
      · have g2 : ¬ mayC ⟨(v.toNat : Int), ⟨key.toArray⟩, startOf u⟩ ≠ 0 := by simpa [startOf] using g2
        simp only [if_neg g2] at k
        refine ⟨_, Blk.cells3 (c := ⟨(v.toNat : Int), ⟨key.toArray⟩, startOf u⟩) (f1.block p4 (fun f => f)), ?_⟩
        exact st_cell b23 fun h4 q1 q2 q3 => ⟨_, q1.cells3, k h4 (e3.step q2 fun m hm e => by omega)⟩
theorem cell_loop {h0 : H} {str : ByteArray} {n2 n4 : Nat} {Q : Cel → Int → H → Prop} {v : UInt8} (hs : str.size < 140737488355328) (hn2 : h0.size ≤ n2) (hn4 : h0.size ≤ n4) (hne : n2 ≠ n4) :
    ∀ (m i : Nat) (h : H) (s : Sl) (acc : List UInt8), (∀ h', Ext h0 h' → Q (match unesc (str.data.toList.drop i) with | .error e => (zeroC, e) | .ok p => finC v (acc ++ p.1) p.2).1 (match unesc (str.data.toList.drop i) with | .error e => (zeroC, e) | .ok p => finC v (acc ++ p.1) p.2).2 h') →
    Ext h0 h → i ≤ str.size → acc.length ≤ i → str.size - i < m → Blk h n2 zeroC.cells.toArray tn_api_Cell → Blk h n4 (⟨(v.toNat : Int), ⟨#[]⟩, 0⟩ : Cel).cells.toArray tn_api_Cell → Owns h s 5 1 (acc.flatMap cU) → Mine h0 s → s.blk ≠ some n2 → s.blk ≠ some n4 → n2 < h.size → n4 < h.size →
    F.merge_Cell.l1 Q m str ⟨n2, 0, none⟩ ⟨n4, 0, none⟩ (i : Int) s h
  | 0, i, h, s, acc, _, _, _, _, hm, _, _, _, _, _, _, _, _ => by omega
  | m + 1, i, h, s, acc, k, e0, hi, hacc, hm, b2, b4, ow, mi, hne2, hne4, hl2, hl4 => by
    unfold F.merge_Cell.l1
    rw [beq_iff_eq, beq_eq_false_iff_ne]
    refine ⟨fun g => ?_, fun g => ?_⟩
    · have hd : str.data.toList.drop i = [] := List.drop_eq_nil_of_le (by rw [← size_data]; omega)
      rw [hd] at k
      exact told_err k e0 hn2 b2
    · obtain ⟨b, hb⟩ : ∃ b, str.data.toList[i]? = some b := ⟨_, List.getElem?_eq_getElem (by rw [← size_data]; omega)⟩
      have hd : str.data.toList.drop i = b :: str.data.toList.drop (i + 1) := by
        obtain ⟨hh, rfl⟩ := List.getElem?_eq_some_iff.1 hb
        exact List.drop_eq_getElem_cons hh
      have hb0 : (b.toNat : Int) = 0 ↔ b = 0 := by
        constructor
        · intro h; exact UInt8.toNat_inj.1 (by simpa using (by omega : b.toNat = 0))
        · intro h; subst h; rfl
      rw [hd] at k
      refine idxS_of hb rfl ?_
      rw [bne_iff_ne, bne_eq_false_iff_eq, Ne, hb0]
      refine ⟨fun g1 => idxS_of hb rfl ?_, fun g1 => ?_⟩
      · refine push_mine (f := cU) b e0 mi cU_len (by omega) el_Sluint8 ow cU_one (by omega) fun r h1 q1 q2 q3 q4 q5 => ?_
        have hrr : ∀ x, x < h.size → s.blk ≠ some x → r.blk ≠ some x := fun x hx hsx => by
          rcases q5 with q5 | ⟨y, q5, q6⟩
          · rw [q5]; exact hsx
          · rw [q5]; intro e; cases e; omega
        rw [show IntKind.wrap .i64 ((i : Int) + 1) = ((i + 1 : Nat) : Int) from by rw [w64 (by omega) (by omega)]; omega]
        refine cell_loop hs hn2 hn4 hne m (i + 1) h1 r (acc ++ [b]) (fun h' e => ?_) q2 (by omega) (by simp; omega) (by omega) (q4.block b2 hne2) (q4.block b4 hne4) q1 q3 (hrr n2 hl2 hne2) (hrr n4 hl4 hne4) (by have := q4.size; omega) (by have := q4.size; omega)
        have k := k h' e
        rw [unesc_ne g1] at k
        cases hu : unesc (str.data.toList.drop (i + 1)) with
        | error x => rw [hu] at k; exact k
        | ok p => rw [hu] at k; simpa using k
      · have g1 : b = 0 := Classical.not_not.1 (by simpa using g1)
        subst g1
        rw [w64 (n := (i : Int) + 1) (by omega) (by omega), w64 (n := (i : Int) + 2) (by omega) (by omega), beq_iff_eq, beq_eq_false_iff_ne]
        refine ⟨fun g2 => ?_, fun g2 => ?_⟩
        · have hd1 : str.data.toList.drop (i + 1) = [] := List.drop_eq_nil_of_le (by rw [← size_data]; omega)
          rw [hd1] at k
          exact told_err k e0 hn2 b2
        · obtain ⟨x, hx⟩ : ∃ b, str.data.toList[i + 1]? = some b := ⟨_, List.getElem?_eq_getElem (by rw [← size_data]; omega)⟩
          have hd1 : str.data.toList.drop (i + 1) = x :: str.data.toList.drop (i + 2) := by
            obtain ⟨hh, rfl⟩ := List.getElem?_eq_some_iff.1 hx
            exact List.drop_eq_getElem_cons hh
          have hx1 : (x.toNat : Int) = 1 ↔ x = 1 := by
            constructor
            · intro h; exact UInt8.toNat_inj.1 (by simpa using (by omega : x.toNat = 1))
            · intro h; subst h; rfl
          have hx2 : (x.toNat : Int) = 255 ↔ x = 255 := by
            constructor
            · intro h; exact UInt8.toNat_inj.1 (by simpa using (by omega : x.toNat = 255))
            · intro h; subst h; rfl
          rw [hd1] at k
          have hun : unesc (0 :: x :: str.data.toList.drop (i + 2)) = if x = 1 then .ok ([], str.data.toList.drop (i + 2)) else if x ≠ 255 then .error 12 else (match unesc (str.data.toList.drop (i + 2)) with | .ok p => .ok (0 :: p.1, p.2) | .error e => .error e) := by
            rw [unesc]; simp
          rw [hun] at k
          have hlen : (str.data.toList.drop (i + 2)).length = str.size - (i + 2) := by rw [List.length_drop, ← size_data]
          refine idxS_of hx (by rw [w64 (by omega) (by omega)]; omega) ?_
          rw [beq_iff_eq, beq_eq_false_iff_ne, Ne, hx1]
          refine ⟨fun g3 => ?_, fun g3 => ?_⟩
          · rw [if_pos g3] at k
            simp only [List.append_nil] at k
            unfold finC at k
            rw [hlen] at k
            rw [w64 (by omega) (by omega)]
            simp only [decide_eq_true_eq, decide_eq_false_iff_not]
            refine ⟨fun g4 => ?_, fun g4 => ⟨fun g5 => ?_, fun g5 => ⟨str.size + 1, ?_⟩⟩⟩
            · rw [if_pos (by omega)] at k; exact told_err k e0 hn2 b2
            · rw [if_neg (by omega), if_pos (by omega)] at k; exact told_err k e0 hn2 b2
            · rw [if_neg (by omega), if_neg (by omega)] at k
              rw [show (i : Int) + 2 = ((i + 2 : Nat) : Int) from by omega]
              exact cell_tail (by omega) hn2 hn4 hne k (str.size + 1) (i + 2) 0 h s zeroC e0 (by omega) (by omega) (Nat.pos_of_ne_zero (by exact Nat.pos_iff_ne_zero.1 (Nat.pow_pos (by omega)))) rfl (by omega) b2 b4 ow.reads
          · rw [if_neg g3] at k
            refine idxS_of hx (by rw [w64 (by omega) (by omega)]; omega) ?_
            rw [bne_iff_ne, bne_eq_false_iff_eq, Ne, hx2]
            refine ⟨fun g4 => ?_, fun g4 => ?_⟩
            · rw [if_pos g4] at k; exact told_err k e0 hn2 b2
            · have g4 : x = 255 := Classical.not_not.1 (by simpa using g4)
              rw [if_neg (by simpa using g4)] at k
              refine push_mine (f := cU) 0 e0 mi cU_len (by omega) el_Sluint8 ow cU_one (by omega) fun r h1 q1 q2 q3 q4 q5 => ?_
              have hrr : ∀ x, x < h.size → s.blk ≠ some x → r.blk ≠ some x := fun x hx hsx => by
                rcases q5 with q5 | ⟨y, q5, q6⟩
                · rw [q5]; exact hsx
                · rw [q5]; intro e; cases e; omega
              rw [show (i : Int) + 2 = ((i + 2 : Nat) : Int) from by omega]
              refine cell_loop hs hn2 hn4 hne m (i + 2) h1 r (acc ++ [0]) (fun h' e => ?_) q2 (by omega) (by simp; omega) (by omega) (q4.block b2 hne2) (q4.block b4 hne4) q1 q3 (hrr n2 hl2 hne2) (hrr n4 hl4 hne4) (by have := q4.size; omega) (by have := q4.size; omega)
              have k := k h' e
              cases hu : unesc (str.data.toList.drop (i + 2)) with
              | error x => rw [hu] at k; exact k
              | ok p => rw [hu] at k; simpa using k
theorem Cell_spec {h : H} {str : ByteArray} {Q : Cel → Int → H → Prop} (hs : str.size < 140737488355328) (k : ∀ h', Ext h h' → Q (cellM str.data.toList).1 (cellM str.data.toList).2 h') : F.merge_Cell str h Q := by
  unfold F.merge_Cell
  refine new_of fun n h1 e1 e2 e3 e4 => ?_
  have hs1 := e3.size
  rw [beq_iff_eq, beq_eq_false_iff_ne, toList_data, toList_data]
  refine ⟨fun g => ?_, fun g => ?_⟩
  · have g : str.data.toList = [] := g
    rw [g] at k
    exact told_err k e3 (by omega) (c := zeroC) e2
  · obtain ⟨v, r, hv⟩ : ∃ v r, str.data.toList = v :: r := by
      cases hh : str.data.toList with
      | nil => exact absurd hh g
      | cons v r => exact ⟨v, r, rfl⟩
    have hsz : 0 < str.size := by rw [size_data, hv]; simp
    refine idxS_of (i := 0) (b := v) (by rw [hv]; rfl) rfl ?_
    refine new_of fun n4 h2 f1 f2 f3 f4 => ?_
    have hs2 := f3.size
    refine st_cell (c := zeroC) (d := ⟨IntKind.wrap .i64 (v.toNat : Int), ⟨#[]⟩, 0⟩) f2 fun h3 q1 q2 q3 => ?_
    have hbl := v.toNat_lt
    rw [w64 (by omega) (by omega)] at q1
    refine ⟨str.size + 1, ?_⟩
    refine cell_loop (v := v) hs (n2 := n) (n4 := n4) (h0 := h) (by omega) (by omega) (by omega) _ 1 h3 _ [] (fun h' e => ?_) ((e3.trans f3).step q2 fun m hm e => by omega) (by omega) (by simp) (by omega) (q2.block (f3.block e2 (fun f => f)) (by omega)) q1 (Owns.nil _ _ _) (Mine.nil _ _ _) (by simp [Sl.blk]) (by simp [Sl.blk]) (by omega) (by omega)
    have k := k h' e
    rw [hv, cellM_cons] at k
    rw [show str.data.toList.drop 1 = r from by rw [hv]; rfl]
    cases hu : unesc r with
    | error x => rw [hu] at k; exact k
    | ok p => rw [hu] at k; simpa using k
end Go.Proofs.Ytoccbnhahaoeiaa.V
namespace Go.Proofs.Ytoccbnhahaoeiaa.V
open Go
set_option linter.unusedVariables false
set_option linter.unusedSimpArgs false
theorem cmpB_eq : ∀ (a b : List UInt8), Lib.compareBytes a b = if a = b then 0 else if Op.bytesLess a b then -1 else 1
  | [], [] => rfl
  | [], _ :: _ => rfl
  | _ :: _, [] => rfl
  | a :: ra, b :: rb => by
    rw [Lib.compareBytes, cmpB_eq ra rb, Op.bytesLess]
    by_cases h1 : a < b
    · have : a ≠ b := fun e => by subst e; exact absurd h1 (by simp)
      simp [h1, this]
    · by_cases h2 : b < a
      · have : a ≠ b := fun e => by subst e; exact absurd h2 (by simp)
        simp [h1, h2, this]
      · have : a = b := UInt8.le_antisymm (UInt8.not_lt.1 h2) (UInt8.not_lt.1 h1)
        subst this
        simp
def cmpI (x y : Int) : Int := if x < y then -1 else if x > y then 1 else 0
def cmpC (a b : Cel) : Int := if cmpI a.View b.View ≠ 0 then cmpI a.View b.View else if cmpM a.Key b.Key ≠ 0 then cmpM a.Key b.Key else cmpI a.Start b.Start
theorem cmpInt_spec {x y : Int} {h : H} {Q : Int → H → Prop} (k : Q (cmpI x y) h) : F.cmp_Compare_int x y h Q := by
  unfold F.cmp_Compare_int F.cmp_isNaN_int
  unfold cmpI at k
  simp only [bne_self_eq_false, Bool.false_eq_true, false_implies, true_implies, true_and, decide_eq_true_eq, decide_eq_false_iff_not]
  by_cases h1 : x < y
  · simp only [h1, if_true] at k; exact ⟨fun _ => k, fun g => absurd h1 g⟩
  · simp only [h1, if_false] at k
    by_cases h2 : x > y
    · simp only [h2, if_true] at k; exact ⟨fun g => absurd g h1, fun _ => ⟨fun _ => k, fun g => absurd h2 g⟩⟩
    · simp only [h2, if_false] at k; exact ⟨fun g => absurd g h1, fun _ => ⟨fun g => absurd g h2, fun _ => k⟩⟩
theorem cmpInt64_spec {x y : Int} {h : H} {Q : Int → H → Prop} (k : Q (cmpI x y) h) : F.cmp_Compare_int64 x y h Q := by
  unfold F.cmp_Compare_int64 F.cmp_isNaN_int64
  unfold cmpI at k
  simp only [bne_self_eq_false, Bool.false_eq_true, false_implies, true_implies, true_and, decide_eq_true_eq, decide_eq_false_iff_not]
  by_cases h1 : x < y
  · simp only [h1, if_true] at k; exact ⟨fun _ => k, fun g => absurd h1 g⟩
  · simp only [h1, if_false] at k
    by_cases h2 : x > y
    · simp only [h2, if_true] at k; exact ⟨fun g => absurd g h1, fun _ => ⟨fun _ => k, fun g => absurd h2 g⟩⟩
    · simp only [h2, if_false] at k; exact ⟨fun g => absurd g h1, fun _ => ⟨fun g => absurd g h2, fun _ => k⟩⟩
theorem or3_spec {n : Nat} {a b c : Int} {h : H} {Q : Int → H → Prop} (bl : Blk h n #[.int .i64 a, .int .i64 b, .int .i64 c] 3) (k : Q (if a ≠ 0 then a else if b ≠ 0 then b else c) h) : F.cmp_Or_int ⟨some ⟨n, 0, none⟩, 3, 3⟩ h Q := by
  unfold F.cmp_Or_int
  refine ⟨4, ?_⟩
  have c0 : cellH h ⟨n, 0, none⟩ = some (.int .i64 a) := bl.cell rfl
  have c1 : cellH h ⟨n, 1, none⟩ = some (.int .i64 b) := bl.cell rfl
  have c2 : cellH h ⟨n, 2, none⟩ = some (.int .i64 c) := bl.cell rfl
  unfold F.cmp_Or_int.l1
  refine ⟨fun _ => ?_, fun g => by simp at g⟩
  refine idxA_of (i := 0) rfl (by simp) rfl ?_
  rw [Nat.zero_mul, ldI_iff c0, bne_iff_ne, bne_eq_false_iff_eq]
  refine ⟨fun g => by rw [if_pos g] at k; exact k, fun g => ?_⟩
  rw [if_neg (by simpa using g)] at k
  rw [show IntKind.wrap .i64 (0 + 1) = ((1 : Nat) : Int) from by decide]
  unfold F.cmp_Or_int.l1
  refine ⟨fun _ => ?_, fun g => by simp at g⟩
  refine idxA_of (i := 1) rfl (by simp) rfl ?_
  rw [Nat.one_mul, ldI_iff c1, bne_iff_ne, bne_eq_false_iff_eq]
  refine ⟨fun g => by rw [if_pos g] at k; exact k, fun g => ?_⟩
  rw [if_neg (by simpa using g)] at k
  rw [show IntKind.wrap .i64 (((1 : Nat) : Int) + 1) = ((2 : Nat) : Int) from by decide]
  unfold F.cmp_Or_int.l1
  refine ⟨fun _ => ?_, fun g => by simp at g⟩
  refine idxA_of (i := 2) rfl (by simp) rfl ?_
  rw [show 2 * 1 = 2 from rfl, ldI_iff c2, bne_iff_ne, bne_eq_false_iff_eq]
  refine ⟨fun g => k, fun g => ?_⟩
  rw [show IntKind.wrap .i64 (((2 : Nat) : Int) + 1) = ((3 : Nat) : Int) from by decide]
  unfold F.cmp_Or_int.l1
  refine ⟨fun g => by simp at g, fun _ => ?_⟩
  rw [g] at k; exact k
theorem Compare_spec {a b : Cel} {h : H} {Q : Int → H → Prop} (k : ∀ h', Ext h h' → Q (cmpC a b) h') : F.merge_Compare a b h Q := by
  unfold F.merge_Compare
  refine new_of fun n h1 e1 e2 e3 e4 => new_of fun m h3 f1 f2 f3 f4 => ?_
  have b1 : Blk h3 n a.cells.toArray tn_api_Cell := f3.block e2 (fun f => f)
  have b2 : Blk h3 m b.cells.toArray tn_api_Cell := f2
  have a0 : cellH h3 ⟨n, 0, none⟩ = some (.int .i64 a.View) := b1.cell rfl
  have a1 : cellH h3 ⟨n, 1, none⟩ = some (.string a.Key) := b1.cell rfl
  have a2 : cellH h3 ⟨n, 2, none⟩ = some (.int .i64 a.Start) := b1.cell rfl
  have c0 : cellH h3 ⟨m, 0, none⟩ = some (.int .i64 b.View) := b2.cell rfl
  have c1 : cellH h3 ⟨m, 1, none⟩ = some (.string b.Key) := b2.cell rfl
  have c2 : cellH h3 ⟨m, 2, none⟩ = some (.int .i64 b.Start) := b2.cell rfl
  simp only [add_lit, Nat.zero_add, ldI_iff a0, ldI_iff c0, ldS_iff a1, ldS_iff c1, ldI_iff a2, ldI_iff c2]
  refine cmpInt_spec ⟨c2, a2, c1, a1, ?_⟩
  unfold F.strings_Compare F.internal_bytealg_CompareString
  refine ⟨c2, a2, cmpInt64_spec ?_⟩
  refine newL_of fun q h5 g1 g2 g3 g4 => ?_
  exact or3_spec g2 (k h5 ((e3.trans f3).trans g3))
theorem cmpC_self (a : Cel) : cmpC a a = 0 := by
  unfold cmpC cmpI cmpM
  rw [cmpB_eq]; simp
end Go.Proofs.Ytoccbnhahaoeiaa.V
