/- Parts of the proof of ShardFolds; no condition. -/
import Derived.Shelf.SlLaysM
import Derived.Shelf.SortM.Plain
import Derived.Shelf.SortM.SortNone
import Derived.Sort.KeysCollected
import Derived.Sort.OwnSorted
import Derived.Test.YtoccbnhahaoeiaaProg
import Derived.Test.YtoccbnhahaoeiaaQShardFolds1
namespace Go.Proofs.Ytoccbnhahaoeiaa.V
open Go
set_option linter.unusedVariables false
set_option maxRecDepth 100000
def F.slices_BinarySearchFunc_Slchain_version_api_Agg_chain_version_api_Agg_int.l1 (Q : Int → Bool → H → Prop) : Nat → Sl → Int → Value → Int → Int → Int → H → Prop
  | 0, _, _, _, _, _, _, _ => False
  | q1 + 1, x0, x1, x2, x8, x9, x10, h =>
    ((decide (x9 < x10)) = true →
    0 ≤ (1 : Int) ∧
    idxA x0 (IntKind.wrap .i64 (Int.fdiv (IntKind.wrap .u64 (IntKind.wrap .i64 (x9 + x10))) (2 ^ (min (1 : Int).toNat (IntKind.bits .u64)) : Int))) 6 fun a3 =>
    ld_S_chain_version_api_Agg h a3 fun y5 =>
    CV PP x2 [(.agg y5.cells.toArray), (.int .i64 x1)] h fun u h7 => ∃ (r8 : Int), u = (.int .i64 r8) ∧
    ((decide (r8 < 0)) = true →
    (F.slices_BinarySearchFunc_Slchain_version_api_Agg_chain_version_api_Agg_int.l1 Q q1) x0 x1 x2 x8 (IntKind.wrap .i64 ((IntKind.wrap .i64 (Int.fdiv (IntKind.wrap .u64 (IntKind.wrap .i64 (x9 + x10))) (2 ^ (min (1 : Int).toNat (IntKind.bits .u64)) : Int))) + 1)) x10 h7) ∧
    ((decide (r8 < 0)) = false →
    (F.slices_BinarySearchFunc_Slchain_version_api_Agg_chain_version_api_Agg_int.l1 Q q1) x0 x1 x2 x8 x9 (IntKind.wrap .i64 (Int.fdiv (IntKind.wrap .u64 (IntKind.wrap .i64 (x9 + x10))) (2 ^ (min (1 : Int).toNat (IntKind.bits .u64)) : Int))) h7)) ∧
    ((decide (x9 < x10)) = false →
    ((decide (x9 < x8)) = true →
    idxA x0 x9 6 fun a11 =>
    ld_S_chain_version_api_Agg h a11 fun y13 =>
    CV PP x2 [(.agg y13.cells.toArray), (.int .i64 x1)] h fun u h15 => ∃ (r16 : Int), u = (.int .i64 r16) ∧
    Q x9 ((r16 == 0)) h15) ∧
    ((decide (x9 < x8)) = false →
    Q x9 false h))
/-- slices.BinarySearchFunc[[]spate/chain.version[spate/api.Agg],spate/chain.version[spate/api.Agg],int] -/
def F.slices_BinarySearchFunc_Slchain_version_api_Agg_chain_version_api_Agg_int (p0 : Sl) (p1 : Int) (p2 : Value) (h : H) (Q : Int → Bool → H → Prop) : Prop :=
  ∃ m, F.slices_BinarySearchFunc_Slchain_version_api_Agg_chain_version_api_Agg_int.l1 Q m p0 p1 p2 (p0.len : Int) 0 (p0.len : Int) h
theorem F.slices_BinarySearchFunc_Slchain_version_api_Agg_chain_version_api_Agg_int_ok {p0 : Sl} {p1 : Int} {p2 : Value} {h : H} {Q : Int → Bool → H → Prop} (H : F.slices_BinarySearchFunc_Slchain_version_api_Agg_chain_version_api_Agg_int p0 p1 p2 h Q) : Fn PP 82 ([p0.enc, (.int .i64 p1), p2] : List Value).toArray h fun r h' => ∃ r0 r1, r = .tuple #[(.int .i64 r0), (.bool r1)] ∧ Q r0 r1 h' := by
  unfold F.slices_BinarySearchFunc_Slchain_version_api_Agg_chain_version_api_Agg_int at H
  refine fn_of Try.func82 Try.ntmps82 rfl rfl fun w0 => ?_
  refine tr_sub [(0, p0.enc), (1, (.int .i64 p1)), (2, p2)] ⟨rfl, rfl, rfl, trivial⟩ ?_
  refine tr_seq ?_
  refine tr_region ?_
  refine tr_p (y_assign rfl) rfl rfl ?_
  refine tr_p (y_assign rfl) rfl rfl ?_
  refine tr_nil ?_
  refine tr_thenN ?_
  refine tr_seq ?_
  refine tr_region ?_
  refine tr_p (y_move rfl) rfl rfl ?_
  refine tr_p (y_len (ts := #[]) Try.runUnderlying119 (o := p0.ptr) (n := p0.len) (cap := p0.cap) rfl) rfl rfl ?_
  refine tr_p (y_assign rfl) rfl rfl ?_
  refine tr_nil ?_
  refine tr_thenN ?_
  refine tr_seq ?_
  refine tr_region ?_
  refine tr_p (y_move rfl) rfl rfl ?_
  refine tr_p (y_assign rfl) rfl rfl ?_
  refine tr_p (y_assign rfl) rfl rfl ?_
  refine tr_nil ?_
  refine tr_thenN ?_
  refine tr_seq ?_
  refine tr_block ?_
  obtain ⟨m17, H⟩ := H
  refine tr_sub [(0, p0.enc), (1, (.int .i64 p1)), (2, p2), (8, (.int .i64 (p0.len : Int))), (9, (.int .i64 0)), (10, (.int .i64 (p0.len : Int)))] ⟨rfl, rfl, rfl, rfl, rfl, rfl, trivial⟩ ?_
  refine tr_loop_j (fun m L' h => ∃ (x0 : Sl) (x1 : Int) (x2 : Value) (x8 : Int) (x9 : Int) (x10 : Int), L' = [(0, x0.enc), (1, (.int .i64 x1)), (2, x2), (8, (.int .i64 x8)), (9, (.int .i64 x9)), (10, (.int .i64 x10))] ∧ F.slices_BinarySearchFunc_Slchain_version_api_Agg_chain_version_api_Agg_int.l1 Q m x0 x1 x2 x8 x9 x10 h) ?_ ?_ m17 ⟨_, _, _, _, _, _, rfl, H⟩
  · rintro L' h ⟨_, _, _, _, _, _, _, H⟩; exact H
  · rintro q1 L' h ⟨x0, x1, x2, x8, x9, x10, rfl, H⟩
    unfold F.slices_BinarySearchFunc_Slchain_version_api_Agg_chain_version_api_Agg_int.l1 at H
    refine tr_seq ?_
    refine tr_seq ?_
    refine tr_region ?_
    refine tr_p (y_move rfl) rfl rfl ?_
    refine tr_p (y_move rfl) rfl rfl ?_
    refine tr_p (y_lss rfl rfl) rfl rfl ?_
    refine tr_nil ?_
    refine tr_thenN ?_
    refine tr_cond rfl (fun g1 => ?_) (fun g1 => ?_)
    · replace H := H.1 g1
      refine tr_skip ?_
      refine tr_thenN ?_
      refine tr_block ?_
      refine tr_seq ?_
      refine tr_region ?_
      refine tr_p (y_move rfl) rfl rfl ?_
      refine tr_p (y_move rfl) rfl rfl ?_
      refine tr_p (y_add rfl rfl) rfl rfl ?_
      refine tr_p (y_cvt Try.runUnderlying3 Try.runUnderlying142 rfl) rfl rfl ?_
      obtain ⟨e2, H⟩ := H
      refine tr_p (y_shr rfl rfl e2) rfl rfl ?_
      refine tr_p (y_cvt Try.runUnderlying142 Try.runUnderlying3 rfl) rfl rfl ?_
      refine tr_p (y_assign rfl) rfl rfl ?_
      refine tr_nil ?_
      refine tr_thenN ?_
      refine tr_seq ?_
      refine tr_region ?_
      refine tr_p (y_move rfl) rfl rfl ?_
      refine tr_p (y_move rfl) rfl rfl ?_
      refine tr_p (y_move rfl) rfl rfl ?_
      obtain ⟨a3, e4, H⟩ := H
      refine tr_p (f_idx (s := x0) Try.runUnderlying119 Try.sizeOf123 rfl rfl e4) rfl rfl ?_
      obtain ⟨y5, k6, H⟩ := H
      refine tr_h (y_ldS Try.isAgg123 Try.sizeOf123 rfl rfl) k6 rfl rfl ?_
      refine tr_p (y_move rfl) rfl rfl ?_
      refine tr_e (e_callD rfl rfl H) rfl rfl ?_
      rintro _ h7 ⟨r8, rfl, H⟩
      refine tr_p (y_lss rfl rfl) rfl rfl ?_
      refine tr_nil ?_
      refine tr_thenN ?_
      refine tr_cond rfl (fun g9 => ?_) (fun g9 => ?_)
      · replace H := H.1 g9
        refine tr_region ?_
        refine tr_p (y_move rfl) rfl rfl ?_
        refine tr_p (y_add rfl rfl) rfl rfl ?_
        refine tr_p (y_assign rfl) rfl rfl ?_
        refine tr_nil ?_
        refine tr_blockN ?_
        refine tr_thenN ?_
        exact tr_join [(0, x0.enc), (1, (.int .i64 x1)), (2, x2), (8, (.int .i64 x8)), (9, (.int .i64 (IntKind.wrap .i64 ((IntKind.wrap .i64 (Int.fdiv (IntKind.wrap .u64 (IntKind.wrap .i64 (x9 + x10))) (2 ^ (min (1 : Int).toNat (IntKind.bits .u64)) : Int))) + 1)))), (10, (.int .i64 x10))] ⟨rfl, rfl, rfl, rfl, rfl, rfl, trivial⟩ ⟨_, _, _, _, _, _, rfl, H⟩
      · replace H := H.2 g9
        refine tr_region ?_
        refine tr_p (y_move rfl) rfl rfl ?_
        refine tr_p (y_assign rfl) rfl rfl ?_
        refine tr_nil ?_
        refine tr_blockN ?_
        refine tr_thenN ?_
        exact tr_join [(0, x0.enc), (1, (.int .i64 x1)), (2, x2), (8, (.int .i64 x8)), (9, (.int .i64 x9)), (10, (.int .i64 (IntKind.wrap .i64 (Int.fdiv (IntKind.wrap .u64 (IntKind.wrap .i64 (x9 + x10))) (2 ^ (min (1 : Int).toNat (IntKind.bits .u64)) : Int)))))] ⟨rfl, rfl, rfl, rfl, rfl, rfl, trivial⟩ ⟨_, _, _, _, _, _, rfl, H⟩
    · replace H := H.2 g1
      refine tr_exit ?_
      refine tr_thenE ?_
      refine tr_thenE ?_
      refine tr_hit ?_
      refine tr_thenN ?_
      refine tr_seq ?_
      refine tr_region ?_
      refine tr_p (y_move rfl) rfl rfl ?_
      refine tr_p (y_move rfl) rfl rfl ?_
      refine tr_p (y_move rfl) rfl rfl ?_
      refine tr_p (y_lss rfl rfl) rfl rfl ?_
      refine tr_p (y_move rfl) rfl rfl ?_
      refine tr_split (t := 39) rfl (fun g10 => ?_) (fun g10 => ?_)
      · replace H := H.1 g10
        refine tr_p (y_move rfl) rfl rfl ?_
        refine tr_p (y_move rfl) rfl rfl ?_
        refine tr_p (y_move rfl) rfl rfl ?_
        obtain ⟨a11, e12, H⟩ := H
        refine tr_p (f_idx (s := x0) Try.runUnderlying119 Try.sizeOf123 rfl rfl e12) rfl rfl ?_
        obtain ⟨y13, k14, H⟩ := H
        refine tr_h (y_ldS Try.isAgg123 Try.sizeOf123 rfl rfl) k14 rfl rfl ?_
        refine tr_p (y_move rfl) rfl rfl ?_
        refine tr_e (e_callD rfl rfl H) rfl rfl ?_
        rintro _ h15 ⟨r16, rfl, H⟩
        refine tr_p (y_eql rfl rfl) rfl rfl ?_
        refine tr_p (y_pick_t rfl rfl) rfl rfl ?_
        refine tr_p (y_assign rfl) rfl rfl ?_
        refine tr_p (y_assign rfl) rfl rfl ?_
        refine tr_nil ?_
        refine tr_thenN ?_
        refine tr_ret ?_
        exact tr_ret2 rfl rfl rfl ⟨_, _, rfl, H⟩
      · replace H := H.2 g10
        refine tr_s rfl rfl ?_
        refine tr_s rfl rfl ?_
        refine tr_s rfl rfl ?_
        refine tr_s rfl rfl ?_
        refine tr_s rfl rfl ?_
        refine tr_s rfl rfl ?_
        refine tr_s rfl rfl ?_
        refine tr_s rfl rfl ?_
        refine tr_p (y_pick_f rfl rfl) rfl rfl ?_
        refine tr_p (y_assign rfl) rfl rfl ?_
        refine tr_p (y_assign rfl) rfl rfl ?_
        refine tr_nil ?_
        refine tr_thenN ?_
        refine tr_ret ?_
        exact tr_ret2 rfl rfl rfl ⟨_, _, rfl, H⟩
/-- (*spate/chain.Chain[spate/api.Agg]).place$1 -/
def F.chain_Chain_api_Agg_place_1 (p0 : S_chain_version_api_Agg) (p1 : Int) (h : H) (Q : Int → H → Prop) : Prop :=
  new h p0.cells.toArray ty_123 fun a2 h1 =>
  ldI .i64 h1 (a2.add 0) fun y3 =>
  ((decide (y3 ≤ p1)) = true →
  Q (-1) h1) ∧
  ((decide (y3 ≤ p1)) = false →
  Q 1 h1)
theorem F.chain_Chain_api_Agg_place_1_ok {p0 : S_chain_version_api_Agg} {p1 : Int} {h : H} {Q : Int → H → Prop} (H : F.chain_Chain_api_Agg_place_1 p0 p1 h Q) : Fn PP 83 ([(.agg p0.cells.toArray), (.int .i64 p1)] : List Value).toArray h fun r h' => ∃ r0, r = (.int .i64 r0) ∧ Q r0 h' := by
  unfold F.chain_Chain_api_Agg_place_1 at H
  refine fn_of Try.func83 Try.ntmps83 rfl rfl fun w0 => ?_
  refine tr_sub [(0, (.agg p0.cells.toArray)), (1, (.int .i64 p1))] ⟨rfl, rfl, trivial⟩ ?_
  refine tr_seq ?_
  refine tr_region ?_
  refine tr_e (f_box (cs := p0.cells.toArray) rfl rfl H) rfl rfl ?_
  rintro _ h1 ⟨a2, rfl, H⟩
  refine tr_p (y_assign rfl) rfl rfl ?_
  refine tr_nil ?_
  refine tr_thenN ?_
  refine tr_seq ?_
  refine tr_seq ?_
  refine tr_region ?_
  refine tr_p (y_fa (off := 0) Try.runUnderlying123 fo_123_0 rfl) rfl rfl ?_
  obtain ⟨y3, k4, H⟩ := H
  refine tr_h (y_ld Try.isAgg3 rfl) k4 rfl rfl ?_
  refine tr_p (y_move rfl) rfl rfl ?_
  refine tr_p (y_leq rfl rfl) rfl rfl ?_
  refine tr_nil ?_
  refine tr_thenN ?_
  refine tr_cond rfl (fun g5 => ?_) (fun g5 => ?_)
  · replace H := H.1 g5
    refine tr_seq ?_
    refine tr_region ?_
    refine tr_p (y_assign rfl) rfl rfl ?_
    refine tr_nil ?_
    refine tr_thenN ?_
    refine tr_ret ?_
    refine tr_thenR ?_
    exact tr_ret1 rfl rfl ⟨_, rfl, H⟩
  · replace H := H.2 g5
    refine tr_skip ?_
    refine tr_thenN ?_
    refine tr_seq ?_
    refine tr_region ?_
    refine tr_p (y_assign rfl) rfl rfl ?_
    refine tr_nil ?_
    refine tr_thenN ?_
    refine tr_ret ?_
    exact tr_ret1 rfl rfl ⟨_, rfl, H⟩
/-- (*spate/chain.Chain[spate/api.Agg]).place -/
def F.chain_Chain_api_Agg_place (p0 : Option Addr) (p1 : Int) (h : H) (Q : Int → H → Prop) : Prop :=
  nn p0 fun a1 =>
  ldL h (a1.add 0) fun y3 =>
  F.slices_BinarySearchFunc_Slchain_version_api_Agg_chain_version_api_Agg_int y3 p1 (.func (.func 83) #[] #[]) h fun r6 r7 h5 =>
  Q (IntKind.wrap .i64 (r6 - 1)) h5
theorem F.chain_Chain_api_Agg_place_ok {p0 : Option Addr} {p1 : Int} {h : H} {Q : Int → H → Prop} (H : F.chain_Chain_api_Agg_place p0 p1 h Q) : Fn PP 69 ([(.pointer p0), (.int .i64 p1)] : List Value).toArray h fun r h' => ∃ r0, r = (.int .i64 r0) ∧ Q r0 h' := by
  unfold F.chain_Chain_api_Agg_place at H
  refine fn_of Try.func69 Try.ntmps69 rfl rfl fun w0 => ?_
  refine tr_sub [(0, (.pointer p0)), (1, (.int .i64 p1))] ⟨rfl, rfl, trivial⟩ ?_
  refine tr_seq ?_
  refine tr_region ?_
  refine tr_p (y_assign rfl) rfl rfl ?_
  refine tr_nil ?_
  refine tr_thenN ?_
  refine tr_seq ?_
  refine tr_region ?_
  refine tr_p (y_move rfl) rfl rfl ?_
  obtain ⟨a1, e2, H⟩ := H
  refine tr_p (f_nn rfl e2) rfl rfl ?_
  refine tr_p (y_fa (off := 0) Try.runUnderlying121 fo_121_0 rfl) rfl rfl ?_
  obtain ⟨y3, k4, H⟩ := H
  refine tr_h (y_ld Try.isAgg119 rfl) k4 rfl rfl ?_
  refine tr_p (y_move rfl) rfl rfl ?_
  refine tr_e (e_call Try.call82 rfl (F.slices_BinarySearchFunc_Slchain_version_api_Agg_chain_version_api_Agg_int_ok H)) rfl rfl ?_
  rintro _ h5 ⟨r6, r7, rfl, H⟩
  refine tr_p (y_move rfl) rfl rfl ?_
  refine tr_p (y_ext rfl rfl) rfl rfl ?_
  refine tr_p (y_ext rfl rfl) rfl rfl ?_
  refine tr_p (y_assign rfl) rfl rfl ?_
  refine tr_p (y_assign rfl) rfl rfl ?_
  refine tr_nil ?_
  refine tr_thenN ?_
  refine tr_seq ?_
  refine tr_region ?_
  refine tr_p (y_move rfl) rfl rfl ?_
  refine tr_p (y_sub rfl rfl) rfl rfl ?_
  refine tr_p (y_assign rfl) rfl rfl ?_
  refine tr_nil ?_
  refine tr_thenN ?_
  refine tr_ret ?_
  exact tr_ret1 rfl rfl ⟨_, rfl, H⟩
def F.chain_Chain_api_Agg_At.j1 (Q : S_api_Agg → Bool → H → Prop) (x4 : Addr) (h : H) : Prop :=
  ld_S_api_Agg h x4 fun y3 =>
  stH h x4 y3.cells fun h5 =>
  ld_S_api_Agg h5 x4 fun y6 =>
  Q y6 false h5
def F.chain_Chain_api_Agg_At.j2 (Q : S_api_Agg → Bool → H → Prop) (x0 : Option Addr) (x4 : Addr) (x6 : Int) (x22 : Bool) (h : H) : Prop :=
  (x22 = true →
  nn x0 fun a11 =>
  ldL h (a11.add 0) fun y13 =>
  idxA y13 x6 6 fun a15 =>
  ld_S_api_Agg h (a15.add 1) fun y17 =>
  stH h x4 y17.cells fun h19 =>
  ld_S_api_Agg h19 x4 fun y20 =>
  Q y20 true h19) ∧
  (x22 = false →
  F.chain_Chain_api_Agg_At.j1 Q x4 h)
/-- (*spate/chain.Chain[spate/api.Agg]).At -/
def F.chain_Chain_api_Agg_At (p0 : Option Addr) (p1 : Int) (h : H) (Q : S_api_Agg → Bool → H → Prop) : Prop :=
  new h (((⟨0, 0, 0, 0⟩ : S_api_Agg) : S_api_Agg).cells.toArray) ty_35 fun a2 h1 =>
  F.chain_Chain_api_Agg_place p0 p1 h1 fun r9 h8 =>
  ((decide (r9 ≥ 0)) = true →
  nn p0 fun a23 =>
  ldL h8 (a23.add 0) fun y25 =>
  idxA y25 r9 6 fun a27 =>
  ldB h8 (a27.add 5) fun y29 =>
  F.chain_Chain_api_Agg_At.j2 Q p0 a2 r9 (!y29) h8) ∧
  ((decide (r9 ≥ 0)) = false →
  F.chain_Chain_api_Agg_At.j2 Q p0 a2 r9 false h8)
theorem F.chain_Chain_api_Agg_At_ok {p0 : Option Addr} {p1 : Int} {h : H} {Q : S_api_Agg → Bool → H → Prop} (H : F.chain_Chain_api_Agg_At p0 p1 h Q) : Fn PP 65 ([(.pointer p0), (.int .i64 p1)] : List Value).toArray h fun r h' => ∃ r0 r1, r = .tuple #[(.agg r0.cells.toArray), (.bool r1)] ∧ Q r0 r1 h' := by
  unfold F.chain_Chain_api_Agg_At at H
  refine fn_of Try.func65 Try.ntmps65 rfl rfl fun w0 => ?_
  refine tr_sub [(0, (.pointer p0)), (1, (.int .i64 p1))] ⟨rfl, rfl, trivial⟩ ?_
  refine tr_seq ?_
  refine tr_region ?_
  refine tr_e (f_alloc (cs := ((⟨0, 0, 0, 0⟩ : S_api_Agg) : S_api_Agg).cells.toArray) Try.zeroValue35 rfl H) rfl rfl ?_
  rintro _ h1 ⟨a2, rfl, H⟩
  refine tr_p (y_assign rfl) rfl rfl ?_
  refine tr_nil ?_
  refine tr_thenN ?_
  refine tr_seq_j (fun L' h => ∃ (x4 : Addr), L' = [(4, (.pointer (some x4)))] ∧ F.chain_Chain_api_Agg_At.j1 Q x4 h) ?_ ?_
  · rintro L' h ⟨x4, rfl, H⟩
    unfold F.chain_Chain_api_Agg_At.j1 at H
    refine tr_seq ?_
    refine tr_region ?_
    obtain ⟨y3, k4, H⟩ := H
    refine tr_h (y_ldS Try.isAgg35 Try.sizeOf35 rfl rfl) k4 rfl rfl ?_
    refine tr_e (f_store (vs := y3.cells) Try.sizeOf35 rfl rfl cellsOfStruct rfl (by intro v hv; exact ones_S_api_Agg _ v hv) H) rfl rfl ?_
    rintro _ h5 ⟨rfl, H⟩
    refine tr_p (y_assign rfl) rfl rfl ?_
    refine tr_nil ?_
    refine tr_thenN ?_
    refine tr_ret ?_
    obtain ⟨y6, k7, H⟩ := H
    exact tr_rv2 rfl (rv_cellS Try.isAgg35 Try.sizeOf35 rfl rfl k7) (rv_tmp rfl) ⟨_, _, rfl, H⟩
  · refine tr_seq ?_
    refine tr_region ?_
    refine tr_p (y_move rfl) rfl rfl ?_
    refine tr_p (y_move rfl) rfl rfl ?_
    refine tr_e (e_call Try.call69 rfl (F.chain_Chain_api_Agg_place_ok H)) rfl rfl ?_
    rintro _ h8 ⟨r9, rfl, H⟩
    refine tr_p (y_assign rfl) rfl rfl ?_
    refine tr_nil ?_
    refine tr_thenN ?_
    refine tr_seq_j (fun L' h => ∃ (x0 : Option Addr) (x4 : Addr) (x6 : Int) (x22 : Bool), L' = [(0, (.pointer x0)), (4, (.pointer (some x4))), (6, (.int .i64 x6)), (22, (.bool x22))] ∧ F.chain_Chain_api_Agg_At.j2 Q x0 x4 x6 x22 h) ?_ ?_
    · rintro L' h ⟨x0, x4, x6, x22, rfl, H⟩
      unfold F.chain_Chain_api_Agg_At.j2 at H
      refine tr_cond rfl (fun g10 => ?_) (fun g10 => ?_)
      · replace H := H.1 g10
        refine tr_seq ?_
        refine tr_region ?_
        refine tr_p (y_move rfl) rfl rfl ?_
        obtain ⟨a11, e12, H⟩ := H
        refine tr_p (f_nn rfl e12) rfl rfl ?_
        refine tr_p (y_fa (off := 0) Try.runUnderlying121 fo_121_0 rfl) rfl rfl ?_
        obtain ⟨y13, k14, H⟩ := H
        refine tr_h (y_ld Try.isAgg119 rfl) k14 rfl rfl ?_
        refine tr_p (y_move rfl) rfl rfl ?_
        obtain ⟨a15, e16, H⟩ := H
        refine tr_p (f_idx (s := y13) Try.runUnderlying119 Try.sizeOf123 rfl rfl e16) rfl rfl ?_
        refine tr_p (y_fa (off := 1) Try.runUnderlying123 fo_123_1 rfl) rfl rfl ?_
        obtain ⟨y17, k18, H⟩ := H
        refine tr_h (y_ldS Try.isAgg35 Try.sizeOf35 rfl rfl) k18 rfl rfl ?_
        refine tr_e (f_store (vs := y17.cells) Try.sizeOf35 rfl rfl cellsOfStruct rfl (by intro v hv; exact ones_S_api_Agg _ v hv) H) rfl rfl ?_
        rintro _ h19 ⟨rfl, H⟩
        refine tr_p (y_assign rfl) rfl rfl ?_
        refine tr_nil ?_
        refine tr_thenN ?_
        refine tr_ret ?_
        refine tr_thenR ?_
        obtain ⟨y20, k21, H⟩ := H
        exact tr_rv2 rfl (rv_cellS Try.isAgg35 Try.sizeOf35 rfl rfl k21) (rv_tmp rfl) ⟨_, _, rfl, H⟩
      · replace H := H.2 g10
        refine tr_skip ?_
        refine tr_thenN ?_
        exact tr_join [(4, (.pointer (some x4)))] ⟨rfl, trivial⟩ ⟨_, rfl, H⟩
    · refine tr_region ?_
      refine tr_p (y_move rfl) rfl rfl ?_
      refine tr_p (y_geq rfl rfl) rfl rfl ?_
      refine tr_p (y_move rfl) rfl rfl ?_
      refine tr_split (t := 12) rfl (fun g22 => ?_) (fun g22 => ?_)
      · replace H := H.1 g22
        refine tr_p (y_move rfl) rfl rfl ?_
        obtain ⟨a23, e24, H⟩ := H
        refine tr_p (f_nn rfl e24) rfl rfl ?_
        refine tr_p (y_fa (off := 0) Try.runUnderlying121 fo_121_0 rfl) rfl rfl ?_
        obtain ⟨y25, k26, H⟩ := H
        refine tr_h (y_ld Try.isAgg119 rfl) k26 rfl rfl ?_
        refine tr_p (y_move rfl) rfl rfl ?_
        obtain ⟨a27, e28, H⟩ := H
        refine tr_p (f_idx (s := y25) Try.runUnderlying119 Try.sizeOf123 rfl rfl e28) rfl rfl ?_
        refine tr_p (y_fa (off := 5) Try.runUnderlying123 fo_123_2 rfl) rfl rfl ?_
        obtain ⟨y29, k30, H⟩ := H
        refine tr_h (y_ld Try.isAgg4 rfl) k30 rfl rfl ?_
        refine tr_p (y_not rfl) rfl rfl ?_
        refine tr_p (y_pick_t rfl rfl) rfl rfl ?_
        refine tr_nil ?_
        refine tr_thenN ?_
        exact tr_join [(0, (.pointer p0)), (4, (.pointer (some a2))), (6, (.int .i64 r9)), (22, (.bool (!y29)))] ⟨rfl, rfl, rfl, rfl, trivial⟩ ⟨_, _, _, _, rfl, H⟩
      · replace H := H.2 g22
        refine tr_s rfl rfl ?_
        refine tr_s rfl rfl ?_
        refine tr_s rfl rfl ?_
        refine tr_s rfl rfl ?_
        refine tr_s rfl rfl ?_
        refine tr_s rfl rfl ?_
        refine tr_s rfl rfl ?_
        refine tr_s rfl rfl ?_
        refine tr_s rfl rfl ?_
        refine tr_p (y_pick_f rfl rfl) rfl rfl ?_
        refine tr_nil ?_
        refine tr_thenN ?_
        exact tr_join [(0, (.pointer p0)), (4, (.pointer (some a2))), (6, (.int .i64 r9)), (22, (.bool false))] ⟨rfl, rfl, rfl, rfl, trivial⟩ ⟨_, _, _, _, rfl, H⟩
/-- spate/shard.at -/
def F.shard_at (p0 : Option Addr) (p1 : Int) (h : H) (Q : S_api_Agg → Bool → H → Prop) : Prop :=
  new h (((⟨0, 0, 0, 0⟩ : S_api_Agg) : S_api_Agg).cells.toArray) ty_35 fun a2 h1 =>
  (p0.isNone = true →
  stH h1 a2 ((⟨0, 0, 0, 0⟩ : S_api_Agg).cells) fun h4 =>
  ld_S_api_Agg h4 a2 fun y5 =>
  Q y5 false h4) ∧
  (p0.isNone = false →
  (((p1 == 0)) = true →
  F.chain_Chain_api_Agg_Newest p0 h1 fun r9 r10 r11 h8 =>
  new h8 (((⟨0, 0, 0, 0⟩ : S_api_Agg) : S_api_Agg).cells.toArray) ty_35 fun a13 h12 =>
  stH h12 a13 r9.cells fun h14 =>
  ld_S_api_Agg h14 a13 fun y15 =>
  stH h14 a2 y15.cells fun h17 =>
  ld_S_api_Agg h17 a2 fun y18 =>
  Q y18 r11 h17) ∧
  (((p1 == 0)) = false →
  F.chain_Chain_api_Agg_At p0 p1 h1 fun r21 r22 h20 =>
  stH h20 a2 r21.cells fun h23 =>
  ld_S_api_Agg h23 a2 fun y24 =>
  Q y24 r22 h23))
theorem F.shard_at_ok {p0 : Option Addr} {p1 : Int} {h : H} {Q : S_api_Agg → Bool → H → Prop} (H : F.shard_at p0 p1 h Q) : Fn PP 44 ([(.pointer p0), (.int .i64 p1)] : List Value).toArray h fun r h' => ∃ r0 r1, r = .tuple #[(.agg r0.cells.toArray), (.bool r1)] ∧ Q r0 r1 h' := by
  unfold F.shard_at at H
  refine fn_of Try.func44 Try.ntmps44 rfl rfl fun w0 => ?_
  refine tr_sub [(0, (.pointer p0)), (1, (.int .i64 p1))] ⟨rfl, rfl, trivial⟩ ?_
  refine tr_seq ?_
  refine tr_region ?_
  refine tr_e (f_alloc (cs := ((⟨0, 0, 0, 0⟩ : S_api_Agg) : S_api_Agg).cells.toArray) Try.zeroValue35 rfl H) rfl rfl ?_
  rintro _ h1 ⟨a2, rfl, H⟩
  refine tr_p (y_assign rfl) rfl rfl ?_
  refine tr_nil ?_
  refine tr_thenN ?_
  refine tr_seq ?_
  refine tr_seq ?_
  refine tr_region ?_
  refine tr_p (y_move rfl) rfl rfl ?_
  refine tr_p (y_pnil_eql Try.runUnderlying77 rfl rfl) rfl rfl ?_
  refine tr_nil ?_
  refine tr_thenN ?_
  refine tr_cond rfl (fun g3 => ?_) (fun g3 => ?_)
  · replace H := H.1 g3
    refine tr_seq ?_
    refine tr_region ?_
    refine tr_p (f_build rfl (bd_35_ )) rfl rfl ?_
    refine tr_e (f_store (vs := (⟨0, 0, 0, 0⟩ : S_api_Agg).cells) Try.sizeOf35 rfl rfl cellsOfStruct rfl (by intro v hv; exact ones_S_api_Agg _ v hv) H) rfl rfl ?_
    rintro _ h4 ⟨rfl, H⟩
    refine tr_p (y_assign rfl) rfl rfl ?_
    refine tr_nil ?_
    refine tr_thenN ?_
    refine tr_ret ?_
    refine tr_thenR ?_
    obtain ⟨y5, k6, H⟩ := H
    exact tr_rv2 rfl (rv_cellS Try.isAgg35 Try.sizeOf35 rfl rfl k6) (rv_tmp rfl) ⟨_, _, rfl, H⟩
  · replace H := H.2 g3
    refine tr_skip ?_
    refine tr_thenN ?_
    refine tr_seq ?_
    refine tr_seq ?_
    refine tr_region ?_
    refine tr_p (y_move rfl) rfl rfl ?_
    refine tr_p (y_eql rfl rfl) rfl rfl ?_
    refine tr_nil ?_
    refine tr_thenN ?_
    refine tr_cond rfl (fun g7 => ?_) (fun g7 => ?_)
    · replace H := H.1 g7
      refine tr_seq ?_
      refine tr_region ?_
      refine tr_p (y_move rfl) rfl rfl ?_
      refine tr_e (e_call Try.call39 rfl (F.chain_Chain_api_Agg_Newest_ok H)) rfl rfl ?_
      rintro _ h8 ⟨r9, r10, r11, rfl, H⟩
      refine tr_p (y_move rfl) rfl rfl ?_
      refine tr_p (y_ext rfl rfl) rfl rfl ?_
      refine tr_p (y_ext rfl rfl) rfl rfl ?_
      refine tr_p (y_ext rfl rfl) rfl rfl ?_
      refine tr_e (f_alloc (cs := ((⟨0, 0, 0, 0⟩ : S_api_Agg) : S_api_Agg).cells.toArray) Try.zeroValue35 rfl H) rfl rfl ?_
      rintro _ h12 ⟨a13, rfl, H⟩
      refine tr_e (f_store (vs := r9.cells) Try.sizeOf35 rfl rfl cellsOfStruct rfl (by intro v hv; exact ones_S_api_Agg _ v hv) H) rfl rfl ?_
      rintro _ h14 ⟨rfl, H⟩
      refine tr_p (y_assign rfl) rfl rfl ?_
      refine tr_p (y_assign rfl) rfl rfl ?_
      refine tr_nil ?_
      refine tr_thenN ?_
      refine tr_seq ?_
      refine tr_region ?_
      obtain ⟨y15, k16, H⟩ := H
      refine tr_h (y_ldS Try.isAgg35 Try.sizeOf35 rfl rfl) k16 rfl rfl ?_
      refine tr_p (y_move rfl) rfl rfl ?_
      refine tr_e (f_store (vs := y15.cells) Try.sizeOf35 rfl rfl cellsOfStruct rfl (by intro v hv; exact ones_S_api_Agg _ v hv) H) rfl rfl ?_
      rintro _ h17 ⟨rfl, H⟩
      refine tr_p (y_assign rfl) rfl rfl ?_
      refine tr_nil ?_
      refine tr_thenN ?_
      refine tr_ret ?_
      refine tr_thenR ?_
      obtain ⟨y18, k19, H⟩ := H
      exact tr_rv2 rfl (rv_cellS Try.isAgg35 Try.sizeOf35 rfl rfl k19) (rv_tmp rfl) ⟨_, _, rfl, H⟩
    · replace H := H.2 g7
      refine tr_skip ?_
      refine tr_thenN ?_
      refine tr_seq ?_
      refine tr_region ?_
      refine tr_p (y_move rfl) rfl rfl ?_
      refine tr_p (y_move rfl) rfl rfl ?_
      refine tr_e (e_call Try.call65 rfl (F.chain_Chain_api_Agg_At_ok H)) rfl rfl ?_
      rintro _ h20 ⟨r21, r22, rfl, H⟩
      refine tr_p (y_ext rfl rfl) rfl rfl ?_
      refine tr_p (y_ext rfl rfl) rfl rfl ?_
      refine tr_e (f_store (vs := r21.cells) Try.sizeOf35 rfl rfl cellsOfStruct rfl (by intro v hv; exact ones_S_api_Agg _ v hv) H) rfl rfl ?_
      rintro _ h23 ⟨rfl, H⟩
      refine tr_p (y_assign rfl) rfl rfl ?_
      refine tr_nil ?_
      refine tr_thenN ?_
      refine tr_ret ?_
      obtain ⟨y24, k25, H⟩ := H
      exact tr_rv2 rfl (rv_cellS Try.isAgg35 Try.sizeOf35 rfl rfl k25) (rv_tmp rfl) ⟨_, _, rfl, H⟩
/-- (*spate/shard.Shard).At -/
def F.shard_Shard_At (p0 : Option Addr) (p1 : S_api_Cell) (p2 : Int) (h : H) (Q : S_api_Agg → H → Prop) : Prop :=
  new h p1.cells.toArray ty_24 fun a2 h1 =>
  new h1 (((⟨0, 0, 0, 0⟩ : S_api_Agg) : S_api_Agg).cells.toArray) ty_35 fun a4 h3 =>
  ld_S_api_Cell h3 a2 fun y5 =>
  F.shard_Shard_chain p0 y5 h3 fun r8 h7 =>
  F.shard_at r8 p2 h7 fun r10 r11 h9 =>
  new h9 (((⟨0, 0, 0, 0⟩ : S_api_Agg) : S_api_Agg).cells.toArray) ty_35 fun a13 h12 =>
  stH h12 a13 r10.cells fun h14 =>
  ld_S_api_Agg h14 a13 fun y15 =>
  stH h14 a4 y15.cells fun h17 =>
  ld_S_api_Agg h17 a4 fun y18 =>
  Q y18 h17
theorem F.shard_Shard_At_ok {p0 : Option Addr} {p1 : S_api_Cell} {p2 : Int} {h : H} {Q : S_api_Agg → H → Prop} (H : F.shard_Shard_At p0 p1 p2 h Q) : Fn PP 19 ([(.pointer p0), (.agg p1.cells.toArray), (.int .i64 p2)] : List Value).toArray h fun r h' => ∃ r0, r = (.agg r0.cells.toArray) ∧ Q r0 h' := by
  unfold F.shard_Shard_At at H
  refine fn_of Try.func19 Try.ntmps19 rfl rfl fun w0 => ?_
  refine tr_sub [(0, (.pointer p0)), (1, (.agg p1.cells.toArray)), (2, (.int .i64 p2))] ⟨rfl, rfl, rfl, trivial⟩ ?_
  refine tr_seq ?_
  refine tr_region ?_
  refine tr_e (f_box (cs := p1.cells.toArray) rfl rfl H) rfl rfl ?_
  rintro _ h1 ⟨a2, rfl, H⟩
  refine tr_e (f_alloc (cs := ((⟨0, 0, 0, 0⟩ : S_api_Agg) : S_api_Agg).cells.toArray) Try.zeroValue35 rfl H) rfl rfl ?_
  rintro _ h3 ⟨a4, rfl, H⟩
  refine tr_nil ?_
  refine tr_thenN ?_
  refine tr_seq ?_
  refine tr_region ?_
  refine tr_p (y_move rfl) rfl rfl ?_
  obtain ⟨y5, k6, H⟩ := H
  refine tr_h (y_ldS Try.isAgg24 Try.sizeOf24 rfl rfl) k6 rfl rfl ?_
  refine tr_e (e_call Try.call45 rfl (F.shard_Shard_chain_ok H)) rfl rfl ?_
  rintro _ h7 ⟨r8, rfl, H⟩
  refine tr_p (y_move rfl) rfl rfl ?_
  refine tr_e (e_call Try.call44 rfl (F.shard_at_ok H)) rfl rfl ?_
  rintro _ h9 ⟨r10, r11, rfl, H⟩
  refine tr_p (y_move rfl) rfl rfl ?_
  refine tr_p (y_ext rfl rfl) rfl rfl ?_
  refine tr_p (y_ext rfl rfl) rfl rfl ?_
  refine tr_e (f_alloc (cs := ((⟨0, 0, 0, 0⟩ : S_api_Agg) : S_api_Agg).cells.toArray) Try.zeroValue35 rfl H) rfl rfl ?_
  rintro _ h12 ⟨a13, rfl, H⟩
  refine tr_e (f_store (vs := r10.cells) Try.sizeOf35 rfl rfl cellsOfStruct rfl (by intro v hv; exact ones_S_api_Agg _ v hv) H) rfl rfl ?_
  rintro _ h14 ⟨rfl, H⟩
  refine tr_p (y_assign rfl) rfl rfl ?_
  refine tr_nil ?_
  refine tr_thenN ?_
  refine tr_seq ?_
  refine tr_region ?_
  obtain ⟨y15, k16, H⟩ := H
  refine tr_h (y_ldS Try.isAgg35 Try.sizeOf35 rfl rfl) k16 rfl rfl ?_
  refine tr_e (f_store (vs := y15.cells) Try.sizeOf35 rfl rfl cellsOfStruct rfl (by intro v hv; exact ones_S_api_Agg _ v hv) H) rfl rfl ?_
  rintro _ h17 ⟨rfl, H⟩
  refine tr_nil ?_
  refine tr_thenN ?_
  refine tr_ret ?_
  obtain ⟨y18, k19, H⟩ := H
  exact tr_rv1 rfl (rv_cellS Try.isAgg35 Try.sizeOf35 rfl rfl k19) ⟨_, rfl, H⟩
/-- (*spate/shard.Shard).Get -/
def F.shard_Shard_Get (p0 : Option Addr) (p1 : S_api_Cell) (h : H) (Q : S_api_Agg → H → Prop) : Prop :=
  new h p1.cells.toArray ty_24 fun a2 h1 =>
  new h1 (((⟨0, 0, 0, 0⟩ : S_api_Agg) : S_api_Agg).cells.toArray) ty_35 fun a4 h3 =>
  ld_S_api_Cell h3 a2 fun y5 =>
  F.shard_Shard_At p0 y5 0 h3 fun r8 h7 =>
  stH h7 a4 r8.cells fun h9 =>
  ld_S_api_Agg h9 a4 fun y10 =>
  Q y10 h9
theorem F.shard_Shard_Get_ok {p0 : Option Addr} {p1 : S_api_Cell} {h : H} {Q : S_api_Agg → H → Prop} (H : F.shard_Shard_Get p0 p1 h Q) : Fn PP 17 ([(.pointer p0), (.agg p1.cells.toArray)] : List Value).toArray h fun r h' => ∃ r0, r = (.agg r0.cells.toArray) ∧ Q r0 h' := by
  unfold F.shard_Shard_Get at H
  refine fn_of Try.func17 Try.ntmps17 rfl rfl fun w0 => ?_
  refine tr_sub [(0, (.pointer p0)), (1, (.agg p1.cells.toArray))] ⟨rfl, rfl, trivial⟩ ?_
  refine tr_seq ?_
  refine tr_region ?_
  refine tr_e (f_box (cs := p1.cells.toArray) rfl rfl H) rfl rfl ?_
  rintro _ h1 ⟨a2, rfl, H⟩
  refine tr_e (f_alloc (cs := ((⟨0, 0, 0, 0⟩ : S_api_Agg) : S_api_Agg).cells.toArray) Try.zeroValue35 rfl H) rfl rfl ?_
  rintro _ h3 ⟨a4, rfl, H⟩
  refine tr_nil ?_
  refine tr_thenN ?_
  refine tr_seq ?_
  refine tr_region ?_
  refine tr_p (y_move rfl) rfl rfl ?_
  obtain ⟨y5, k6, H⟩ := H
  refine tr_h (y_ldS Try.isAgg24 Try.sizeOf24 rfl rfl) k6 rfl rfl ?_
  refine tr_e (e_call Try.call19 rfl (F.shard_Shard_At_ok H)) rfl rfl ?_
  rintro _ h7 ⟨r8, rfl, H⟩
  refine tr_e (f_store (vs := r8.cells) Try.sizeOf35 rfl rfl cellsOfStruct rfl (by intro v hv; exact ones_S_api_Agg _ v hv) H) rfl rfl ?_
  rintro _ h9 ⟨rfl, H⟩
  refine tr_nil ?_
  refine tr_thenN ?_
  refine tr_ret ?_
  obtain ⟨y10, k11, H⟩ := H
  exact tr_rv1 rfl (rv_cellS Try.isAgg35 Try.sizeOf35 rfl rfl k11) ⟨_, rfl, H⟩
def F.spatelaw7_head.j1 (Q : Bool → H → Prop) (x1 : Option Addr) (h : H) : Prop :=
  new h (((⟨0, (⟨#[]⟩ : ByteArray), 0⟩ : S_api_Cell) : S_api_Cell).cells.toArray) ty_24 fun a5 h4 =>
  stH h4 a5 ((⟨0, (⟨#[97]⟩ : ByteArray), 0⟩ : S_api_Cell).cells) fun h6 =>
  ld_S_api_Cell h6 a5 fun y7 =>
  F.spatelaw7_one 5 h6 fun r10 h9 =>
  Cells h9 a5 y7.cells ∧
  F.shard_Shard_Put x1 1 (⟨y7, r10⟩ : S_api_Row) h9 fun r13 h12 =>
  ld_S_api_Cell h12 a5 fun y14 =>
  F.spatelaw7_one 6 h12 fun r17 h16 =>
  Cells h16 a5 y14.cells ∧
  F.shard_Shard_Put x1 2 (⟨y14, r17⟩ : S_api_Row) h16 fun r20 h19 =>
  (((r13 == 0)) = true →
  (((r20 == 0)) = true →
  nn x1 fun a23 =>
  F.shard_counts_Units (some (a23.add 0)) h19 fun r26 h25 =>
  (((r26 == 3)) = true →
  nn x1 fun a28 =>
  F.shard_counts_Cells (some (a28.add 0)) h25 fun r31 h30 =>
  (((r31 == 1)) = true →
  F.shard_Shard_Most x1 h30 fun r34 h33 =>
  (((r34 == 2)) = true →
  ld_S_api_Cell h33 a5 fun y36 =>
  F.shard_Shard_Get x1 y36 h33 fun r39 h38 =>
  F.spatelaw7_one 6 h38 fun r41 h40 =>
  (((r39.Count == r41.Count) && ((r39.Sum == r41.Sum) && ((r39.Min == r41.Min) && ((r39.Max == r41.Max) && true)))) = true →
  ld_S_api_Cell h40 a5 fun y43 =>
  F.shard_Shard_At x1 y43 1 h40 fun r46 h45 =>
  F.spatelaw7_one 5 h45 fun r48 h47 =>
  Q ((r46.Count == r48.Count) && ((r46.Sum == r48.Sum) && ((r46.Min == r48.Min) && ((r46.Max == r48.Max) && true)))) h47) ∧
  (((r39.Count == r41.Count) && ((r39.Sum == r41.Sum) && ((r39.Min == r41.Min) && ((r39.Max == r41.Max) && true)))) = false →
  Q false h40)) ∧
  (((r34 == 2)) = false →
  Q false h33)) ∧
  (((r31 == 1)) = false →
  Q false h30)) ∧
  (((r26 == 3)) = false →
  Q false h25)) ∧
  (((r20 == 0)) = false →
  Q false h19)) ∧
  (((r13 == 0)) = false →
  Q false h19)
def F.spatelaw7_head.j2 (Q : Bool → H → Prop) (x1 : Option Addr) (x15 : Bool) (h : H) : Prop :=
  (x15 = true →
  Q false h) ∧
  (x15 = false →
  F.spatelaw7_head.j1 Q x1 h)
/-- spate/spatelaw7.head -/
def F.spatelaw7_head  (h : H) (Q : Bool → H → Prop) : Prop :=
  F.shard_New 6 h fun r2 r3 h1 =>
  (((r3 != 0)) = true →
  F.spatelaw7_head.j2 Q r2 true h1) ∧
  (((r3 != 0)) = false →
  F.spatelaw7_head.j2 Q r2 r2.isNone h1)
theorem F.spatelaw7_head_ok  {h : H} {Q : Bool → H → Prop} (H : F.spatelaw7_head  h Q) : Fn PP 12 ([] : List Value).toArray h fun r h' => ∃ r0, r = (.bool r0) ∧ Q r0 h' := by
  unfold F.spatelaw7_head at H
  refine fn_of Try.func12 Try.ntmps12 rfl rfl fun w0 => ?_
  refine tr_sub [] trivial ?_
  refine tr_seq ?_
  refine tr_region ?_
  refine tr_p (y_assign rfl) rfl rfl ?_
  refine tr_nil ?_
  refine tr_thenN ?_
  refine tr_seq ?_
  refine tr_region ?_
  refine tr_e (e_call Try.call13 rfl (F.shard_New_ok H)) rfl rfl ?_
  rintro _ h1 ⟨r2, r3, rfl, H⟩
  refine tr_p (y_move rfl) rfl rfl ?_
  refine tr_p (y_ext rfl rfl) rfl rfl ?_
  refine tr_p (y_ext rfl rfl) rfl rfl ?_
  refine tr_p (y_assign rfl) rfl rfl ?_
  refine tr_p (y_assign rfl) rfl rfl ?_
  refine tr_nil ?_
  refine tr_thenN ?_
  refine tr_seq_j (fun L' h => ∃ (x1 : Option Addr), L' = [(1, (.pointer x1))] ∧ F.spatelaw7_head.j1 Q x1 h) ?_ ?_
  · rintro L' h ⟨x1, rfl, H⟩
    unfold F.spatelaw7_head.j1 at H
    refine tr_seq ?_
    refine tr_region ?_
    refine tr_p (f_build rfl (bd_24_1 (⟨#[97]⟩ : ByteArray))) rfl rfl ?_
    refine tr_e (f_alloc (cs := ((⟨0, (⟨#[]⟩ : ByteArray), 0⟩ : S_api_Cell) : S_api_Cell).cells.toArray) Try.zeroValue24 rfl H) rfl rfl ?_
    rintro _ h4 ⟨a5, rfl, H⟩
    refine tr_e (f_store (vs := (⟨0, (⟨#[97]⟩ : ByteArray), 0⟩ : S_api_Cell).cells) Try.sizeOf24 rfl rfl cellsOfStruct rfl (by intro v hv; exact ones_S_api_Cell _ v hv) H) rfl rfl ?_
    rintro _ h6 ⟨rfl, H⟩
    refine tr_nil ?_
    refine tr_thenN ?_
    refine tr_seq ?_
    refine tr_draw mixed [0, 0, 0, 6, 15, 31] (by kernel_rfl) ?_
    refine g_p 0 1 rfl (by kernel_rfl) (y_move rfl) rfl rfl ?_
    obtain ⟨y7, k8, H⟩ := H
    refine g_h 1 3 rfl (by kernel_rfl) (y_ldS Try.isAgg24 Try.sizeOf24 rfl rfl) k8 rfl rfl ?_
    refine g_e 2 7 [(1, fun h => Cells h a5 y7.cells)] (by kernel_rfl) rfl (by kernel_rfl) (e_call Try.call20 rfl (F.spatelaw7_one_ok H)) rfl rfl ?_
    rintro _ h9 ⟨r10, rfl, H⟩
    obtain ⟨k11, H⟩ := H
    refine ⟨And.intro k11 trivial, ?_⟩
    refine g_p 3 15 rfl (by kernel_rfl) (f_build rfl (bd_43_0_1 y7 r10)) rfl rfl ?_
    refine g_e 4 31 [] (by kernel_rfl) rfl (by kernel_rfl) (e_call Try.call18 rfl (F.shard_Shard_Put_ok H)) rfl rfl ?_
    rintro _ h12 ⟨r13, rfl, H⟩
    refine ⟨trivial, ?_⟩
    refine g_p 5 63 rfl (by kernel_rfl) (y_assign rfl) rfl rfl ?_
    refine g_d (by kernel_rfl) ?_
    refine tr_thenN ?_
    refine tr_seq ?_
    refine tr_draw mixed [0, 0, 0, 6, 15, 31] (by kernel_rfl) ?_
    refine g_p 0 1 rfl (by kernel_rfl) (y_move rfl) rfl rfl ?_
    obtain ⟨y14, k15, H⟩ := H
    refine g_h 1 3 rfl (by kernel_rfl) (y_ldS Try.isAgg24 Try.sizeOf24 rfl rfl) k15 rfl rfl ?_
    refine g_e 2 7 [(1, fun h => Cells h a5 y14.cells)] (by kernel_rfl) rfl (by kernel_rfl) (e_call Try.call20 rfl (F.spatelaw7_one_ok H)) rfl rfl ?_
    rintro _ h16 ⟨r17, rfl, H⟩
    obtain ⟨k18, H⟩ := H
    refine ⟨And.intro k18 trivial, ?_⟩
    refine g_p 3 15 rfl (by kernel_rfl) (f_build rfl (bd_43_0_1 y14 r17)) rfl rfl ?_
    refine g_e 4 31 [] (by kernel_rfl) rfl (by kernel_rfl) (e_call Try.call18 rfl (F.shard_Shard_Put_ok H)) rfl rfl ?_
    rintro _ h19 ⟨r20, rfl, H⟩
    refine ⟨trivial, ?_⟩
    refine g_p 5 63 rfl (by kernel_rfl) (y_assign rfl) rfl rfl ?_
    refine g_d (by kernel_rfl) ?_
    refine tr_thenN ?_
    refine tr_seq ?_
    refine tr_region ?_
    refine tr_p (y_move rfl) rfl rfl ?_
    refine tr_p (y_eql rfl rfl) rfl rfl ?_
    refine tr_p (y_move rfl) rfl rfl ?_
    refine tr_split (t := 29) rfl (fun g21 => ?_) (fun g21 => ?_)
    · replace H := H.1 g21
      refine tr_p (y_move rfl) rfl rfl ?_
      refine tr_p (y_eql rfl rfl) rfl rfl ?_
      refine tr_p (y_pick_t rfl rfl) rfl rfl ?_
      refine tr_p (y_move rfl) rfl rfl ?_
      refine tr_split (t := 33) rfl (fun g22 => ?_) (fun g22 => ?_)
      · replace H := H.1 g22
        refine tr_p (y_move rfl) rfl rfl ?_
        obtain ⟨a23, e24, H⟩ := H
        refine tr_p (f_nn rfl e24) rfl rfl ?_
        refine tr_p (y_fa (off := 0) Try.runUnderlying54 fo_54_0 rfl) rfl rfl ?_
        refine tr_e (e_call Try.call22 rfl (F.shard_counts_Units_ok H)) rfl rfl ?_
        rintro _ h25 ⟨r26, rfl, H⟩
        refine tr_p (y_eql rfl rfl) rfl rfl ?_
        refine tr_p (y_pick_t rfl rfl) rfl rfl ?_
        refine tr_p (y_move rfl) rfl rfl ?_
        refine tr_split (t := 40) rfl (fun g27 => ?_) (fun g27 => ?_)
        · replace H := H.1 g27
          refine tr_p (y_move rfl) rfl rfl ?_
          obtain ⟨a28, e29, H⟩ := H
          refine tr_p (f_nn rfl e29) rfl rfl ?_
          refine tr_p (y_fa (off := 0) Try.runUnderlying54 fo_54_0 rfl) rfl rfl ?_
          refine tr_e (e_call Try.call23 rfl (F.shard_counts_Cells_ok H)) rfl rfl ?_
          rintro _ h30 ⟨r31, rfl, H⟩
          refine tr_p (y_eql rfl rfl) rfl rfl ?_
          refine tr_p (y_pick_t rfl rfl) rfl rfl ?_
          refine tr_p (y_move rfl) rfl rfl ?_
          refine tr_split (t := 47) rfl (fun g32 => ?_) (fun g32 => ?_)
          · replace H := H.1 g32
            refine tr_p (y_move rfl) rfl rfl ?_
            refine tr_e (e_call Try.call24 rfl (F.shard_Shard_Most_ok H)) rfl rfl ?_
            rintro _ h33 ⟨r34, rfl, H⟩
            refine tr_p (y_eql rfl rfl) rfl rfl ?_
            refine tr_p (y_pick_t rfl rfl) rfl rfl ?_
            refine tr_p (y_move rfl) rfl rfl ?_
            refine tr_split (t := 52) rfl (fun g35 => ?_) (fun g35 => ?_)
            · replace H := H.1 g35
              refine tr_p (y_move rfl) rfl rfl ?_
              obtain ⟨y36, k37, H⟩ := H
              refine tr_h (y_ldS Try.isAgg24 Try.sizeOf24 rfl rfl) k37 rfl rfl ?_
              refine tr_e (e_call Try.call17 rfl (F.shard_Shard_Get_ok H)) rfl rfl ?_
              rintro _ h38 ⟨r39, rfl, H⟩
              refine tr_e (e_call Try.call20 rfl (F.spatelaw7_one_ok H)) rfl rfl ?_
              rintro _ h40 ⟨r41, rfl, H⟩
              refine tr_p (st_eql (b := ((r39.Count == r41.Count) && ((r39.Sum == r41.Sum) && ((r39.Min == r41.Min) && ((r39.Max == r41.Max) && true))))) eqg_35 (fun w => eqst_35 r39 r41 9998 w) rfl rfl) rfl rfl ?_
              refine tr_p (y_pick_t rfl rfl) rfl rfl ?_
              refine tr_p (y_move rfl) rfl rfl ?_
              refine tr_split (t := 59) rfl (fun g42 => ?_) (fun g42 => ?_)
              · replace H := H.1 g42
                refine tr_p (y_move rfl) rfl rfl ?_
                obtain ⟨y43, k44, H⟩ := H
                refine tr_h (y_ldS Try.isAgg24 Try.sizeOf24 rfl rfl) k44 rfl rfl ?_
                refine tr_e (e_call Try.call19 rfl (F.shard_Shard_At_ok H)) rfl rfl ?_
                rintro _ h45 ⟨r46, rfl, H⟩
                refine tr_e (e_call Try.call20 rfl (F.spatelaw7_one_ok H)) rfl rfl ?_
                rintro _ h47 ⟨r48, rfl, H⟩
                refine tr_p (st_eql (b := ((r46.Count == r48.Count) && ((r46.Sum == r48.Sum) && ((r46.Min == r48.Min) && ((r46.Max == r48.Max) && true))))) eqg_35 (fun w => eqst_35 r46 r48 9998 w) rfl rfl) rfl rfl ?_
                refine tr_p (y_pick_t rfl rfl) rfl rfl ?_
                refine tr_p (y_assign rfl) rfl rfl ?_
                refine tr_nil ?_
                refine tr_thenN ?_
                refine tr_ret ?_
                exact tr_ret1 rfl rfl ⟨_, rfl, H⟩
              · replace H := H.2 g42
                refine tr_s rfl rfl ?_
                refine tr_s rfl rfl ?_
                refine tr_s rfl rfl ?_
                refine tr_s rfl rfl ?_
                refine tr_s rfl rfl ?_
                refine tr_p (y_pick_f rfl rfl) rfl rfl ?_
                refine tr_p (y_assign rfl) rfl rfl ?_
                refine tr_nil ?_
                refine tr_thenN ?_
                refine tr_ret ?_
                exact tr_ret1 rfl rfl ⟨_, rfl, H⟩
            · replace H := H.2 g35
              refine tr_s rfl rfl ?_
              refine tr_s rfl rfl ?_
              refine tr_s rfl rfl ?_
              refine tr_s rfl rfl ?_
              refine tr_s rfl rfl ?_
              refine tr_p (y_pick_f rfl rfl) rfl rfl ?_
              refine tr_p (y_move rfl) rfl rfl ?_
              refine tr_s rfl rfl ?_
              refine tr_s rfl rfl ?_
              refine tr_s rfl rfl ?_
              refine tr_s rfl rfl ?_
              refine tr_s rfl rfl ?_
              refine tr_p (y_pick_f rfl rfl) rfl rfl ?_
              refine tr_p (y_assign rfl) rfl rfl ?_
              refine tr_nil ?_
              refine tr_thenN ?_
              refine tr_ret ?_
              exact tr_ret1 rfl rfl ⟨_, rfl, H⟩
          · replace H := H.2 g32
            refine tr_s rfl rfl ?_
            refine tr_s rfl rfl ?_
            refine tr_s rfl rfl ?_
            refine tr_p (y_pick_f rfl rfl) rfl rfl ?_
            refine tr_p (y_move rfl) rfl rfl ?_
            refine tr_s rfl rfl ?_
            refine tr_s rfl rfl ?_
            refine tr_s rfl rfl ?_
            refine tr_s rfl rfl ?_
            refine tr_s rfl rfl ?_
            refine tr_p (y_pick_f rfl rfl) rfl rfl ?_
            refine tr_p (y_move rfl) rfl rfl ?_
            refine tr_s rfl rfl ?_
            refine tr_s rfl rfl ?_
            refine tr_s rfl rfl ?_
            refine tr_s rfl rfl ?_
            refine tr_s rfl rfl ?_
            refine tr_p (y_pick_f rfl rfl) rfl rfl ?_
            refine tr_p (y_assign rfl) rfl rfl ?_
            refine tr_nil ?_
            refine tr_thenN ?_
            refine tr_ret ?_
            exact tr_ret1 rfl rfl ⟨_, rfl, H⟩
        · replace H := H.2 g27
          refine tr_s rfl rfl ?_
          refine tr_s rfl rfl ?_
          refine tr_s rfl rfl ?_
          refine tr_s rfl rfl ?_
          refine tr_s rfl rfl ?_
          refine tr_p (y_pick_f rfl rfl) rfl rfl ?_
          refine tr_p (y_move rfl) rfl rfl ?_
          refine tr_s rfl rfl ?_
          refine tr_s rfl rfl ?_
          refine tr_s rfl rfl ?_
          refine tr_p (y_pick_f rfl rfl) rfl rfl ?_
          refine tr_p (y_move rfl) rfl rfl ?_
          refine tr_s rfl rfl ?_
          refine tr_s rfl rfl ?_
          refine tr_s rfl rfl ?_
          refine tr_s rfl rfl ?_
          refine tr_s rfl rfl ?_
          refine tr_p (y_pick_f rfl rfl) rfl rfl ?_
          refine tr_p (y_move rfl) rfl rfl ?_
          refine tr_s rfl rfl ?_
          refine tr_s rfl rfl ?_
          refine tr_s rfl rfl ?_
          refine tr_s rfl rfl ?_
          refine tr_s rfl rfl ?_
          refine tr_p (y_pick_f rfl rfl) rfl rfl ?_
          refine tr_p (y_assign rfl) rfl rfl ?_
          refine tr_nil ?_
          refine tr_thenN ?_
          refine tr_ret ?_
          exact tr_ret1 rfl rfl ⟨_, rfl, H⟩
      · replace H := H.2 g22
        refine tr_s rfl rfl ?_
        refine tr_s rfl rfl ?_
        refine tr_s rfl rfl ?_
        refine tr_s rfl rfl ?_
        refine tr_s rfl rfl ?_
        refine tr_p (y_pick_f rfl rfl) rfl rfl ?_
        refine tr_p (y_move rfl) rfl rfl ?_
        refine tr_s rfl rfl ?_
        refine tr_s rfl rfl ?_
        refine tr_s rfl rfl ?_
        refine tr_s rfl rfl ?_
        refine tr_s rfl rfl ?_
        refine tr_p (y_pick_f rfl rfl) rfl rfl ?_
        refine tr_p (y_move rfl) rfl rfl ?_
        refine tr_s rfl rfl ?_
        refine tr_s rfl rfl ?_
        refine tr_s rfl rfl ?_
        refine tr_p (y_pick_f rfl rfl) rfl rfl ?_
        refine tr_p (y_move rfl) rfl rfl ?_
        refine tr_s rfl rfl ?_
        refine tr_s rfl rfl ?_
        refine tr_s rfl rfl ?_
        refine tr_s rfl rfl ?_
        refine tr_s rfl rfl ?_
        refine tr_p (y_pick_f rfl rfl) rfl rfl ?_
        refine tr_p (y_move rfl) rfl rfl ?_
        refine tr_s rfl rfl ?_
        refine tr_s rfl rfl ?_
        refine tr_s rfl rfl ?_
        refine tr_s rfl rfl ?_
        refine tr_s rfl rfl ?_
        refine tr_p (y_pick_f rfl rfl) rfl rfl ?_
        refine tr_p (y_assign rfl) rfl rfl ?_
        refine tr_nil ?_
        refine tr_thenN ?_
        refine tr_ret ?_
        exact tr_ret1 rfl rfl ⟨_, rfl, H⟩
    · replace H := H.2 g21
      refine tr_s rfl rfl ?_
      refine tr_s rfl rfl ?_
      refine tr_p (y_pick_f rfl rfl) rfl rfl ?_
      refine tr_p (y_move rfl) rfl rfl ?_
      refine tr_s rfl rfl ?_
      refine tr_s rfl rfl ?_
      refine tr_s rfl rfl ?_
      refine tr_s rfl rfl ?_
      refine tr_s rfl rfl ?_
      refine tr_p (y_pick_f rfl rfl) rfl rfl ?_
      refine tr_p (y_move rfl) rfl rfl ?_
      refine tr_s rfl rfl ?_
      refine tr_s rfl rfl ?_
      refine tr_s rfl rfl ?_
      refine tr_s rfl rfl ?_
      refine tr_s rfl rfl ?_
      refine tr_p (y_pick_f rfl rfl) rfl rfl ?_
      refine tr_p (y_move rfl) rfl rfl ?_
      refine tr_s rfl rfl ?_
      refine tr_s rfl rfl ?_
      refine tr_s rfl rfl ?_
      refine tr_p (y_pick_f rfl rfl) rfl rfl ?_
      refine tr_p (y_move rfl) rfl rfl ?_
      refine tr_s rfl rfl ?_
      refine tr_s rfl rfl ?_
      refine tr_s rfl rfl ?_
      refine tr_s rfl rfl ?_
      refine tr_s rfl rfl ?_
      refine tr_p (y_pick_f rfl rfl) rfl rfl ?_
      refine tr_p (y_move rfl) rfl rfl ?_
      refine tr_s rfl rfl ?_
      refine tr_s rfl rfl ?_
      refine tr_s rfl rfl ?_
      refine tr_s rfl rfl ?_
      refine tr_s rfl rfl ?_
      refine tr_p (y_pick_f rfl rfl) rfl rfl ?_
      refine tr_p (y_assign rfl) rfl rfl ?_
      refine tr_nil ?_
      refine tr_thenN ?_
      refine tr_ret ?_
      exact tr_ret1 rfl rfl ⟨_, rfl, H⟩
  · refine tr_seq_j (fun L' h => ∃ (x1 : Option Addr) (x15 : Bool), L' = [(1, (.pointer x1)), (15, (.bool x15))] ∧ F.spatelaw7_head.j2 Q x1 x15 h) ?_ ?_
    · rintro L' h ⟨x1, x15, rfl, H⟩
      unfold F.spatelaw7_head.j2 at H
      refine tr_cond rfl (fun g49 => ?_) (fun g49 => ?_)
      · replace H := H.1 g49
        refine tr_seq ?_
        refine tr_region ?_
        refine tr_p (y_assign rfl) rfl rfl ?_
        refine tr_nil ?_
        refine tr_thenN ?_
        refine tr_ret ?_
        refine tr_thenR ?_
        exact tr_ret1 rfl rfl ⟨_, rfl, H⟩
      · replace H := H.2 g49
        refine tr_skip ?_
        refine tr_thenN ?_
        exact tr_join [(1, (.pointer x1))] ⟨rfl, trivial⟩ ⟨_, rfl, H⟩
    · refine tr_region ?_
      refine tr_p (y_move rfl) rfl rfl ?_
      refine tr_p (y_neq rfl rfl) rfl rfl ?_
      refine tr_p (y_move rfl) rfl rfl ?_
      refine tr_split (t := 12) rfl (fun g50 => ?_) (fun g50 => ?_)
      · replace H := H.1 g50
        refine tr_s rfl rfl ?_
        refine tr_s rfl rfl ?_
        refine tr_p (y_pick_t rfl rfl) rfl rfl ?_
        refine tr_nil ?_
        refine tr_thenN ?_
        exact tr_join [(1, (.pointer r2)), (15, (.bool true))] ⟨rfl, rfl, trivial⟩ ⟨_, _, rfl, H⟩
      · replace H := H.2 g50
        refine tr_p (y_move rfl) rfl rfl ?_
        refine tr_p (y_pnil_eql Try.runUnderlying27 rfl rfl) rfl rfl ?_
        refine tr_p (y_pick_f rfl rfl) rfl rfl ?_
        refine tr_nil ?_
        refine tr_thenN ?_
        exact tr_join [(1, (.pointer r2)), (15, (.bool r2.isNone))] ⟨rfl, rfl, trivial⟩ ⟨_, _, rfl, H⟩
def F.spatelaw7_within.j1 (Q : Int → H → Prop) (x5 : Int) (h : H) : Prop :=
  Q x5 h
/-- spate/spatelaw7.within -/
def F.spatelaw7_within (p0 : Int) (p1 : Int) (h : H) (Q : Int → H → Prop) : Prop :=
  (p1 : Int) ≠ 0 ∧
  ((decide ((Int.tmod p0 p1) < 0)) = true →
  F.spatelaw7_within.j1 Q (IntKind.wrap .i64 ((Int.tmod p0 p1) + p1)) h) ∧
  ((decide ((Int.tmod p0 p1) < 0)) = false →
  F.spatelaw7_within.j1 Q (Int.tmod p0 p1) h)
theorem F.spatelaw7_within_ok {p0 : Int} {p1 : Int} {h : H} {Q : Int → H → Prop} (H : F.spatelaw7_within p0 p1 h Q) : Fn PP 15 ([(.int .i64 p0), (.int .i64 p1)] : List Value).toArray h fun r h' => ∃ r0, r = (.int .i64 r0) ∧ Q r0 h' := by
  unfold F.spatelaw7_within at H
  refine fn_of Try.func15 Try.ntmps15 rfl rfl fun w0 => ?_
  refine tr_sub [(0, (.int .i64 p0)), (1, (.int .i64 p1))] ⟨rfl, rfl, trivial⟩ ?_
  refine tr_seq ?_
  refine tr_region ?_
  refine tr_p (y_assign rfl) rfl rfl ?_
  refine tr_nil ?_
  refine tr_thenN ?_
  refine tr_seq ?_
  refine tr_region ?_
  refine tr_p (y_move rfl) rfl rfl ?_
  refine tr_p (y_move rfl) rfl rfl ?_
  obtain ⟨e1, H⟩ := H
  refine tr_p (y_rem rfl rfl e1) rfl rfl ?_
  refine tr_p (y_assign rfl) rfl rfl ?_
  refine tr_nil ?_
  refine tr_thenN ?_
  refine tr_seq_j (fun L' h => ∃ (x5 : Int), L' = [(5, (.int .i64 x5))] ∧ F.spatelaw7_within.j1 Q x5 h) ?_ ?_
  · rintro L' h ⟨x5, rfl, H⟩
    unfold F.spatelaw7_within.j1 at H
    refine tr_seq ?_
    refine tr_region ?_
    refine tr_p (y_move rfl) rfl rfl ?_
    refine tr_p (y_assign rfl) rfl rfl ?_
    refine tr_nil ?_
    refine tr_thenN ?_
    refine tr_ret ?_
    exact tr_ret1 rfl rfl ⟨_, rfl, H⟩
  · refine tr_seq ?_
    refine tr_region ?_
    refine tr_p (y_move rfl) rfl rfl ?_
    refine tr_p (y_lss rfl rfl) rfl rfl ?_
    refine tr_nil ?_
    refine tr_thenN ?_
    refine tr_cond rfl (fun g2 => ?_) (fun g2 => ?_)
    · replace H := H.1 g2
      refine tr_region ?_
      refine tr_p (y_move rfl) rfl rfl ?_
      refine tr_p (y_move rfl) rfl rfl ?_
      refine tr_p (y_add rfl rfl) rfl rfl ?_
      refine tr_p (y_assign rfl) rfl rfl ?_
      refine tr_nil ?_
      refine tr_thenN ?_
      exact tr_join [(5, (.int .i64 (IntKind.wrap .i64 ((Int.tmod p0 p1) + p1))))] ⟨rfl, trivial⟩ ⟨_, rfl, H⟩
    · replace H := H.2 g2
      refine tr_skip ?_
      refine tr_thenN ?_
      exact tr_join [(5, (.int .i64 (Int.tmod p0 p1)))] ⟨rfl, trivial⟩ ⟨_, rfl, H⟩
def F.spatelaw7_few.j1 (Q : S_api_Cell → H → Prop) (x1 : Addr) (x2 : Addr) (x3 : ByteArray) (h : H) : Prop :=
  ldI .i64 h (x1.add 0) fun y5 =>
  ldI .i64 h (x1.add 2) fun y7 =>
  (3 : Int) ≠ 0 ∧
  F.spatelaw7_within y5 2 h fun r11 h10 =>
  cellH h10 (x1.add 2) = some (.int .i64 y7) ∧
  stH h10 x2 ((⟨r11, x3, (Int.tmod y7 3)⟩ : S_api_Cell).cells) fun h13 =>
  ld_S_api_Cell h13 x2 fun y14 =>
  Q y14 h13
/-- spate/spatelaw7.few -/
def F.spatelaw7_few (p0 : S_api_Cell) (h : H) (Q : S_api_Cell → H → Prop) : Prop :=
  new h p0.cells.toArray ty_24 fun a2 h1 =>
  new h1 (((⟨0, (⟨#[]⟩ : ByteArray), 0⟩ : S_api_Cell) : S_api_Cell).cells.toArray) ty_24 fun a4 h3 =>
  ldS h3 (a2.add 1) fun y16 =>
  ((decide ((y16.size : Int) > 0)) = true →
  ldS h3 (a2.add 1) fun y19 =>
  idxS y19 0 fun b21 =>
  (4 : Int) ≠ 0 ∧
  newL h3 #[(.int .u8 (IntKind.wrap .u8 (97 + (Int.tmod b21 4))))] ty_5 1 fun s25 h24 =>
  runT PP (convert 46 9 s25.enc) h24 fun s27 h26 =>
  F.spatelaw7_few.j1 Q a2 a4 s27 h26) ∧
  ((decide ((y16.size : Int) > 0)) = false →
  F.spatelaw7_few.j1 Q a2 a4 (⟨#[107]⟩ : ByteArray) h3)
theorem F.spatelaw7_few_ok {p0 : S_api_Cell} {h : H} {Q : S_api_Cell → H → Prop} (H : F.spatelaw7_few p0 h Q) : Fn PP 14 ([(.agg p0.cells.toArray)] : List Value).toArray h fun r h' => ∃ r0, r = (.agg r0.cells.toArray) ∧ Q r0 h' := by
  unfold F.spatelaw7_few at H
  refine fn_of Try.func14 Try.ntmps14 rfl rfl fun w0 => ?_
  refine tr_sub [(0, (.agg p0.cells.toArray))] ⟨rfl, trivial⟩ ?_
  refine tr_seq ?_
  refine tr_region ?_
  refine tr_e (f_box (cs := p0.cells.toArray) rfl rfl H) rfl rfl ?_
  rintro _ h1 ⟨a2, rfl, H⟩
  refine tr_e (f_alloc (cs := ((⟨0, (⟨#[]⟩ : ByteArray), 0⟩ : S_api_Cell) : S_api_Cell).cells.toArray) Try.zeroValue24 rfl H) rfl rfl ?_
  rintro _ h3 ⟨a4, rfl, H⟩
  refine tr_nil ?_
  refine tr_thenN ?_
  refine tr_seq ?_
  refine tr_region ?_
  refine tr_p (y_assign rfl) rfl rfl ?_
  refine tr_nil ?_
  refine tr_thenN ?_
  refine tr_seq_j (fun L' h => ∃ (x1 : Addr) (x2 : Addr) (x3 : ByteArray), L' = [(1, (.pointer (some x1))), (2, (.pointer (some x2))), (3, (.string x3))] ∧ F.spatelaw7_few.j1 Q x1 x2 x3 h) ?_ ?_
  · rintro L' h ⟨x1, x2, x3, rfl, H⟩
    unfold F.spatelaw7_few.j1 at H
    refine tr_seq ?_
    refine tr_draw mixed [0, 1, 3, 0, 0, 16, 48, 127, 255] (by kernel_rfl) ?_
    refine g_p 0 1 rfl (by kernel_rfl) (y_fa (off := 0) Try.runUnderlying24 fo_24_0 rfl) rfl rfl ?_
    obtain ⟨y5, k6, H⟩ := H
    refine g_h 1 3 rfl (by kernel_rfl) (y_ld Try.isAgg3 rfl) k6 rfl rfl ?_
    refine g_p 3 11 rfl (by kernel_rfl) (y_move rfl) rfl rfl ?_
    refine g_p 4 27 rfl (by kernel_rfl) (y_fa (off := 2) Try.runUnderlying24 fo_24_2 rfl) rfl rfl ?_
    obtain ⟨y7, k8, H⟩ := H
    refine g_h 5 59 rfl (by kernel_rfl) (y_ld Try.isAgg2 rfl) k8 rfl rfl ?_
    obtain ⟨e9, H⟩ := H
    refine g_p 6 123 rfl (by kernel_rfl) (y_rem rfl rfl e9) rfl rfl ?_
    refine g_e 2 127 [(5, fun h => cellH h (x1.add 2) = some (.int .i64 y7))] (by kernel_rfl) rfl (by kernel_rfl) (e_call Try.call15 rfl (F.spatelaw7_within_ok H)) rfl rfl ?_
    rintro _ h10 ⟨r11, rfl, H⟩
    obtain ⟨k12, H⟩ := H
    refine ⟨And.intro k12 trivial, ?_⟩
    refine g_p 7 255 rfl (by kernel_rfl) (f_build rfl (bd_24_0_1_2 r11 x3 (Int.tmod y7 3))) rfl rfl ?_
    refine g_e 8 511 [] (by kernel_rfl) rfl (by kernel_rfl) (f_store (vs := (⟨r11, x3, (Int.tmod y7 3)⟩ : S_api_Cell).cells) Try.sizeOf24 rfl rfl cellsOfStruct rfl (by intro v hv; exact ones_S_api_Cell _ v hv) H) rfl rfl ?_
    rintro _ h13 ⟨rfl, H⟩
    refine ⟨trivial, ?_⟩
    refine g_d (by kernel_rfl) ?_
    refine tr_thenN ?_
    refine tr_ret ?_
    obtain ⟨y14, k15, H⟩ := H
    exact tr_rv1 rfl (rv_cellS Try.isAgg24 Try.sizeOf24 rfl rfl k15) ⟨_, rfl, H⟩
  · refine tr_seq ?_
    refine tr_region ?_
    refine tr_p (y_fa (off := 1) Try.runUnderlying24 fo_24_1 rfl) rfl rfl ?_
    obtain ⟨y16, k17, H⟩ := H
    refine tr_h (y_ld Try.isAgg9 rfl) k17 rfl rfl ?_
    refine tr_p (y_lenS Try.runUnderlying9 rfl) rfl rfl ?_
    refine tr_p (y_gtr rfl rfl) rfl rfl ?_
    refine tr_nil ?_
    refine tr_thenN ?_
    refine tr_cond rfl (fun g18 => ?_) (fun g18 => ?_)
    · replace H := H.1 g18
      refine tr_region ?_
      refine tr_p (y_fa (off := 1) Try.runUnderlying24 fo_24_1 rfl) rfl rfl ?_
      obtain ⟨y19, k20, H⟩ := H
      refine tr_h (y_ld Try.isAgg9 rfl) k20 rfl rfl ?_
      obtain ⟨b21, e22, H⟩ := H
      refine tr_p (f_idxS Try.runUnderlying9 rfl rfl e22) rfl rfl ?_
      obtain ⟨e23, H⟩ := H
      refine tr_p (y_rem rfl rfl e23) rfl rfl ?_
      refine tr_p (y_add rfl rfl) rfl rfl ?_
      refine tr_e (f_buildL (cs := #[(.int .u8 (IntKind.wrap .u8 (97 + (Int.tmod b21 4))))]) rfl rfl (bl_46_1_0 (IntKind.wrap .u8 (97 + (Int.tmod b21 4)))) H) rfl rfl ?_
      rintro _ h24 ⟨s25, rfl, H⟩
      refine tr_e (f_cvtT rfl H) rfl rfl ?_
      rintro _ h26 ⟨s27, rfl, H⟩
      refine tr_p (y_assign rfl) rfl rfl ?_
      refine tr_nil ?_
      refine tr_thenN ?_
      exact tr_join [(1, (.pointer (some a2))), (2, (.pointer (some a4))), (3, (.string s27))] ⟨rfl, rfl, rfl, trivial⟩ ⟨_, _, _, rfl, H⟩
    · replace H := H.2 g18
      refine tr_skip ?_
      refine tr_thenN ?_
      exact tr_join [(1, (.pointer (some a2))), (2, (.pointer (some a4))), (3, (.string (⟨#[107]⟩ : ByteArray)))] ⟨rfl, rfl, rfl, trivial⟩ ⟨_, _, _, rfl, H⟩
/-- spate/agg.Add -/
def F.agg_Add (p0 : Int) (p1 : Int) (h : H) (Q : Int → Value → H → Prop) : Prop :=
  (((decide ((IntKind.wrap .i64 (p0 + p1)) > p0)) == (decide (p1 > 0))) = true →
  Q (IntKind.wrap .i64 (p0 + p1)) .nilIface h) ∧
  (((decide ((IntKind.wrap .i64 (p0 + p1)) > p0)) == (decide (p1 > 0))) = false →
  new h ((⟨43, p0, p1⟩ : S_agg_Overflow).cells.toArray) ty_146 fun a3 h2 =>
  Q 0 (.iface 144 (.pointer (some a3))) h2)
theorem F.agg_Add_ok {p0 : Int} {p1 : Int} {h : H} {Q : Int → Value → H → Prop} (H : F.agg_Add p0 p1 h Q) : Fn PP 55 ([(.int .i64 p0), (.int .i64 p1)] : List Value).toArray h fun r h' => ∃ r0 r1, r = .tuple #[(.int .i64 r0), r1] ∧ Q r0 r1 h' := by
  unfold F.agg_Add at H
  refine fn_of Try.func55 Try.ntmps55 rfl rfl fun w0 => ?_
  refine tr_sub [(0, (.int .i64 p0)), (1, (.int .i64 p1))] ⟨rfl, rfl, trivial⟩ ?_
  refine tr_seq ?_
  refine tr_region ?_
  refine tr_p (y_assign rfl) rfl rfl ?_
  refine tr_p (y_assign rfl) rfl rfl ?_
  refine tr_nil ?_
  refine tr_thenN ?_
  refine tr_seq ?_
  refine tr_seq ?_
  refine tr_region ?_
  refine tr_p (y_move rfl) rfl rfl ?_
  refine tr_p (y_move rfl) rfl rfl ?_
  refine tr_p (y_add rfl rfl) rfl rfl ?_
  refine tr_p (y_assign rfl) rfl rfl ?_
  refine tr_nil ?_
  refine tr_thenN ?_
  refine tr_seq ?_
  refine tr_region ?_
  refine tr_p (y_move rfl) rfl rfl ?_
  refine tr_p (y_move rfl) rfl rfl ?_
  refine tr_p (y_gtr rfl rfl) rfl rfl ?_
  refine tr_p (y_move rfl) rfl rfl ?_
  refine tr_p (y_gtr rfl rfl) rfl rfl ?_
  refine tr_p (y_beql Try.underlying4 rfl rfl) rfl rfl ?_
  refine tr_nil ?_
  refine tr_thenN ?_
  refine tr_cond rfl (fun g1 => ?_) (fun g1 => ?_)
  · replace H := H.1 g1
    refine tr_seq ?_
    refine tr_region ?_
    refine tr_p (y_move rfl) rfl rfl ?_
    refine tr_p (y_assign rfl) rfl rfl ?_
    refine tr_p (y_assign rfl) rfl rfl ?_
    refine tr_nil ?_
    refine tr_thenN ?_
    refine tr_ret ?_
    refine tr_thenR ?_
    exact tr_ret2 rfl rfl rfl ⟨_, _, rfl, H⟩
  · replace H := H.2 g1
    refine tr_skip ?_
    refine tr_thenN ?_
    refine tr_seq ?_
    refine tr_region ?_
    refine tr_p (y_move rfl) rfl rfl ?_
    refine tr_p (y_move rfl) rfl rfl ?_
    refine tr_p (f_build rfl (bd_146_0_1_2 43 p0 p1)) rfl rfl ?_
    refine tr_e (f_box (cs := (⟨43, p0, p1⟩ : S_agg_Overflow).cells.toArray) rfl rfl H) rfl rfl ?_
    rintro _ h2 ⟨a3, rfl, H⟩
    refine tr_p (y_mkif Try.runUnderlying144 rfl rfl) rfl rfl ?_
    refine tr_p (y_assign rfl) rfl rfl ?_
    refine tr_p (y_assign rfl) rfl rfl ?_
    refine tr_nil ?_
    refine tr_thenN ?_
    refine tr_ret ?_
    exact tr_ret2 rfl rfl rfl ⟨_, _, rfl, H⟩
/-- spate/agg.Merge -/
def F.agg_Merge (p0 : S_api_Agg) (p1 : S_api_Agg) (h : H) (Q : S_api_Agg → Value → H → Prop) : Prop :=
  new h p0.cells.toArray ty_35 fun a2 h1 =>
  new h1 p1.cells.toArray ty_35 fun a4 h3 =>
  new h3 (((⟨0, 0, 0, 0⟩ : S_api_Agg) : S_api_Agg).cells.toArray) ty_35 fun a6 h5 =>
  ldI .i64 h5 (a2.add 0) fun y7 =>
  (((y7 == 0)) = true →
  ld_S_api_Agg h5 a4 fun y10 =>
  stH h5 a6 y10.cells fun h12 =>
  ld_S_api_Agg h12 a6 fun y13 =>
  Q y13 .nilIface h12) ∧
  (((y7 == 0)) = false →
  ldI .i64 h5 (a4.add 0) fun y15 =>
  (((y15 == 0)) = true →
  ld_S_api_Agg h5 a2 fun y18 =>
  stH h5 a6 y18.cells fun h20 =>
  ld_S_api_Agg h20 a6 fun y21 =>
  Q y21 .nilIface h20) ∧
  (((y15 == 0)) = false →
  ldI .i64 h5 (a2.add 0) fun y23 =>
  ldI .i64 h5 (a4.add 0) fun y25 =>
  F.agg_Add y23 y25 h5 fun r28 r29 h27 =>
  isI r29 ∧
  ((!isNilI r29) = true →
  stH h27 a6 ((⟨0, 0, 0, 0⟩ : S_api_Agg).cells) fun h32 =>
  ld_S_api_Agg h32 a6 fun y33 =>
  Q y33 r29 h32) ∧
  ((!isNilI r29) = false →
  ldI .i64 h27 (a2.add 1) fun y35 =>
  ldI .i64 h27 (a4.add 1) fun y37 =>
  F.agg_Add y35 y37 h27 fun r40 r41 h39 =>
  isI r41 ∧
  ((!isNilI r41) = true →
  stH h39 a6 ((⟨0, 0, 0, 0⟩ : S_api_Agg).cells) fun h44 =>
  ld_S_api_Agg h44 a6 fun y45 =>
  Q y45 r41 h44) ∧
  ((!isNilI r41) = false →
  ldI .i64 h39 (a2.add 2) fun y47 =>
  ldI .i64 h39 (a4.add 2) fun y49 =>
  runI PP (Builtin.min_ #[2, 2] 2 #[(.int .i64 y47), (.int .i64 y49)]) h39 .i64 fun s52 h51 =>
  ldI .i64 h51 (a2.add 3) fun y53 =>
  ldI .i64 h51 (a4.add 3) fun y55 =>
  runI PP (Builtin.max_ #[2, 2] 2 #[(.int .i64 y53), (.int .i64 y55)]) h51 .i64 fun s58 h57 =>
  stH h57 a6 ((⟨r28, r40, s52, s58⟩ : S_api_Agg).cells) fun h59 =>
  ld_S_api_Agg h59 a6 fun y60 =>
  Q y60 .nilIface h59))))
theorem F.agg_Merge_ok {p0 : S_api_Agg} {p1 : S_api_Agg} {h : H} {Q : S_api_Agg → Value → H → Prop} (H : F.agg_Merge p0 p1 h Q) : Fn PP 35 ([(.agg p0.cells.toArray), (.agg p1.cells.toArray)] : List Value).toArray h fun r h' => ∃ r0 r1, r = .tuple #[(.agg r0.cells.toArray), r1] ∧ Q r0 r1 h' := by
  unfold F.agg_Merge at H
  refine fn_of Try.func35 Try.ntmps35 rfl rfl fun w0 => ?_
  refine tr_sub [(0, (.agg p0.cells.toArray)), (1, (.agg p1.cells.toArray))] ⟨rfl, rfl, trivial⟩ ?_
  refine tr_seq ?_
  refine tr_region ?_
  refine tr_e (f_box (cs := p0.cells.toArray) rfl rfl H) rfl rfl ?_
  rintro _ h1 ⟨a2, rfl, H⟩
  refine tr_e (f_box (cs := p1.cells.toArray) rfl rfl H) rfl rfl ?_
  rintro _ h3 ⟨a4, rfl, H⟩
  refine tr_e (f_alloc (cs := ((⟨0, 0, 0, 0⟩ : S_api_Agg) : S_api_Agg).cells.toArray) Try.zeroValue35 rfl H) rfl rfl ?_
  rintro _ h5 ⟨a6, rfl, H⟩
  refine tr_p (y_assign rfl) rfl rfl ?_
  refine tr_nil ?_
  refine tr_thenN ?_
  refine tr_seq ?_
  refine tr_seq ?_
  refine tr_region ?_
  refine tr_p (y_fa (off := 0) Try.runUnderlying35 fo_35_0 rfl) rfl rfl ?_
  obtain ⟨y7, k8, H⟩ := H
  refine tr_h (y_ld Try.isAgg2 rfl) k8 rfl rfl ?_
  refine tr_p (y_eql rfl rfl) rfl rfl ?_
  refine tr_nil ?_
  refine tr_thenN ?_
  refine tr_cond rfl (fun g9 => ?_) (fun g9 => ?_)
  · replace H := H.1 g9
    refine tr_seq ?_
    refine tr_region ?_
    obtain ⟨y10, k11, H⟩ := H
    refine tr_h (y_ldS Try.isAgg35 Try.sizeOf35 rfl rfl) k11 rfl rfl ?_
    refine tr_e (f_store (vs := y10.cells) Try.sizeOf35 rfl rfl cellsOfStruct rfl (by intro v hv; exact ones_S_api_Agg _ v hv) H) rfl rfl ?_
    rintro _ h12 ⟨rfl, H⟩
    refine tr_p (y_assign rfl) rfl rfl ?_
    refine tr_nil ?_
    refine tr_thenN ?_
    refine tr_ret ?_
    refine tr_thenR ?_
    obtain ⟨y13, k14, H⟩ := H
    exact tr_rv2 rfl (rv_cellS Try.isAgg35 Try.sizeOf35 rfl rfl k14) (rv_tmp rfl) ⟨_, _, rfl, H⟩
  · replace H := H.2 g9
    refine tr_skip ?_
    refine tr_thenN ?_
    refine tr_seq ?_
    refine tr_seq ?_
    refine tr_region ?_
    refine tr_p (y_fa (off := 0) Try.runUnderlying35 fo_35_0 rfl) rfl rfl ?_
    obtain ⟨y15, k16, H⟩ := H
    refine tr_h (y_ld Try.isAgg2 rfl) k16 rfl rfl ?_
    refine tr_p (y_eql rfl rfl) rfl rfl ?_
    refine tr_nil ?_
    refine tr_thenN ?_
    refine tr_cond rfl (fun g17 => ?_) (fun g17 => ?_)
    · replace H := H.1 g17
      refine tr_seq ?_
      refine tr_region ?_
      obtain ⟨y18, k19, H⟩ := H
      refine tr_h (y_ldS Try.isAgg35 Try.sizeOf35 rfl rfl) k19 rfl rfl ?_
      refine tr_e (f_store (vs := y18.cells) Try.sizeOf35 rfl rfl cellsOfStruct rfl (by intro v hv; exact ones_S_api_Agg _ v hv) H) rfl rfl ?_
      rintro _ h20 ⟨rfl, H⟩
      refine tr_p (y_assign rfl) rfl rfl ?_
      refine tr_nil ?_
      refine tr_thenN ?_
      refine tr_ret ?_
      refine tr_thenR ?_
      obtain ⟨y21, k22, H⟩ := H
      exact tr_rv2 rfl (rv_cellS Try.isAgg35 Try.sizeOf35 rfl rfl k22) (rv_tmp rfl) ⟨_, _, rfl, H⟩
    · replace H := H.2 g17
      refine tr_skip ?_
      refine tr_thenN ?_
      refine tr_seq ?_
      refine tr_region ?_
      refine tr_p (y_fa (off := 0) Try.runUnderlying35 fo_35_0 rfl) rfl rfl ?_
      obtain ⟨y23, k24, H⟩ := H
      refine tr_h (y_ld Try.isAgg2 rfl) k24 rfl rfl ?_
      refine tr_p (y_fa (off := 0) Try.runUnderlying35 fo_35_0 rfl) rfl rfl ?_
      obtain ⟨y25, k26, H⟩ := H
      refine tr_h (y_ld Try.isAgg2 rfl) k26 rfl rfl ?_
      refine tr_e (e_call Try.call55 rfl (F.agg_Add_ok H)) rfl rfl ?_
      rintro _ h27 ⟨r28, r29, rfl, H⟩
      refine tr_p (y_move rfl) rfl rfl ?_
      refine tr_p (y_ext rfl rfl) rfl rfl ?_
      refine tr_p (y_ext rfl rfl) rfl rfl ?_
      refine tr_p (y_assign rfl) rfl rfl ?_
      refine tr_p (y_assign rfl) rfl rfl ?_
      refine tr_nil ?_
      refine tr_thenN ?_
      refine tr_seq ?_
      refine tr_seq ?_
      refine tr_region ?_
      refine tr_p (y_move rfl) rfl rfl ?_
      obtain ⟨e30, H⟩ := H
      refine tr_p (y_inil_neq Try.runUnderlying37 rfl e30) rfl rfl ?_
      refine tr_nil ?_
      refine tr_thenN ?_
      refine tr_cond rfl (fun g31 => ?_) (fun g31 => ?_)
      · replace H := H.1 g31
        refine tr_seq ?_
        refine tr_region ?_
        refine tr_p (f_build rfl (bd_35_ )) rfl rfl ?_
        refine tr_p (y_move rfl) rfl rfl ?_
        refine tr_e (f_store (vs := (⟨0, 0, 0, 0⟩ : S_api_Agg).cells) Try.sizeOf35 rfl rfl cellsOfStruct rfl (by intro v hv; exact ones_S_api_Agg _ v hv) H) rfl rfl ?_
        rintro _ h32 ⟨rfl, H⟩
        refine tr_p (y_assign rfl) rfl rfl ?_
        refine tr_nil ?_
        refine tr_thenN ?_
        refine tr_ret ?_
        refine tr_thenR ?_
        obtain ⟨y33, k34, H⟩ := H
        exact tr_rv2 rfl (rv_cellS Try.isAgg35 Try.sizeOf35 rfl rfl k34) (rv_tmp rfl) ⟨_, _, rfl, H⟩
      · replace H := H.2 g31
        refine tr_skip ?_
        refine tr_thenN ?_
        refine tr_seq ?_
        refine tr_region ?_
        refine tr_p (y_fa (off := 1) Try.runUnderlying35 fo_35_1 rfl) rfl rfl ?_
        obtain ⟨y35, k36, H⟩ := H
        refine tr_h (y_ld Try.isAgg2 rfl) k36 rfl rfl ?_
        refine tr_p (y_fa (off := 1) Try.runUnderlying35 fo_35_1 rfl) rfl rfl ?_
        obtain ⟨y37, k38, H⟩ := H
        refine tr_h (y_ld Try.isAgg2 rfl) k38 rfl rfl ?_
        refine tr_e (e_call Try.call55 rfl (F.agg_Add_ok H)) rfl rfl ?_
        rintro _ h39 ⟨r40, r41, rfl, H⟩
        refine tr_p (y_move rfl) rfl rfl ?_
        refine tr_p (y_ext rfl rfl) rfl rfl ?_
        refine tr_p (y_ext rfl rfl) rfl rfl ?_
        refine tr_p (y_assign rfl) rfl rfl ?_
        refine tr_p (y_assign rfl) rfl rfl ?_
        refine tr_nil ?_
        refine tr_thenN ?_
        refine tr_seq ?_
        refine tr_seq ?_
        refine tr_region ?_
        refine tr_p (y_move rfl) rfl rfl ?_
        obtain ⟨e42, H⟩ := H
        refine tr_p (y_inil_neq Try.runUnderlying37 rfl e42) rfl rfl ?_
        refine tr_nil ?_
        refine tr_thenN ?_
        refine tr_cond rfl (fun g43 => ?_) (fun g43 => ?_)
        · replace H := H.1 g43
          refine tr_seq ?_
          refine tr_region ?_
          refine tr_p (f_build rfl (bd_35_ )) rfl rfl ?_
          refine tr_p (y_move rfl) rfl rfl ?_
          refine tr_e (f_store (vs := (⟨0, 0, 0, 0⟩ : S_api_Agg).cells) Try.sizeOf35 rfl rfl cellsOfStruct rfl (by intro v hv; exact ones_S_api_Agg _ v hv) H) rfl rfl ?_
          rintro _ h44 ⟨rfl, H⟩
          refine tr_p (y_assign rfl) rfl rfl ?_
          refine tr_nil ?_
          refine tr_thenN ?_
          refine tr_ret ?_
          refine tr_thenR ?_
          obtain ⟨y45, k46, H⟩ := H
          exact tr_rv2 rfl (rv_cellS Try.isAgg35 Try.sizeOf35 rfl rfl k46) (rv_tmp rfl) ⟨_, _, rfl, H⟩
        · replace H := H.2 g43
          refine tr_skip ?_
          refine tr_thenN ?_
          refine tr_seq ?_
          refine tr_region ?_
          refine tr_p (y_move rfl) rfl rfl ?_
          refine tr_p (y_move rfl) rfl rfl ?_
          refine tr_p (y_fa (off := 2) Try.runUnderlying35 fo_35_2 rfl) rfl rfl ?_
          obtain ⟨y47, k48, H⟩ := H
          refine tr_h (y_ld Try.isAgg2 rfl) k48 rfl rfl ?_
          refine tr_p (y_fa (off := 2) Try.runUnderlying35 fo_35_2 rfl) rfl rfl ?_
          obtain ⟨y49, k50, H⟩ := H
          refine tr_h (y_ld Try.isAgg2 rfl) k50 rfl rfl ?_
          refine tr_e (f_min rfl H) rfl rfl ?_
          rintro _ h51 ⟨s52, rfl, H⟩
          refine tr_p (y_fa (off := 3) Try.runUnderlying35 fo_35_3 rfl) rfl rfl ?_
          obtain ⟨y53, k54, H⟩ := H
          refine tr_h (y_ld Try.isAgg2 rfl) k54 rfl rfl ?_
          refine tr_p (y_fa (off := 3) Try.runUnderlying35 fo_35_3 rfl) rfl rfl ?_
          obtain ⟨y55, k56, H⟩ := H
          refine tr_h (y_ld Try.isAgg2 rfl) k56 rfl rfl ?_
          refine tr_e (f_max rfl H) rfl rfl ?_
          rintro _ h57 ⟨s58, rfl, H⟩
          refine tr_p (f_build rfl (bd_35_0_1_2_3 r28 r40 s52 s58)) rfl rfl ?_
          refine tr_e (f_store (vs := (⟨r28, r40, s52, s58⟩ : S_api_Agg).cells) Try.sizeOf35 rfl rfl cellsOfStruct rfl (by intro v hv; exact ones_S_api_Agg _ v hv) H) rfl rfl ?_
          rintro _ h59 ⟨rfl, H⟩
          refine tr_p (y_assign rfl) rfl rfl ?_
          refine tr_nil ?_
          refine tr_thenN ?_
          refine tr_ret ?_
          obtain ⟨y60, k61, H⟩ := H
          exact tr_rv2 rfl (rv_cellS Try.isAgg35 Try.sizeOf35 rfl rfl k61) (rv_tmp rfl) ⟨_, _, rfl, H⟩
/-- spate/agg.Put -/
def F.agg_Put (p0 : S_api_Agg) (p1 : Int) (h : H) (Q : S_api_Agg → Value → H → Prop) : Prop :=
  new h p0.cells.toArray ty_35 fun a2 h1 =>
  new h1 (((⟨0, 0, 0, 0⟩ : S_api_Agg) : S_api_Agg).cells.toArray) ty_35 fun a4 h3 =>
  ld_S_api_Agg h3 a2 fun y5 =>
  F.agg_Merge y5 (⟨1, p1, p1, p1⟩ : S_api_Agg) h3 fun r8 r9 h7 =>
  stH h7 a4 r8.cells fun h10 =>
  ld_S_api_Agg h10 a4 fun y11 =>
  Q y11 r9 h10
theorem F.agg_Put_ok {p0 : S_api_Agg} {p1 : Int} {h : H} {Q : S_api_Agg → Value → H → Prop} (H : F.agg_Put p0 p1 h Q) : Fn PP 16 ([(.agg p0.cells.toArray), (.int .i64 p1)] : List Value).toArray h fun r h' => ∃ r0 r1, r = .tuple #[(.agg r0.cells.toArray), r1] ∧ Q r0 r1 h' := by
  unfold F.agg_Put at H
  refine fn_of Try.func16 Try.ntmps16 rfl rfl fun w0 => ?_
  refine tr_sub [(0, (.agg p0.cells.toArray)), (1, (.int .i64 p1))] ⟨rfl, rfl, trivial⟩ ?_
  refine tr_seq ?_
  refine tr_region ?_
  refine tr_e (f_box (cs := p0.cells.toArray) rfl rfl H) rfl rfl ?_
  rintro _ h1 ⟨a2, rfl, H⟩
  refine tr_e (f_alloc (cs := ((⟨0, 0, 0, 0⟩ : S_api_Agg) : S_api_Agg).cells.toArray) Try.zeroValue35 rfl H) rfl rfl ?_
  rintro _ h3 ⟨a4, rfl, H⟩
  refine tr_p (y_assign rfl) rfl rfl ?_
  refine tr_nil ?_
  refine tr_thenN ?_
  refine tr_seq ?_
  refine tr_region ?_
  obtain ⟨y5, k6, H⟩ := H
  refine tr_h (y_ldS Try.isAgg35 Try.sizeOf35 rfl rfl) k6 rfl rfl ?_
  refine tr_p (y_move rfl) rfl rfl ?_
  refine tr_p (y_move rfl) rfl rfl ?_
  refine tr_p (y_move rfl) rfl rfl ?_
  refine tr_p (f_build rfl (bd_35_0_1_2_3 1 p1 p1 p1)) rfl rfl ?_
  refine tr_e (e_call Try.call35 rfl (F.agg_Merge_ok H)) rfl rfl ?_
  rintro _ h7 ⟨r8, r9, rfl, H⟩
  refine tr_p (y_ext rfl rfl) rfl rfl ?_
  refine tr_p (y_ext rfl rfl) rfl rfl ?_
  refine tr_e (f_store (vs := r8.cells) Try.sizeOf35 rfl rfl cellsOfStruct rfl (by intro v hv; exact ones_S_api_Agg _ v hv) H) rfl rfl ?_
  rintro _ h10 ⟨rfl, H⟩
  refine tr_p (y_assign rfl) rfl rfl ?_
  refine tr_nil ?_
  refine tr_thenN ?_
  refine tr_ret ?_
  obtain ⟨y11, k12, H⟩ := H
  exact tr_rv2 rfl (rv_cellS Try.isAgg35 Try.sizeOf35 rfl rfl k12) (rv_tmp rfl) ⟨_, _, rfl, H⟩
def F.spatelaw7_ShardFolds.j4 (Q : Bool → H → Prop) (C1 : Sl → Sl → Addr → (Option Addr) → Int → Sl → Int → H → Prop) (x1 : Sl) (x2 : Sl) (x3 : Addr) (x7 : Option Addr) (x9 : Int) (x10 : Sl) (x11 : Int) (h : H) : Prop :=
  C1 x1 x2 x3 x7 x9 x10 (IntKind.wrap .i64 (x11 + 1)) h
def F.spatelaw7_ShardFolds.l8 (Q : Bool → H → Prop) (C1 : Sl → Sl → Addr → (Option Addr) → Int → Sl → Int → H → Prop) : Nat → Sl → Sl → Addr → (Option Addr) → Int → Sl → Int → Addr → H → Prop
  | 0, _, _, _, _, _, _, _, _, _ => False
  | q8 + 1, x1, x2, x3, x7, x9, x10, x11, x12, h =>
    ((decide ((x10.len : Int) < x9)) = true →
    newL h (((⟨0, 0, 0, 0⟩ : S_api_Agg).cells).toArray) ty_35 1 fun s13 h12 =>
    runL PP (Builtin.append_ #[32, 32] 32 #[x10.enc, s13.enc]) h12 fun s15 h14 =>
    (F.spatelaw7_ShardFolds.l8 Q C1 q8) x1 x2 x3 x7 x9 s15 x11 x12 h14) ∧
    ((decide ((x10.len : Int) < x9)) = false →
    ld_S_api_Agg h x12 fun y16 =>
    idxA x10 (IntKind.wrap .i64 (x9 - 1)) 4 fun a18 =>
    stH h a18 y16.cells fun h20 =>
    F.spatelaw7_ShardFolds.j4 Q C1 x1 x2 x3 x7 x9 x10 x11 h20)
def F.spatelaw7_ShardFolds.j7 (Q : Bool → H → Prop) (C1 : Sl → Sl → Addr → (Option Addr) → Int → Sl → Int → H → Prop) (x1 : Sl) (x2 : Sl) (x3 : Addr) (x7 : Option Addr) (x9 : Int) (x10 : Sl) (x11 : Int) (x12 : Addr) (h : H) : Prop :=
  ∃ m, F.spatelaw7_ShardFolds.l8 Q C1 m x1 x2 x3 x7 x9 x10 x11 x12 h
def F.spatelaw7_ShardFolds.j9 (Q : Bool → H → Prop) (C1 : Sl → Sl → Addr → (Option Addr) → Int → Sl → Int → H → Prop) (x1 : Sl) (x2 : Sl) (x3 : Addr) (x7 : Option Addr) (x9 : Int) (x10 : Sl) (x11 : Int) (x12 : Addr) (x76 : Bool) (h : H) : Prop :=
  (x76 = true →
  Q false h) ∧
  (x76 = false →
  F.spatelaw7_ShardFolds.j7 Q C1 x1 x2 x3 x7 x9 x10 x11 x12 h)
def F.spatelaw7_ShardFolds.j6 (Q : Bool → H → Prop) (C1 : Sl → Sl → Addr → (Option Addr) → Int → Sl → Int → H → Prop) (x1 : Sl) (x2 : Sl) (x3 : Addr) (x7 : Option Addr) (x9 : Int) (x10 : Sl) (x11 : Int) (x12 : Addr) (x13 : Value) (h : H) : Prop :=
  isI x13 ∧
  ((!isNilI x13) = true →
  F.spatelaw7_ShardFolds.j9 Q C1 x1 x2 x3 x7 x9 x10 x11 x12 true h) ∧
  ((!isNilI x13) = false →
  ld_S_api_Cell h x3 fun y25 =>
  ld_S_api_Agg h x12 fun y27 =>
  F.shard_Shard_Put x7 x9 (⟨y25, y27⟩ : S_api_Row) h fun r30 h29 =>
  F.spatelaw7_ShardFolds.j9 Q C1 x1 x2 x3 x7 x9 x10 x11 x12 ((r30 != 0)) h29)
def F.spatelaw7_ShardFolds.j5 (Q : Bool → H → Prop) (C1 : Sl → Sl → Addr → (Option Addr) → Int → Sl → Int → H → Prop) (x1 : Sl) (x2 : Sl) (x3 : Addr) (x7 : Option Addr) (x9 : Int) (x10 : Sl) (x11 : Int) (h : H) : Prop :=
  ld_S_api_Cell h x3 fun y31 =>
  idxA x1 x11 1 fun a33 =>
  ldI .i64 h a33 fun y35 =>
  (1000 : Int) ≠ 0 ∧
  (F.shard_Shard_Get x7 y31 h fun r39 h38 =>
  cellH h38 a33 = some (.int .i64 y35) ∧
  (F.agg_Put r39 (IntKind.wrap .i64 (Int.tdiv y35 1000)) h38 fun r42 r43 h41 =>
  new h41 (((⟨0, 0, 0, 0⟩ : S_api_Agg) : S_api_Agg).cells.toArray) ty_35 fun a45 h44 =>
  stH h44 a45 r42.cells fun h46 =>
  F.spatelaw7_ShardFolds.j6 Q C1 x1 x2 x3 x7 x9 x10 x11 a45 r43 h46) ∧
  (new h38 (((⟨0, 0, 0, 0⟩ : S_api_Agg) : S_api_Agg).cells.toArray) ty_35 fun a48 h47 =>
  cellH h47 a33 = some (.int .i64 y35) ∧
  F.agg_Put r39 (IntKind.wrap .i64 (Int.tdiv y35 1000)) h47 fun r51 r52 h50 =>
  stH h50 a48 r51.cells fun h53 =>
  F.spatelaw7_ShardFolds.j6 Q C1 x1 x2 x3 x7 x9 x10 x11 a48 r52 h53)) ∧
  (new h (((⟨0, 0, 0, 0⟩ : S_api_Agg) : S_api_Agg).cells.toArray) ty_35 fun a55 h54 =>
  cellH h54 a33 = some (.int .i64 y35) ∧
  Cells h54 x3 y31.cells ∧
  F.shard_Shard_Get x7 y31 h54 fun r59 h58 =>
  cellH h58 a33 = some (.int .i64 y35) ∧
  F.agg_Put r59 (IntKind.wrap .i64 (Int.tdiv y35 1000)) h58 fun r62 r63 h61 =>
  stH h61 a55 r62.cells fun h64 =>
  F.spatelaw7_ShardFolds.j6 Q C1 x1 x2 x3 x7 x9 x10 x11 a55 r63 h64)
def F.spatelaw7_ShardFolds.j10 (Q : Bool → H → Prop) (C1 : Sl → Sl → Addr → (Option Addr) → Int → Sl → Int → H → Prop) (x1 : Sl) (x2 : Sl) (x3 : Addr) (x7 : Option Addr) (x9 : Int) (x10 : Sl) (x11 : Int) (x51 : Bool) (h : H) : Prop :=
  (x51 = true →
  F.spatelaw7_ShardFolds.j5 Q C1 x1 x2 x3 x7 (IntKind.wrap .i64 (x9 + 1)) x10 x11 h) ∧
  (x51 = false →
  F.spatelaw7_ShardFolds.j5 Q C1 x1 x2 x3 x7 x9 x10 x11 h)
def F.spatelaw7_ShardFolds.j3 (Q : Bool → H → Prop) (C1 : Sl → Sl → Addr → (Option Addr) → Int → Sl → Int → H → Prop) (x1 : Sl) (x2 : Sl) (x3 : Addr) (x7 : Option Addr) (x9 : Int) (x10 : Sl) (x11 : Int) (h : H) : Prop :=
  ((decide ((x2.len : Int) > 0)) = true →
  ((x2.len : Int) : Int) ≠ 0 ∧
  idxA x2 (Int.tmod x11 (x2.len : Int)) 1 fun a68 =>
  ldI .i64 h a68 fun y70 =>
  F.spatelaw7_within y70 3 h fun r73 h72 =>
  F.spatelaw7_ShardFolds.j10 Q C1 x1 x2 x3 x7 x9 x10 x11 ((r73 == 0)) h72) ∧
  ((decide ((x2.len : Int) > 0)) = false →
  F.spatelaw7_ShardFolds.j10 Q C1 x1 x2 x3 x7 x9 x10 x11 false h)
def F.spatelaw7_ShardFolds.j13 (Q : Bool → H → Prop) (C1 : Addr → (Option Addr) → Sl → Addr → Int → H → Prop) (x3 : Addr) (x7 : Option Addr) (x10 : Sl) (x14 : Addr) (x15 : Int) (h : H) : Prop :=
  C1 x3 x7 x10 x14 (IntKind.wrap .i64 (x15 + 1)) h
def F.spatelaw7_ShardFolds.j14 (Q : Bool → H → Prop) (C1 : Addr → (Option Addr) → Sl → Addr → Int → H → Prop) (x3 : Addr) (x7 : Option Addr) (x10 : Sl) (x14 : Addr) (x15 : Int) (h : H) : Prop :=
  ld_S_api_Cell h x3 fun y79 =>
  ld_S_api_Agg h x14 fun y81 =>
  F.shard_Shard_At x7 y79 (IntKind.wrap .i64 (x15 + 1)) h fun r84 h83 =>
  Cells h83 x14 y81.cells ∧
  ((!((r84.Count == y81.Count) && ((r84.Sum == y81.Sum) && ((r84.Min == y81.Min) && ((r84.Max == y81.Max) && true))))) = true →
  Q false h83) ∧
  ((!((r84.Count == y81.Count) && ((r84.Sum == y81.Sum) && ((r84.Min == y81.Min) && ((r84.Max == y81.Max) && true))))) = false →
  F.spatelaw7_ShardFolds.j13 Q C1 x3 x7 x10 x14 x15 h83)
def F.spatelaw7_ShardFolds.l12 (Q : Bool → H → Prop) : Nat → Addr → (Option Addr) → Sl → Addr → Int → H → Prop
  | 0, _, _, _, _, _, _ => False
  | q12 + 1, x3, x7, x10, x14, x15, h =>
    ((decide (x15 < (x10.len : Int))) = true →
    idxA x10 x15 4 fun a87 =>
    ldI .i64 h (a87.add 0) fun y89 =>
    ((decide (y89 > 0)) = true →
    idxA x10 x15 4 fun a92 =>
    ld_S_api_Agg h a92 fun y94 =>
    stH h x14 y94.cells fun h96 =>
    F.spatelaw7_ShardFolds.j14 Q (F.spatelaw7_ShardFolds.l12 Q q12) x3 x7 x10 x14 x15 h96) ∧
    ((decide (y89 > 0)) = false →
    F.spatelaw7_ShardFolds.j14 Q (F.spatelaw7_ShardFolds.l12 Q q12) x3 x7 x10 x14 x15 h)) ∧
    ((decide (x15 < (x10.len : Int))) = false →
    ld_S_api_Cell h x3 fun y97 =>
    ld_S_api_Agg h x14 fun y99 =>
    F.shard_Shard_Get x7 y97 h fun r102 h101 =>
    Cells h101 x14 y99.cells ∧
    (((r102.Count == y99.Count) && ((r102.Sum == y99.Sum) && ((r102.Min == y99.Min) && ((r102.Max == y99.Max) && true)))) = true →
    F.spatelaw7_head  h101 fun r106 h105 =>
    Q r106 h105) ∧
    (((r102.Count == y99.Count) && ((r102.Sum == y99.Sum) && ((r102.Min == y99.Min) && ((r102.Max == y99.Max) && true)))) = false →
    Q false h101))
def F.spatelaw7_ShardFolds.j11 (Q : Bool → H → Prop) (C1 : Sl → Sl → Addr → (Option Addr) → Int → Sl → Int → H → Prop) (x1 : Sl) (x2 : Sl) (x3 : Addr) (x7 : Option Addr) (x9 : Int) (x10 : Sl) (x11 : Int) (x35 : Bool) (h : H) : Prop :=
  (x35 = true →
  F.spatelaw7_ShardFolds.j3 Q C1 x1 x2 x3 x7 x9 x10 x11 h) ∧
  (x35 = false →
  new h (((⟨0, 0, 0, 0⟩ : S_api_Agg) : S_api_Agg).cells.toArray) ty_35 fun a76 h75 =>
  stH h75 a76 ((⟨0, 0, 0, 0⟩ : S_api_Agg).cells) fun h77 =>
  ∃ m, F.spatelaw7_ShardFolds.l12 Q m x3 x7 x10 a76 0 h77)
def F.spatelaw7_ShardFolds.l2 (Q : Bool → H → Prop) : Nat → Sl → Sl → Addr → (Option Addr) → Int → Sl → Int → H → Prop
  | 0, _, _, _, _, _, _, _, _ => False
  | q2 + 1, x1, x2, x3, x7, x9, x10, x11, h =>
    ((decide (x11 < (x1.len : Int))) = true →
    F.spatelaw7_ShardFolds.j11 Q (F.spatelaw7_ShardFolds.l2 Q q2) x1 x2 x3 x7 x9 x10 x11 (decide (x11 < 60)) h) ∧
    ((decide (x11 < (x1.len : Int))) = false →
    F.spatelaw7_ShardFolds.j11 Q (F.spatelaw7_ShardFolds.l2 Q q2) x1 x2 x3 x7 x9 x10 x11 false h)
def F.spatelaw7_ShardFolds.j1 (Q : Bool → H → Prop) (x1 : Sl) (x2 : Sl) (x3 : Addr) (x7 : Option Addr) (h : H) : Prop :=
  ld_S_api_Cell h x3 fun y6 =>
  F.spatelaw7_few y6 h fun r9 h8 =>
  stH h8 x3 r9.cells fun h10 =>
  ∃ m, F.spatelaw7_ShardFolds.l2 Q m x1 x2 x3 x7 1 (⟨none, 0, 0⟩ : Sl) 0 h10
def F.spatelaw7_ShardFolds.j15 (Q : Bool → H → Prop) (x1 : Sl) (x2 : Sl) (x3 : Addr) (x7 : Option Addr) (x25 : Bool) (h : H) : Prop :=
  (x25 = true →
  Q false h) ∧
  (x25 = false →
  F.spatelaw7_ShardFolds.j1 Q x1 x2 x3 x7 h)
/-- spate/spatelaw7.ShardFolds -/
def F.spatelaw7_ShardFolds (p0 : S_api_Cell) (p1 : Sl) (p2 : Sl) (h : H) (Q : Bool → H → Prop) : Prop :=
  new h p0.cells.toArray ty_24 fun a2 h1 =>
  F.shard_New 200 h1 fun r4 r5 h3 =>
  (((r5 != 0)) = true →
  F.spatelaw7_ShardFolds.j15 Q p1 p2 a2 r4 true h3) ∧
  (((r5 != 0)) = false →
  F.spatelaw7_ShardFolds.j15 Q p1 p2 a2 r4 r4.isNone h3)
theorem F.spatelaw7_ShardFolds_ok {p0 : S_api_Cell} {p1 : Sl} {p2 : Sl} {h : H} {Q : Bool → H → Prop} (H : F.spatelaw7_ShardFolds p0 p1 p2 h Q) : Fn PP 4 ([(.agg p0.cells.toArray), p1.enc, p2.enc] : List Value).toArray h fun r h' => ∃ r0, r = (.bool r0) ∧ Q r0 h' := by
  unfold F.spatelaw7_ShardFolds at H
  refine fn_of Try.func4 Try.ntmps4 rfl rfl fun w0 => ?_
  refine tr_sub [(0, (.agg p0.cells.toArray)), (1, p1.enc), (2, p2.enc)] ⟨rfl, rfl, rfl, trivial⟩ ?_
  refine tr_seq ?_
  refine tr_region ?_
  refine tr_e (f_box (cs := p0.cells.toArray) rfl rfl H) rfl rfl ?_
  rintro _ h1 ⟨a2, rfl, H⟩
  refine tr_p (y_assign rfl) rfl rfl ?_
  refine tr_nil ?_
  refine tr_thenN ?_
  refine tr_seq ?_
  refine tr_region ?_
  refine tr_e (e_call Try.call13 rfl (F.shard_New_ok H)) rfl rfl ?_
  rintro _ h3 ⟨r4, r5, rfl, H⟩
  refine tr_p (y_move rfl) rfl rfl ?_
  refine tr_p (y_ext rfl rfl) rfl rfl ?_
  refine tr_p (y_ext rfl rfl) rfl rfl ?_
  refine tr_p (y_assign rfl) rfl rfl ?_
  refine tr_p (y_assign rfl) rfl rfl ?_
  refine tr_nil ?_
  refine tr_thenN ?_
  refine tr_seq_j (fun L' h => ∃ (x1 : Sl) (x2 : Sl) (x3 : Addr) (x7 : Option Addr), L' = [(1, x1.enc), (2, x2.enc), (3, (.pointer (some x3))), (7, (.pointer x7))] ∧ F.spatelaw7_ShardFolds.j1 Q x1 x2 x3 x7 h) ?_ ?_
  · rintro L' h ⟨x1, x2, x3, x7, rfl, H⟩
    unfold F.spatelaw7_ShardFolds.j1 at H
    refine tr_seq ?_
    refine tr_region ?_
    obtain ⟨y6, k7, H⟩ := H
    refine tr_h (y_ldS Try.isAgg24 Try.sizeOf24 rfl rfl) k7 rfl rfl ?_
    refine tr_e (e_call Try.call14 rfl (F.spatelaw7_few_ok H)) rfl rfl ?_
    rintro _ h8 ⟨r9, rfl, H⟩
    refine tr_e (f_store (vs := r9.cells) Try.sizeOf24 rfl rfl cellsOfStruct rfl (by intro v hv; exact ones_S_api_Cell _ v hv) H) rfl rfl ?_
    rintro _ h10 ⟨rfl, H⟩
    refine tr_nil ?_
    refine tr_thenN ?_
    refine tr_seq ?_
    refine tr_region ?_
    refine tr_p (y_assign rfl) rfl rfl ?_
    refine tr_nil ?_
    refine tr_thenN ?_
    refine tr_seq ?_
    refine tr_region ?_
    refine tr_p (y_assign rfl) rfl rfl ?_
    refine tr_nil ?_
    refine tr_thenN ?_
    refine tr_seq ?_
    refine tr_seq ?_
    refine tr_region ?_
    refine tr_p (y_assign rfl) rfl rfl ?_
    refine tr_nil ?_
    refine tr_thenN ?_
    refine tr_block ?_
    obtain ⟨m109, H⟩ := H
    refine tr_sub [(1, x1.enc), (2, x2.enc), (3, (.pointer (some x3))), (7, (.pointer x7)), (9, (.int .i64 1)), (10, (⟨none, 0, 0⟩ : Sl).enc), (11, (.int .i64 0))] ⟨rfl, rfl, rfl, rfl, rfl, rfl, rfl, trivial⟩ ?_
    refine tr_loop_j (fun m L' h => ∃ (x1 : Sl) (x2 : Sl) (x3 : Addr) (x7 : Option Addr) (x9 : Int) (x10 : Sl) (x11 : Int), L' = [(1, x1.enc), (2, x2.enc), (3, (.pointer (some x3))), (7, (.pointer x7)), (9, (.int .i64 x9)), (10, x10.enc), (11, (.int .i64 x11))] ∧ F.spatelaw7_ShardFolds.l2 Q m x1 x2 x3 x7 x9 x10 x11 h) ?_ ?_ m109 ⟨_, _, _, _, _, _, _, rfl, H⟩
    · rintro L' h ⟨_, _, _, _, _, _, _, _, H⟩; exact H
    · rintro q2 L' h ⟨x1, x2, x3, x7, x9, x10, x11, rfl, H⟩
      unfold F.spatelaw7_ShardFolds.l2 at H
      refine tr_seq_j (fun L' h => ∃ (x1 : Sl) (x2 : Sl) (x3 : Addr) (x7 : Option Addr) (x9 : Int) (x10 : Sl) (x11 : Int), L' = [(1, x1.enc), (2, x2.enc), (3, (.pointer (some x3))), (7, (.pointer x7)), (9, (.int .i64 x9)), (10, x10.enc), (11, (.int .i64 x11))] ∧ F.spatelaw7_ShardFolds.j3 Q (F.spatelaw7_ShardFolds.l2 Q q2) x1 x2 x3 x7 x9 x10 x11 h) ?_ ?_
      · rintro L' h ⟨x1, x2, x3, x7, x9, x10, x11, rfl, H⟩
        unfold F.spatelaw7_ShardFolds.j3 at H
        refine tr_seq_j (fun L' h => ∃ (x1 : Sl) (x2 : Sl) (x3 : Addr) (x7 : Option Addr) (x9 : Int) (x10 : Sl) (x11 : Int), L' = [(1, x1.enc), (2, x2.enc), (3, (.pointer (some x3))), (7, (.pointer x7)), (9, (.int .i64 x9)), (10, x10.enc), (11, (.int .i64 x11))] ∧ F.spatelaw7_ShardFolds.j4 Q (F.spatelaw7_ShardFolds.l2 Q q2) x1 x2 x3 x7 x9 x10 x11 h) ?_ ?_
        · rintro L' h ⟨x1, x2, x3, x7, x9, x10, x11, rfl, H⟩
          unfold F.spatelaw7_ShardFolds.j4 at H
          refine tr_region ?_
          refine tr_p (y_move rfl) rfl rfl ?_
          refine tr_p (y_add rfl rfl) rfl rfl ?_
          refine tr_p (y_assign rfl) rfl rfl ?_
          refine tr_nil ?_
          refine tr_thenN ?_
          exact tr_join [(1, x1.enc), (2, x2.enc), (3, (.pointer (some x3))), (7, (.pointer x7)), (9, (.int .i64 x9)), (10, x10.enc), (11, (.int .i64 (IntKind.wrap .i64 (x11 + 1))))] ⟨rfl, rfl, rfl, rfl, rfl, rfl, rfl, trivial⟩ ⟨_, _, _, _, _, _, _, rfl, H⟩
        · refine tr_block ?_
          refine tr_seq_j (fun L' h => ∃ (x1 : Sl) (x2 : Sl) (x3 : Addr) (x7 : Option Addr) (x9 : Int) (x10 : Sl) (x11 : Int), L' = [(1, x1.enc), (2, x2.enc), (3, (.pointer (some x3))), (7, (.pointer x7)), (9, (.int .i64 x9)), (10, x10.enc), (11, (.int .i64 x11))] ∧ F.spatelaw7_ShardFolds.j5 Q (F.spatelaw7_ShardFolds.l2 Q q2) x1 x2 x3 x7 x9 x10 x11 h) ?_ ?_
          · rintro L' h ⟨x1, x2, x3, x7, x9, x10, x11, rfl, H⟩
            unfold F.spatelaw7_ShardFolds.j5 at H
            refine tr_seq_j (fun L' h => ∃ (x1 : Sl) (x2 : Sl) (x3 : Addr) (x7 : Option Addr) (x9 : Int) (x10 : Sl) (x11 : Int) (x12 : Addr) (x13 : Value), L' = [(1, x1.enc), (2, x2.enc), (3, (.pointer (some x3))), (7, (.pointer x7)), (9, (.int .i64 x9)), (10, x10.enc), (11, (.int .i64 x11)), (12, (.pointer (some x12))), (13, x13)] ∧ F.spatelaw7_ShardFolds.j6 Q (F.spatelaw7_ShardFolds.l2 Q q2) x1 x2 x3 x7 x9 x10 x11 x12 x13 h) ?_ ?_
            · rintro L' h ⟨x1, x2, x3, x7, x9, x10, x11, x12, x13, rfl, H⟩
              unfold F.spatelaw7_ShardFolds.j6 at H
              refine tr_seq_j (fun L' h => ∃ (x1 : Sl) (x2 : Sl) (x3 : Addr) (x7 : Option Addr) (x9 : Int) (x10 : Sl) (x11 : Int) (x12 : Addr), L' = [(1, x1.enc), (2, x2.enc), (3, (.pointer (some x3))), (7, (.pointer x7)), (9, (.int .i64 x9)), (10, x10.enc), (11, (.int .i64 x11)), (12, (.pointer (some x12)))] ∧ F.spatelaw7_ShardFolds.j7 Q (F.spatelaw7_ShardFolds.l2 Q q2) x1 x2 x3 x7 x9 x10 x11 x12 h) ?_ ?_
              · rintro L' h ⟨x1, x2, x3, x7, x9, x10, x11, x12, rfl, H⟩
                unfold F.spatelaw7_ShardFolds.j7 at H
                refine tr_seq ?_
                refine tr_block ?_
                obtain ⟨m21, H⟩ := H
                refine tr_sub [(1, x1.enc), (2, x2.enc), (3, (.pointer (some x3))), (7, (.pointer x7)), (9, (.int .i64 x9)), (10, x10.enc), (11, (.int .i64 x11)), (12, (.pointer (some x12)))] ⟨rfl, rfl, rfl, rfl, rfl, rfl, rfl, rfl, trivial⟩ ?_
                refine tr_loop_j (fun m L' h => ∃ (x1 : Sl) (x2 : Sl) (x3 : Addr) (x7 : Option Addr) (x9 : Int) (x10 : Sl) (x11 : Int) (x12 : Addr), L' = [(1, x1.enc), (2, x2.enc), (3, (.pointer (some x3))), (7, (.pointer x7)), (9, (.int .i64 x9)), (10, x10.enc), (11, (.int .i64 x11)), (12, (.pointer (some x12)))] ∧ F.spatelaw7_ShardFolds.l8 Q (F.spatelaw7_ShardFolds.l2 Q q2) m x1 x2 x3 x7 x9 x10 x11 x12 h) ?_ ?_ m21 ⟨_, _, _, _, _, _, _, _, rfl, H⟩
                · rintro L' h ⟨_, _, _, _, _, _, _, _, _, H⟩; exact H
                · rintro q8 L' h ⟨x1, x2, x3, x7, x9, x10, x11, x12, rfl, H⟩
                  unfold F.spatelaw7_ShardFolds.l8 at H
                  refine tr_seq ?_
                  refine tr_seq ?_
                  refine tr_region ?_
                  refine tr_p (y_move rfl) rfl rfl ?_
                  refine tr_p (y_len (ts := #[]) Try.runUnderlying32 (o := x10.ptr) (n := x10.len) (cap := x10.cap) rfl) rfl rfl ?_
                  refine tr_p (y_move rfl) rfl rfl ?_
                  refine tr_p (y_lss rfl rfl) rfl rfl ?_
                  refine tr_nil ?_
                  refine tr_thenN ?_
                  refine tr_cond rfl (fun g11 => ?_) (fun g11 => ?_)
                  · replace H := H.1 g11
                    refine tr_skip ?_
                    refine tr_thenN ?_
                    refine tr_block ?_
                    refine tr_region ?_
                    refine tr_p (y_move rfl) rfl rfl ?_
                    refine tr_p (f_build rfl (bd_35_ )) rfl rfl ?_
                    refine tr_e (f_buildL (cs := ((⟨0, 0, 0, 0⟩ : S_api_Agg).cells).toArray) rfl rfl (bl_32_1_0 (⟨0, 0, 0, 0⟩ : S_api_Agg)) H) rfl rfl ?_
                    rintro _ h12 ⟨s13, rfl, H⟩
                    refine tr_e (f_app rfl H) rfl rfl ?_
                    rintro _ h14 ⟨s15, rfl, H⟩
                    refine tr_p (y_assign rfl) rfl rfl ?_
                    refine tr_nil ?_
                    refine tr_blockN ?_
                    refine tr_thenN ?_
                    exact tr_join [(1, x1.enc), (2, x2.enc), (3, (.pointer (some x3))), (7, (.pointer x7)), (9, (.int .i64 x9)), (10, s15.enc), (11, (.int .i64 x11)), (12, (.pointer (some x12)))] ⟨rfl, rfl, rfl, rfl, rfl, rfl, rfl, rfl, trivial⟩ ⟨_, _, _, _, _, _, _, _, rfl, H⟩
                  · replace H := H.2 g11
                    refine tr_exit ?_
                    refine tr_thenE ?_
                    refine tr_thenE ?_
                    refine tr_hit ?_
                    refine tr_thenN ?_
                    refine tr_region ?_
                    refine tr_p (y_move rfl) rfl rfl ?_
                    refine tr_p (y_move rfl) rfl rfl ?_
                    refine tr_p (y_sub rfl rfl) rfl rfl ?_
                    obtain ⟨y16, k17, H⟩ := H
                    refine tr_h (y_ldS Try.isAgg35 Try.sizeOf35 rfl rfl) k17 rfl rfl ?_
                    obtain ⟨a18, e19, H⟩ := H
                    refine tr_p (f_idx (s := x10) Try.runUnderlying32 Try.sizeOf35 rfl rfl e19) rfl rfl ?_
                    refine tr_e (f_store (vs := y16.cells) Try.sizeOf35 rfl rfl cellsOfStruct rfl (by intro v hv; exact ones_S_api_Agg _ v hv) H) rfl rfl ?_
                    rintro _ h20 ⟨rfl, H⟩
                    refine tr_nil ?_
                    refine tr_blockN ?_
                    refine tr_thenN ?_
                    exact tr_join [(1, x1.enc), (2, x2.enc), (3, (.pointer (some x3))), (7, (.pointer x7)), (9, (.int .i64 x9)), (10, x10.enc), (11, (.int .i64 x11))] ⟨rfl, rfl, rfl, rfl, rfl, rfl, rfl, trivial⟩ ⟨_, _, _, _, _, _, _, rfl, H⟩
              · refine tr_seq_j (fun L' h => ∃ (x1 : Sl) (x2 : Sl) (x3 : Addr) (x7 : Option Addr) (x9 : Int) (x10 : Sl) (x11 : Int) (x12 : Addr) (x76 : Bool), L' = [(1, x1.enc), (2, x2.enc), (3, (.pointer (some x3))), (7, (.pointer x7)), (9, (.int .i64 x9)), (10, x10.enc), (11, (.int .i64 x11)), (12, (.pointer (some x12))), (76, (.bool x76))] ∧ F.spatelaw7_ShardFolds.j9 Q (F.spatelaw7_ShardFolds.l2 Q q2) x1 x2 x3 x7 x9 x10 x11 x12 x76 h) ?_ ?_
                · rintro L' h ⟨x1, x2, x3, x7, x9, x10, x11, x12, x76, rfl, H⟩
                  unfold F.spatelaw7_ShardFolds.j9 at H
                  refine tr_cond rfl (fun g22 => ?_) (fun g22 => ?_)
                  · replace H := H.1 g22
                    refine tr_seq ?_
                    refine tr_region ?_
                    refine tr_p (y_assign rfl) rfl rfl ?_
                    refine tr_nil ?_
                    refine tr_thenN ?_
                    refine tr_ret ?_
                    refine tr_thenR ?_
                    refine tr_blockR ?_
                    refine tr_thenR ?_
                    refine tr_thenR ?_
                    refine tr_blockR ?_
                    refine tr_thenR ?_
                    exact tr_ret1 rfl rfl ⟨_, rfl, H⟩
                  · replace H := H.2 g22
                    refine tr_skip ?_
                    refine tr_thenN ?_
                    exact tr_join [(1, x1.enc), (2, x2.enc), (3, (.pointer (some x3))), (7, (.pointer x7)), (9, (.int .i64 x9)), (10, x10.enc), (11, (.int .i64 x11)), (12, (.pointer (some x12)))] ⟨rfl, rfl, rfl, rfl, rfl, rfl, rfl, rfl, trivial⟩ ⟨_, _, _, _, _, _, _, _, rfl, H⟩
                · refine tr_region ?_
                  refine tr_p (y_move rfl) rfl rfl ?_
                  obtain ⟨e23, H⟩ := H
                  refine tr_p (y_inil_neq Try.runUnderlying37 rfl e23) rfl rfl ?_
                  refine tr_p (y_move rfl) rfl rfl ?_
                  refine tr_split (t := 68) rfl (fun g24 => ?_) (fun g24 => ?_)
                  · replace H := H.1 g24
                    refine tr_s rfl rfl ?_
                    refine tr_s rfl rfl ?_
                    refine tr_s rfl rfl ?_
                    refine tr_s rfl rfl ?_
                    refine tr_s rfl rfl ?_
                    refine tr_s rfl rfl ?_
                    refine tr_s rfl rfl ?_
                    refine tr_p (y_pick_t rfl rfl) rfl rfl ?_
                    refine tr_nil ?_
                    refine tr_thenN ?_
                    exact tr_join [(1, x1.enc), (2, x2.enc), (3, (.pointer (some x3))), (7, (.pointer x7)), (9, (.int .i64 x9)), (10, x10.enc), (11, (.int .i64 x11)), (12, (.pointer (some x12))), (76, (.bool true))] ⟨rfl, rfl, rfl, rfl, rfl, rfl, rfl, rfl, rfl, trivial⟩ ⟨_, _, _, _, _, _, _, _, _, rfl, H⟩
                  · replace H := H.2 g24
                    refine tr_p (y_move rfl) rfl rfl ?_
                    refine tr_p (y_move rfl) rfl rfl ?_
                    obtain ⟨y25, k26, H⟩ := H
                    refine tr_h (y_ldS Try.isAgg24 Try.sizeOf24 rfl rfl) k26 rfl rfl ?_
                    obtain ⟨y27, k28, H⟩ := H
                    refine tr_h (y_ldS Try.isAgg35 Try.sizeOf35 rfl rfl) k28 rfl rfl ?_
                    refine tr_p (f_build rfl (bd_43_0_1 y25 y27)) rfl rfl ?_
                    refine tr_e (e_call Try.call18 rfl (F.shard_Shard_Put_ok H)) rfl rfl ?_
                    rintro _ h29 ⟨r30, rfl, H⟩
                    refine tr_p (y_neq rfl rfl) rfl rfl ?_
                    refine tr_p (y_pick_f rfl rfl) rfl rfl ?_
                    refine tr_nil ?_
                    refine tr_thenN ?_
                    exact tr_join [(1, x1.enc), (2, x2.enc), (3, (.pointer (some x3))), (7, (.pointer x7)), (9, (.int .i64 x9)), (10, x10.enc), (11, (.int .i64 x11)), (12, (.pointer (some x12))), (76, (.bool ((r30 != 0))))] ⟨rfl, rfl, rfl, rfl, rfl, rfl, rfl, rfl, rfl, trivial⟩ ⟨_, _, _, _, _, _, _, _, _, rfl, H⟩
            · refine tr_draw mixed [0, 0, 3, 0, 0, 24, 56, 120, 255, 511, 1023, 1023, 0, 6143, 16383] (by kernel_rfl) ?_
              refine g_p 0 1 rfl (by kernel_rfl) (y_move rfl) rfl rfl ?_
              obtain ⟨y31, k32, H⟩ := H
              refine g_h 1 3 rfl (by kernel_rfl) (y_ldS Try.isAgg24 Try.sizeOf24 rfl rfl) k32 rfl rfl ?_
              refine g_p 3 11 rfl (by kernel_rfl) (y_move rfl) rfl rfl ?_
              refine g_p 4 27 rfl (by kernel_rfl) (y_move rfl) rfl rfl ?_
              obtain ⟨a33, e34, H⟩ := H
              refine g_p 5 59 rfl (by kernel_rfl) (f_idx (s := x1) Try.runUnderlying25 Try.sizeOf2 rfl rfl e34) rfl rfl ?_
              obtain ⟨y35, k36, H⟩ := H
              refine g_h 6 123 rfl (by kernel_rfl) (y_ld Try.isAgg2 rfl) k36 rfl rfl ?_
              obtain ⟨e37, H⟩ := H
              refine g_p 7 251 rfl (by kernel_rfl) (y_quo rfl rfl e37) rfl rfl ?_
              refine g_e2 2 255 12 4347 [(6, fun h => cellH h a33 = some (.int .i64 y35))] [(6, fun h => cellH h a33 = some (.int .i64 y35)), (1, fun h => Cells h x3 y31.cells)] (by kernel_rfl) (by kernel_rfl) (by kernel_rfl) (by kernel_rfl) (by kernel_rfl) rfl rfl rfl rfl rfl rfl ?_ ?_
              · replace H := H.1
                refine ⟨_, (e_call Try.call17 rfl (F.shard_Shard_Get_ok H)), ?_⟩
                rintro _ h38 ⟨r39, rfl, H⟩
                obtain ⟨k40, H⟩ := H
                refine ⟨And.intro k40 trivial, ?_⟩
                refine g_e2 8 511 12 4351 [] [(6, fun h => cellH h a33 = some (.int .i64 y35))] (by kernel_rfl) (by kernel_rfl) (by kernel_rfl) (by kernel_rfl) (by kernel_rfl) rfl rfl rfl rfl rfl rfl ?_ ?_
                · replace H := H.1
                  refine ⟨_, (e_call Try.call16 rfl (F.agg_Put_ok H)), ?_⟩
                  rintro _ h41 ⟨r42, r43, rfl, H⟩
                  refine ⟨trivial, ?_⟩
                  refine g_p 9 1023 rfl (by kernel_rfl) (y_move rfl) rfl rfl ?_
                  refine g_p 10 2047 rfl (by kernel_rfl) (y_ext rfl rfl) rfl rfl ?_
                  refine g_p 11 4095 rfl (by kernel_rfl) (y_ext rfl rfl) rfl rfl ?_
                  refine g_e 12 8191 [] (by kernel_rfl) rfl (by kernel_rfl) (f_alloc (cs := ((⟨0, 0, 0, 0⟩ : S_api_Agg) : S_api_Agg).cells.toArray) Try.zeroValue35 rfl H) rfl rfl ?_
                  rintro _ h44 ⟨a45, rfl, H⟩
                  refine ⟨trivial, ?_⟩
                  refine g_e 13 16383 [] (by kernel_rfl) rfl (by kernel_rfl) (f_store (vs := r42.cells) Try.sizeOf35 rfl rfl cellsOfStruct rfl (by intro v hv; exact ones_S_api_Agg _ v hv) H) rfl rfl ?_
                  rintro _ h46 ⟨rfl, H⟩
                  refine ⟨trivial, ?_⟩
                  refine g_p 14 32767 rfl (by kernel_rfl) (y_assign rfl) rfl rfl ?_
                  refine g_d (by kernel_rfl) ?_
                  refine tr_thenN ?_
                  exact tr_join [(1, x1.enc), (2, x2.enc), (3, (.pointer (some x3))), (7, (.pointer x7)), (9, (.int .i64 x9)), (10, x10.enc), (11, (.int .i64 x11)), (12, (.pointer (some a45))), (13, r43)] ⟨rfl, rfl, rfl, rfl, rfl, rfl, rfl, rfl, rfl, trivial⟩ ⟨_, _, _, _, _, _, _, _, _, rfl, H⟩
                · replace H := H.2
                  refine ⟨_, (f_alloc (cs := ((⟨0, 0, 0, 0⟩ : S_api_Agg) : S_api_Agg).cells.toArray) Try.zeroValue35 rfl H), ?_⟩
                  rintro _ h47 ⟨a48, rfl, H⟩
                  obtain ⟨k49, H⟩ := H
                  refine ⟨And.intro k49 trivial, ?_⟩
                  refine g_e 8 4607 [] (by kernel_rfl) rfl (by kernel_rfl) (e_call Try.call16 rfl (F.agg_Put_ok H)) rfl rfl ?_
                  rintro _ h50 ⟨r51, r52, rfl, H⟩
                  refine ⟨trivial, ?_⟩
                  refine g_p 9 5119 rfl (by kernel_rfl) (y_move rfl) rfl rfl ?_
                  refine g_p 10 6143 rfl (by kernel_rfl) (y_ext rfl rfl) rfl rfl ?_
                  refine g_p 11 8191 rfl (by kernel_rfl) (y_ext rfl rfl) rfl rfl ?_
                  refine g_e 13 16383 [] (by kernel_rfl) rfl (by kernel_rfl) (f_store (vs := r51.cells) Try.sizeOf35 rfl rfl cellsOfStruct rfl (by intro v hv; exact ones_S_api_Agg _ v hv) H) rfl rfl ?_
                  rintro _ h53 ⟨rfl, H⟩
                  refine ⟨trivial, ?_⟩
                  refine g_p 14 32767 rfl (by kernel_rfl) (y_assign rfl) rfl rfl ?_
                  refine g_d (by kernel_rfl) ?_
                  refine tr_thenN ?_
                  exact tr_join [(1, x1.enc), (2, x2.enc), (3, (.pointer (some x3))), (7, (.pointer x7)), (9, (.int .i64 x9)), (10, x10.enc), (11, (.int .i64 x11)), (12, (.pointer (some a48))), (13, r52)] ⟨rfl, rfl, rfl, rfl, rfl, rfl, rfl, rfl, rfl, trivial⟩ ⟨_, _, _, _, _, _, _, _, _, rfl, H⟩
              · replace H := H.2
                refine ⟨_, (f_alloc (cs := ((⟨0, 0, 0, 0⟩ : S_api_Agg) : S_api_Agg).cells.toArray) Try.zeroValue35 rfl H), ?_⟩
                rintro _ h54 ⟨a55, rfl, H⟩
                obtain ⟨k56, k57, H⟩ := H
                refine ⟨And.intro k56 (And.intro k57 trivial), ?_⟩
                refine g_e 2 4351 [(6, fun h => cellH h a33 = some (.int .i64 y35))] (by kernel_rfl) rfl (by kernel_rfl) (e_call Try.call17 rfl (F.shard_Shard_Get_ok H)) rfl rfl ?_
                rintro _ h58 ⟨r59, rfl, H⟩
                obtain ⟨k60, H⟩ := H
                refine ⟨And.intro k60 trivial, ?_⟩
                refine g_e 8 4607 [] (by kernel_rfl) rfl (by kernel_rfl) (e_call Try.call16 rfl (F.agg_Put_ok H)) rfl rfl ?_
                rintro _ h61 ⟨r62, r63, rfl, H⟩
                refine ⟨trivial, ?_⟩
                refine g_p 9 5119 rfl (by kernel_rfl) (y_move rfl) rfl rfl ?_
                refine g_p 10 6143 rfl (by kernel_rfl) (y_ext rfl rfl) rfl rfl ?_
                refine g_p 11 8191 rfl (by kernel_rfl) (y_ext rfl rfl) rfl rfl ?_
                refine g_e 13 16383 [] (by kernel_rfl) rfl (by kernel_rfl) (f_store (vs := r62.cells) Try.sizeOf35 rfl rfl cellsOfStruct rfl (by intro v hv; exact ones_S_api_Agg _ v hv) H) rfl rfl ?_
                rintro _ h64 ⟨rfl, H⟩
                refine ⟨trivial, ?_⟩
                refine g_p 14 32767 rfl (by kernel_rfl) (y_assign rfl) rfl rfl ?_
                refine g_d (by kernel_rfl) ?_
                refine tr_thenN ?_
                exact tr_join [(1, x1.enc), (2, x2.enc), (3, (.pointer (some x3))), (7, (.pointer x7)), (9, (.int .i64 x9)), (10, x10.enc), (11, (.int .i64 x11)), (12, (.pointer (some a55))), (13, r63)] ⟨rfl, rfl, rfl, rfl, rfl, rfl, rfl, rfl, rfl, trivial⟩ ⟨_, _, _, _, _, _, _, _, _, rfl, H⟩
          · refine tr_seq_j (fun L' h => ∃ (x1 : Sl) (x2 : Sl) (x3 : Addr) (x7 : Option Addr) (x9 : Int) (x10 : Sl) (x11 : Int) (x51 : Bool), L' = [(1, x1.enc), (2, x2.enc), (3, (.pointer (some x3))), (7, (.pointer x7)), (9, (.int .i64 x9)), (10, x10.enc), (11, (.int .i64 x11)), (51, (.bool x51))] ∧ F.spatelaw7_ShardFolds.j10 Q (F.spatelaw7_ShardFolds.l2 Q q2) x1 x2 x3 x7 x9 x10 x11 x51 h) ?_ ?_
            · rintro L' h ⟨x1, x2, x3, x7, x9, x10, x11, x51, rfl, H⟩
              unfold F.spatelaw7_ShardFolds.j10 at H
              refine tr_cond rfl (fun g65 => ?_) (fun g65 => ?_)
              · replace H := H.1 g65
                refine tr_region ?_
                refine tr_p (y_move rfl) rfl rfl ?_
                refine tr_p (y_add rfl rfl) rfl rfl ?_
                refine tr_p (y_assign rfl) rfl rfl ?_
                refine tr_nil ?_
                refine tr_thenN ?_
                exact tr_join [(1, x1.enc), (2, x2.enc), (3, (.pointer (some x3))), (7, (.pointer x7)), (9, (.int .i64 (IntKind.wrap .i64 (x9 + 1)))), (10, x10.enc), (11, (.int .i64 x11))] ⟨rfl, rfl, rfl, rfl, rfl, rfl, rfl, trivial⟩ ⟨_, _, _, _, _, _, _, rfl, H⟩
              · replace H := H.2 g65
                refine tr_skip ?_
                refine tr_thenN ?_
                exact tr_join [(1, x1.enc), (2, x2.enc), (3, (.pointer (some x3))), (7, (.pointer x7)), (9, (.int .i64 x9)), (10, x10.enc), (11, (.int .i64 x11))] ⟨rfl, rfl, rfl, rfl, rfl, rfl, rfl, trivial⟩ ⟨_, _, _, _, _, _, _, rfl, H⟩
            · refine tr_region ?_
              refine tr_p (y_move rfl) rfl rfl ?_
              refine tr_p (y_len (ts := #[]) Try.runUnderlying26 (o := x2.ptr) (n := x2.len) (cap := x2.cap) rfl) rfl rfl ?_
              refine tr_p (y_gtr rfl rfl) rfl rfl ?_
              refine tr_p (y_move rfl) rfl rfl ?_
              refine tr_split (t := 41) rfl (fun g66 => ?_) (fun g66 => ?_)
              · replace H := H.1 g66
                refine tr_p (y_move rfl) rfl rfl ?_
                refine tr_p (y_move rfl) rfl rfl ?_
                refine tr_p (y_move rfl) rfl rfl ?_
                refine tr_p (y_len (ts := #[]) Try.runUnderlying26 (o := x2.ptr) (n := x2.len) (cap := x2.cap) rfl) rfl rfl ?_
                obtain ⟨e67, H⟩ := H
                refine tr_p (y_rem rfl rfl e67) rfl rfl ?_
                obtain ⟨a68, e69, H⟩ := H
                refine tr_p (f_idx (s := x2) Try.runUnderlying26 Try.sizeOf3 rfl rfl e69) rfl rfl ?_
                obtain ⟨y70, k71, H⟩ := H
                refine tr_h (y_ld Try.isAgg3 rfl) k71 rfl rfl ?_
                refine tr_e (e_call Try.call15 rfl (F.spatelaw7_within_ok H)) rfl rfl ?_
                rintro _ h72 ⟨r73, rfl, H⟩
                refine tr_p (y_eql rfl rfl) rfl rfl ?_
                refine tr_p (y_pick_t rfl rfl) rfl rfl ?_
                refine tr_nil ?_
                refine tr_thenN ?_
                exact tr_join [(1, x1.enc), (2, x2.enc), (3, (.pointer (some x3))), (7, (.pointer x7)), (9, (.int .i64 x9)), (10, x10.enc), (11, (.int .i64 x11)), (51, (.bool ((r73 == 0))))] ⟨rfl, rfl, rfl, rfl, rfl, rfl, rfl, rfl, trivial⟩ ⟨_, _, _, _, _, _, _, _, rfl, H⟩
              · replace H := H.2 g66
                refine tr_s rfl rfl ?_
                refine tr_s rfl rfl ?_
                refine tr_s rfl rfl ?_
                refine tr_s rfl rfl ?_
                refine tr_s rfl rfl ?_
                refine tr_s rfl rfl ?_
                refine tr_s rfl rfl ?_
                refine tr_s rfl rfl ?_
                refine tr_s rfl rfl ?_
                refine tr_p (y_pick_f rfl rfl) rfl rfl ?_
                refine tr_nil ?_
                refine tr_thenN ?_
                exact tr_join [(1, x1.enc), (2, x2.enc), (3, (.pointer (some x3))), (7, (.pointer x7)), (9, (.int .i64 x9)), (10, x10.enc), (11, (.int .i64 x11)), (51, (.bool false))] ⟨rfl, rfl, rfl, rfl, rfl, rfl, rfl, rfl, trivial⟩ ⟨_, _, _, _, _, _, _, _, rfl, H⟩
      · refine tr_seq_j (fun L' h => ∃ (x1 : Sl) (x2 : Sl) (x3 : Addr) (x7 : Option Addr) (x9 : Int) (x10 : Sl) (x11 : Int) (x35 : Bool), L' = [(1, x1.enc), (2, x2.enc), (3, (.pointer (some x3))), (7, (.pointer x7)), (9, (.int .i64 x9)), (10, x10.enc), (11, (.int .i64 x11)), (35, (.bool x35))] ∧ F.spatelaw7_ShardFolds.j11 Q (F.spatelaw7_ShardFolds.l2 Q q2) x1 x2 x3 x7 x9 x10 x11 x35 h) ?_ ?_
        · rintro L' h ⟨x1, x2, x3, x7, x9, x10, x11, x35, rfl, H⟩
          unfold F.spatelaw7_ShardFolds.j11 at H
          refine tr_cond rfl (fun g74 => ?_) (fun g74 => ?_)
          · replace H := H.1 g74
            refine tr_skip ?_
            refine tr_thenN ?_
            exact tr_join [(1, x1.enc), (2, x2.enc), (3, (.pointer (some x3))), (7, (.pointer x7)), (9, (.int .i64 x9)), (10, x10.enc), (11, (.int .i64 x11))] ⟨rfl, rfl, rfl, rfl, rfl, rfl, rfl, trivial⟩ ⟨_, _, _, _, _, _, _, rfl, H⟩
          · replace H := H.2 g74
            refine tr_exit ?_
            refine tr_thenE ?_
            refine tr_thenE ?_
            refine tr_hit ?_
            refine tr_thenN ?_
            refine tr_seq ?_
            refine tr_region ?_
            refine tr_p (f_build rfl (bd_35_ )) rfl rfl ?_
            refine tr_e (f_alloc (cs := ((⟨0, 0, 0, 0⟩ : S_api_Agg) : S_api_Agg).cells.toArray) Try.zeroValue35 rfl H) rfl rfl ?_
            rintro _ h75 ⟨a76, rfl, H⟩
            refine tr_e (f_store (vs := (⟨0, 0, 0, 0⟩ : S_api_Agg).cells) Try.sizeOf35 rfl rfl cellsOfStruct rfl (by intro v hv; exact ones_S_api_Agg _ v hv) H) rfl rfl ?_
            rintro _ h77 ⟨rfl, H⟩
            refine tr_nil ?_
            refine tr_thenN ?_
            refine tr_seq ?_
            refine tr_seq ?_
            refine tr_region ?_
            refine tr_p (y_assign rfl) rfl rfl ?_
            refine tr_nil ?_
            refine tr_thenN ?_
            refine tr_block ?_
            obtain ⟨m107, H⟩ := H
            refine tr_sub [(3, (.pointer (some x3))), (7, (.pointer x7)), (10, x10.enc), (14, (.pointer (some a76))), (15, (.int .i64 0))] ⟨rfl, rfl, rfl, rfl, rfl, trivial⟩ ?_
            refine tr_loop_j (fun m L' h => ∃ (x3 : Addr) (x7 : Option Addr) (x10 : Sl) (x14 : Addr) (x15 : Int), L' = [(3, (.pointer (some x3))), (7, (.pointer x7)), (10, x10.enc), (14, (.pointer (some x14))), (15, (.int .i64 x15))] ∧ F.spatelaw7_ShardFolds.l12 Q m x3 x7 x10 x14 x15 h) ?_ ?_ m107 ⟨_, _, _, _, _, rfl, H⟩
            · rintro L' h ⟨_, _, _, _, _, _, H⟩; exact H
            · rintro q12 L' h ⟨x3, x7, x10, x14, x15, rfl, H⟩
              unfold F.spatelaw7_ShardFolds.l12 at H
              refine tr_seq ?_
              refine tr_seq ?_
              refine tr_region ?_
              refine tr_p (y_move rfl) rfl rfl ?_
              refine tr_p (y_move rfl) rfl rfl ?_
              refine tr_p (y_len (ts := #[]) Try.runUnderlying32 (o := x10.ptr) (n := x10.len) (cap := x10.cap) rfl) rfl rfl ?_
              refine tr_p (y_lss rfl rfl) rfl rfl ?_
              refine tr_nil ?_
              refine tr_thenN ?_
              refine tr_cond rfl (fun g78 => ?_) (fun g78 => ?_)
              · replace H := H.1 g78
                refine tr_skip ?_
                refine tr_thenN ?_
                refine tr_seq_j (fun L' h => ∃ (x3 : Addr) (x7 : Option Addr) (x10 : Sl) (x14 : Addr) (x15 : Int), L' = [(3, (.pointer (some x3))), (7, (.pointer x7)), (10, x10.enc), (14, (.pointer (some x14))), (15, (.int .i64 x15))] ∧ F.spatelaw7_ShardFolds.j13 Q (F.spatelaw7_ShardFolds.l12 Q q12) x3 x7 x10 x14 x15 h) ?_ ?_
                · rintro L' h ⟨x3, x7, x10, x14, x15, rfl, H⟩
                  unfold F.spatelaw7_ShardFolds.j13 at H
                  refine tr_region ?_
                  refine tr_p (y_move rfl) rfl rfl ?_
                  refine tr_p (y_add rfl rfl) rfl rfl ?_
                  refine tr_p (y_assign rfl) rfl rfl ?_
                  refine tr_nil ?_
                  refine tr_thenN ?_
                  exact tr_join [(3, (.pointer (some x3))), (7, (.pointer x7)), (10, x10.enc), (14, (.pointer (some x14))), (15, (.int .i64 (IntKind.wrap .i64 (x15 + 1))))] ⟨rfl, rfl, rfl, rfl, rfl, trivial⟩ ⟨_, _, _, _, _, rfl, H⟩
                · refine tr_block ?_
                  refine tr_seq_j (fun L' h => ∃ (x3 : Addr) (x7 : Option Addr) (x10 : Sl) (x14 : Addr) (x15 : Int), L' = [(3, (.pointer (some x3))), (7, (.pointer x7)), (10, x10.enc), (14, (.pointer (some x14))), (15, (.int .i64 x15))] ∧ F.spatelaw7_ShardFolds.j14 Q (F.spatelaw7_ShardFolds.l12 Q q12) x3 x7 x10 x14 x15 h) ?_ ?_
                  · rintro L' h ⟨x3, x7, x10, x14, x15, rfl, H⟩
                    unfold F.spatelaw7_ShardFolds.j14 at H
                    refine tr_seq ?_
                    refine tr_draw mixed [0, 0, 0, 4, 15, 0, 63] (by kernel_rfl) ?_
                    refine g_p 0 1 rfl (by kernel_rfl) (y_move rfl) rfl rfl ?_
                    obtain ⟨y79, k80, H⟩ := H
                    refine g_h 1 3 rfl (by kernel_rfl) (y_ldS Try.isAgg24 Try.sizeOf24 rfl rfl) k80 rfl rfl ?_
                    refine g_p 2 7 rfl (by kernel_rfl) (y_move rfl) rfl rfl ?_
                    refine g_p 3 15 rfl (by kernel_rfl) (y_add rfl rfl) rfl rfl ?_
                    obtain ⟨y81, k82, H⟩ := H
                    refine g_h 5 47 rfl (by kernel_rfl) (y_ldS Try.isAgg35 Try.sizeOf35 rfl rfl) k82 rfl rfl ?_
                    refine g_e 4 63 [(5, fun h => Cells h x14 y81.cells)] (by kernel_rfl) rfl (by kernel_rfl) (e_call Try.call19 rfl (F.shard_Shard_At_ok H)) rfl rfl ?_
                    rintro _ h83 ⟨r84, rfl, H⟩
                    obtain ⟨k85, H⟩ := H
                    refine ⟨And.intro k85 trivial, ?_⟩
                    refine g_p 6 127 rfl (by kernel_rfl) (st_neq (b := ((r84.Count == y81.Count) && ((r84.Sum == y81.Sum) && ((r84.Min == y81.Min) && ((r84.Max == y81.Max) && true))))) eqg_35 (fun w => eqst_35 r84 y81 9998 w) rfl rfl) rfl rfl ?_
                    refine g_d (by kernel_rfl) ?_
                    refine tr_thenN ?_
                    refine tr_cond rfl (fun g86 => ?_) (fun g86 => ?_)
                    · replace H := H.1 g86
                      refine tr_seq ?_
                      refine tr_region ?_
                      refine tr_p (y_assign rfl) rfl rfl ?_
                      refine tr_nil ?_
                      refine tr_thenN ?_
                      refine tr_ret ?_
                      refine tr_blockR ?_
                      refine tr_thenR ?_
                      refine tr_thenR ?_
                      refine tr_blockR ?_
                      refine tr_thenR ?_
                      exact tr_ret1 rfl rfl ⟨_, rfl, H⟩
                    · replace H := H.2 g86
                      refine tr_skip ?_
                      refine tr_blockN ?_
                      refine tr_thenN ?_
                      exact tr_join [(3, (.pointer (some x3))), (7, (.pointer x7)), (10, x10.enc), (14, (.pointer (some x14))), (15, (.int .i64 x15))] ⟨rfl, rfl, rfl, rfl, rfl, trivial⟩ ⟨_, _, _, _, _, rfl, H⟩
                  · refine tr_seq ?_
                    refine tr_region ?_
                    refine tr_p (y_move rfl) rfl rfl ?_
                    refine tr_p (y_move rfl) rfl rfl ?_
                    obtain ⟨a87, e88, H⟩ := H
                    refine tr_p (f_idx (s := x10) Try.runUnderlying32 Try.sizeOf35 rfl rfl e88) rfl rfl ?_
                    refine tr_p (y_fa (off := 0) Try.runUnderlying35 fo_35_0 rfl) rfl rfl ?_
                    obtain ⟨y89, k90, H⟩ := H
                    refine tr_h (y_ld Try.isAgg2 rfl) k90 rfl rfl ?_
                    refine tr_p (y_gtr rfl rfl) rfl rfl ?_
                    refine tr_nil ?_
                    refine tr_thenN ?_
                    refine tr_cond rfl (fun g91 => ?_) (fun g91 => ?_)
                    · replace H := H.1 g91
                      refine tr_region ?_
                      refine tr_p (y_move rfl) rfl rfl ?_
                      refine tr_p (y_move rfl) rfl rfl ?_
                      obtain ⟨a92, e93, H⟩ := H
                      refine tr_p (f_idx (s := x10) Try.runUnderlying32 Try.sizeOf35 rfl rfl e93) rfl rfl ?_
                      obtain ⟨y94, k95, H⟩ := H
                      refine tr_h (y_ldS Try.isAgg35 Try.sizeOf35 rfl rfl) k95 rfl rfl ?_
                      refine tr_e (f_store (vs := y94.cells) Try.sizeOf35 rfl rfl cellsOfStruct rfl (by intro v hv; exact ones_S_api_Agg _ v hv) H) rfl rfl ?_
                      rintro _ h96 ⟨rfl, H⟩
                      refine tr_nil ?_
                      refine tr_thenN ?_
                      exact tr_join [(3, (.pointer (some x3))), (7, (.pointer x7)), (10, x10.enc), (14, (.pointer (some x14))), (15, (.int .i64 x15))] ⟨rfl, rfl, rfl, rfl, rfl, trivial⟩ ⟨_, _, _, _, _, rfl, H⟩
                    · replace H := H.2 g91
                      refine tr_skip ?_
                      refine tr_thenN ?_
                      exact tr_join [(3, (.pointer (some x3))), (7, (.pointer x7)), (10, x10.enc), (14, (.pointer (some x14))), (15, (.int .i64 x15))] ⟨rfl, rfl, rfl, rfl, rfl, trivial⟩ ⟨_, _, _, _, _, rfl, H⟩
              · replace H := H.2 g78
                refine tr_exit ?_
                refine tr_thenE ?_
                refine tr_thenE ?_
                refine tr_hit ?_
                refine tr_thenN ?_
                refine tr_seq ?_
                refine tr_draw mixed [0, 0, 3, 0, 15, 31, 63, 127, 255] (by kernel_rfl) ?_
                refine g_p 0 1 rfl (by kernel_rfl) (y_move rfl) rfl rfl ?_
                obtain ⟨y97, k98, H⟩ := H
                refine g_h 1 3 rfl (by kernel_rfl) (y_ldS Try.isAgg24 Try.sizeOf24 rfl rfl) k98 rfl rfl ?_
                obtain ⟨y99, k100, H⟩ := H
                refine g_h 3 11 rfl (by kernel_rfl) (y_ldS Try.isAgg35 Try.sizeOf35 rfl rfl) k100 rfl rfl ?_
                refine g_e 2 15 [(3, fun h => Cells h x14 y99.cells)] (by kernel_rfl) rfl (by kernel_rfl) (e_call Try.call17 rfl (F.shard_Shard_Get_ok H)) rfl rfl ?_
                rintro _ h101 ⟨r102, rfl, H⟩
                obtain ⟨k103, H⟩ := H
                refine ⟨And.intro k103 trivial, ?_⟩
                refine g_p 4 31 rfl (by kernel_rfl) (st_eql (b := ((r102.Count == y99.Count) && ((r102.Sum == y99.Sum) && ((r102.Min == y99.Min) && ((r102.Max == y99.Max) && true))))) eqg_35 (fun w => eqst_35 r102 y99 9998 w) rfl rfl) rfl rfl ?_
                refine g_p 5 63 rfl (by kernel_rfl) (y_move rfl) rfl rfl ?_
                refine g_split (t := 119) rfl (fun g104 => ?_) (fun g104 => ?_)
                · replace H := H.1 g104
                  refine g_e 6 127 [] (by kernel_rfl) rfl (by kernel_rfl) (e_call Try.call12 rfl (F.spatelaw7_head_ok H)) rfl rfl ?_
                  rintro _ h105 ⟨r106, rfl, H⟩
                  refine ⟨trivial, ?_⟩
                  refine g_p 7 255 rfl (by kernel_rfl) (y_pick_t rfl rfl) rfl rfl ?_
                  refine g_p 8 511 rfl (by kernel_rfl) (y_assign rfl) rfl rfl ?_
                  refine g_d (by kernel_rfl) ?_
                  refine tr_thenN ?_
                  refine tr_ret ?_
                  exact tr_ret1 rfl rfl ⟨_, rfl, H⟩
                · replace H := H.2 g104
                  refine g_s 6 127 rfl (by kernel_rfl) rfl rfl ?_
                  refine g_p 7 255 rfl (by kernel_rfl) (y_pick_f rfl rfl) rfl rfl ?_
                  refine g_p 8 511 rfl (by kernel_rfl) (y_assign rfl) rfl rfl ?_
                  refine g_d (by kernel_rfl) ?_
                  refine tr_thenN ?_
                  refine tr_ret ?_
                  exact tr_ret1 rfl rfl ⟨_, rfl, H⟩
        · refine tr_region ?_
          refine tr_p (y_move rfl) rfl rfl ?_
          refine tr_p (y_move rfl) rfl rfl ?_
          refine tr_p (y_len (ts := #[]) Try.runUnderlying25 (o := x1.ptr) (n := x1.len) (cap := x1.cap) rfl) rfl rfl ?_
          refine tr_p (y_lss rfl rfl) rfl rfl ?_
          refine tr_p (y_move rfl) rfl rfl ?_
          refine tr_split (t := 32) rfl (fun g108 => ?_) (fun g108 => ?_)
          · replace H := H.1 g108
            refine tr_p (y_move rfl) rfl rfl ?_
            refine tr_p (y_lss rfl rfl) rfl rfl ?_
            refine tr_p (y_pick_t rfl rfl) rfl rfl ?_
            refine tr_nil ?_
            refine tr_thenN ?_
            exact tr_join [(1, x1.enc), (2, x2.enc), (3, (.pointer (some x3))), (7, (.pointer x7)), (9, (.int .i64 x9)), (10, x10.enc), (11, (.int .i64 x11)), (35, (.bool (decide (x11 < 60))))] ⟨rfl, rfl, rfl, rfl, rfl, rfl, rfl, rfl, trivial⟩ ⟨_, _, _, _, _, _, _, _, rfl, H⟩
          · replace H := H.2 g108
            refine tr_s rfl rfl ?_
            refine tr_s rfl rfl ?_
            refine tr_p (y_pick_f rfl rfl) rfl rfl ?_
            refine tr_nil ?_
            refine tr_thenN ?_
            exact tr_join [(1, x1.enc), (2, x2.enc), (3, (.pointer (some x3))), (7, (.pointer x7)), (9, (.int .i64 x9)), (10, x10.enc), (11, (.int .i64 x11)), (35, (.bool false))] ⟨rfl, rfl, rfl, rfl, rfl, rfl, rfl, rfl, trivial⟩ ⟨_, _, _, _, _, _, _, _, rfl, H⟩
  · refine tr_seq_j (fun L' h => ∃ (x1 : Sl) (x2 : Sl) (x3 : Addr) (x7 : Option Addr) (x25 : Bool), L' = [(1, x1.enc), (2, x2.enc), (3, (.pointer (some x3))), (7, (.pointer x7)), (25, (.bool x25))] ∧ F.spatelaw7_ShardFolds.j15 Q x1 x2 x3 x7 x25 h) ?_ ?_
    · rintro L' h ⟨x1, x2, x3, x7, x25, rfl, H⟩
      unfold F.spatelaw7_ShardFolds.j15 at H
      refine tr_cond rfl (fun g110 => ?_) (fun g110 => ?_)
      · replace H := H.1 g110
        refine tr_seq ?_
        refine tr_region ?_
        refine tr_p (y_assign rfl) rfl rfl ?_
        refine tr_nil ?_
        refine tr_thenN ?_
        refine tr_ret ?_
        refine tr_thenR ?_
        exact tr_ret1 rfl rfl ⟨_, rfl, H⟩
      · replace H := H.2 g110
        refine tr_skip ?_
        refine tr_thenN ?_
        exact tr_join [(1, x1.enc), (2, x2.enc), (3, (.pointer (some x3))), (7, (.pointer x7))] ⟨rfl, rfl, rfl, rfl, trivial⟩ ⟨_, _, _, _, rfl, H⟩
    · refine tr_region ?_
      refine tr_p (y_move rfl) rfl rfl ?_
      refine tr_p (y_neq rfl rfl) rfl rfl ?_
      refine tr_p (y_move rfl) rfl rfl ?_
      refine tr_split (t := 22) rfl (fun g111 => ?_) (fun g111 => ?_)
      · replace H := H.1 g111
        refine tr_s rfl rfl ?_
        refine tr_s rfl rfl ?_
        refine tr_p (y_pick_t rfl rfl) rfl rfl ?_
        refine tr_nil ?_
        refine tr_thenN ?_
        exact tr_join [(1, p1.enc), (2, p2.enc), (3, (.pointer (some a2))), (7, (.pointer r4)), (25, (.bool true))] ⟨rfl, rfl, rfl, rfl, rfl, trivial⟩ ⟨_, _, _, _, _, rfl, H⟩
      · replace H := H.2 g111
        refine tr_p (y_move rfl) rfl rfl ?_
        refine tr_p (y_pnil_eql Try.runUnderlying27 rfl rfl) rfl rfl ?_
        refine tr_p (y_pick_f rfl rfl) rfl rfl ?_
        refine tr_nil ?_
        refine tr_thenN ?_
        exact tr_join [(1, p1.enc), (2, p2.enc), (3, (.pointer (some a2))), (7, (.pointer r4)), (25, (.bool r4.isNone))] ⟨rfl, rfl, rfl, rfl, rfl, trivial⟩ ⟨_, _, _, _, _, rfl, H⟩
end Go.Proofs.Ytoccbnhahaoeiaa.V
namespace Go.Proofs.Ytoccbnhahaoeiaa.V
open Go
set_option linter.unusedVariables false
set_option linter.unusedSimpArgs false
abbrev Cel := S_api_Cell
theorem cU_one (b : UInt8) : ∀ v ∈ cU b, v.oneCell' = true := one1 rfl
theorem Blk.cells3 {h : H} {n : Nat} {c : Cel} {e : TypeId} (k : Blk h n c.cells.toArray e) : Cells h ⟨n, 0, none⟩ c.cells := fun j v hv => by rw [add_lit, Nat.zero_add]; exact k.cell (by simpa using hv)
def mayC (c : Cel) : Int := if c.View < 0 ∨ c.View > 4 then 23 else if (c.Key.size : Int) > 32 then 21 else if c.Start < -2305843009213693952 ∨ c.Start > 2305843009213693952 then 22 else 0
theorem mayC_spec {h : H} {c : Cel} {Q : Int → H → Prop} (k : ∀ h', Ext h h' → Q (mayC c) h') : F.merge_may c h Q := by
  unfold F.merge_may
  refine new_of fun n h1 e1 e2 e3 e4 => ?_
  have k := k h1 e3
  unfold mayC at k
  simp only [F.merge_may.j1, F.merge_may.j2, add_lit, Nat.zero_add, ldI_iff (e2.cell (i := 0) (v := .int .i64 c.View) rfl), ldS_iff (e2.cell (i := 1) (v := .string c.Key) rfl), ldI_iff (e2.cell (i := 2) (v := .int .i64 c.Start) rfl), decide_eq_true_eq, decide_eq_false_iff_not]
  have hb : ¬ (c.View < 0 ∨ c.View > 4) → ((c.Key.size : Int) > 32 → Q 21 h1) ∧ (¬ (c.Key.size : Int) > 32 → (c.Start < -2305843009213693952 → (True → Q 22 h1) ∧ (true = false → Q 0 h1)) ∧ (¬ c.Start < -2305843009213693952 → (c.Start > 2305843009213693952 → Q 22 h1) ∧ (¬ c.Start > 2305843009213693952 → Q 0 h1))) := fun g => by
    rw [if_neg g] at k
    refine ⟨fun g1 => by rw [if_pos g1] at k; exact k, fun g1 => ?_⟩
    rw [if_neg g1] at k
    refine ⟨fun g2 => ⟨fun _ => by rw [if_pos (.inl g2)] at k; exact k, fun h => by cases h⟩, fun g2 => ⟨fun g3 => by rw [if_pos (.inr g3)] at k; exact k, fun g3 => by rw [if_neg (by omega)] at k; exact k⟩⟩
  refine ⟨fun g => ⟨fun _ => by rw [if_pos (.inl g)] at k; exact k, fun h => by cases h⟩, fun g => ⟨fun g2 => by rw [if_pos (.inr g2)] at k; exact k, fun g2 => hb (by omega)⟩⟩
def escL : List UInt8 → List UInt8
  | [] => []
  | b :: r => if b = 0 then 0 :: 255 :: escL r else b :: escL r
theorem escL_snoc (b : UInt8) : ∀ l, escL (l ++ [b]) = escL l ++ (if b = 0 then [0, 255] else [b])
  | [] => by by_cases h : b = 0 <;> simp [escL, h]
  | x :: r => by simp only [List.cons_append, escL, escL_snoc b r]; split <;> simp
theorem escL_len : ∀ l : List UInt8, (escL l).length ≤ 2 * l.length
  | [] => by simp [escL]
  | b :: r => by have := escL_len r; simp only [escL]; split <;> simp <;> omega
def beT (u : Nat) : Nat → List UInt8
  | 0 => []
  | j + 1 => UInt8.ofNat (u / 2 ^ (8 * j)) :: beT u j
theorem beT_len (u : Nat) : ∀ j, (beT u j).length = j
  | 0 => rfl
  | j + 1 => by simp [beT, beT_len u j]
def upU (n : Int) : Nat := (IntKind.wrap .u64 (IntKind.wrap .u64 n + 9223372036854775808)).toNat
def keyL (c : Cel) : List UInt8 := UInt8.ofNat c.View.toNat :: (escL c.Key.data.toList ++ [0, 1] ++ beT (upU c.Start) 8)
theorem wrap_u64 (n : Int) : IntKind.wrap .u64 n = n % 18446744073709551616 := by
  unfold IntKind.wrap; simp [IntKind.bits, IntKind.signed]
theorem wrap_u8 (n : Int) : IntKind.wrap .u8 n = n % 256 := by
  unfold IntKind.wrap; simp [IntKind.bits, IntKind.signed]
theorem upU_eq (n : Int) : ((upU n : Nat) : Int) = IntKind.wrap .u64 (IntKind.wrap .u64 n + 9223372036854775808) := by
  unfold upU
  rw [Int.toNat_of_nonneg]
  rw [wrap_u64]; omega
theorem fdiv_pow (u i : Nat) : Int.fdiv (u : Int) (2 ^ i : Int) = ((u / 2 ^ i : Nat) : Int) := by
  have e : (2 ^ i : Int) = ((2 ^ i : Nat) : Int) := by simp
  rw [e, Int.ofNat_fdiv]
theorem u8_of (n : Nat) : ((UInt8.ofNat n).toNat : Int) = IntKind.wrap .u8 (n : Int) := by
  rw [wrap_u8]; simp
theorem key_tail {h0 : H} {u : Nat} {Q : ByteArray → Int → H → Prop} {L0 : List UInt8} (hL0 : L0.length ≤ 1000) (k : ∀ h', Ext h0 h' → Q ⟨(L0 ++ beT u 8).toArray⟩ 0 h') :
    ∀ (j m : Nat) (h : H) (s : Sl) (L : List UInt8), j ≤ 8 → j < m → Ext h0 h → Owns h s 5 1 (L.flatMap cU) → Mine h0 s → L ++ beT u j = L0 ++ beT u 8 → F.merge_Key.l2 Q m s (u : Int) (8 * (j : Int) - 8) h
  | j, 0, h, s, L, _, hm, _, _, _, _ => by omega
  | j, m + 1, h, s, L, hj, hm, e0, ow, mi, hL => by
    unfold F.merge_Key.l2
    simp only [decide_eq_true_eq, decide_eq_false_iff_not]
    have hlen : L.length + j = L0.length + 8 := by have := congrArg List.length hL; simpa [beT_len] using this
    refine ⟨fun g => ⟨g, ?_⟩, fun g => ?_⟩
    · obtain ⟨i, rfl⟩ : ∃ i, j = i + 1 := ⟨j - 1, by omega⟩
      have hb : IntKind.wrap .u8 (Int.fdiv (u : Int) (2 ^ (min (8 * ((i + 1 : Nat) : Int) - 8).toNat (IntKind.bits .u64)) : Int)) = ((UInt8.ofNat (u / 2 ^ (8 * i))).toNat : Int) := by
        rw [u8_of, show (8 * ((i + 1 : Nat) : Int) - 8).toNat = 8 * i from by omega, show min (8 * i) (IntKind.bits .u64) = 8 * i from by simp [IntKind.bits]; omega]
        rw [fdiv_pow]
      rw [hb]
      refine push_mine (f := cU) (UInt8.ofNat (u / 2 ^ (8 * i))) e0 mi cU_len (by omega) el_Sluint8 ow cU_one (by omega) fun r h1 q1 q2 q3 q4 q5 => ?_
      rw [w64 (by omega) (by omega), show 8 * ((i + 1 : Nat) : Int) - 8 - 8 = 8 * (i : Int) - 8 from by omega]
      refine key_tail hL0 k i m h1 r _ (by omega) (by omega) q2 q1 q3 ?_
      rw [← hL]; simp [beT]
    · have : j = 0 := by omega
      subst this
      refine cvtT_of (l := L) el_Sluint8.slice Try.underlying5 Try.underlying9 ow.reads ?_
      have : L = L0 ++ beT u 8 := by simpa [beT] using hL
      rw [this]; exact k h e0
theorem key_loop {h0 : H} {c : Cel} {n : Nat} {Q : ByteArray → Int → H → Prop} {pre : UInt8} (hk : c.Key.size ≤ 32) (k : ∀ h', Ext h0 h' → Q ⟨(pre :: (escL c.Key.data.toList ++ [0, 1] ++ beT (upU c.Start) 8)).toArray⟩ 0 h') (hn : h0.size ≤ n) :
    ∀ (m i : Nat) (h : H) (s : Sl), i ≤ c.Key.size → c.Key.size - i < m → Ext h0 h → Blk h n c.cells.toArray tn_api_Cell → n < h.size → Owns h s 5 1 ((pre :: escL (c.Key.data.toList.take i)).flatMap cU) → Mine h0 s → s.blk ≠ some n →
    F.merge_Key.l1 Q m ⟨n, 0, none⟩ s (c.Key.size : Int) (i : Int) h
  | 0, i, h, s, _, hm, _, _, _, _, _, _ => by omega
  | m + 1, i, h, s, hi, hm, e0, bl, hnl, ow, mi, hne => by
    unfold F.merge_Key.l1
    simp only [decide_eq_true_eq, decide_eq_false_iff_not, add_lit, Nat.zero_add]
    have hel := escL_len (c.Key.data.toList.take i)
    rw [List.length_take, ← size_data] at hel
    refine ⟨fun g => ?_, fun g => ?_⟩
    · rw [ldS_iff (bl.cell (i := 1) (v := .string c.Key) rfl)]
      obtain ⟨b, hb⟩ : ∃ b, c.Key.data.toList[i]? = some b := ⟨_, List.getElem?_eq_getElem (by rw [← size_data]; omega)⟩
      refine idxS_of hb rfl ?_
      have htk : escL (c.Key.data.toList.take (i + 1)) = escL (c.Key.data.toList.take i) ++ (if b = 0 then [0, 255] else [b]) := by rw [List.take_add_one, hb]; exact escL_snoc b _
      refine push_mine (f := cU) b e0 mi cU_len (by omega) el_Sluint8 ow cU_one (by simp; omega) fun r h1 q1 q2 q3 q4 q5 => ?_
      have bl1 : Blk h1 n c.cells.toArray tn_api_Cell := q4.block bl hne
      have hg1 := q4.size
      have hne1 : r.blk ≠ some n := by
        rcases q5 with q5 | ⟨x, q5, q6⟩
        · rw [q5]; exact hne
        · rw [q5]; intro e; cases e; omega
      rw [ldS_iff (bl1.cell (i := 1) (v := .string c.Key) rfl)]
      refine idxS_of hb rfl ?_
      have hw : IntKind.wrap .i64 ((i : Int) + 1) = ((i + 1 : Nat) : Int) := by rw [w64 (by omega) (by omega)]; omega
      rw [hw, beq_iff_eq, beq_eq_false_iff_ne]
      have hb0 : (b.toNat : Int) = 0 ↔ b = 0 := by
        constructor
        · intro h; exact UInt8.toNat_inj.1 (by simpa using (by omega : b.toNat = 0))
        · intro h; subst h; rfl
      rw [hb0, Ne, hb0]
      refine ⟨fun g2 => ?_, fun g2 => ?_⟩
      · refine push_mine (f := cU) 255 q2 q3 cU_len (by omega) el_Sluint8 q1 cU_one (by simp; omega) fun r2 h2 p1 p2 p3 p4 p5 => ?_
        have hne2 : r2.blk ≠ some n := by
          rcases p5 with p5 | ⟨x, p5, p6⟩
          · rw [p5]; exact hne1
          · rw [p5]; intro e; cases e; omega
        refine key_loop hk k hn m (i + 1) h2 r2 (by omega) (by omega) p2 (p4.block bl1 hne1) (by have := p4.size; omega) ?_ p3 hne2
        rw [htk, if_pos g2]; subst g2; simpa using p1
      · refine key_loop hk k hn m (i + 1) h1 r (by omega) (by omega) q2 bl1 (by omega) ?_ q3 hne1
        rw [htk, if_neg g2]; simpa using q1
    · have hii : i = c.Key.size := by omega
      subst hii
      refine newL_of fun x h1 e1 e2 e3 e4 => ?_
      refine app_mine (f := cU) (M := [0, 1]) (e0.trans e3) mi cU_len (by omega) el_Sluint8 (ow.ext e3) (blk_reads (show Blk h1 x (([0, 1] : List UInt8).flatMap cU).toArray 5 from e2) rfl) cU_one (by simp; omega) fun r h2 q1 q2 q3 q4 q5 => ?_
      have bl1 : Blk h2 n c.cells.toArray tn_api_Cell := q4.block (e3.block bl (fun f => f)) hne
      rw [ldI_iff (bl1.cell (i := 2) (v := .int .i64 c.Start) rfl), ← upU_eq]
      refine ⟨9, ?_⟩
      have ht : c.Key.data.toList.take c.Key.size = c.Key.data.toList := List.take_of_length_le (by rw [← size_data]; omega)
      rw [ht] at q1
      have hl2 := escL_len c.Key.data.toList
      rw [← size_data] at hl2
      refine key_tail (L0 := pre :: (escL c.Key.data.toList ++ [0, 1])) (by simp; omega) (by simpa using k) 8 9 h2 r _ (by omega) (by omega) q2 q1 q3 (by simp)
theorem Key_spec {h : H} {c : Cel} {Q : ByteArray → Int → H → Prop} (k0 : mayC c ≠ 0 → ∀ h', Ext h h' → Q ⟨#[]⟩ (mayC c) h') (k1 : mayC c = 0 → ∀ h', Ext h h' → Q ⟨(keyL c).toArray⟩ 0 h') : F.merge_Key c h Q := by
  unfold F.merge_Key
  refine new_of fun n h1 e1 e2 e3 e4 => ?_
  refine ⟨c, e2.cells3, mayC_spec fun h2 f1 => ?_⟩
  have e5 := e3.trans f1
  have bl : Blk h2 n c.cells.toArray tn_api_Cell := f1.block e2 (fun f => f)
  refine ⟨fun g => k0 (by simpa using g) h2 e5, fun g => ?_⟩
  have hm : mayC c = 0 := by simpa using g
  simp only [add_lit, Nat.zero_add]
  rw [ldI_iff (bl.cell (i := 0) (v := .int .i64 c.View) rfl)]
  have hv : 0 ≤ c.View ∧ c.View ≤ 4 ∧ c.Key.size ≤ 32 := by
    unfold mayC at hm
    split at hm
    · omega
    · split at hm
      · omega
      · omega
  have hw : IntKind.wrap .u8 c.View = ((UInt8.ofNat c.View.toNat).toNat : Int) := by rw [u8_of, Int.toNat_of_nonneg hv.1]
  rw [hw]
  refine newL_of fun x h3 g1 g2 g3 g4 => ?_
  have bl3 : Blk h3 n c.cells.toArray tn_api_Cell := g3.block bl (fun f => f)
  rw [ldS_iff (bl3.cell (i := 1) (v := .string c.Key) rfl)]
  have hs := e5.size
  have hs3 := e3.size
  have hf1 := f1.size
  refine ⟨c.Key.size + 1, ?_⟩
  refine key_loop (h0 := h) (pre := UInt8.ofNat c.View.toNat) hv.2.2 (fun h' e => k1 hm h' e) (by omega) _ 0 h3 _ (by omega) (by omega) (e5.trans g3) bl3 (by omega) (show Owns h3 ⟨some ⟨x, 0, none⟩, 1, 1⟩ 5 1 [.int .u8 ((UInt8.ofNat c.View.toNat).toNat : Int)] from blk_owns (m := 1) g2 rfl (by simp [maxLen])) (fun b hb => by simp [Sl.blk] at hb; omega) (by simp [Sl.blk]; omega)
end Go.Proofs.Ytoccbnhahaoeiaa.V
namespace Go.Proofs.Ytoccbnhahaoeiaa.V
open Go
set_option linter.unusedVariables false
set_option linter.unusedSimpArgs false
/-- The key's letters, and what lies behind them; or the error. -/
def unesc : List UInt8 → Except Int (List UInt8 × List UInt8)
  | [] => .error 11
  | b :: r => if b ≠ 0 then (match unesc r with | .ok p => .ok (b :: p.1, p.2) | .error e => .error e) else
    match r with
    | [] => .error 11
    | x :: r' => if x = 1 then .ok ([], r') else if x ≠ 255 then .error 12 else (match unesc r' with | .ok p => .ok (0 :: p.1, p.2) | .error e => .error e)
def beV : Nat → List UInt8 → Nat
  | u, [] => u
  | u, b :: r => beV (u * 256 + b.toNat) r
def zeroC : Cel := ⟨0, ⟨#[]⟩, 0⟩
def startOf (u : Nat) : Int := IntKind.wrap .i64 (IntKind.wrap .u64 ((u : Int) - 9223372036854775808))
def finC (v : UInt8) (key t : List UInt8) : Cel × Int :=
  if t.length < 8 then (zeroC, 11) else if t.length > 8 then (zeroC, 13) else
  if mayC ⟨(v.toNat : Int), ⟨key.toArray⟩, startOf (beV 0 t)⟩ ≠ 0 then (zeroC, mayC ⟨(v.toNat : Int), ⟨key.toArray⟩, startOf (beV 0 t)⟩) else (⟨(v.toNat : Int), ⟨key.toArray⟩, startOf (beV 0 t)⟩, 0)
def cellM : List UInt8 → Cel × Int
  | [] => (zeroC, 11)
  | v :: r => match unesc r with
    | .error e => (zeroC, e)
    | .ok p => finC v p.1 p.2
theorem unesc_ne {b : UInt8} {r : List UInt8} (h : b ≠ 0) : unesc (b :: r) = (match unesc r with | .ok p => .ok (b :: p.1, p.2) | .error e => .error e) := by
  rw [unesc.eq_def]; simp only [if_pos h]
theorem cellM_cons (v : UInt8) (r : List UInt8) : cellM (v :: r) = (match unesc r with | .error e => (zeroC, e) | .ok p => finC v p.1 p.2) := rfl
end Go.Proofs.Ytoccbnhahaoeiaa.V
namespace Go.Proofs.Ytoccbnhahaoeiaa.V
open Go
set_option linter.unusedVariables false
set_option linter.unusedSimpArgs false
theorem cmpB_eq : ∀ (a b : List UInt8), Lib.compareBytes a b = if a = b then 0 else if Op.bytesLess a b then -1 else 1
  | [], [] => rfl
  | [], _ :: _ => rfl
  | _ :: _, [] => rfl
  | a :: ra, b :: rb => by
    rw [Lib.compareBytes, cmpB_eq ra rb, Op.bytesLess]
    by_cases h1 : a < b
    · have : a ≠ b := fun e => by subst e; exact absurd h1 (by simp)
      simp [h1, this]
    · by_cases h2 : b < a
      · have : a ≠ b := fun e => by subst e; exact absurd h2 (by simp)
        simp [h1, h2, this]
      · have : a = b := UInt8.le_antisymm (UInt8.not_lt.1 h2) (UInt8.not_lt.1 h1)
        subst this
        simp
def cmpI (x y : Int) : Int := if x < y then -1 else if x > y then 1 else 0
def cmpC (a b : Cel) : Int := if cmpI a.View b.View ≠ 0 then cmpI a.View b.View else if cmpM a.Key b.Key ≠ 0 then cmpM a.Key b.Key else cmpI a.Start b.Start
theorem cmpC_self (a : Cel) : cmpC a a = 0 := by
  unfold cmpC cmpI cmpM
  rw [cmpB_eq]; simp
end Go.Proofs.Ytoccbnhahaoeiaa.V
namespace Go.Proofs.Ytoccbnhahaoeiaa.V
open Go
set_option linter.unusedVariables false
set_option linter.unusedSimpArgs false
theorem cB_zero {x y : List UInt8} : Lib.compareBytes x y = 0 ↔ x = y := by
  rw [cmpB_eq]
  split
  · rename_i h; simp [h]
  · rename_i h; split <;> simp [h]
theorem u8_tri (a b : UInt8) : a < b ∨ a = b ∨ b < a := by
  by_cases h1 : a < b
  · exact .inl h1
  · by_cases h2 : b < a
    · exact .inr (.inr h2)
    · exact .inr (.inl (UInt8.le_antisymm (UInt8.not_lt.1 h2) (UInt8.not_lt.1 h1)))
theorem u8_asym {a b : UInt8} (h : a < b) : ¬ b < a := fun h2 => by
  rw [UInt8.lt_iff_toNat_lt] at h h2; omega
theorem u8_irr (a : UInt8) : ¬ a < a := fun h => by
  rw [UInt8.lt_iff_toNat_lt] at h; omega
theorem cB_anti : ∀ (x y : List UInt8), Lib.compareBytes x y = - Lib.compareBytes y x
  | [], [] => rfl
  | [], _ :: _ => rfl
  | _ :: _, [] => rfl
  | a :: x, b :: y => by
    have ih := cB_anti x y
    simp only [Lib.compareBytes]
    rcases u8_tri a b with h | h | h
    · simp [h, u8_asym h]
    · subst h; simp [u8_irr, ih]
    · simp [h, u8_asym h]
theorem cB_range (x y : List UInt8) : Lib.compareBytes x y = -1 ∨ Lib.compareBytes x y = 0 ∨ Lib.compareBytes x y = 1 := by
  rw [cmpB_eq]; split
  · simp
  · split <;> simp
theorem cB_trans : ∀ (x y z : List UInt8), Lib.compareBytes x y = -1 → Lib.compareBytes y z = -1 → Lib.compareBytes x z = -1
  | [], [], z, h, _ => by simp [Lib.compareBytes] at h
  | [], b :: y, [], _, h => by simp [Lib.compareBytes] at h
  | [], b :: y, c :: z, _, _ => rfl
  | a :: x, [], z, h, _ => by simp [Lib.compareBytes] at h
  | a :: x, b :: y, [], _, h => by simp [Lib.compareBytes] at h
  | a :: x, b :: y, c :: z, h1, h2 => by
    simp only [Lib.compareBytes] at h1 h2 ⊢
    rcases u8_tri a b with g | g | g
    · rcases u8_tri b c with g2 | g2 | g2
      · have : a < c := by rw [UInt8.lt_iff_toNat_lt] at *; omega
        simp [this]
      · subst g2; simp [g]
      · simp [g2, u8_asym g2] at h2
    · subst g
      simp only [u8_irr, if_false] at h1
      rcases u8_tri a c with g2 | g2 | g2
      · simp [g2]
      · subst g2
        simp only [u8_irr, if_false] at h2 ⊢
        exact cB_trans x y z h1 h2
      · simp [g2, u8_asym g2] at h2
    · simp [g, u8_asym g] at h1
theorem cI_anti (x y : Int) : cmpI x y = - cmpI y x := by
  unfold cmpI
  rcases Int.lt_trichotomy x y with h | h | h
  · rw [if_pos h, if_neg (by omega), if_pos (by omega)]
  · subst h; simp
  · rw [if_neg (by omega), if_pos (by omega), if_pos (by omega)]; rfl
theorem cI_zero {x y : Int} : cmpI x y = 0 ↔ x = y := by
  unfold cmpI
  split
  · constructor <;> intro <;> omega
  · split
    · constructor <;> intro <;> omega
    · constructor <;> intro <;> omega
theorem cI_range (x y : Int) : cmpI x y = -1 ∨ cmpI x y = 0 ∨ cmpI x y = 1 := by
  unfold cmpI; split
  · simp
  · split <;> simp
theorem cI_lt {x y : Int} : cmpI x y = -1 ↔ x < y := by
  unfold cmpI
  split
  · constructor <;> intro <;> omega
  · split
    · constructor <;> intro <;> omega
    · constructor <;> intro <;> omega
theorem cC_anti (a b : Cel) : cmpC a b = - cmpC b a := by
  unfold cmpC cmpM
  rw [cI_anti a.View b.View, cB_anti a.Key.data.toList b.Key.data.toList, cI_anti a.Start b.Start]
  split <;> split <;> simp_all <;> omega
theorem cC_range (a b : Cel) : cmpC a b = -1 ∨ cmpC a b = 0 ∨ cmpC a b = 1 := by
  unfold cmpC cmpM
  split
  · exact cI_range _ _
  · split
    · exact cB_range _ _
    · exact cI_range _ _
theorem key_ext {a b : ByteArray} (h : a.data.toList = b.data.toList) : a = b := by
  obtain ⟨x⟩ := a
  obtain ⟨y⟩ := b
  congr 1
  exact Array.toList_inj.1 h
theorem cC_zero {a b : Cel} : cmpC a b = 0 ↔ a = b := by
  constructor
  · intro h
    unfold cmpC cmpM at h
    split at h
    · rename_i g; exact absurd h g
    · rename_i g
      split at h
      · rename_i g2; exact absurd h g2
      · rename_i g2
        have h1 := cI_zero.1 (Classical.not_not.1 g)
        have h2 := key_ext (cB_zero.1 (Classical.not_not.1 g2))
        have h3 := cI_zero.1 h
        obtain ⟨v, k, s⟩ := a
        obtain ⟨v', k', s'⟩ := b
        simp only at h1 h2 h3
        rw [h1, h2, h3]
  · rintro rfl; exact cmpC_self a
theorem cC_lt {a b : Cel} : cmpC a b = -1 ↔ cmpI a.View b.View = -1 ∨ (a.View = b.View ∧ (Lib.compareBytes a.Key.data.toList b.Key.data.toList = -1 ∨ (a.Key.data.toList = b.Key.data.toList ∧ a.Start < b.Start))) := by
  unfold cmpC cmpM
  have r1 := cI_range a.View b.View
  have r2 := cB_range a.Key.data.toList b.Key.data.toList
  have z1 := cI_zero (x := a.View) (y := b.View)
  have z2 := cB_zero (x := a.Key.data.toList) (y := b.Key.data.toList)
  have l3 := cI_lt (x := a.Start) (y := b.Start)
  by_cases h1 : cmpI a.View b.View = 0
  · rw [if_neg (by simp [h1])]
    have e1 := z1.1 h1
    by_cases h2 : Lib.compareBytes a.Key.data.toList b.Key.data.toList = 0
    · rw [if_neg (by simp [h2])]
      have e2 := z2.1 h2
      rw [l3]
      constructor
      · intro h; exact .inr ⟨e1, .inr ⟨e2, h⟩⟩
      · intro h
        rcases h with h | ⟨_, h | h⟩
        · omega
        · omega
        · exact h.2
    · rw [if_pos h2]
      constructor
      · intro h; exact .inr ⟨e1, .inl h⟩
      · intro h
        rcases h with h | ⟨_, h | h⟩
        · omega
        · exact h
        · exact absurd (z2.2 h.1) h2
  · rw [if_pos h1]
    constructor
    · intro h; exact .inl h
    · intro h
      rcases h with h | h
      · exact h
      · exact absurd (z1.2 h.1) h1
theorem cC_trans {a b c : Cel} (h1 : cmpC a b = -1) (h2 : cmpC b c = -1) : cmpC a c = -1 := by
  rw [cC_lt] at *
  rcases h1 with h1 | ⟨e1, h1⟩
  · rw [cI_lt] at h1
    rcases h2 with h2 | ⟨e2, _⟩
    · rw [cI_lt] at h2; exact .inl (cI_lt.2 (by omega))
    · exact .inl (cI_lt.2 (by omega))
  · rcases h2 with h2 | ⟨e2, h2⟩
    · rw [cI_lt] at h2; exact .inl (cI_lt.2 (by omega))
    · refine .inr ⟨by omega, ?_⟩
      rcases h1 with h1 | ⟨k1, h1⟩
      · rcases h2 with h2 | ⟨k2, h2⟩
        · exact .inl (cB_trans _ _ _ h1 h2)
        · rw [← k2]; exact .inl h1
      · rcases h2 with h2 | ⟨k2, h2⟩
        · rw [k1]; exact .inl h2
        · exact .inr ⟨k1.trans k2, by omega⟩
theorem esc_cmp : ∀ (k1 k2 t1 t2 : List UInt8), Lib.compareBytes (escL k1 ++ 0 :: 1 :: t1) (escL k2 ++ 0 :: 1 :: t2) = if Lib.compareBytes k1 k2 ≠ 0 then Lib.compareBytes k1 k2 else Lib.compareBytes t1 t2
  | [], [], t1, t2 => by simp [escL, Lib.compareBytes, u8_irr]
  | [], b :: k2, t1, t2 => by
    simp only [escL]
    by_cases hb : b = 0
    · subst hb; simp [Lib.compareBytes, u8_irr, show (1 : UInt8) < 255 from by decide]
    · have : (0 : UInt8) < b := by
        rcases u8_tri 0 b with h | h | h
        · exact h
        · exact absurd h.symm hb
        · rw [UInt8.lt_iff_toNat_lt] at h; simp at h
      simp [hb, Lib.compareBytes, this]
  | a :: k1, [], t1, t2 => by
    simp only [escL]
    by_cases hb : a = 0
    · subst hb; simp [Lib.compareBytes, u8_irr, show (1 : UInt8) < 255 from by decide, show ¬ (255 : UInt8) < 1 from by decide]
    · have : (0 : UInt8) < a := by
        rcases u8_tri 0 a with h | h | h
        · exact h
        · exact absurd h.symm hb
        · rw [UInt8.lt_iff_toNat_lt] at h; simp at h
      simp [hb, Lib.compareBytes, this, u8_asym this]
  | a :: k1, b :: k2, t1, t2 => by
    have ih := esc_cmp k1 k2 t1 t2
    have pos : ∀ x : UInt8, x ≠ 0 → (0 : UInt8) < x := fun x hx => by
      rcases u8_tri 0 x with h | h | h
      · exact h
      · exact absurd h.symm hx
      · rw [UInt8.lt_iff_toNat_lt] at h; simp at h
    rcases u8_tri a b with h | h | h
    · have hb0 : b ≠ 0 := fun e => by subst e; rw [UInt8.lt_iff_toNat_lt] at h; simp at h
      by_cases ha : a = 0
      · subst ha; simp [escL, hb0, Lib.compareBytes, h]
      · simp [escL, hb0, ha, Lib.compareBytes, h]
    · subst h
      by_cases ha : a = 0
      · subst ha; simp [escL, Lib.compareBytes, u8_irr, ih]
      · simp [escL, ha, Lib.compareBytes, u8_irr, ih]
    · have ha0 : a ≠ 0 := fun e => by subst e; rw [UInt8.lt_iff_toNat_lt] at h; simp at h
      by_cases hb : b = 0
      · subst hb; simp [escL, ha0, Lib.compareBytes, h, u8_asym h]
      · simp [escL, ha0, hb, Lib.compareBytes, h, u8_asym h]
def cmpN (u v : Nat) : Int := if u < v then -1 else if v < u then 1 else 0
theorem be_cmp : ∀ (j u v : Nat), Lib.compareBytes (beT u j) (beT v j) = cmpN (u % 2 ^ (8 * j)) (v % 2 ^ (8 * j))
  | 0, u, v => by simp [beT, Lib.compareBytes, cmpN, Nat.mod_one]
  | j + 1, u, v => by
    have ih := be_cmp j u v
    simp only [beT, Lib.compareBytes, ih]
    have e : 2 ^ (8 * (j + 1)) = 2 ^ (8 * j) * 256 := by rw [show 8 * (j + 1) = 8 * j + 8 from by omega, Nat.pow_add]
    have hu : u % 2 ^ (8 * (j + 1)) = u % 2 ^ (8 * j) + 2 ^ (8 * j) * (u / 2 ^ (8 * j) % 256) := by rw [e, Nat.mod_mul]
    have hv : v % 2 ^ (8 * (j + 1)) = v % 2 ^ (8 * j) + 2 ^ (8 * j) * (v / 2 ^ (8 * j) % 256) := by rw [e, Nat.mod_mul]
    rw [hu, hv]
    have pu := Nat.mod_lt u (Nat.two_pow_pos (8 * j))
    have pv := Nat.mod_lt v (Nat.two_pow_pos (8 * j))
    simp only [UInt8.lt_iff_toNat_lt, UInt8.toNat_ofNat']
    have e8 : (2 : Nat) ^ 8 = 256 := by decide
    rw [e8]
    generalize u / 2 ^ (8 * j) % 256 = x at *
    generalize v / 2 ^ (8 * j) % 256 = y at *
    generalize u % 2 ^ (8 * j) = p at *
    generalize v % 2 ^ (8 * j) = q at *
    generalize 2 ^ (8 * j) = B at *
    unfold cmpN
    rcases Nat.lt_trichotomy x y with h | h | h
    · have : B * (x + 1) ≤ B * y := Nat.mul_le_mul_left _ h
      rw [Nat.mul_add, Nat.mul_one] at this
      rw [if_pos h, if_pos (by omega)]
    · subst h
      rw [if_neg (by omega), if_neg (by omega)]
      by_cases h1 : p < q
      · rw [if_pos h1, if_pos (by omega)]
      · rw [if_neg h1, if_neg (show ¬ (p + B * x < q + B * x) by omega)]
        by_cases h2 : q < p
        · rw [if_pos h2, if_pos (by omega)]
        · rw [if_neg h2, if_neg (by omega)]
    · have : B * (y + 1) ≤ B * x := Nat.mul_le_mul_left _ h
      rw [Nat.mul_add, Nat.mul_one] at this
      rw [if_neg (by omega), if_pos h, if_neg (by omega), if_pos (by omega)]
abbrev I64n (n : Int) : Prop := -9223372036854775808 ≤ n ∧ n < 9223372036854775808
theorem upU_val {n : Int} (h : I64n n) : (upU n : Int) = n + 9223372036854775808 := by
  rw [upU_eq, wrap_u64, wrap_u64]; omega
theorem may_view {c : Cel} (h : mayC c = 0) : 0 ≤ c.View ∧ c.View ≤ 4 ∧ c.Key.size ≤ 32 := by
  unfold mayC at h
  split at h
  · omega
  · split at h
    · omega
    · omega
theorem key_cmp {a b : Cel} (ha : mayC a = 0) (hb : mayC b = 0) (ia : I64n a.Start) (ib : I64n b.Start) : Lib.compareBytes (keyL a) (keyL b) = cmpC a b := by
  obtain ⟨a1, a2, a3⟩ := may_view ha
  obtain ⟨b1, b2, b3⟩ := may_view hb
  unfold keyL cmpC cmpM
  simp only [Lib.compareBytes, List.append_assoc, List.cons_append, List.nil_append]
  rw [esc_cmp, be_cmp]
  have ua := upU_val ia
  have ub := upU_val ib
  have e8 : (2 : Nat) ^ (8 * 8) = 18446744073709551616 := by decide
  rw [e8, Nat.mod_eq_of_lt (by omega), Nat.mod_eq_of_lt (by omega)]
  have hN : cmpN (upU a.Start) (upU b.Start) = cmpI a.Start b.Start := by
    unfold cmpN cmpI
    by_cases h1 : a.Start < b.Start
    · rw [if_pos h1, if_pos (by omega)]
    · rw [if_neg h1, if_neg (by omega)]
      by_cases h2 : a.Start > b.Start
      · rw [if_pos h2, if_pos (by omega)]
      · rw [if_neg h2, if_neg (by omega)]
  rw [hN]
  have va : (UInt8.ofNat a.View.toNat).toNat = a.View.toNat := by rw [UInt8.toNat_ofNat']; omega
  have vb : (UInt8.ofNat b.View.toNat).toNat = b.View.toNat := by rw [UInt8.toNat_ofNat']; omega
  simp only [UInt8.lt_iff_toNat_lt, va, vb]
  unfold cmpI
  rcases Int.lt_trichotomy a.View b.View with h | h | h
  · rw [if_pos (by omega), if_pos (by rw [if_pos h]; omega), if_pos h]
  · rw [h, if_neg (by omega), if_neg (by omega)]; simp
  · rw [if_neg (by omega), if_pos (by omega), if_pos (by rw [if_neg (by omega), if_pos (by omega)]; omega), if_neg (by omega), if_pos (by omega)]
theorem unesc_esc : ∀ (k t : List UInt8), unesc (escL k ++ 0 :: 1 :: t) = .ok (k, t)
  | [], t => by
    show unesc (0 :: 1 :: t) = _
    rw [unesc.eq_def]; simp
  | b :: k, t => by
    have ih := unesc_esc k t
    by_cases hb : b = 0
    · subst hb
      simp only [escL, if_true, List.cons_append]
      rw [unesc.eq_def]
      simp [ih]
    · simp only [escL, if_neg hb, List.cons_append]
      rw [unesc_ne hb, ih]
theorem beV_beT : ∀ (j u w : Nat), beV w (beT u j) = w * 2 ^ (8 * j) + u % 2 ^ (8 * j)
  | 0, u, w => by simp [beT, beV, Nat.mod_one]
  | j + 1, u, w => by
    rw [beT, beV, beV_beT j, UInt8.toNat_ofNat']
    have e : 2 ^ (8 * (j + 1)) = 2 ^ (8 * j) * 256 := by rw [show 8 * (j + 1) = 8 * j + 8 from by omega, Nat.pow_add]
    have hu : u % 2 ^ (8 * (j + 1)) = u % 2 ^ (8 * j) + 2 ^ (8 * j) * (u / 2 ^ (8 * j) % 256) := by rw [e, Nat.mod_mul]
    have e8 : (2 : Nat) ^ 8 = 256 := by decide
    rw [hu, e, e8, Nat.add_mul, Nat.mul_comm (u / 2 ^ (8 * j) % 256), Nat.mul_assoc w 256, Nat.mul_comm 256 (2 ^ (8 * j))]
    omega
theorem cell_back {c : Cel} (h : mayC c = 0) (i : I64n c.Start) : cellM (keyL c) = (c, 0) := by
  obtain ⟨a1, a2, a3⟩ := may_view h
  have u := upU_val i
  unfold keyL
  rw [cellM_cons]
  simp only [List.append_assoc, List.cons_append, List.nil_append]
  rw [unesc_esc]
  simp only [finC, beT_len]
  rw [if_neg (by omega), if_neg (by omega), beV_beT]
  have e8 : (2 : Nat) ^ (8 * 8) = 18446744073709551616 := by decide
  have hs : startOf (0 * 2 ^ (8 * 8) + upU c.Start % 2 ^ (8 * 8)) = c.Start := by
    rw [e8, Nat.mod_eq_of_lt (by omega)]
    unfold startOf
    rw [wrap_u64, Nat.zero_mul, Nat.zero_add, u]
    unfold IntKind.wrap
    simp [IntKind.bits, IntKind.signed]
    omega
  rw [hs]
  have hv : (((UInt8.ofNat c.View.toNat).toNat : Nat) : Int) = c.View := by rw [UInt8.toNat_ofNat']; omega
  rw [hv]
  have hc : (⟨c.View, ⟨c.Key.data.toList.toArray⟩, c.Start⟩ : Cel) = c := by
    obtain ⟨v, ⟨k⟩, s⟩ := c
    simp
  rw [hc, if_neg (by simpa using h)]
section
variable {h0 h : H} {n m q : Nat} {a b c : Cel} {Q : Bool → H → Prop}
end
end Go.Proofs.Ytoccbnhahaoeiaa.V
namespace Go.Proofs.Ytoccbnhahaoeiaa.V
open Go
set_option linter.unusedVariables false
set_option linter.unusedSimpArgs false
theorem Blk.cells {h : H} {n : Nat} {cs : List Value} {e : TypeId} (b : Blk h n cs.toArray e) : Cells h ⟨n, 0, none⟩ cs := fun i v hv => by
  rw [add_lit, Nat.zero_add]
  exact b.cell (by simpa using hv)
section
variable {P : Program} {h : H}
end
end Go.Proofs.Ytoccbnhahaoeiaa.V
namespace Go.Proofs.Ytoccbnhahaoeiaa.V.C
open Go Go.Proofs.Ytoccbnhahaoeiaa.V
set_option linter.unusedVariables false
set_option linter.unusedSimpArgs false
set_option maxRecDepth 20000
abbrev Ver := S_chain_version_api_Agg
theorem ver_len (x : Ver) : x.cells.length = 6 := rfl
/-- A chain: its own block p; the row that it owns, B; its versions L. -/
def Ch (h : H) (p : Nat) (L : List Ver) (B : Option Nat) : Prop :=
  ∃ s : Sl, Blk h p #[s.enc] tn_chain_Chain_api_Agg ∧ Owns h s tn_chain_version_api_Agg 6 (L.flatMap (·.cells)) ∧ s.blk = B ∧ B ≠ some p
theorem Ch.len {h : H} {s : Sl} {L : List Ver} (o : Owns h s tn_chain_version_api_Agg 6 (L.flatMap (·.cells))) : s.len = L.length := by
  have := o.1
  rw [flat_len _ 6 ver_len] at this
  omega
theorem Ch.at {h : H} {s : Sl} {L : List Ver} (o : Owns h s tn_chain_version_api_Agg 6 (L.flatMap (·.cells))) {i : Nat} {x : Ver} (hx : L[i]? = some x) :
    ∃ b, s.ptr = some ⟨b, 0, none⟩ ∧ cellH h ⟨b, i * 6, none⟩ = some (.int .i64 x.epoch) ∧ Cells h ⟨b, i * 6 + 1, none⟩ x.value.cells ∧ cellH h ⟨b, i * 6 + 5, none⟩ = some (.bool x.dead) ∧ Cells h ⟨b, i * 6, none⟩ x.cells := by
  obtain ⟨b, h1, h2⟩ := own_at (f := fun x : Ver => x.cells) ver_len (by omega) o hx
  have e : ∀ j v, x.cells[j]? = some v → cellH h ⟨b, i * 6 + j, none⟩ = some v := fun j v hv => by
    have := h2 j v hv
    rwa [add_lit] at this
  refine ⟨b, h1, e 0 _ rfl, fun j v hv => ?_, e 5 _ rfl, h2⟩
  rw [add_lit]
  match j, hv with
  | 0, hv => exact e 1 v hv
  | 1, hv => exact e 2 v hv
  | 2, hv => exact e 3 v hv
  | 3, hv => exact e 4 v hv
  | j + 4, hv => simp [S_api_Agg.cells] at hv
theorem Ch.only {S : Nat → Prop} {h h' : H} {p : Nat} {L : List Ver} {B : Option Nat} (c : Ch h p L B) (o : Only S h h') (hp : ¬ S p) (hB : ∀ b, B = some b → ¬ S b) : Ch h' p L B := by
  obtain ⟨s, h1, h2, h3, h4⟩ := c
  exact ⟨s, o.block h1 hp, h2.only o (by rw [h3]; exact hB), h3, h4⟩
theorem Ch.ext {h h' : H} {p : Nat} {L : List Ver} {B : Option Nat} (c : Ch h p L B) (o : Ext h h') : Ch h' p L B := c.only o (fun f => f) fun _ _ f => f
theorem Ch.lt {h : H} {p : Nat} {L : List Ver} {B : Option Nat} (c : Ch h p L B) : p < h.size := by obtain ⟨s, h1, _⟩ := c; exact block_lt h1
theorem Ch.ltB {h : H} {p : Nat} {L : List Ver} {B : Option Nat} (c : Ch h p L B) : ∀ b, B = some b → b < h.size := fun b hb => by
  obtain ⟨s, h1, h2, h3, _⟩ := c; exact h2.blk_lt (by rw [h3]; exact hb)
def lastE (L : List Ver) : Int := match L.getLast? with | some x => x.epoch | none => 0
def mayM (L : List Ver) (e : Int) : Int := if e < 1 ∨ e > 1099511627776 then 1 else if L ≠ [] ∧ e < lastE L then 32 else 0
def layM (L : List Ver) (x : Ver) : List Ver := if L ≠ [] ∧ lastE L = x.epoch then L.dropLast ++ [x] else L ++ [x]
def layN (L : List Ver) (x : Ver) : Int := if L ≠ [] ∧ lastE L = x.epoch then 0 else 1
theorem last_get {L : List Ver} (h : L ≠ []) : L[L.length - 1]? = some (L.getLast h) := by
  rw [← List.getLast?_eq_getElem?, List.getLast?_eq_some_getLast h]
theorem New_spec {h : H} {Q : Option Addr → H → Prop} (k : ∀ p h', p = h.size → Ch h' p [] none → Ext h h' → Q (some ⟨p, 0, none⟩) h') : F.chain_New_api_Agg h Q := by
  unfold F.chain_New_api_Agg
  refine new_of fun n h' e1 e2 e3 e4 => k n h' e1 ⟨⟨none, 0, 0⟩, e2, Owns.nil _ _ _, rfl, by simp⟩ e3
theorem may_spec {h : H} {p : Nat} {L : List Ver} {B : Option Nat} {e : Int} {Q : Int → H → Prop} (c : Ch h p L B) (hL : L.length < 4294967296) (k : Q (mayM L e) h) : F.chain_Chain_api_Agg_may (some ⟨p, 0, none⟩) e h Q := by
  obtain ⟨s, hb, ho, hB, hne⟩ := c
  have hl := Ch.len ho
  have hc0 : cellH h ⟨p, 0, none⟩ = some s.enc := hb.cell rfl
  unfold mayM at k
  simp only [F.chain_Chain_api_Agg_may, F.chain_Chain_api_Agg_may.j1, F.chain_Chain_api_Agg_may.j2, nn_some, add_lit, Nat.add_zero, ldL_iff hc0, decide_eq_true_eq, decide_eq_false_iff_not, hl]
  refine ⟨fun g => ⟨fun _ => by rw [if_pos (.inl g)] at k; exact k, fun h => by cases h⟩, fun g => ⟨fun g2 => by rw [if_pos (.inr g2)] at k; exact k, fun g2 => ?_⟩⟩
  rw [if_neg (by omega)] at k
  by_cases hn : L = []
  · subst hn
    simp at k ⊢
    exact k
  · have hpos : 0 < L.length := List.length_pos_iff.2 hn
    obtain ⟨b, h1, h2, _⟩ := Ch.at ho (last_get hn)
    refine ⟨fun _ => ?_, fun h => by omega⟩
    refine idxA_of (i := L.length - 1) h1 (by omega) (by rw [w64 (by omega) (by omega)]; omega) ?_
    simp only [add_lit, Nat.add_zero]
    rw [ldI_iff h2]
    have hle : lastE L = (L.getLast hn).epoch := by unfold lastE; rw [List.getLast?_eq_some_getLast hn]
    rw [← hle]
    by_cases hlt : e < lastE L
    · rw [if_pos ⟨hn, hlt⟩] at k; exact ⟨fun _ => k, fun h => absurd hlt h⟩
    · rw [if_neg (fun h => hlt h.2)] at k; exact ⟨fun h => absurd h hlt, fun _ => k⟩
end Go.Proofs.Ytoccbnhahaoeiaa.V.C
namespace Go.Proofs.Ytoccbnhahaoeiaa.V.C
open Go Go.Proofs.Ytoccbnhahaoeiaa.V
set_option linter.unusedVariables false
set_option linter.unusedSimpArgs false
set_option maxRecDepth 20000
/-- What a method may turn of a chain. -/
abbrev FP (p : Nat) (B : Option Nat) : Nat → Prop := fun b => b = p ∨ B = some b
def Kin (n : Nat) (B B' : Option Nat) : Prop := B' = B ∨ B' = none ∨ ∃ b, B' = some b ∧ n ≤ b
theorem lay_spec {h : H} {p : Nat} {L : List Ver} {B : Option Nat} {x : Ver} {Q : Int → H → Prop} (c : Ch h p L B) (hL : L.length < 4294967296)
    (k : ∀ h' B', Ch h' p (layM L x) B' → Only (FP p B) h h' → Kin h.size B B' → Q (layN L x) h') : F.chain_Chain_api_Agg_lay (some ⟨p, 0, none⟩) x h Q := by
  have hp := c.lt
  unfold F.chain_Chain_api_Agg_lay
  refine new_of fun n h1 e1 e2 e3 e4 => ?_
  have c1 := c.ext e3
  obtain ⟨s, hb, ho, hB, hne⟩ := c1
  have hl := Ch.len ho
  have hc0 : cellH h1 ⟨p, 0, none⟩ = some s.enc := hb.cell rfl
  have hx0 : cellH h1 ⟨n, 0, none⟩ = some (.int .i64 x.epoch) := e2.cell rfl
  have hxc : Cells h1 ⟨n, 0, none⟩ x.cells := fun j v hv => by rw [add_lit, Nat.zero_add]; exact e2.cell (by simpa using hv)
  -- the new version is appended
  have happ : ¬ (L ≠ [] ∧ lastE L = x.epoch) → F.chain_Chain_api_Agg_lay.j1 Q (some ⟨p, 0, none⟩) ⟨n, 0, none⟩ h1 := fun hno => by
    unfold F.chain_Chain_api_Agg_lay.j1
    simp only [nn_some, add_lit, Nat.add_zero]
    rw [ldL_iff hc0]
    refine ⟨x, hxc, ?_⟩
    refine newL_of fun n2 h2 f1 f2 f3 f4 => ?_
    refine ⟨f3.cell hc0 (fun f => f), ?_⟩
    refine app_of (ys := x.cells) el_Slchain_version_api_Agg (ho.only f3 (fun _ _ f => f)) (blk_reads (by simpa using f2) rfl) (ones_S_chain_version_api_Agg x) (by simp only; omega) fun r h3 r1 r2 r3 r4 => ?_
    have hb3 : Blk h3 p #[s.enc] tn_chain_Chain_api_Agg := r3.block (f3.block hb (fun f => f)) (by rw [hB]; exact hne)
    refine stH_of hb3 (by simp) fun h4 g1 g2 g3 => ?_
    have hr1 : r.blk ≠ some p := by
      rcases r4 with r4 | ⟨b, r4, r5⟩
      · rw [r4, hB]; exact hne
      · rw [r4]; intro e; cases e; omega
    have hm : layM L x = L ++ [x] := if_neg hno
    have hn : layN L x = 1 := if_neg hno
    rw [← hn]
    refine k h4 r.blk ⟨r, g1, ?_, rfl, hr1⟩ ?_ ?_
    · rw [hm, List.flatMap_append]
      exact (by simpa using r1 : Owns h3 r tn_chain_version_api_Agg 6 (L.flatMap (·.cells) ++ x.cells)).only g2 (fun b hb e => hr1 (by rw [hb, e])) |> (by simpa using ·)
    · refine (((e3.only (S := FP p B)).ext f3).trans r3 fun m _ e => .inr (by rw [← hB]; exact e)).trans g2 fun m _ e => .inl e
    · rcases r4 with r4 | ⟨b, r4, r5⟩
      · exact .inl (by rw [r4, hB])
      · exact .inr (.inr ⟨b, r4, by omega⟩)
  -- the newest version is written anew
  have hset : L ≠ [] ∧ lastE L = x.epoch → F.chain_Chain_api_Agg_lay.j2 Q (some ⟨p, 0, none⟩) ⟨n, 0, none⟩ (L.length : Int) true h1 := fun hyes => by
    have hpos : 0 < L.length := List.length_pos_iff.2 hyes.1
    obtain ⟨b, a1, a2, a3, a4, a5⟩ := Ch.at ho (last_get hyes.1)
    refine ⟨fun _ => ?_, fun h => by cases h⟩
    simp only [nn_some, add_lit, Nat.add_zero]
    rw [ldL_iff hc0]
    refine ⟨x, hxc, ?_⟩
    refine idxA_of (i := L.length - 1) a1 (by omega) (by rw [w64 (by omega) (by omega)]; omega) ?_
    have hfl := flat_len (·.cells) 6 ver_len L
    refine own_set ho a1 (by rw [hfl]; simp [S_chain_version_api_Agg.cells, S_api_Agg.cells]; omega) fun h4 g1 g2 g3 => ?_
    have hm : layM L x = L.dropLast ++ [x] := if_pos hyes
    have hn : layN L x = 0 := if_pos hyes
    rw [← hn]
    refine k h4 B ⟨s, g2.block hb (by rw [hB]; exact hne), ?_, hB, hne⟩ ((e3.only (S := FP p B)).trans g2 fun m _ e => .inr (by rw [← hB]; exact e)) (.inl rfl)
    rw [hm, List.flatMap_append]
    have e1 : (L.flatMap (·.cells)).take ((L.length - 1) * 6) = L.dropLast.flatMap (·.cells) := by
      have hd : L = L.dropLast ++ [L.getLast hyes.1] := (List.dropLast_concat_getLast hyes.1).symm
      have hdl := flat_len (·.cells) 6 ver_len L.dropLast
      rw [List.length_dropLast] at hdl
      conv => lhs; rw [hd, List.flatMap_append]
      rw [show ((L.dropLast ++ [L.getLast hyes.1]).length - 1) = L.length - 1 from by simp]
      rw [← hdl, List.take_left]
    have e2 : (L.flatMap (·.cells)).drop ((L.length - 1) * 6 + x.cells.length) = [] := by
      apply List.drop_eq_nil_of_le
      rw [hfl, ver_len]; omega
    rw [e1, e2] at g1
    simpa using g1
  simp only [nn_some, add_lit, Nat.add_zero, ldL_iff hc0, hl]
  by_cases hn : L = []
  · refine ⟨fun g => ?_, fun g => ⟨(fun h => by cases h), fun _ => happ fun h => h.1 hn⟩⟩
    rw [decide_eq_true_iff] at g; subst hn; simp at g
  · have hpos : 0 < L.length := List.length_pos_iff.2 hn
    refine ⟨fun g => ?_, fun g => by rw [decide_eq_false_iff_not] at g; omega⟩
    obtain ⟨b, a1, a2, a3, a4, a5⟩ := Ch.at ho (last_get hn)
    refine idxA_of (i := L.length - 1) a1 (by omega) (by rw [w64 (by omega) (by omega)]; omega) ?_
    simp only [add_lit, Nat.add_zero]
    rw [ldI_iff a2, ldI_iff hx0]
    have hle : lastE L = (L.getLast hn).epoch := by unfold lastE; rw [List.getLast?_eq_some_getLast hn]
    rw [← hle]
    by_cases he : lastE L = x.epoch
    · rw [show (lastE L == x.epoch) = true from by simp [he]]
      exact hset ⟨hn, he⟩
    · rw [show (lastE L == x.epoch) = false from by simp [he]]
      exact ⟨fun h => (by cases h), fun _ => happ fun h => he h.2⟩
end Go.Proofs.Ytoccbnhahaoeiaa.V.C
namespace Go.Proofs.Ytoccbnhahaoeiaa.V.C
open Go Go.Proofs.Ytoccbnhahaoeiaa.V
set_option linter.unusedVariables false
set_option linter.unusedSimpArgs false
set_option maxRecDepth 20000
abbrev zA : S_api_Agg := ⟨0, 0, 0, 0⟩
theorem st_agg {h : H} {n : Nat} {c d : S_api_Agg} {e : TypeId} {K : H → Prop} (b : Blk h n c.cells.toArray e) (k : ∀ h', Blk h' n d.cells.toArray e → Only (· = n) h h' → h'.size = h.size → K h') : stH h ⟨n, 0, none⟩ d.cells K := by
  refine stH_of b (Nat.le_refl 4) fun h' q1 q2 q3 => k h' ?_ q2 q3
  rw [writeA_all (by rfl)] at q1
  exact q1
theorem Kin.ge {n n' : Nat} {B B' : Option Nat} (k : Kin n' B B') (h : n ≤ n') : Kin n B B' := by
  rcases k with k | k | ⟨b, k, k2⟩
  · exact .inl k
  · exact .inr (.inl k)
  · exact .inr (.inr ⟨b, k, by omega⟩)
theorem Put_spec {h : H} {p : Nat} {L : List Ver} {B : Option Nat} {e : Int} {v : S_api_Agg} {Q : Int → Int → H → Prop} (c : Ch h p L B) (hL : L.length < 4294967296)
    (k0 : mayM L e ≠ 0 → ∀ h', Ext h h' → Q 0 (mayM L e) h')
    (k1 : mayM L e = 0 → ∀ h' B', Ch h' p (layM L ⟨e, v, false⟩) B' → Only (FP p B) h h' → Kin h.size B B' → Q (layN L ⟨e, v, false⟩) 0 h') : F.chain_Chain_api_Agg_Put (some ⟨p, 0, none⟩) e v h Q := by
  unfold F.chain_Chain_api_Agg_Put
  refine new_of fun n h1 hn b1 e1 s1 => ?_
  refine may_spec (c.ext e1) hL ⟨fun g => k0 (by simpa using g) h1 e1, fun g => ⟨v, Blk.cells b1, ?_⟩⟩
  exact lay_spec (c.ext e1) hL fun h' B' q1 q2 q3 => k1 (by simpa using g) h' B' q1 ((e1.only (S := FP p B)).trans q2 fun m _ e => e) (q3.ge e1.size)
theorem Len_spec {h : H} {p : Nat} {L : List Ver} {B : Option Nat} {Q : Int → H → Prop} (c : Ch h p L B) (k : Q (L.length : Int) h) : F.chain_Chain_api_Agg_Len (some ⟨p, 0, none⟩) h Q := by
  obtain ⟨s, hb, ho, hB, hne⟩ := c
  have hl := Ch.len ho
  have hc0 : cellH h ⟨p, 0, none⟩ = some s.enc := hb.cell rfl
  simp only [F.chain_Chain_api_Agg_Len, nn_some, add_lit, Nat.add_zero, ldL_iff hc0, hl]
  exact k
def newestM (L : List Ver) : S_api_Agg × Int × Bool := match L.getLast? with | some x => (x.value, x.epoch, !x.dead) | none => (zA, 0, false)
theorem Newest_spec {h : H} {p : Nat} {L : List Ver} {B : Option Nat} {Q : S_api_Agg → Int → Bool → H → Prop} (c : Ch h p L B) (hL : L.length < 4294967296)
    (k : ∀ h', Ext h h' → Q (newestM L).1 (newestM L).2.1 (newestM L).2.2 h') : F.chain_Chain_api_Agg_Newest (some ⟨p, 0, none⟩) h Q := by
  unfold F.chain_Chain_api_Agg_Newest
  refine new_of fun n0 h0 hn0 b0 e0 s0 => ?_
  obtain ⟨s, hb, ho, hB, hne⟩ := c.ext e0
  have hl := Ch.len ho
  have hc0 : cellH h0 ⟨p, 0, none⟩ = some s.enc := hb.cell rfl
  simp only [nn_some, add_lit, Nat.add_zero, ldL_iff hc0, hl]
  have b0' : Blk h0 n0 zA.cells.toArray tn_api_Agg := b0
  by_cases hn : L = []
  · subst hn
    refine ⟨fun _ => ⟨zA, b0'.cells, st_agg b0' fun h1 b1 o1 s1 => ⟨zA, b1.cells, ?_⟩⟩, fun g => by simp at g⟩
    exact k h1 (e0.step o1 fun m hm hb => by omega)
  · have hpos : 0 < L.length := List.length_pos_iff.2 hn
    refine ⟨fun g => by rw [beq_iff_eq] at g; omega, fun _ => ?_⟩
    obtain ⟨b, a1, a2, a3, a4, a5⟩ := Ch.at ho (last_get hn)
    refine idxA_of (i := L.length - 1) a1 (by omega) (by rw [w64 (by omega) (by omega)]; omega) ?_
    refine ⟨_, a5, ?_⟩
    refine new_of fun n h1 hn1 e2 e3 e4 => ?_
    refine ⟨a5.ext e3, e3.cell hc0 (fun f => f), e3.cell hc0 (fun f => f), ?_⟩
    refine stH_of e2 (Nat.le_refl 6) fun h2 f1 f2 f3 => ?_
    rw [writeA_all (by rfl)] at f1
    have f1c := Blk.cells f1
    simp only [add_lit, Nat.zero_add, Nat.add_zero]
    have v4 : Cells h2 ⟨n, 1, none⟩ (L.getLast hn).value.cells := fun j v hv => by
      rw [add_lit]
      have q : ∀ i, i < 4 → ((L.getLast hn).cells)[1 + i]? = ((L.getLast hn).value.cells)[i]? := fun i hi => by
        match i, hi with
        | 0, _ => rfl
        | 1, _ => rfl
        | 2, _ => rfl
        | 3, _ => rfl
      have hj : j < 4 := (List.getElem?_eq_some_iff.1 hv).1
      have := f1c (1 + j) v (by rw [q j hj]; exact hv)
      rwa [add_lit, Nat.zero_add] at this
    have c0 : cellH h2 ⟨n, 0, none⟩ = some (.int .i64 (L.getLast hn).epoch) := f1c 0 _ rfl
    have c5 : cellH h2 ⟨n, 5, none⟩ = some (.bool (L.getLast hn).dead) := f1c 5 _ rfl
    refine ⟨_, v4, ldI_of c0 (ldB_of c5 ?_)⟩
    have n0n : n0 ≠ n := by omega
    have b2 : Blk h2 n0 zA.cells.toArray tn_api_Agg := f2.block (e3.block b0' fun f => f) n0n
    refine st_agg b2 fun h3 b3 o3 s3 => ?_
    have z : Only (· = n0) h2 h3 := o3
    refine ⟨z.cell c5 (fun h => n0n h.symm), z.cell c0 (fun h => n0n h.symm), _, b3.cells, ?_⟩
    have hle : newestM L = ((L.getLast hn).value, (L.getLast hn).epoch, !(L.getLast hn).dead) := by unfold newestM; rw [List.getLast?_eq_some_getLast hn]
    have := k h3 (((e0.trans e3).step f2 fun m hm hb => by omega).step o3 fun m hm hb => by omega)
    rw [hle] at this
    exact this
abbrev Rise (L : List Ver) : Prop := L.Pairwise fun x y => x.epoch < y.epoch
def cntM (L : List Ver) (e : Int) : Nat := L.countP fun x => decide (x.epoch ≤ e)
theorem Rise.lt {L : List Ver} (r : Rise L) {i j : Nat} {x y : Ver} (hij : i < j) (hx : L[i]? = some x) (hy : L[j]? = some y) : x.epoch < y.epoch := by
  obtain ⟨hi, rfl⟩ := List.getElem?_eq_some_iff.1 hx
  obtain ⟨hj, rfl⟩ := List.getElem?_eq_some_iff.1 hy
  exact List.pairwise_iff_getElem.1 r i j hi hj hij
theorem cnt_eq {α : Type} (q : α → Bool) : ∀ (L : List α) (i : Nat), i ≤ L.length → (∀ t x, t < i → L[t]? = some x → q x = true) → (∀ t x, i ≤ t → L[t]? = some x → q x = false) → L.countP q = i
  | [], i, hi, _, _ => by simp at hi; simp [hi]
  | y :: r, 0, hi, h1, h2 => by
    rw [List.countP_cons, h2 0 y (by omega) rfl, cnt_eq q r 0 (by omega) (fun t x ht => by omega) (fun t x ht hx => h2 (t + 1) x (by omega) (by simpa using hx))]
    rfl
  | y :: r, i + 1, hi, h1, h2 => by
    simp at hi
    rw [List.countP_cons, h1 0 y (by omega) rfl, cnt_eq q r i hi (fun t x ht hx => h1 (t + 1) x (by omega) (by simpa using hx)) (fun t x ht hx => h2 (t + 1) x (by omega) (by simpa using hx))]
    rfl
theorem mid_eq {i j : Nat} (h : i + j < 4294967296) : IntKind.wrap .i64 (Int.fdiv (IntKind.wrap .u64 (IntKind.wrap .i64 ((i : Int) + j))) (2 ^ (min (1 : Int).toNat (IntKind.bits .u64)) : Int)) = ((i + j) / 2 : Nat) := by
  rw [w64 (n := (i : Int) + j) (by omega) (by omega)]
  have e1 : IntKind.wrap .u64 ((i : Int) + j) = ((i + j : Nat) : Int) := by
    unfold IntKind.wrap
    simp [IntKind.bits, IntKind.signed]
    omega
  rw [e1, show (2 ^ (min (1 : Int).toNat (IntKind.bits .u64)) : Int) = 2 from by simp [IntKind.bits], Int.fdiv_eq_ediv_of_nonneg _ (by omega), show (((i + j : Nat) : Int) / 2) = (((i + j) / 2 : Nat) : Int) from by omega, w64 (by omega) (by omega)]
theorem cmp_spec {h : H} {x : Ver} {e : Int} {K : Value → H → Prop} (k : ∀ h', Ext h h' → K (.int .i64 (if x.epoch ≤ e then -1 else 1)) h') : CV PP (.func (.func no_chain_Chain_api_Agg_place_1) #[] #[]) [.agg x.cells.toArray, .int .i64 e] h K := by
  refine CV_func (fun a w => no_chain_Chain_api_Agg_place_1_call a w) ?_
  have : F.chain_Chain_api_Agg_place_1 x e h fun r h' => K (.int .i64 r) h' := by
    unfold F.chain_Chain_api_Agg_place_1
    refine new_of fun n h1 e1 e2 e3 e4 => ?_
    simp only [add_lit, Nat.add_zero]
    rw [ldI_iff (e2.cell (v := .int .i64 x.epoch) rfl)]
    simp only [decide_eq_true_eq, decide_eq_false_iff_not]
    refine ⟨fun g => ?_, fun g => ?_⟩
    · have := k h1 e3; rw [if_pos g] at this; exact this
    · have := k h1 e3; rw [if_neg g] at this; exact this
  have := F.chain_Chain_api_Agg_place_1_ok this
  simp only [List.append_toArray, Array.empty_append, Array.append_empty]
  exact this.mono fun r h' ⟨r0, e, q⟩ => by subst e; exact q
theorem bs_loop {s : Sl} {e : Int} {L : List Ver} {Q : Int → Bool → H → Prop} (hr : Rise L) (hL : L.length < 1073741824) : ∀ (m i j : Nat) (h : H), Owns h s tn_chain_version_api_Agg 6 (L.flatMap (·.cells)) → i ≤ j → j ≤ L.length →
    (∀ t x, t < i → L[t]? = some x → x.epoch ≤ e) → (∀ t x, j ≤ t → L[t]? = some x → e < x.epoch) → j - i < m → (∀ r h', Ext h h' → Q (cntM L e) r h') →
    F.slices_BinarySearchFunc_Slchain_version_api_Agg_chain_version_api_Agg_int.l1 Q m s e (.func (.func no_chain_Chain_api_Agg_place_1) #[] #[]) (L.length : Int) (i : Int) (j : Int) h
  | 0, i, j, h, _, _, _, _, _, hm, _ => by omega
  | m + 1, i, j, h, ho, hij, hj, hlo, hhi, hm, k => by
    unfold F.slices_BinarySearchFunc_Slchain_version_api_Agg_chain_version_api_Agg_int.l1
    simp only [decide_eq_true_eq, decide_eq_false_iff_not]
    refine ⟨fun g => ⟨by omega, ?_⟩, fun g => ?_⟩
    · rw [mid_eq (by omega)]
      have hm1 : (i + j) / 2 < L.length := by omega
      obtain ⟨x, hx⟩ : ∃ x, L[(i + j) / 2]? = some x := ⟨_, List.getElem?_eq_getElem hm1⟩
      obtain ⟨b, a1, a2, a3, a4, a5⟩ := Ch.at ho hx
      have hl := Ch.len ho
      refine idxA_of (i := (i + j) / 2) a1 (by omega) rfl ?_
      refine ⟨x, a5, cmp_spec fun h' e1 => ⟨_, rfl, fun g2 => ?_, fun g2 => ?_⟩⟩
      · have hxe : x.epoch ≤ e := by
          by_cases hh : x.epoch ≤ e
          · exact hh
          · rw [if_neg hh] at g2; omega
        rw [w64 (by omega) (by omega), show (((i + j) / 2 : Nat) : Int) + 1 = (((i + j) / 2 + 1 : Nat) : Int) from by omega]
        refine bs_loop hr hL m _ j h' (ho.only e1 fun _ _ f => f) (by omega) hj (fun t y ht hy => ?_) hhi (by omega) fun r h2 e2 => k r h2 (e1.trans e2)
        by_cases ht2 : t = (i + j) / 2
        · subst ht2; rw [hx] at hy; cases hy; exact hxe
        · have := hr.lt (by omega) hy hx; omega
      · have hxe : ¬ x.epoch ≤ e := fun hh => by rw [if_pos hh] at g2; omega
        refine bs_loop hr hL m i _ h' (ho.only e1 fun _ _ f => f) (by omega) (by omega) hlo (fun t y ht hy => ?_) (by omega) fun r h2 e2 => k r h2 (e1.trans e2)
        by_cases ht2 : t = (i + j) / 2
        · subst ht2; rw [hx] at hy; cases hy; omega
        · have := hr.lt (show (i + j) / 2 < t by omega) hx hy; omega
    · have hij2 : i = j := by omega
      subst hij2
      have hc : cntM L e = i := cnt_eq _ L i hj (fun t x ht hx => by simpa using hlo t x ht hx) fun t x ht hx => by simpa using hhi t x ht hx
      rw [hc] at k
      refine ⟨fun g2 => ?_, fun g2 => k _ h (.refl _)⟩
      obtain ⟨x, hx⟩ : ∃ x, L[i]? = some x := ⟨_, List.getElem?_eq_getElem (by omega)⟩
      obtain ⟨b, a1, a2, a3, a4, a5⟩ := Ch.at ho hx
      have hl := Ch.len ho
      refine idxA_of (i := i) a1 (by omega) rfl ?_
      exact ⟨x, a5, cmp_spec fun h' e1 => ⟨_, rfl, k _ h' e1⟩⟩
theorem place_spec {h : H} {p : Nat} {L : List Ver} {B : Option Nat} {e : Int} {Q : Int → H → Prop} (c : Ch h p L B) (hr : Rise L) (hL : L.length < 1073741824)
    (k : ∀ h', Ext h h' → Q ((cntM L e : Int) - 1) h') : F.chain_Chain_api_Agg_place (some ⟨p, 0, none⟩) e h Q := by
  obtain ⟨s, hb, ho, hB, hne⟩ := c
  have hl := Ch.len ho
  have hc0 : cellH h ⟨p, 0, none⟩ = some s.enc := hb.cell rfl
  have hcl : cntM L e ≤ L.length := List.countP_le_length
  simp only [F.chain_Chain_api_Agg_place, nn_some, add_lit, Nat.add_zero, ldL_iff hc0]
  unfold F.slices_BinarySearchFunc_Slchain_version_api_Agg_chain_version_api_Agg_int
  refine ⟨L.length + 1, ?_⟩
  rw [hl]
  refine bs_loop hr hL _ 0 L.length h ho (by omega) (by omega) (fun t x ht => by omega) (fun t x ht hx => ?_) (by omega) fun r h' e1 => ?_
  · rw [List.getElem?_eq_none (by omega)] at hx; cases hx
  · rw [w64 (by omega) (by omega)]
    exact k h' e1
def atM (L : List Ver) (e : Int) : S_api_Agg × Bool := match (L.filter fun x => decide (x.epoch ≤ e)).getLast? with | some x => if x.dead then (zA, false) else (x.value, true) | none => (zA, false)
theorem rise_filter {L : List Ver} (hr : Rise L) (e : Int) : L.filter (fun x => decide (x.epoch ≤ e)) = L.take (cntM L e) := by
  unfold cntM
  induction L with
  | nil => rfl
  | cons y r ih =>
    have hr' := List.pairwise_cons.1 hr
    by_cases hy : y.epoch ≤ e
    · simp [hy, ih hr'.2]
    · have hno : ∀ x ∈ r, ¬ x.epoch ≤ e := fun x hx => by have := hr'.1 x hx; omega
      have h1 : r.filter (fun x => decide (x.epoch ≤ e)) = [] := by simp; intro x hx; have := hno x hx; omega
      have h2 : r.countP (fun x => decide (x.epoch ≤ e)) = 0 := by rw [List.countP_eq_length_filter, h1]; rfl
      simp [hy, h1, h2]
theorem at_last {L : List Ver} (hr : Rise L) (e : Int) : (L.filter fun x => decide (x.epoch ≤ e)).getLast? = if cntM L e = 0 then none else L[cntM L e - 1]? := by
  have hcl : cntM L e ≤ L.length := List.countP_le_length
  rw [rise_filter hr, List.getLast?_eq_getElem?, List.length_take, Nat.min_eq_left hcl]
  split
  · rename_i h0; rw [h0]; simp
  · rw [List.getElem?_take_of_lt (by omega)]
theorem At_spec {h : H} {p : Nat} {L : List Ver} {B : Option Nat} {e : Int} {Q : S_api_Agg → Bool → H → Prop} (c : Ch h p L B) (hr : Rise L) (hL : L.length < 1073741824)
    (k : ∀ h', Ext h h' → Q (atM L e).1 (atM L e).2 h') : F.chain_Chain_api_Agg_At (some ⟨p, 0, none⟩) e h Q := by
  unfold F.chain_Chain_api_Agg_At
  refine new_of fun n0 h0 hn0 b0 e0 s0 => ?_
  have b0' : Blk h0 n0 zA.cells.toArray tn_api_Agg := b0
  refine place_spec (c.ext e0) hr hL fun h1 e1 => ?_
  have e01 := e0.trans e1
  have b1 : Blk h1 n0 zA.cells.toArray tn_api_Agg := e1.block b0' fun f => f
  obtain ⟨s, hb, ho, hB, hne⟩ := c.ext e01
  have hl := Ch.len ho
  have hc0 : cellH h1 ⟨p, 0, none⟩ = some s.enc := hb.cell rfl
  have hcl : cntM L e ≤ L.length := List.countP_le_length
  have none_ : (atM L e) = (zA, false) → F.chain_Chain_api_Agg_At.j1 Q ⟨n0, 0, none⟩ h1 := fun hn => by
    unfold F.chain_Chain_api_Agg_At.j1
    refine ⟨zA, b1.cells, st_agg b1 fun h2 b2 o2 s2 => ⟨zA, b2.cells, ?_⟩⟩
    have := k h2 (e01.step o2 fun m hm hb => by omega)
    rw [hn] at this; exact this
  unfold atM at none_ k
  rw [at_last hr e] at none_ k
  simp only [F.chain_Chain_api_Agg_At.j2, nn_some, add_lit, Nat.add_zero, ldL_iff hc0, decide_eq_true_eq, decide_eq_false_iff_not]
  refine ⟨fun g => ?_, fun g => ⟨(fun h => by cases h), fun _ => none_ (by rw [if_pos (by omega)])⟩⟩
  rw [if_neg (by omega)] at none_ k
  obtain ⟨x, hx⟩ : ∃ x, L[cntM L e - 1]? = some x := ⟨_, List.getElem?_eq_getElem (by omega)⟩
  rw [hx] at none_ k
  obtain ⟨b, a1, a2, a3, a4, a5⟩ := Ch.at ho hx
  refine idxA_of (i := cntM L e - 1) a1 (by omega) (by omega) ?_
  simp only [add_lit, Nat.add_zero]
  rw [ldB_iff a4]
  cases hd : x.dead with
  | true => exact ⟨(fun h => by cases h), fun _ => none_ (by simp [hd])⟩
  | false =>
    simp only [hd] at k
    refine ⟨fun _ => ?_, (fun h => by cases h)⟩
    refine idxA_of (i := cntM L e - 1) a1 (by omega) (by omega) ?_
    rw [add_lit]
    refine ⟨x.value, a3, st_agg b1 fun h2 b2 o2 s2 => ⟨_, b2.cells, ?_⟩⟩
    exact k h2 (e01.step o2 fun m hm hb => by omega)
end Go.Proofs.Ytoccbnhahaoeiaa.V.C
namespace Go.Proofs.Ytoccbnhahaoeiaa.V
open Go
set_option linter.unusedVariables false
set_option linter.unusedSimpArgs false
theorem i64_of {n : Int} (h : (Lit.int .i64 n).wf = true) : -9223372036854775808 ≤ n ∧ n < 9223372036854775808 := by
  simp [Lit.wf, IntKind.min, IntKind.max, IntKind.bits, IntKind.signed] at h
  omega
end Go.Proofs.Ytoccbnhahaoeiaa.V
namespace Go.Proofs.Ytoccbnhahaoeiaa.V
set_option linter.unusedVariables false
set_option linter.unusedSimpArgs false
structure Pl (α : Type) where
  is_ : Nat
  key : ByteArray
  value : α
abbrev kL (k : ByteArray) : List UInt8 := k.data.toList
theorem kL_inj {a b : ByteArray} (h : kL a = kL b) : a = b := by
  obtain ⟨x⟩ := a
  obtain ⟨y⟩ := b
  congr 1
  exact Array.toList_inj.1 h
def hashL (l : List UInt8) : Nat := l.foldl (fun h c => ((h ^^^ c.toNat) * 1099511628211) % 18446744073709551616) 14695981039346656037
def hashM (k : ByteArray) : Nat := hashL (kL k)
section
variable {α : Type}
def probe (R : List (Pl α)) (key : ByteArray) : Nat → Nat → Option (Nat × Bool)
  | 0, _ => none
  | f + 1, i => match R[i]? with
    | none => none
    | some p => if p.is_ = 0 then some (i, false) else if p.is_ = 1 ∧ kL p.key = kL key then some (i, true) else probe R key f ((i + 1) % R.length)
def homeM (R : List (Pl α)) (key : ByteArray) : Nat := hashM key % R.length
def findM (R : List (Pl α)) (key : ByteArray) : Option (Nat × Bool) := if R.length = 0 then some (0, false) else probe R key (R.length + 1) (homeM R key)
/-- How far i lies behind h, on the ring of n. -/
def dist (n h i : Nat) : Nat := if h ≤ i then i - h else i + n - h
theorem dist_lt {n h i : Nat} (hh : h < n) (hi : i < n) : dist n h i < n := by unfold dist; split <;> omega
theorem ring_dist {n h i : Nat} (hh : h < n) (hi : i < n) : (h + dist n h i) % n = i := by
  unfold dist
  split
  · rw [show h + (i - h) = i from by omega, Nat.mod_eq_of_lt hi]
  · rw [show h + (i + n - h) = i + n from by omega, Nat.add_mod_right, Nat.mod_eq_of_lt hi]
theorem ring_val {n h k : Nat} (hh : h < n) (hk : k < n) : (h + k) % n = if h + k < n then h + k else h + k - n := by
  split
  · rename_i g; exact Nat.mod_eq_of_lt g
  · rename_i g
    rw [show h + k = (h + k - n) + n from by omega, Nat.add_mod_right, Nat.mod_eq_of_lt (by omega)]
    omega
theorem dist_ring {n h k : Nat} (hh : h < n) (hk : k < n) : dist n h ((h + k) % n) = k := by
  rw [ring_val hh hk]; unfold dist
  split <;> split <;> omega
theorem ring_lt {n h k : Nat} (hn : 0 < n) : (h + k) % n < n := Nat.mod_lt _ hn
theorem ring_succ {n h k : Nat} : ((h + k) % n + 1) % n = (h + (k + 1)) % n := by
  rw [Nat.add_mod ((h + k) % n), Nat.mod_mod, ← Nat.add_mod, Nat.add_assoc]
/-- Place i is not empty. -/
def Full (R : List (Pl α)) (i : Nat) : Prop := ∃ p, R[i]? = some p ∧ p.is_ ≠ 0
def Hit (R : List (Pl α)) (key : ByteArray) (i : Nat) : Prop := ∃ p, R[i]? = some p ∧ p.is_ = 1 ∧ kL p.key = kL key
def Empty (R : List (Pl α)) (i : Nat) : Prop := ∃ p, R[i]? = some p ∧ p.is_ = 0
theorem full_or_empty {R : List (Pl α)} {i : Nat} (h : i < R.length) : Full R i ∨ Empty R i := by
  by_cases e : R[i].is_ = 0
  · exact .inr ⟨_, List.getElem?_eq_getElem h, e⟩
  · exact .inl ⟨_, List.getElem?_eq_getElem h, e⟩
theorem Hit.full {R : List (Pl α)} {key : ByteArray} {i : Nat} (h : Hit R key i) : Full R i := by
  obtain ⟨p, h1, h2, _⟩ := h
  exact ⟨p, h1, by omega⟩
theorem Empty.lt {R : List (Pl α)} {i : Nat} (h : Empty R i) : i < R.length := by
  obtain ⟨p, h1, _⟩ := h; exact (List.getElem?_eq_some_iff.1 h1).1
theorem Hit.lt {R : List (Pl α)} {key : ByteArray} {i : Nat} (h : Hit R key i) : i < R.length := by
  obtain ⟨p, h1, _⟩ := h; exact (List.getElem?_eq_some_iff.1 h1).1
theorem probe_go {R : List (Pl α)} {key : ByteArray} {h : Nat} (hn : h < R.length) : ∀ (K f : Nat), (∀ k, k < K → Full R ((h + k) % R.length) ∧ ¬ Hit R key ((h + k) % R.length)) → ∀ j, j ≤ K → probe R key (f + (K - j)) ((h + j) % R.length) = probe R key f ((h + K) % R.length) := by
  intro K f hk j hj
  obtain ⟨d, hd⟩ : ∃ d, K = j + d := ⟨K - j, by omega⟩
  subst hd
  induction d generalizing j with
  | zero => simp
  | succ d ih =>
    rw [show j + (d + 1) - j = d + 1 from by omega, ← Nat.add_assoc f d 1, probe]
    obtain ⟨⟨p, h1, h2⟩, h3⟩ := hk j (by omega)
    rw [h1]
    simp only [h2, if_false]
    rw [if_neg (fun hh => h3 ⟨p, h1, hh.1, hh.2⟩), ring_succ]
    have := ih (j + 1) (fun k hk2 => hk k (by omega)) (by omega)
    rw [show j + 1 + d - (j + 1) = d from by omega, show j + 1 + d = j + (d + 1) from by omega] at this
    exact this
theorem probe_hit {R : List (Pl α)} {key : ByteArray} {h K f : Nat} (hn : h < R.length) (hk : ∀ k, k < K → Full R ((h + k) % R.length) ∧ ¬ Hit R key ((h + k) % R.length)) (hh : Hit R key ((h + K) % R.length)) (hf : K < f) : probe R key f h = some ((h + K) % R.length, true) := by
  have := probe_go hn K (f - K) hk 0 (by omega)
  rw [show f - K + (K - 0) = f from by omega, Nat.add_zero, Nat.mod_eq_of_lt hn] at this
  rw [this, show f - K = (f - K - 1) + 1 from by omega, probe]
  obtain ⟨p, h1, h2, h3⟩ := hh
  rw [h1]
  simp [h2, h3]
theorem probe_miss {R : List (Pl α)} {key : ByteArray} {h K f : Nat} (hn : h < R.length) (hk : ∀ k, k < K → Full R ((h + k) % R.length) ∧ ¬ Hit R key ((h + k) % R.length)) (hh : Empty R ((h + K) % R.length)) (hf : K < f) : probe R key f h = some ((h + K) % R.length, false) := by
  have := probe_go hn K (f - K) hk 0 (by omega)
  rw [show f - K + (K - 0) = f from by omega, Nat.add_zero, Nat.mod_eq_of_lt hn] at this
  rw [this, show f - K = (f - K - 1) + 1 from by omega, probe]
  obtain ⟨p, h1, h2⟩ := hh
  rw [h1]
  simp [h2]
theorem least {P : Nat → Prop} : ∀ m, (∃ k, k < m ∧ P k) → ∃ k, k < m ∧ P k ∧ ∀ j, j < k → ¬ P j
  | 0, ⟨k, h, _⟩ => by omega
  | m + 1, ⟨k, h, hp⟩ => by
    by_cases e : ∃ k, k < m ∧ P k
    · obtain ⟨k, h1, h2, h3⟩ := least m e
      exact ⟨k, by omega, h2, h3⟩
    · exact ⟨k, h, hp, fun j hj hpj => e ⟨j, by omega, hpj⟩⟩
/-- The places from a key's home up to i (but i itself) are not empty. -/
def Chain (R : List (Pl α)) (key : ByteArray) (i : Nat) : Prop := ∀ k, k < dist R.length (homeM R key) i → Full R ((homeM R key + k) % R.length)
theorem home_lt {R : List (Pl α)} {key : ByteArray} (h : 0 < R.length) : homeM R key < R.length := Nat.mod_lt _ h
theorem find_hit {R : List (Pl α)} {key : ByteArray} {i : Nat} (hh : Hit R key i) (hc : Chain R key i) (hu : ∀ j, Hit R key j → j = i) : findM R key = some (i, true) := by
  have hlt := hh.lt
  have hn : 0 < R.length := by omega
  have hm := home_lt (R := R) (key := key) hn
  unfold findM
  rw [if_neg (by omega)]
  have hr := ring_dist hm hlt
  have hd := dist_lt hm hlt
  rw [probe_hit (K := dist R.length (homeM R key) i) hm (fun k hk => ⟨hc k hk, fun hk2 => ?_⟩) (by rw [hr]; exact hh) (by omega), hr]
  have := hu _ hk2
  have h2 := dist_ring hm (show k < R.length by omega)
  rw [this] at h2; omega
theorem find_miss {R : List (Pl α)} {key : ByteArray} (hn : ∀ j, ¬ Hit R key j) (hr : ∃ i, Empty R i) : ∃ i, findM R key = some (i, false) ∧ Empty R i ∧ Chain R key i := by
  obtain ⟨e, he⟩ := hr
  have hlt := he.lt
  have hm := home_lt (R := R) (key := key) (by omega)
  obtain ⟨K, h1, h2, h3⟩ := least (P := fun k => Empty R ((homeM R key + k) % R.length)) R.length ⟨dist R.length (homeM R key) e, dist_lt hm hlt, by rw [ring_dist hm hlt]; exact he⟩
  have full : ∀ k, k < K → Full R ((homeM R key + k) % R.length) := fun k hk => (full_or_empty (ring_lt (by omega))).resolve_right (h3 k hk)
  refine ⟨(homeM R key + K) % R.length, ?_, h2, fun k hk => ?_⟩
  · unfold findM
    rw [if_neg (by omega)]
    exact probe_miss hm (fun k hk => ⟨full k hk, hn _⟩) h2 (by omega)
  · rw [dist_ring hm h1] at hk; exact full k hk
theorem find_nil {key : ByteArray} : findM ([] : List (Pl α)) key = some (0, false) := rfl
structure RowOk (R : List (Pl α)) : Prop where
  chain : ∀ (i : Nat) (p : Pl α), R[i]? = some p → p.is_ = 1 → Chain R p.key i
  uniq : ∀ (i j : Nat) (p q : Pl α), R[i]? = some p → R[j]? = some q → p.is_ = 1 → q.is_ = 1 → kL p.key = kL q.key → i = j
theorem RowOk.hit {R : List (Pl α)} (r : RowOk R) {key : ByteArray} {i : Nat} (h : Hit R key i) : findM R key = some (i, true) := by
  obtain ⟨p, h1, h2, h3⟩ := h
  have hk := kL_inj h3
  refine find_hit ⟨p, h1, h2, h3⟩ (by rw [← hk]; exact r.chain i p h1 h2) fun j ⟨q, g1, g2, g3⟩ => r.uniq j i q p g1 h1 g2 h2 (g3.trans h3.symm)
theorem set_full {R : List (Pl α)} {i j : Nat} {p : Pl α} (h : Full R j) (hp : p.is_ ≠ 0) : Full (R.set i p) j := by
  obtain ⟨q, h1, h2⟩ := h
  by_cases e : i = j
  · subst e; exact ⟨p, by rw [List.getElem?_set, if_pos rfl, if_pos (List.getElem?_eq_some_iff.1 h1).1], hp⟩
  · exact ⟨q, by rw [List.getElem?_set, if_neg e]; exact h1, h2⟩
theorem set_chain {R : List (Pl α)} {i j : Nat} {p : Pl α} {key : ByteArray} (h : Chain R key j) (hp : p.is_ ≠ 0) : Chain (R.set i p) key j := by
  unfold Chain homeM at *
  rw [List.length_set]
  exact fun k hk => set_full (h k hk) hp
theorem set_get {R : List (Pl α)} {i j : Nat} {p q : Pl α} (h : (R.set i p)[j]? = some q) : (i = j ∧ q = p ∧ i < R.length) ∨ (i ≠ j ∧ R[j]? = some q) := by
  rw [List.getElem?_set] at h
  split at h
  · rename_i e
    split at h
    · exact .inl ⟨e, (Option.some.inj h).symm, by assumption⟩
    · cases h
  · rename_i e; exact .inr ⟨e, h⟩
/-- A new key in an empty place that its chain leads to. -/
theorem RowOk.put {R : List (Pl α)} (r : RowOk R) {p : Pl α} {i : Nat} (h1 : p.is_ = 1) (hc : Chain R p.key i) (hn : ∀ j, ¬ Hit R p.key j) : RowOk (R.set i p) := by
  refine ⟨fun j q hq hq1 => ?_, fun j k q s hq hs hq1 hs1 he => ?_⟩
  · rcases set_get hq with ⟨rfl, rfl, _⟩ | ⟨_, hq⟩
    · exact set_chain hc (by omega)
    · exact set_chain (r.chain j q hq hq1) (by omega)
  · rcases set_get hq with ⟨rfl, rfl, _⟩ | ⟨_, gq⟩
    · rcases set_get hs with ⟨rfl, _, _⟩ | ⟨_, gs⟩
      · rfl
      · exact absurd ⟨s, gs, hs1, he.symm⟩ (hn k)
    · rcases set_get hs with ⟨rfl, rfl, _⟩ | ⟨_, gs⟩
      · exact absurd ⟨q, gq, hq1, he⟩ (hn j)
      · exact r.uniq j k q s gq gs hq1 hs1 he
/-- A key's value is written anew. -/
theorem RowOk.anew {R : List (Pl α)} (r : RowOk R) {p q : Pl α} {i : Nat} (h0 : R[i]? = some p) (hp : p.is_ = 1) (h1 : q.is_ = 1) (hk : kL q.key = kL p.key) : RowOk (R.set i q) := by
  have hk' := kL_inj hk
  refine ⟨fun j s hs hs1 => ?_, fun j k s t hs ht hs1 ht1 he => ?_⟩
  · rcases set_get hs with ⟨rfl, rfl, _⟩ | ⟨_, hs⟩
    · rw [hk']; exact set_chain (r.chain i p h0 hp) (by omega)
    · exact set_chain (r.chain j s hs hs1) (by omega)
  · rcases set_get hs with ⟨rfl, rfl, _⟩ | ⟨_, gs⟩
    · rcases set_get ht with ⟨rfl, _, _⟩ | ⟨_, gt⟩
      · rfl
      · exact r.uniq i k p t h0 gt hp ht1 (hk.symm.trans he)
    · rcases set_get ht with ⟨rfl, rfl, _⟩ | ⟨_, gt⟩
      · exact r.uniq j i s p gs h0 hs1 hp (he.trans hk)
      · exact r.uniq j k s t gs gt hs1 ht1 he
/-- A place that is marked asL gone. -/
theorem RowOk.gone {R : List (Pl α)} (r : RowOk R) {q : Pl α} {i : Nat} (h1 : q.is_ ≠ 1) (h0 : q.is_ ≠ 0) : RowOk (R.set i q) := by
  refine ⟨fun j s hs hs1 => ?_, fun j k s t hs ht hs1 ht1 he => ?_⟩
  · rcases set_get hs with ⟨rfl, rfl, _⟩ | ⟨_, hs⟩
    · exact absurd hs1 h1
    · exact set_chain (r.chain j s hs hs1) h0
  · rcases set_get hs with ⟨rfl, rfl, _⟩ | ⟨_, hs⟩
    · exact absurd hs1 h1
    · rcases set_get ht with ⟨rfl, rfl, _⟩ | ⟨_, ht⟩
      · exact absurd ht1 h1
      · exact r.uniq j k s t hs ht hs1 ht1 he
def cntT (R : List (Pl α)) : Nat := R.countP fun p => decide (p.is_ = 1)
theorem cntT_set : ∀ (R : List (Pl α)) (i : Nat) (p q : Pl α), R[i]? = some q → cntT (R.set i p) + (if q.is_ = 1 then 1 else 0) = cntT R + (if p.is_ = 1 then 1 else 0)
  | [], i, p, q, h => by simp at h
  | x :: r, 0, p, q, h => by
    simp at h; subst h
    simp only [List.set_cons_zero, cntT, List.countP_cons]
    by_cases h1 : x.is_ = 1 <;> by_cases h2 : p.is_ = 1 <;> simp [h1, h2]
  | x :: r, i + 1, p, q, h => by
    have := cntT_set r i p q (by simpa using h)
    simp only [List.set_cons_succ, cntT, List.countP_cons] at *
    omega
theorem room_of {R : List (Pl α)} (h01 : ∀ p ∈ R, p.is_ ≤ 1) (h : cntT R < R.length) : ∃ i, Empty R i := by
  apply Classical.byContradiction
  intro hn
  have : cntT R = R.length := by
    unfold cntT
    rw [List.countP_eq_length]
    intro p hp
    obtain ⟨i, hi, rfl⟩ := List.mem_iff_getElem.1 hp
    have := h01 _ hp
    have : ¬ R[i].is_ = 0 := fun e => hn ⟨i, _, List.getElem?_eq_getElem hi, e⟩
    simp; omega
  omega
def valOf (R : List (Pl α)) (key : ByteArray) : Option α := (R.find? fun p => decide (p.is_ = 1 ∧ kL p.key = kL key)).map (·.value)
theorem valOf_hit {R : List (Pl α)} (r : RowOk R) {key : ByteArray} {i : Nat} {p : Pl α} (h0 : R[i]? = some p) (h1 : p.is_ = 1) (h2 : kL p.key = kL key) : valOf R key = some p.value := by
  unfold valOf
  cases hf : R.find? fun p => decide (p.is_ = 1 ∧ kL p.key = kL key) with
  | none =>
    rw [List.find?_eq_none] at hf
    have := hf p (List.mem_of_getElem? h0)
    simp [h1, h2] at this
  | some q =>
    have hq : q.is_ = 1 ∧ kL q.key = kL key := by simpa only [decide_eq_true_eq] using List.find?_some hf
    have hm := List.mem_of_find?_eq_some hf
    obtain ⟨j, hj⟩ := List.mem_iff_getElem?.1 hm
    have := r.uniq j i q p hj h0 hq.1 h1 (by rw [hq.2]; exact h2.symm)
    subst this
    rw [h0] at hj; cases hj; rfl
theorem valOf_none {R : List (Pl α)} {key : ByteArray} (h : ∀ j, ¬ Hit R key j) : valOf R key = none := by
  unfold valOf
  rw [Option.map_eq_none_iff, List.find?_eq_none]
  intro p hp
  obtain ⟨j, hj⟩ := List.mem_iff_getElem?.1 hp
  intro hh
  simp only [decide_eq_true_eq] at hh
  exact h j ⟨p, hj, hh.1, hh.2⟩
theorem valOf_some {R : List (Pl α)} {key : ByteArray} {v : α} (h : valOf R key = some v) : ∃ (i : Nat) (p : Pl α), R[i]? = some p ∧ p.is_ = 1 ∧ kL p.key = kL key ∧ p.value = v := by
  unfold valOf at h
  obtain ⟨p, hp, rfl⟩ := Option.map_eq_some_iff.1 h
  have hq : p.is_ = 1 ∧ kL p.key = kL key := by simpa only [decide_eq_true_eq] using List.find?_some hp
  obtain ⟨j, hj⟩ := List.mem_iff_getElem?.1 (List.mem_of_find?_eq_some hp)
  exact ⟨j, p, hj, hq.1, hq.2, rfl⟩
theorem hit_or (R : List (Pl α)) (key : ByteArray) : (∃ i, Hit R key i) ∨ ∀ j, ¬ Hit R key j := by
  by_cases h : ∃ i, Hit R key i
  · exact .inl h
  · exact .inr fun j hj => h ⟨j, hj⟩
/-- What lies under a key when place i is written. -/
theorem valOf_set {R : List (Pl α)} {i : Nat} {p q : Pl α} (r' : RowOk (R.set i q)) (r : RowOk R) (h0 : R[i]? = some p) (key : ByteArray) (hp : ¬ (p.is_ = 1 ∧ kL p.key = kL key)) : valOf (R.set i q) key = if q.is_ = 1 ∧ kL q.key = kL key then some q.value else valOf R key := by
  have hi := (List.getElem?_eq_some_iff.1 h0).1
  have hg : (R.set i q)[i]? = some q := by rw [List.getElem?_set, if_pos rfl, if_pos hi]
  split
  · rename_i h; exact valOf_hit r' hg h.1 h.2
  · rename_i h
    rcases hit_or R key with ⟨j, s, g1, g2, g3⟩ | hn
    · have hij : i ≠ j := fun e => by subst e; rw [h0] at g1; cases g1; exact hp ⟨g2, g3⟩
      rw [valOf_hit r g1 g2 g3, valOf_hit r' (i := j) (by rw [List.getElem?_set, if_neg hij]; exact g1) g2 g3]
    · rw [valOf_none hn, valOf_none]
      intro j ⟨s, g1, g2, g3⟩
      rcases set_get g1 with ⟨rfl, rfl, _⟩ | ⟨_, g1⟩
      · exact h ⟨g2, g3⟩
      · exact hn j ⟨s, g1, g2, g3⟩
end
end Go.Proofs.Ytoccbnhahaoeiaa.V
namespace Go.Proofs.Ytoccbnhahaoeiaa.V
set_option linter.unusedVariables false
set_option linter.unusedSimpArgs false
structure Tb (α : Type) where
  row : List (Pl α)
  elder : List (Pl α)
  moved : Nat
  count : Nat
section
variable {α : Type} (z : α)
def goneP : Pl α := ⟨2, ⟨#[]⟩, z⟩
def emptP : Pl α := ⟨0, ⟨#[]⟩, z⟩
def move1 (T : Tb α) : Option (Tb α) := match T.elder[T.moved]? with
  | none => none
  | some p => if p.is_ = 1 then (match findM T.row p.key with
    | none => none
    | some r => some ⟨T.row.set r.1 p, T.elder.set T.moved (goneP z), T.moved + 1, T.count⟩) else some ⟨T.row, T.elder, T.moved + 1, T.count⟩
def moveN : Nat → Tb α → Option (Tb α)
  | 0, T => some T
  | n + 1, T => if T.moved < T.elder.length then (match move1 z T with
    | none => none
    | some T' => moveN n T') else some T
def finT (T : Tb α) : Tb α := if T.moved = T.elder.length then ⟨T.row, [], 0, T.count⟩ else T
def moveM (T : Tb α) (n : Int) : Option (Tb α) := (moveN z n.toNat T).map finT
def leftT (T : Tb α) : Nat := T.elder.length - T.moved
def whereM (T : Tb α) (key : ByteArray) : Option (Option (Bool × Nat)) := match findM T.row key with
  | none => none
  | some (i, true) => some (some (false, i))
  | some (_, false) => match findM T.elder key with
    | none => none
    | some (i, true) => some (some (true, i))
    | some (_, false) => some none
def growT (T : Tb α) : Tb α := ⟨List.replicate (2 * T.row.length) (emptP z), T.row, 0, T.count⟩
def layP (T : Tb α) (key : ByteArray) (v : α) : Option (Tb α) := match findM T.row key with
  | none => none
  | some (i, _) => some ⟨T.row.set i ⟨1, key, v⟩, T.elder, T.moved, T.count + 1⟩
def newP (R : List (Pl α)) (i : Nat) (v : α) : List (Pl α) := match R[i]? with
  | none => R
  | some p => R.set i ⟨p.is_, p.key, v⟩
def putM' (T : Tb α) (key : ByteArray) (v : α) : Option (Tb α) := match whereM T key with
  | none => none
  | some (some (false, i)) => some ⟨newP T.row i v, T.elder, T.moved, T.count⟩
  | some (some (true, i)) => some ⟨T.row, newP T.elder i v, T.moved, T.count⟩
  | some none => if 4 * (T.count + 1) > 3 * T.row.length then (match moveM z T (T.elder.length : Int) with
      | none => none
      | some T2 => layP (growT z T2) key v) else layP T key v
def putM (T : Tb α) (key : ByteArray) (v : α) : Option (Tb α) := match moveM z T 4 with
  | none => none
  | some T1 => putM' z T1 key v
def getM (T : Tb α) (key : ByteArray) : Option α := match valOf T.row key with
  | some v => some v
  | none => valOf T.elder key
end
section
variable {α : Type} {z : α}
structure TOk (T : Tb α) : Prop where
  row : RowOk T.row
  row01 : ∀ p ∈ T.row, p.is_ ≤ 1
  pos : 2 ≤ T.row.length
  elder : RowOk T.elder
  eroom : T.elder ≠ [] → ∃ i, Empty T.elder i
  behind : ∀ (i : Nat) (p : Pl α), i < T.moved → T.elder[i]? = some p → p.is_ ≠ 1
  mle : T.moved ≤ T.elder.length
  apart : ∀ (i j : Nat) (p q : Pl α), T.row[i]? = some p → T.elder[j]? = some q → p.is_ = 1 → q.is_ = 1 → kL p.key ≠ kL q.key
  cnt : cntT T.row + cntT T.elder = T.count
  load : leftT T + 4 * T.count ≤ 3 * T.row.length
def Rest (T : Tb α) : Prop := T.elder = [] ∨ T.moved < T.elder.length
theorem TOk.room {T : Tb α} (t : TOk T) (h : cntT T.row < T.row.length) : ∃ i, Empty T.row i := room_of t.row01 h
theorem TOk.cnt_row {T : Tb α} (t : TOk T) : cntT T.row < T.row.length := by
  have := t.cnt
  have := t.load
  have := t.pos
  omega
theorem move1_ok {T : Tb α} (t : TOk T) (hm : T.moved < T.elder.length) : ∃ T', move1 z T = some T' ∧ TOk T' ∧ T'.moved = T.moved + 1 ∧ T'.elder.length = T.elder.length ∧ T'.row.length = T.row.length ∧ T'.count = T.count ∧ ∀ key, getM T' key = getM T key := by
  obtain ⟨p, hp⟩ : ∃ p, T.elder[T.moved]? = some p := ⟨_, List.getElem?_eq_getElem hm⟩
  unfold move1
  rw [hp]
  simp only
  have hload := t.load
  by_cases h1 : p.is_ = 1
  · rw [if_pos h1]
    have hno : ∀ j, ¬ Hit T.row p.key j := fun j ⟨q, g1, g2, g3⟩ => t.apart j T.moved q p g1 hp g2 h1 g3
    obtain ⟨i, f1, f2, f3⟩ := find_miss hno (t.room t.cnt_row)
    rw [f1]
    have hi := f2.lt
    obtain ⟨e, he1, he2⟩ := f2
    have r1 := t.row.put h1 f3 hno (i := i)
    have r2 : RowOk (T.elder.set T.moved (goneP z)) := t.elder.gone (by simp [goneP]) (by simp [goneP])
    refine ⟨_, rfl, ⟨r1, fun q hq => ?_, by simpa using t.pos, r2, fun hne => ?_, fun j q hj hq => ?_, by simp; omega, fun a b q s hq hs hq1 hs1 => ?_, ?_, ?_⟩, rfl, by simp, by simp, rfl, fun key => ?_⟩
    · obtain ⟨j, hj⟩ := List.mem_iff_getElem?.1 hq
      rcases set_get hj with ⟨_, rfl, _⟩ | ⟨_, hj⟩
      · omega
      · exact t.row01 q (List.mem_of_getElem? hj)
    · obtain ⟨j, q, g1, g2⟩ := t.eroom (fun e => by rw [e] at hm; simp at hm)
      have : T.moved ≠ j := fun e => by subst e; rw [hp] at g1; cases g1; omega
      exact ⟨j, q, by rw [List.getElem?_set, if_neg this]; exact g1, g2⟩
    · rcases set_get hq with ⟨_, rfl, _⟩ | ⟨hne, hq⟩
      · simp [goneP]
      · exact t.behind j q (by simp at hj; omega) hq
    · rcases set_get hs with ⟨_, rfl, _⟩ | ⟨hne, gs⟩
      · simp [goneP] at hs1
      · rcases set_get hq with ⟨_, rfl, _⟩ | ⟨_, gq⟩
        · exact fun e => hne (t.elder.uniq T.moved b q s hp gs hq1 hs1 e)
        · exact t.apart a b q s gq gs hq1 hs1
    · have c1 := cntT_set T.row i p e he1
      have c2 := cntT_set T.elder T.moved (goneP z) p hp
      have := t.cnt
      rw [if_pos h1, if_neg (by omega)] at c1
      rw [if_pos h1, if_neg (by simp [goneP])] at c2
      show cntT (T.row.set i p) + cntT (T.elder.set T.moved (goneP z)) = T.count
      omega
    · show (T.elder.set T.moved (goneP z)).length - (T.moved + 1) + 4 * T.count ≤ 3 * (T.row.set i p).length
      unfold leftT at hload
      simp; omega
    · have v1 := valOf_set r1 t.row he1 key (by omega)
      show (match valOf (T.row.set i p) key with | some v => some v | none => valOf (T.elder.set T.moved (goneP z)) key) = getM T key
      unfold getM
      by_cases hk : kL p.key = kL key
      · have hrow : valOf T.row key = none := valOf_none (R := T.row) (fun j hj => hno j (by obtain ⟨q, g1, g2, g3⟩ := hj; exact ⟨q, g1, g2, g3.trans hk.symm⟩))
        have hel : valOf T.elder key = some p.value := valOf_hit t.elder hp h1 hk
        rw [v1, if_pos ⟨h1, hk⟩, hrow, hel]
      · rw [v1, if_neg (fun h => hk h.2), valOf_set r2 t.elder hp key (fun h => hk h.2), if_neg (by simp [goneP])]
  · rw [if_neg h1]
    refine ⟨_, rfl, ⟨t.row, t.row01, t.pos, t.elder, t.eroom, fun j q hj hq => ?_, by show T.moved + 1 ≤ T.elder.length; omega, t.apart, t.cnt, ?_⟩, rfl, rfl, rfl, rfl, fun key => rfl⟩
    · by_cases e : j = T.moved
      · subst e; rw [hp] at hq; cases hq; exact h1
      · exact t.behind j q (by simp at hj; omega) hq
    · show T.elder.length - (T.moved + 1) + 4 * T.count ≤ 3 * T.row.length
      unfold leftT at hload
      omega
theorem moveN_ok : ∀ (n : Nat) {T : Tb α}, TOk T → ∃ T', moveN z n T = some T' ∧ TOk T' ∧ leftT T' = leftT T - n ∧ T'.row.length = T.row.length ∧ T'.count = T.count ∧ ∀ key, getM T' key = getM T key
  | 0, T, t => ⟨T, rfl, t, rfl, rfl, rfl, fun _ => rfl⟩
  | n + 1, T, t => by
    unfold moveN
    by_cases hm : T.moved < T.elder.length
    · rw [if_pos hm]
      obtain ⟨T1, a1, a2, a3, a4, a5, a6, a7⟩ := move1_ok (z := z) t hm
      rw [a1]
      obtain ⟨T2, b1, b2, b3, b4, b5, b6⟩ := moveN_ok n a2
      refine ⟨T2, b1, b2, ?_, by omega, by omega, fun key => (b6 key).trans (a7 key)⟩
      unfold leftT at *; omega
    · rw [if_neg hm]
      refine ⟨T, rfl, t, ?_, rfl, rfl, fun _ => rfl⟩
      unfold leftT; omega
theorem RowOk.nil : RowOk ([] : List (Pl α)) := ⟨fun i p h => by simp at h, fun i j p q h => by simp at h⟩
theorem fin_ok {T : Tb α} (t : TOk T) : TOk (finT T) ∧ Rest (finT T) ∧ leftT (finT T) = leftT T ∧ (finT T).row = T.row ∧ (finT T).count = T.count ∧ ∀ key, getM (finT T) key = getM T key := by
  unfold finT
  by_cases h : T.moved = T.elder.length
  · rw [if_pos h]
    have hno : ∀ key j, ¬ Hit T.elder key j := fun key j ⟨q, g1, g2, g3⟩ => t.behind j q (by rw [h]; exact (List.getElem?_eq_some_iff.1 g1).1) g1 g2
    have hc : cntT T.elder = 0 := by
      unfold cntT
      rw [List.countP_eq_zero]
      intro p hp
      obtain ⟨j, hj⟩ := List.mem_iff_getElem?.1 hp
      have := t.behind j p (by rw [h]; exact (List.getElem?_eq_some_iff.1 hj).1) hj
      simpa using this
    have hload := t.load
    have hcnt := t.cnt
    refine ⟨⟨t.row, t.row01, t.pos, RowOk.nil, fun h => absurd rfl h, fun i p hi => by simp at hi, Nat.le_refl _, fun i j p q _ hq => by simp at hq, by show cntT T.row + cntT [] = _; rw [show cntT ([] : List (Pl α)) = 0 from rfl]; show _ = T.count; omega, ?_⟩, .inl rfl, ?_, rfl, rfl, fun key => ?_⟩
    · show 0 - 0 + 4 * T.count ≤ 3 * T.row.length
      omega
    · unfold leftT; simp; omega
    · unfold getM
      rw [valOf_none (hno key)]
      rw [valOf_none (R := []) (fun j ⟨q, g1, _⟩ => by simp at g1)]
  · rw [if_neg h]
    have := t.mle
    exact ⟨t, .inr (by omega), rfl, rfl, rfl, fun _ => rfl⟩
/-- Move. -/
theorem move_ok {T : Tb α} (t : TOk T) (n : Int) : ∃ T', moveM z T n = some T' ∧ TOk T' ∧ Rest T' ∧ leftT T' = leftT T - n.toNat ∧ T'.row.length = T.row.length ∧ T'.count = T.count ∧ ∀ key, getM T' key = getM T key := by
  obtain ⟨T1, a1, a2, a3, a4, a5, a6⟩ := moveN_ok (z := z) n.toNat t
  obtain ⟨b1, b2, b3, b4, b5, b6⟩ := fin_ok a2
  refine ⟨finT T1, by unfold moveM; rw [a1]; rfl, b1, b2, by omega, by rw [b4]; exact a4, by omega, fun key => (b6 key).trans (a6 key)⟩
/-- Where a key lies. -/
theorem where_ok {T : Tb α} (t : TOk T) (key : ByteArray) : (∃ i, whereM T key = some (some (false, i)) ∧ Hit T.row key i) ∨ (∃ i, whereM T key = some (some (true, i)) ∧ Hit T.elder key i ∧ ∀ j, ¬ Hit T.row key j) ∨ (whereM T key = some none ∧ (∀ j, ¬ Hit T.row key j) ∧ ∀ j, ¬ Hit T.elder key j) := by
  unfold whereM
  rcases hit_or T.row key with ⟨i, hi⟩ | hn
  · rw [t.row.hit hi]; exact .inl ⟨i, rfl, hi⟩
  · obtain ⟨i, f1, _, _⟩ := find_miss hn (t.room t.cnt_row)
    rw [f1]
    simp only
    rcases hit_or T.elder key with ⟨j, hj⟩ | hne
    · rw [t.elder.hit hj]; exact .inr (.inl ⟨j, rfl, hj, hn⟩)
    · by_cases he : T.elder = []
      · rw [he, find_nil]; exact .inr (.inr ⟨rfl, hn, fun j ⟨q, g, _⟩ => by simp at g⟩)
      · obtain ⟨j, g1, _, _⟩ := find_miss hne (t.eroom he)
        rw [g1]; exact .inr (.inr ⟨rfl, hn, hne⟩)
theorem get_row {T : Tb α} (t : TOk T) {key : ByteArray} {i : Nat} {p : Pl α} (h : T.row[i]? = some p) (h1 : p.is_ = 1) (h2 : kL p.key = kL key) : getM T key = some p.value := by
  unfold getM; rw [valOf_hit t.row h h1 h2]
theorem get_elder {T : Tb α} (t : TOk T) {key : ByteArray} {i : Nat} {p : Pl α} (hn : ∀ j, ¬ Hit T.row key j) (h : T.elder[i]? = some p) (h1 : p.is_ = 1) (h2 : kL p.key = kL key) : getM T key = some p.value := by
  unfold getM; rw [valOf_none hn, valOf_hit t.elder h h1 h2]
theorem get_none {T : Tb α} {key : ByteArray} (hn : ∀ j, ¬ Hit T.row key j) (hne : ∀ j, ¬ Hit T.elder key j) : getM T key = none := by
  unfold getM; rw [valOf_none hn, valOf_none hne]
theorem newP_eq {R : List (Pl α)} {i : Nat} {p : Pl α} {v : α} (h : R[i]? = some p) : newP R i v = R.set i ⟨p.is_, p.key, v⟩ := by unfold newP; rw [h]
theorem lay_ok {T : Tb α} (t : TOk T) (hr : Rest T) {key : ByteArray} {v : α} (hn : ∀ j, ¬ Hit T.row key j) (hne : ∀ j, ¬ Hit T.elder key j) (hl : leftT T + 4 * (T.count + 1) ≤ 3 * T.row.length) :
    ∃ T', layP T key v = some T' ∧ TOk T' ∧ Rest T' ∧ T'.row.length = T.row.length ∧ T'.count = T.count + 1 ∧ leftT T' = leftT T ∧ ∀ k, getM T' k = if kL k = kL key then some v else getM T k := by
  obtain ⟨i, f1, f2, f3⟩ := find_miss hn (t.room t.cnt_row)
  unfold layP
  rw [f1]
  obtain ⟨e, he1, he2⟩ := f2
  have hi := (List.getElem?_eq_some_iff.1 he1).1
  have r1 : RowOk (T.row.set i ⟨1, key, v⟩) := t.row.put rfl f3 hn
  refine ⟨_, rfl, ⟨r1, fun q hq => ?_, by simpa using t.pos, t.elder, t.eroom, t.behind, t.mle, fun a b q s hq hs hq1 hs1 => ?_, ?_, by simpa [leftT] using hl⟩, hr, by simp, rfl, rfl, fun k => ?_⟩
  · obtain ⟨j, hj⟩ := List.mem_iff_getElem?.1 hq
    rcases set_get hj with ⟨_, rfl, _⟩ | ⟨_, hj⟩
    · exact Nat.le_refl _
    · exact t.row01 q (List.mem_of_getElem? hj)
  · rcases set_get hq with ⟨_, rfl, _⟩ | ⟨_, gq⟩
    · exact fun h => hne b ⟨s, hs, hs1, h.symm⟩
    · exact t.apart a b q s gq hs hq1 hs1
  · have c1 := cntT_set T.row i ⟨1, key, v⟩ e he1
    have := t.cnt
    rw [if_neg (by omega), if_pos rfl] at c1
    show cntT (T.row.set i ⟨1, key, v⟩) + cntT T.elder = T.count + 1
    omega
  · have v1 := valOf_set r1 t.row he1 k (by omega)
    show (match valOf (T.row.set i ⟨1, key, v⟩) k with | some v => some v | none => valOf T.elder k) = _
    rw [v1]
    by_cases hk : kL k = kL key
    · rw [if_pos ⟨rfl, hk.symm⟩, if_pos hk]
    · rw [if_neg (fun h => hk h.2.symm), if_neg hk]; rfl
theorem repl_get {n i : Nat} {p q : Pl α} (h : (List.replicate n p)[i]? = some q) : q = p ∧ i < n := by
  rw [List.getElem?_replicate] at h
  split at h
  · exact ⟨(Option.some.inj h).symm, by assumption⟩
  · cases h
theorem grow_ok {T : Tb α} (t : TOk T) (he : T.elder = []) (hf : 3 * T.row.length < 4 * (T.count + 1)) : TOk (growT z T) ∧ (growT z T).row.length = 2 * T.row.length ∧ (growT z T).count = T.count ∧ leftT (growT z T) = T.row.length ∧ (∀ key, getM (growT z T) key = getM T key) ∧ ∀ key j, ¬ Hit (growT z T).row key j := by
  have hno : ∀ key j, ¬ Hit (growT z T).row key j := fun key j ⟨q, g1, g2, _⟩ => by
    obtain ⟨rfl, _⟩ := repl_get g1
    simp [emptP] at g2
  have hcnt := t.cnt
  have hload := t.load
  have hpos := t.pos
  have he0 : cntT T.elder = 0 := by rw [he]; rfl
  refine ⟨⟨⟨fun i p h h1 => ?_, fun i j p q h h2 h1 => ?_⟩, fun p hp => ?_, by show 2 ≤ (List.replicate _ _).length; simp; omega, t.row, fun _ => t.room t.cnt_row, fun i p hi => by simp [growT] at hi, by simp [growT], fun i j p q h h2 h1 => ?_, ?_, ?_⟩, by simp [growT], rfl, by simp [growT, leftT], fun key => ?_, hno⟩
  · obtain ⟨rfl, _⟩ := repl_get h
    simp [emptP] at h1
  · obtain ⟨rfl, _⟩ := repl_get h
    simp [emptP] at h1
  · have := List.eq_of_mem_replicate hp
    subst this; simp [emptP]
  · obtain ⟨rfl, _⟩ := repl_get h
    simp [emptP] at h1
  · have : cntT (List.replicate (2 * T.row.length) (emptP z)) = 0 := by
      unfold cntT
      rw [List.countP_eq_zero]
      intro p hp
      have := List.eq_of_mem_replicate hp
      subst this; simp [emptP]
    show cntT (List.replicate (2 * T.row.length) (emptP z)) + cntT T.row = T.count
    omega
  · show T.row.length - 0 + 4 * T.count ≤ 3 * (List.replicate (2 * T.row.length) (emptP z)).length
    simp; omega
  · unfold getM
    rw [valOf_none (hno key), he]
    show valOf T.row key = _
    rw [valOf_none (R := []) (fun j ⟨q, g1, _⟩ => by simp at g1)]
    cases valOf T.row key <;> rfl
theorem put'_ok {T : Tb α} (t : TOk T) (hr : Rest T) (key : ByteArray) (v : α) (hlow : leftT T + 4 * (T.count + 1) ≤ 3 * T.row.length ∨ (T.elder = [] ∧ 4 * (T.count + 1) > 3 * T.row.length)) :
    ∃ T', putM' z T key v = some T' ∧ TOk T' ∧ Rest T' ∧ (∀ k, getM T' k = if kL k = kL key then some v else getM T k) ∧ T'.count = T.count + (if (getM T key).isSome then 0 else 1) ∧
      ((getM T key = none ∧ 4 * (T.count + 1) > 3 * T.row.length ∧ T'.row.length = 2 * T.row.length ∧ leftT T' = T.row.length) ∨ ((getM T key).isSome = true ∨ 4 * (T.count + 1) ≤ 3 * T.row.length) ∧ T'.row.length = T.row.length ∧ leftT T' = leftT T) := by
  unfold putM'
  rcases where_ok t key with ⟨i, w, p, h1, h2, h3⟩ | ⟨i, w, ⟨p, h1, h2, h3⟩, hn⟩ | ⟨w, hn, hne⟩
  · rw [w]
    simp only
    rw [newP_eq h1]
    have r1 : RowOk (T.row.set i ⟨p.is_, p.key, v⟩) := t.row.anew h1 h2 h2 rfl
    have hg := get_row t h1 h2 h3
    refine ⟨_, rfl, ⟨r1, fun q hq => ?_, by simpa using t.pos, t.elder, t.eroom, t.behind, t.mle, fun a b q s hq hs hq1 hs1 => ?_, ?_, by simpa [leftT] using t.load⟩, hr, fun k => ?_, by rw [hg]; rfl, .inr ⟨.inl (by rw [hg]; rfl), by simp, rfl⟩⟩
    · obtain ⟨j, hj⟩ := List.mem_iff_getElem?.1 hq
      rcases set_get hj with ⟨_, rfl, _⟩ | ⟨_, hj⟩
      · show p.is_ ≤ 1; omega
      · exact t.row01 q (List.mem_of_getElem? hj)
    · rcases set_get hq with ⟨_, rfl, _⟩ | ⟨_, gq⟩
      · exact t.apart i b p s h1 hs h2 hs1
      · exact t.apart a b q s gq hs hq1 hs1
    · have c1 := cntT_set T.row i ⟨p.is_, p.key, v⟩ p h1
      have := t.cnt
      show cntT (T.row.set i ⟨p.is_, p.key, v⟩) + cntT T.elder = T.count
      simp only at c1; omega
    · show (match valOf (T.row.set i ⟨p.is_, p.key, v⟩) k with | some v => some v | none => valOf T.elder k) = _
      by_cases hk : kL k = kL key
      · rw [if_pos hk, valOf_hit r1 (i := i) (p := ⟨p.is_, p.key, v⟩) (by rw [List.getElem?_set, if_pos rfl, if_pos (List.getElem?_eq_some_iff.1 h1).1]) h2 (h3.trans hk.symm)]
      · rw [if_neg hk, valOf_set r1 t.row h1 k (fun h => hk (h.2.symm.trans h3)), if_neg (fun h => hk (h.2.symm.trans h3))]; rfl
  · rw [w]
    simp only
    rw [newP_eq h1]
    have r1 : RowOk (T.elder.set i ⟨p.is_, p.key, v⟩) := t.elder.anew h1 h2 h2 rfl
    have hg := get_elder t hn h1 h2 h3
    have hil := (List.getElem?_eq_some_iff.1 h1).1
    refine ⟨_, rfl, ⟨t.row, t.row01, t.pos, r1, fun hne => ?_, fun j q hj hq => ?_, by simpa using t.mle, fun a b q s hq hs hq1 hs1 => ?_, ?_, by simpa [leftT] using t.load⟩, ?_, fun k => ?_, by rw [hg]; rfl, .inr ⟨.inl (by rw [hg]; rfl), rfl, by simp [leftT]⟩⟩
    · obtain ⟨j, q, g1, g2⟩ := t.eroom (fun e => by rw [e] at h1; simp at h1)
      have : i ≠ j := fun e => by subst e; rw [h1] at g1; cases g1; omega
      exact ⟨j, q, by rw [List.getElem?_set, if_neg this]; exact g1, g2⟩
    · rcases set_get hq with ⟨rfl, rfl, _⟩ | ⟨_, gq⟩
      · exact t.behind i p hj h1
      · exact t.behind j q hj gq
    · rcases set_get hs with ⟨_, rfl, _⟩ | ⟨_, gs⟩
      · exact t.apart a i q p hq h1 hq1 h2
      · exact t.apart a b q s hq gs hq1 hs1
    · have c1 := cntT_set T.elder i ⟨p.is_, p.key, v⟩ p h1
      have := t.cnt
      show cntT T.row + cntT (T.elder.set i ⟨p.is_, p.key, v⟩) = T.count
      simp only at c1; omega
    · rcases hr with hr | hr
      · rw [hr] at h1; simp at h1
      · exact .inr (by simpa using hr)
    · show (match valOf T.row k with | some v => some v | none => valOf (T.elder.set i ⟨p.is_, p.key, v⟩) k) = _
      by_cases hk : kL k = kL key
      · rw [if_pos hk, valOf_none (fun j ⟨q, g1, g2, g3⟩ => hn j ⟨q, g1, g2, g3.trans hk⟩), valOf_hit r1 (i := i) (p := ⟨p.is_, p.key, v⟩) (by rw [List.getElem?_set, if_pos rfl, if_pos hil]) h2 (h3.trans hk.symm)]
      · rw [if_neg hk, valOf_set r1 t.elder h1 k (fun h => hk (h.2.symm.trans h3)), if_neg (fun h => hk (h.2.symm.trans h3))]; rfl
  · rw [w]
    have hg := get_none hn hne
    simp only
    by_cases hb : 4 * (T.count + 1) > 3 * T.row.length
    · rw [if_pos hb]
      have he : T.elder = [] := by
        rcases hlow with h | h
        · omega
        · exact h.1
      obtain ⟨T1, m1, m2, m3, m4, m5, m6, m7⟩ := move_ok (z := z) t (T.elder.length : Int)
      rw [m1]
      have he1 : T1.elder = [] := by
        rcases m3 with h | h
        · exact h
        · unfold leftT at m4
          rw [he] at m4
          simp at m4
          omega
      obtain ⟨g1, g2, g3, g4, g5, g6⟩ := grow_ok (z := z) m2 he1 (by omega)
      have hpos := t.pos
      have hld := t.load
      have hel : ∀ j, ¬ Hit (growT z T1).elder key j := fun j hj => by
        obtain ⟨q, a1, a2, a3⟩ := hj
        have : getM T1 key = some q.value := get_row m2 a1 a2 a3
        rw [m7, hg] at this; cases this
      obtain ⟨T2, l1, l2, l3, l4, l5, l6, l7⟩ := lay_ok (v := v) g1 (.inr (by show (growT z T1).moved < T1.row.length; show 0 < T1.row.length; omega)) (g6 key) hel (by rw [g2, g3, g4]; omega)
      simp only
      rw [l1]
      refine ⟨T2, rfl, l2, l3, fun k => ?_, by rw [hg, l5, g3, m6]; rfl, .inl ⟨hg, hb, by rw [l4, g2, m5], by rw [l6, g4, m5]⟩⟩
      rw [l7, g5, m7]
    · rw [if_neg hb]
      have hl : leftT T + 4 * (T.count + 1) ≤ 3 * T.row.length := by
        rcases hlow with h | h
        · exact h
        · omega
      obtain ⟨T2, l1, l2, l3, l4, l5, l6, l7⟩ := lay_ok (v := v) t hr hn hne hl
      exact ⟨T2, l1, l2, l3, l7, by rw [hg, l5]; rfl, .inr ⟨.inr (by omega), l4, l6⟩⟩
/-- Put. -/
theorem put_ok {T : Tb α} (t : TOk T) (key : ByteArray) (v : α) :
    ∃ T', putM z T key v = some T' ∧ TOk T' ∧ Rest T' ∧ (∀ k, getM T' k = if kL k = kL key then some v else getM T k) ∧ T'.count = T.count + (if (getM T key).isSome then 0 else 1) ∧
      ((getM T key = none ∧ 4 * (T.count + 1) > 3 * T.row.length ∧ T'.row.length = 2 * T.row.length ∧ leftT T' = T.row.length ∧ leftT T < 4) ∨ ((getM T key).isSome = true ∨ 4 * (T.count + 1) ≤ 3 * T.row.length) ∧ T'.row.length = T.row.length ∧ leftT T' = leftT T - 4) := by
  obtain ⟨T1, m1, m2, m3, m4, m5, m6, m7⟩ := move_ok (z := z) t 4
  have hld := t.load
  have hlow : leftT T1 + 4 * (T1.count + 1) ≤ 3 * T1.row.length ∨ (T1.elder = [] ∧ 4 * (T1.count + 1) > 3 * T1.row.length) := by
    rw [m5, m6, m4]
    by_cases hb : 4 * (T.count + 1) > 3 * T.row.length
    · refine .inr ⟨?_, hb⟩
      rcases m3 with h | h
      · exact h
      · unfold leftT at m4; unfold leftT at hld; simp at m4; omega
    · refine .inl ?_
      simp; omega
  obtain ⟨T2, p1, p2, p3, p4, p5, p6⟩ := put'_ok (z := z) m2 m3 key v hlow
  unfold putM
  rw [m1]
  refine ⟨T2, p1, p2, p3, fun k => ?_, by rw [p5, m6, m7], ?_⟩
  · rw [p4, m7]
  · rw [m7, m6, m5, m4] at p6
    rcases p6 with ⟨a, b, c, d⟩ | ⟨a, b, c⟩
    · exact .inl ⟨a, b, c, d, by omega⟩
    · exact .inr ⟨a, b, by simpa using c⟩
def newT (z : α) : Tb α := ⟨List.replicate 8 (emptP z), [], 0, 0⟩
theorem new_ok (z : α) : TOk (newT z) ∧ Rest (newT z) ∧ ∀ key, getM (newT z) key = none := by
  have hno : ∀ key j, ¬ Hit (newT z).row key j := fun key j ⟨q, g1, g2, _⟩ => by
    obtain ⟨rfl, _⟩ := repl_get g1
    simp [emptP] at g2
  refine ⟨⟨⟨fun i p h h1 => ?_, fun i j p q h h2 h1 => ?_⟩, fun p hp => ?_, by simp [newT], RowOk.nil, fun h => absurd rfl h, fun i p hi => by simp [newT] at hi, Nat.le_refl _, fun i j p q h h2 => by simp [newT] at h2, ?_, by simp [newT, leftT]⟩, .inl rfl, fun key => get_none (hno key) fun j ⟨q, g1, _⟩ => by simp [newT] at g1⟩
  · obtain ⟨rfl, _⟩ := repl_get h
    simp [emptP] at h1
  · obtain ⟨rfl, _⟩ := repl_get h
    simp [emptP] at h1
  · have := List.eq_of_mem_replicate hp
    subst this; simp [emptP]
  · show cntT (List.replicate 8 (emptP z)) + cntT [] = 0
    rfl
end
end Go.Proofs.Ytoccbnhahaoeiaa.V
namespace Go.Proofs.Ytoccbnhahaoeiaa.V
open Go Go.Proofs
set_option maxRecDepth 100000
def srtRen : Go.Shelf.Ren := ⟨fun | 6 => 80 | 8 => 90 | 9 => 89 | 19 => 101 | 20 => 102 | 21 => 92 | 22 => 93 | 23 => 94 | 24 => 95 | 25 => 96 | 26 => 97 | 27 => 98 | 28 => 99 | 29 => 100 | 36 => 103 | 31 => 104 | 32 => 105 | 37 => 106 | 38 => 107 | 39 => 108 | 41 => 109 | n => n, fun | 27 => 99 | 29 => 9 | 3 => 3 | 32 => 142 | 26 => 99 | 0 => 0 | 44 => 169 | 46 => 109 | 4 => 4 | 36 => 162 | 35 => 161 | 41 => 125 | 5 => 5 | 9 => 9 | 53 => 171 | 57 => 175 | 63 => 177 | 64 => 178 | n => n, fun n => n⟩
theorem srt : SlLaysM.n6 Try.prog srtRen := { mixed := by kernel_rfl, f6 := ⟨Try.f80.name, by decide, Try.func80.trans (congrArg some (by kernel_rfl))⟩, f8 := Try.func90.trans (congrArg some (by kernel_rfl)), f9 := ⟨Try.f89.name, by decide, Try.func89.trans (congrArg some (by kernel_rfl))⟩, f19 := Try.func101.trans (congrArg some (by kernel_rfl)), f20 := Try.func102.trans (congrArg some (by kernel_rfl)), f21 := ⟨Try.f92.name, by decide, Try.func92.trans (congrArg some (by kernel_rfl))⟩, f22 := ⟨Try.f93.name, by decide, Try.func93.trans (congrArg some (by kernel_rfl))⟩, f23 := ⟨Try.f94.name, by decide, Try.func94.trans (congrArg some (by kernel_rfl))⟩, f24 := ⟨Try.f95.name, by decide, Try.func95.trans (congrArg some (by kernel_rfl))⟩, f25 := ⟨Try.f96.name, by decide, Try.func96.trans (congrArg some (by kernel_rfl))⟩, f26 := ⟨Try.f97.name, by decide, Try.func97.trans (congrArg some (by kernel_rfl))⟩, f27 := ⟨Try.f98.name, by decide, Try.func98.trans (congrArg some (by kernel_rfl))⟩, f28 := ⟨Try.f99.name, by decide, Try.func99.trans (congrArg some (by kernel_rfl))⟩, f29 := ⟨Try.f100.name, by decide, Try.func100.trans (congrArg some (by kernel_rfl))⟩, f31 := Try.func104.trans (congrArg some (by kernel_rfl)), f32 := Try.func105.trans (congrArg some (by kernel_rfl)), f36 := ⟨Try.f103.name, by decide, Try.func103.trans (congrArg some (by kernel_rfl))⟩, f37 := ⟨Try.f106.name, by decide, Try.func106.trans (congrArg some (by kernel_rfl))⟩, f38 := ⟨Try.f107.name, by decide, Try.func107.trans (congrArg some (by kernel_rfl))⟩, f39 := ⟨Try.f108.name, by decide, Try.func108.trans (congrArg some (by kernel_rfl))⟩, f41 := ⟨Try.f109.name, by decide, Try.func109.trans (congrArg some (by kernel_rfl))⟩, t0 := Try.underlying0, a0 := Try.isAgg0, z0 := Try.sizeOf0, v0 := Try.zeroValue0, t3 := Try.underlying3, a3 := Try.isAgg3, z3 := Try.sizeOf3, v3 := Try.zeroValue3, t4 := Try.underlying4, a4 := Try.isAgg4, z4 := Try.sizeOf4, v4 := Try.zeroValue4, t5 := Try.underlying5, a5 := Try.isAgg5, z5 := Try.sizeOf5, v5 := Try.zeroValue5, t9 := Try.underlying9, a9 := Try.isAgg9, z9 := Try.sizeOf9, v9 := Try.zeroValue9, t26 := Try.underlying99, a26 := Try.isAgg99, z26 := Try.sizeOf99, v26 := Try.zeroValue99, t27 := Try.underlying99, a27 := Try.isAgg99, z27 := Try.sizeOf99, v27 := Try.zeroValue99, t29 := Try.underlying9, a29 := Try.isAgg9, z29 := Try.sizeOf9, v29 := Try.zeroValue9, t32 := Try.underlying142, a32 := Try.isAgg142, z32 := Try.sizeOf142, v32 := Try.zeroValue142, t35 := Try.underlying161, a35 := Try.isAgg161, z35 := Try.sizeOf161, v35 := Try.zeroValue161, t36 := Try.underlying162, a36 := Try.isAgg162, z36 := Try.sizeOf162, v36 := Try.zeroValue162, t41 := Try.underlying125, a41 := Try.isAgg125, z41 := Try.sizeOf125, v41 := Try.zeroValue125, t44 := Try.underlying169, a44 := Try.isAgg169, z44 := Try.sizeOf169, v44 := Try.zeroValue169, t46 := Try.underlying109, a46 := Try.isAgg109, z46 := Try.sizeOf109, v46 := Try.zeroValue109, t53 := Try.underlying171, a53 := Try.isAgg171, z53 := Try.sizeOf171, v53 := Try.zeroValue171, t57 := Try.underlying175, a57 := Try.isAgg175, z57 := Try.sizeOf175, v57 := Try.zeroValue175, t63 := Try.underlying177, a63 := Try.isAgg177, z63 := Try.sizeOf177, v63 := Try.zeroValue177, t64 := Try.underlying178, a64 := Try.isAgg178, z64 := Try.sizeOf178, v64 := Try.zeroValue178 }
end Go.Proofs.Ytoccbnhahaoeiaa.V
namespace Go.Proofs.Ytoccbnhahaoeiaa.V
open Go Go.Sort
set_option linter.unusedVariables false
set_option linter.unusedSimpArgs false
noncomputable def sortT (ss : List ByteArray) : List ByteArray := ((ss.map fun s => s.data.toList).mergeSort fun x y => decide (x ≤ y)).map fun l => ⟨l.toArray⟩
theorem sortT_len (ss : List ByteArray) : (sortT ss).length = ss.length := by simp [sortT]
theorem enc_str (s : ByteArray) : encStr s.data.toList = .string s := by simp [encStr]
theorem flat_str (ss : List ByteArray) : ss.flatMap cT = (ss.map fun s => s.data.toList).map encStr := by
  rw [List.map_map]
  induction ss with
  | nil => rfl
  | cons a r ih => rw [List.flatMap_cons, ih]; simp [enc_str]
theorem flat_sort (ss : List ByteArray) : (sortT ss).flatMap cT = ((ss.map fun s => s.data.toList).mergeSort fun x y => decide (x ≤ y)).map encStr := by
  rw [flat_str, sortT, List.map_map, List.map_map]
  congr 1
theorem sort_fn {h : H} {s : Sl} {ss : List ByteArray} {f : Nat} {K : Value → H → Prop} (hf : srtRen.f 6 = f) (ow : Owns h s 9 1 (ss.flatMap cT)) (hl : ss.length < 4611686018427387904)
    (k : ∀ h', Owns h' s 9 1 ((sortT ss).flatMap cT) → Only (fun b => s.blk = some b) h h' → K (.tuple #[]) h') : Fn Try.prog f [s.enc].toArray h K := fun w hw => by
  subst hw
  subst hf
  obtain ⟨hlen, ⟨h1, h2, h3⟩ | ⟨g, c, h1, h2, h3, h4, h5, h6⟩⟩ := id ow
  · obtain ⟨sp, sl, sc⟩ := s
    simp only at h1 h2 h3
    subst h1; subst h2; subst h3
    have hs : ss = [] := by
      have := hlen
      rw [flat_len cT 1 cT_len] at this
      simp only at this
      exact List.eq_nil_of_length_eq_zero (by omega)
    subst hs
    have hc := AnyM.slices_Sort_string_none srt none 0 w
    refine callsIn_wide.2 (hc.mono fun e w' ⟨he, hn⟩ => ?_)
    subst he
    subst hn
    refine ⟨_, rfl, Like.refl _, k _ ?_ (.refl _)⟩
    have : sortT [] = [] := by simp [sortT]
    rw [this]
    exact ow
  · obtain ⟨sp, sl, sc⟩ := s
    simp only at h1 h3 h4 h5
    subst h1
    have hsl : sl = ss.length := by
      have := hlen
      rw [flat_len cT 1 cT_len] at this
      simp only at this
      omega
    subst hsl
    have htk : c.toList.take (ss.map fun s => s.data.toList).length = (ss.map fun s => s.data.toList).map encStr := by
      rw [← flat_str, List.length_map]
      rw [flat_len cT 1 cT_len, Nat.mul_one] at h6
      exact h6
    have hH := holds_of_block (w := w) (ss := ss.map fun s => s.data.toList) h2 htk
    have hc := AnyM.slices_Sort_string srt g 0 sc (ss.map fun s => s.data.toList) w hH (Array.getElem?_eq_some_iff.1 h2).1 (by simpa using hl)
    rw [List.length_map] at hc
    refine callsIn_wide.2 (hc.mono fun e w' ⟨he, n, os, hn⟩ => ?_)
    subst he
    have hg : w.grownBy w' (some g) := by rw [hn]; exact grownBy_sorted _
    have hso := heap_sorted (n := n) (os := os) ((ss.map fun s => s.data.toList).mergeSort fun x y => decide (x ≤ y)).toArray h2
    rw [← hn] at hso
    refine ⟨_, rfl, ⟨hg.os, hg.tape, hg.output⟩, k _ ⟨?_, .inr ⟨g, _, rfl, hso, ?_, h4, h5, ?_⟩⟩ ((heap_ext hg).mono fun b _ e => by simpa [Sl.blk] using e)⟩
    · rw [flat_len cT 1 cT_len, sortT_len]
    · simp only [putCells]; simpa using h3
    · rw [flat_len cT 1 cT_len, Nat.mul_one, sortT_len, flat_sort]
      have hlm : ((ss.map fun s => s.data.toList).mergeSort fun x y => decide (x ≤ y)).length = ss.length := by simp
      have := take_putCells c ((ss.map fun s => s.data.toList).mergeSort fun x y => decide (x ≤ y)) (by rw [hlm]; omega)
      rw [hlm] at this
      exact this
end Go.Proofs.Ytoccbnhahaoeiaa.V
namespace Go.Proofs.Ytoccbnhahaoeiaa.V
open Go
set_option linter.unusedVariables false
set_option linter.unusedSimpArgs false
set_option maxRecDepth 20000
def hstep (h : Nat) (c : UInt8) : Nat := ((h ^^^ c.toNat) * 1099511628211) % 18446744073709551616
theorem hash_step {x : Nat} (c : UInt8) (hx : x < 18446744073709551616) : IntKind.wrap .u64 ((bitsOf .xor .u64 (x : Int) (IntKind.wrap .u64 (c.toNat : Int))) * 1099511628211) = ((hstep x c : Nat) : Int) := by
  have hb : c.toNat < 256 := c.toNat_lt
  have e2 : IntKind.wrap .u64 (c.toNat : Int) = ((c.toNat : Nat) : Int) := by rw [wrap_u64]; omega
  rw [e2]
  simp only [bitsOf]
  rw [BitVec.ofInt_natCast, BitVec.ofInt_natCast, BitVec.toNat_xor, BitVec.toNat_ofNat, BitVec.toNat_ofNat, wrap_u64, wrap_u64]
  have e3 : x % 2 ^ (IntKind.bits .u64) = x := Nat.mod_eq_of_lt (by simpa [IntKind.bits] using hx)
  have e4 : c.toNat % 2 ^ (IntKind.bits .u64) = c.toNat := Nat.mod_eq_of_lt (by simp [IntKind.bits]; omega)
  rw [e3, e4]
  have hlt : x ^^^ c.toNat < 2 ^ 64 := Nat.xor_lt_two_pow (by omega) (by omega)
  unfold hstep
  generalize x ^^^ c.toNat = y at *
  omega
theorem hstep_lt (h : Nat) (c : UInt8) : hstep h c < 18446744073709551616 := Nat.mod_lt _ (by omega)
theorem hashL_eq (l : List UInt8) : hashL l = l.foldl hstep 14695981039346656037 := rfl
theorem hash_loop {h : H} {s : Sl} {l : List UInt8} {z : Nat} {Q : Int → H → Prop} (rd : Reads h s 1 (l.flatMap cU)) (hl : l.length ≤ 9223372036854775807) (k : Q (z : Int) h) :
    ∀ (m i : Nat) (x : Nat), i ≤ l.length → l.length - i < m → x < 18446744073709551616 → (l.drop i).foldl hstep x = z → F.table_Hash.l1 Q m (x : Int) s (s.len : Int) (i : Int) h
  | 0, i, x, h1, h2, _, _ => by omega
  | m + 1, i, x, h1, h2, hlt, hx => by
    unfold F.table_Hash.l1
    have hlen := rd_len cU_len (by omega) rd
    rw [hlen]
    simp only [decide_eq_true_eq, decide_eq_false_iff_not]
    refine ⟨fun g => ?_, fun g => ?_⟩
    · obtain ⟨c, hc⟩ : ∃ c, l[i]? = some c := ⟨_, List.getElem?_eq_getElem (by omega)⟩
      obtain ⟨p, q1, q2, q3⟩ := rd_at cU_len (by omega) rd hc
      refine idxR_of q1 (by omega) rfl ?_
      rw [ldI_iff (by have := q3.one; rwa [Nat.mul_one] at this ⊢), hash_step c hlt, w64 (by omega) (by omega)]
      have := hash_loop rd hl k m (i + 1) (hstep x c) (by omega) (by omega) (hstep_lt x c) (by
        rw [← hx, List.drop_eq_getElem_cons (show i < l.length by omega), List.foldl_cons]
        have : l[i] = c := by have := (List.getElem?_eq_some_iff.1 hc).2; exact this
        rw [this])
      rw [hlen] at this
      exact this
    · have : i = l.length := by omega
      subst this
      rw [List.drop_length] at hx
      cases hx
      exact k
theorem Hash_spec {h : H} {key : ByteArray} {Q : Int → H → Prop} (hk : key.size ≤ 9223372036854775807) (k : ∀ h', Ext h h' → Q ((hashM key : Nat) : Int) h') : F.table_Hash key h Q := by
  unfold F.table_Hash
  refine cvtL_of Try.underlying9 el_Sluint8.slice Try.underlying5 fun r h' rd hc e _ => ?_
  refine ⟨key.data.toList.length + 1, ?_⟩
  have := hash_loop (Q := Q) (z := hashM key) rd (by rw [← size_data]; exact hk) (k h' e) (key.data.toList.length + 1) 0 14695981039346656037 (by omega) (by omega) (by omega) (by rw [List.drop_zero]; unfold hashM; rw [hashL_eq])
  exact this
abbrev SmallK (k : ByteArray) : Prop := k.size ≤ 9223372036854775807
abbrev BIG : Nat := 1099511627776
theorem probe_lt {α : Type} {R : List (Pl α)} {key : ByteArray} : ∀ (f i : Nat) (r : Nat × Bool), probe R key f i = some r → r.1 < R.length
  | 0, i, r, h => by cases h
  | f + 1, i, r, h => by
    unfold probe at h
    cases hp : R[i]? with
    | none => rw [hp] at h; cases h
    | some p =>
      have hi := (List.getElem?_eq_some_iff.1 hp).1
      rw [hp] at h
      simp only at h
      split at h
      · cases h; exact hi
      · split at h
        · cases h; exact hi
        · exact probe_lt f _ r h
theorem find_lt {α : Type} {R : List (Pl α)} {key : ByteArray} {r : Nat × Bool} (h0 : R ≠ []) (h : findM R key = some r) : r.1 < R.length := by
  unfold findM at h
  rw [if_neg (fun e => h0 (List.eq_nil_of_length_eq_zero e))] at h
  exact probe_lt _ _ _ h
/-- Block n is a row of things of type e. -/
def WB (h : H) (n : Nat) (e : TypeId) : Prop := ∃ c, Blk h n c e
theorem WB.ne {h : H} {a b : Nat} {e e' : TypeId} (x : WB h a e) (y : WB h b e') (n : e ≠ e') : a ≠ b := fun hab => by
  obtain ⟨c, hc⟩ := x
  obtain ⟨d, hd⟩ := y
  subst hab
  unfold Blk at hc hd
  rw [hc] at hd
  simp at hd
  exact n hd.2
theorem Owns.typ {h : H} {s : Sl} {e : TypeId} {size : Nat} {cs : List Value} (o : Owns h s e size cs) {b : Nat} (hb : s.blk = some b) : WB h b e := by
  obtain ⟨_, ⟨h1, _⟩ | ⟨b', c', h1, h2, _⟩⟩ := o
  · simp [Sl.blk, h1] at hb
  · simp [Sl.blk, h1] at hb; subst hb; exact ⟨c', h2⟩
def KB {α : Type} (R : List (Pl α)) : Prop := ∀ (i : Nat) (p : Pl α), R[i]? = some p → SmallK p.key
theorem KB.set {α : Type} {R : List (Pl α)} (k : KB R) {i : Nat} {p : Pl α} (hp : SmallK p.key) : KB (R.set i p) := fun j q hq => by
  rcases set_get hq with ⟨_, rfl, _⟩ | ⟨_, hq⟩
  · exact hp
  · exact k j q hq
/-- The blocks of a table. -/
def FT (n : Nat) (rs es : Sl) (b : Nat) : Prop := b = n ∨ rs.blk = some b ∨ es.blk = some b
structure Stp (h : H) (n : Nat) (rs es : Sl) (h' : H) (rs' es' : Sl) : Prop where
  only : Only (FT n rs es) h h'
  new : ∀ b, FT n rs' es' b → FT n rs es b ∨ h.size ≤ b
theorem Stp.refl (h : H) (n : Nat) (rs es : Sl) : Stp h n rs es h rs es := ⟨.refl _, fun b hb => .inl hb⟩
theorem Stp.trans {h h' h'' : H} {n : Nat} {rs es rs' es' rs'' es'' : Sl} (a : Stp h n rs es h' rs' es') (b : Stp h' n rs' es' h'' rs'' es'') : Stp h n rs es h'' rs'' es'' :=
  ⟨a.only.trans b.only fun m hm hf => (a.new m hf).resolve_right (by omega), fun m hm => by
    rcases b.new m hm with h1 | h1
    · exact a.new m h1
    · exact .inr (Nat.le_trans a.only.size h1)⟩
theorem Stp.ext {h h' h'' : H} {n : Nat} {rs es rs' es' : Sl} (a : Stp h n rs es h' rs' es') (e : Ext h' h'') : Stp h n rs es h'' rs' es' := ⟨a.only.ext e, a.new⟩
theorem Stp.of_ext {h h' : H} {n : Nat} {rs es : Sl} (e : Ext h h') : Stp h n rs es h' rs es := ⟨e.only, fun b hb => .inl hb⟩
theorem made3 (a b c : Value) (n : Nat) : (madeCells #[a, b, c] (n * 3)).toList = (List.replicate n [a, b, c]).flatten := by
    apply List.ext_getElem?
    intro j
    have hfl : (List.replicate n [a, b, c]).flatten = (List.replicate n ()).flatMap fun _ => [a, b, c] := by
      rw [List.flatMap, List.map_replicate]
    rw [hfl]
    by_cases hj : j < n * 3
    · have hd : j = (j / 3) * 3 + j % 3 := by omega
      have hu : (List.replicate n ())[j / 3]? = some () := by rw [List.getElem?_replicate, if_pos (by omega)]
      have := flat_get (fun _ : Unit => [a, b, c]) 3 (fun _ => rfl) (List.replicate n ()) (j / 3) () hu (j % 3) (by omega)
      rw [← hd] at this
      rw [this]
      simp only [madeCells, Array.getElem?_toList]
      have hm : j % 3 < 3 := by omega
      simp [hj]
      rcases (show j % 3 = 0 ∨ j % 3 = 1 ∨ j % 3 = 2 by omega) with h | h | h <;> simp [h]
    · rw [List.getElem?_eq_none (by simp [size_madeCells]; omega), List.getElem?_eq_none (by rw [flat_len _ 3 (fun _ => rfl)]; simp; omega)]
theorem KB.nil {α : Type} : KB ([] : List (Pl α)) := fun i p hp => by simp at hp
theorem set3 {cs : List Value} {o : Nat} {a b v : Value} (ha : cs[o]? = some a) (hb : cs[o + 1]? = some b) : cs.take (o + 2) ++ [v] ++ cs.drop (o + 2 + [v].length) = cs.take o ++ [a, b, v] ++ cs.drop (o + [a, b, v].length) := by
  rw [List.take_add_one (i := o + 1), List.take_add_one (i := o), ha, hb]
  simp
theorem put_only (h : H) (l : Nat) (o : Obj) : Only (· = l) h (put h l o) := ⟨by simp [put], fun b hb hn => by
  unfold put
  rw [Array.getElem?_setIfInBounds_ne (fun e => hn e.symm)]⟩
theorem putAt_ {h : H} {l : Nat} {o o' : Obj} (hl : h[l]? = some o') : (put h l o)[l]? = some o := by
  have := (Array.getElem?_eq_some_iff.1 hl).1
  unfold put
  rw [Array.getElem?_setIfInBounds_self_of_lt this]
theorem nodup_len : ∀ {E L : List Nat}, E.Nodup → (∀ e ∈ E, e ∈ L) → E.length ≤ L.length
  | [], L, _, _ => Nat.zero_le _
  | e :: E, L, h, hs => by
    rw [List.nodup_cons] at h
    have he := hs e (by simp)
    have := nodup_len (E := E) (L := L.erase e) h.2 fun x hx => (List.mem_erase_of_ne (show x ≠ e from fun hxe => h.1 (by rw [← hxe]; exact hx))).2 (hs x (by simp [hx]))
    rw [List.length_erase_of_mem he] at this
    have hpos : 0 < L.length := List.length_pos_of_mem he
    simp only [List.length_cons]; omega
/-- What holds while keys are gathered: o: the heap's size when it began. -/
structure KG (h : H) (o b : Nat) (M D : List (ByteArray × Value)) (h' : H) : Prop where
  ext : Ext h h'
  box : ∃ s : Sl, Blk h' o #[s.enc] tn_Slstring ∧ Owns h' s 9 1 ((D.map (·.1)).flatMap cT) ∧ ∀ n, s.blk = some n → o + 4 ≤ n
  dfr : h'[o + 1]? = some (.deferred (some []))
  it : ItH h' (o + 3) b M D
  size : o + 3 < h'.size
theorem KG.only {h h' h'' : H} {o b : Nat} {M D : List (ByteArray × Value)} (k : KG h o b M D h') (ho : h.size ≤ o) (hb : b < o) (e : Only (· = o + 2) h' h'') : KG h o b M D h'' := by
  obtain ⟨s, s1, s2, s3⟩ := k.box
  exact ⟨k.ext.step e fun n hn hf => by omega, ⟨s, e.block s1 (by omega), s2.only e fun n hn hf => by have := s3 n hn; omega, s3⟩, e.block k.dfr (by omega), k.it.only e (by omega) (by omega), by have := k.size; have := e.size; omega⟩
theorem put_new {M : List (ByteArray × Value)} {k : ByteArray} {v : Value} (h : k ∉ M.map (·.1)) : putK M k v = M ++ [(k, v)] := by
  unfold putK
  have : (M.findIdx? fun p => k == p.1) = none := by
    rw [List.findIdx?_eq_none_iff]
    intro p hp
    exact ba_ne fun e => h (List.mem_map.2 ⟨p, hp, e.symm⟩)
  rw [this]
theorem getK_mem {M : List (ByteArray × Value)} {k : ByteArray} {v : Value} (hn : (M.map (·.1)).Nodup) (h : (k, v) ∈ M) : getK M k = some v := by
  induction M with
  | nil => cases h
  | cons p M ih =>
    rw [List.map_cons, List.nodup_cons] at hn
    unfold getK
    rw [List.find?_cons]
    rcases List.mem_cons.1 h with rfl | h
    · simp [ba_self]
    · have : ¬ k = p.1 := fun e => hn.1 (List.mem_map.2 ⟨(k, v), h, e⟩)
      rw [ba_ne this]
      exact ih hn.2 h
theorem sortT_perm {A B : List ByteArray} (h : A.Perm B) : sortT A = sortT B := by
  unfold sortT
  rw [show ((A.map fun s => s.data.toList).mergeSort fun x y => decide (x ≤ y)) = ((B.map fun s => s.data.toList).mergeSort fun x y => decide (x ≤ y)) from mergeSort_of_perm (h.map _)]
theorem sortT_mem {A : List ByteArray} {k : ByteArray} : k ∈ sortT A ↔ k ∈ A := by
  unfold sortT
  rw [List.mem_map]
  constructor
  · rintro ⟨l, hl, rfl⟩
    have := (List.mergeSort_perm _ _).mem_iff.1 hl
    obtain ⟨s, hs, rfl⟩ := List.mem_map.1 this
    simpa using hs
  · intro h
    exact ⟨k.data.toList, (List.mergeSort_perm _ _).mem_iff.2 (List.mem_map.2 ⟨k, h, rfl⟩), by simp⟩
def SQF (ka ma b : Nat) (r : Sl) (n : Nat) : Prop := n = ka ∨ n = ma ∨ n = b ∨ r.blk = some n
end Go.Proofs.Ytoccbnhahaoeiaa.V
namespace Go.Proofs.Ytoccbnhahaoeiaa.V.P
open Go Go.Proofs.Ytoccbnhahaoeiaa.V
set_option linter.unusedVariables false
set_option linter.unusedSimpArgs false
set_option maxRecDepth 20000
abbrev nilA : Option Addr := none
abbrev cP (p : Pl (Option Addr)) : List Value := [.int .u8 (p.is_ : Int), .string p.key, .pointer p.value]
theorem cP_len (p : Pl (Option Addr)) : (cP p).length = 3 := rfl
theorem home_spec {h : H} {s : Sl} {α : Type} {R : List (Pl α)} {key : ByteArray} {Q : Int → H → Prop} (hs : s.len = R.length) (h0 : 0 < R.length) (hb : R.length ≤ BIG) (hk : SmallK key) (k : ∀ h', Ext h h' → Q ((homeM R key : Nat) : Int) h') : F.table_home_chain_Chain_api_Agg s key h Q := by
  unfold F.table_home_chain_Chain_api_Agg
  refine Hash_spec hk fun h1 e1 => ?_
  have hw : IntKind.wrap .u64 (s.len : Int) = ((R.length : Nat) : Int) := by rw [wrap_u64, hs]; simp only [BIG] at hb; omega
  rw [hw]
  refine ⟨by omega, ?_⟩
  rw [← Int.ofNat_tmod]
  have hl := home_lt (R := R) (key := key) h0
  unfold homeM at hl
  rw [w64 (by omega) (by simp only [BIG] at hb; omega)]
  exact k h1 e1
theorem probe_loop {h : H} {s : Sl} {R : List (Pl (Option Addr))} {key : ByteArray} {Q : Int → Bool → H → Prop} (rd : Reads h s 3 (R.flatMap cP)) (hb : R.length ≤ BIG) :
    ∀ (f i : Nat) (r : Nat × Bool), probe R key f i = some r → Q ((r.1 : Nat) : Int) r.2 h → F.table_find_chain_Chain_api_Agg.l1 Q f s key (i : Int) h
  | 0, i, r, hp, k => by cases hp
  | f + 1, i, r, hp, k => by
    unfold probe at hp
    unfold F.table_find_chain_Chain_api_Agg.l1
    have hlen := rd_len cP_len (by omega) rd
    cases hpi : R[i]? with
    | none => rw [hpi] at hp; cases hp
    | some p =>
      have hi := (List.getElem?_eq_some_iff.1 hpi).1
      rw [hpi] at hp
      simp only at hp
      obtain ⟨a, q1, q2, q3⟩ := rd_at cP_len (by omega) rd hpi
      have c0 := q3 0 _ rfl
      have c1 := q3 1 _ rfl
      refine idxR_of q1 (by omega) rfl ?_
      rw [ldI_iff c0]
      simp only [bne_iff_ne, ne_eq, bne_eq_false_iff_eq, beq_iff_eq, beq_eq_false_iff_ne]
      by_cases h0 : p.is_ = 0
      · rw [if_pos h0] at hp
        cases hp
        exact ⟨fun g => absurd (by omega) g, fun _ => k⟩
      · rw [if_neg h0] at hp
        refine ⟨fun _ => ?_, fun g => absurd g (by omega)⟩
        refine idxR_of q1 (by omega) rfl ?_
        rw [ldI_iff c0]
        have next : ∀ (x : Bool), ¬ (x = true) → ¬ (p.is_ = 1 ∧ kL p.key = kL key) → F.table_find_chain_Chain_api_Agg.j3 Q (F.table_find_chain_Chain_api_Agg.l1 Q f) s key (i : Int) x h := fun x hx hn => by
          rw [if_neg hn] at hp
          unfold F.table_find_chain_Chain_api_Agg.j3
          refine ⟨fun g => absurd g hx, fun _ => ?_⟩
          unfold F.table_find_chain_Chain_api_Agg.j2
          simp only [BIG] at hb
          refine ⟨by omega, ?_⟩
          rw [w64 (by omega) (by omega), hlen, show (i : Int) + 1 = ((i + 1 : Nat) : Int) from by omega, ← Int.ofNat_tmod]
          exact probe_loop rd hb f _ r hp k
        refine ⟨fun g => ?_, fun g => ?_⟩
        · refine idxR_of q1 (by omega) rfl ?_
          rw [ldS_iff c1, toList_data, toList_data]
          by_cases hk : kL p.key = kL key
          · rw [if_pos ⟨by omega, hk⟩] at hp
            cases hp
            rw [show (p.key.data.toList == key.data.toList) = true from by simpa using hk]
            exact ⟨fun _ => k, fun h => by cases h⟩
          · rw [show (p.key.data.toList == key.data.toList) = false from by simpa using hk]
            exact next _ (by simp) fun h => hk h.2
        · exact next _ (by simp) fun h => g (by omega)
theorem find_spec {h : H} {s : Sl} {R : List (Pl (Option Addr))} {key : ByteArray} {Q : Int → Bool → H → Prop} {r : Nat × Bool} (rd : Reads h s 3 (R.flatMap cP)) (hb : R.length ≤ BIG) (hk : SmallK key) (hf : findM R key = some r) (k : ∀ h', Ext h h' → Q ((r.1 : Nat) : Int) r.2 h') : F.table_find_chain_Chain_api_Agg s key h Q := by
  unfold F.table_find_chain_Chain_api_Agg
  unfold findM at hf
  have hlen := rd_len cP_len (by omega) rd
  simp only [beq_iff_eq, beq_eq_false_iff_ne]
  by_cases h0 : R.length = 0
  · rw [if_pos h0] at hf
    cases hf
    exact ⟨fun _ => k h (.refl _), fun g => absurd (by omega) g⟩
  · rw [if_neg h0] at hf
    refine ⟨fun g => absurd g (by omega), fun _ => ?_⟩
    refine home_spec (R := R) hlen (by omega) hb hk fun h1 e1 => ?_
    exact ⟨R.length + 1, probe_loop (rd.ext e1) hb _ _ r hf (k h1 e1)⟩
end Go.Proofs.Ytoccbnhahaoeiaa.V.P
namespace Go.Proofs.Ytoccbnhahaoeiaa.V.P
open Go Go.Proofs.Ytoccbnhahaoeiaa.V
set_option linter.unusedVariables false
set_option linter.unusedSimpArgs false
set_option maxRecDepth 20000
structure TH (h : H) (n : Nat) (rs es : Sl) (T : Tb (Option Addr)) : Prop where
  tb : Blk h n #[rs.enc, es.enc, .int .i64 (T.moved : Int), .int .i64 (T.count : Int)] tn_table_Table_chain_Chain_api_Agg
  row : Owns h rs tn_table_place_chain_Chain_api_Agg 3 (T.row.flatMap cP)
  el : Owns h es tn_table_place_chain_Chain_api_Agg 3 (T.elder.flatMap cP)
  ne : ∀ b, rs.blk = some b → es.blk ≠ some b
  kr : KB T.row
  ke : KB T.elder
  pos : T.row ≠ []
  br : T.row.length ≤ BIG
  be : T.elder.length ≤ BIG
  bc : T.count ≤ BIG
  bm : T.moved ≤ T.elder.length
section
variable {h h' : H} {n : Nat} {rs es : Sl} {T : Tb (Option Addr)}
theorem TH.c0 (t : TH h n rs es T) : cellH h ⟨n, 0, none⟩ = some rs.enc := t.tb.cell rfl
theorem TH.c1 (t : TH h n rs es T) : cellH h ⟨n, 1, none⟩ = some es.enc := t.tb.cell rfl
theorem TH.c2 (t : TH h n rs es T) : cellH h ⟨n, 2, none⟩ = some (.int .i64 (T.moved : Int)) := t.tb.cell rfl
theorem TH.c3 (t : TH h n rs es T) : cellH h ⟨n, 3, none⟩ = some (.int .i64 (T.count : Int)) := t.tb.cell rfl
theorem TH.nr (t : TH h n rs es T) : ∀ b, rs.blk = some b → b ≠ n := fun b hb => (t.row.typ hb).ne ⟨_, t.tb⟩ (by decide)
theorem TH.nel (t : TH h n rs es T) : ∀ b, es.blk = some b → b ≠ n := fun b hb => (t.el.typ hb).ne ⟨_, t.tb⟩ (by decide)
theorem TH.rlen (t : TH h n rs es T) : rs.len = T.row.length := own_len cP_len (by omega) t.row
theorem TH.elen (t : TH h n rs es T) : es.len = T.elder.length := own_len cP_len (by omega) t.el
theorem TH.lt (t : TH h n rs es T) : ∀ b, FT n rs es b → b < h.size := fun b hb => by
  rcases hb with rfl | hb | hb
  · exact block_lt t.tb
  · exact t.row.blk_lt hb
  · exact t.el.blk_lt hb
theorem TH.only (t : TH h n rs es T) {S : Nat → Prop} (o : Only S h h') (hn : ∀ b, FT n rs es b → ¬ S b) : TH h' n rs es T :=
  ⟨o.block t.tb (hn n (.inl rfl)), t.row.only o fun b hb => hn b (.inr (.inl hb)), t.el.only o fun b hb => hn b (.inr (.inr hb)), t.ne, t.kr, t.ke, t.pos, t.br, t.be, t.bc, t.bm⟩
theorem TH.ext (t : TH h n rs es T) (e : Ext h h') : TH h' n rs es T := t.only e fun _ _ f => f
/-- A place of the row is written. -/
theorem TH.set_row (t : TH h n rs es T) {i b : Nat} {p : Pl (Option Addr)} {K : H → Prop} (hp : rs.ptr = some ⟨b, 0, none⟩) (hi : i < T.row.length) (hk : SmallK p.key)
    (k : ∀ h', TH h' n rs es { T with row := T.row.set i p } → Stp h n rs es h' rs es → K h') : stH h ⟨b, i * 3, none⟩ (cP p) K :=
  own_setAt cP_len t.row hp hi fun h1 o1 e1 _ => k h1 ⟨e1.block t.tb fun hb => t.nr _ hb rfl, o1, t.el.only e1 fun b' hb hb' => t.ne b' hb' hb, t.ne, t.kr.set hk, t.ke, by
    have := t.pos; intro hnil; exact this (by simpa using hnil), by simpa using t.br, t.be, t.bc, t.bm⟩ ⟨e1.mono fun b' _ hb => .inr (.inl hb), fun b' hb => .inl hb⟩
theorem TH.set_el (t : TH h n rs es T) {i b : Nat} {p : Pl (Option Addr)} {K : H → Prop} (hp : es.ptr = some ⟨b, 0, none⟩) (hi : i < T.elder.length) (hk : SmallK p.key)
    (k : ∀ h', TH h' n rs es { T with elder := T.elder.set i p } → Stp h n rs es h' rs es → K h') : stH h ⟨b, i * 3, none⟩ (cP p) K :=
  own_setAt cP_len t.el hp hi fun h1 o1 e1 _ => k h1 ⟨e1.block t.tb fun hb => t.nel _ hb rfl, t.row.only e1 fun b' hb hb' => t.ne b' hb hb', o1, t.ne, t.kr, t.ke.set hk, t.pos, t.br, by simpa using t.be, t.bc, by simpa using t.bm⟩ ⟨e1.mono fun b' _ hb => .inr (.inr hb), fun b' hb => .inl hb⟩
theorem TH.row_at (t : TH h n rs es T) {i : Nat} {p : Pl (Option Addr)} (hp : T.row[i]? = some p) : ∃ b, rs.ptr = some ⟨b, 0, none⟩ ∧ Cells h ⟨b, i * 3, none⟩ (cP p) := own_at cP_len (by omega) t.row hp
theorem TH.el_at (t : TH h n rs es T) {i : Nat} {p : Pl (Option Addr)} (hp : T.elder[i]? = some p) : ∃ b, es.ptr = some ⟨b, 0, none⟩ ∧ Cells h ⟨b, i * 3, none⟩ (cP p) := own_at cP_len (by omega) t.el hp
/-- A cell of the table's own block is written. -/
theorem TH.stn (t : TH h n rs es T) {j : Nat} {v : Value} {K : H → Prop} (hj : j < 4)
    (k : ∀ h', Blk h' n ((#[rs.enc, es.enc, .int .i64 (T.moved : Int), .int .i64 (T.count : Int)] : Array Value).setIfInBounds j v) tn_table_Table_chain_Chain_api_Agg → Only (· = n) h h' → Owns h' rs tn_table_place_chain_Chain_api_Agg 3 (T.row.flatMap cP) → Owns h' es tn_table_place_chain_Chain_api_Agg 3 (T.elder.flatMap cP) → K h') : stH h ⟨n, j, none⟩ [v] K :=
  stH_of t.tb (by show j + 1 ≤ 4; omega) fun h1 b1 e1 _ => k h1 b1 e1 (t.row.only e1 fun b hb hn => t.nr b hb hn) (t.el.only e1 fun b hb hn => t.nel b hb hn)
theorem TH.st_moved (t : TH h n rs es T) {m : Nat} {x : Int} {K : H → Prop} (hx : x = (m : Int)) (hm : m ≤ T.elder.length) (k : ∀ h', TH h' n rs es { T with moved := m } → Stp h n rs es h' rs es → K h') : stH h ⟨n, 2, none⟩ [.int .i64 x] K := by
  subst hx
  exact t.stn (by omega) fun h1 b1 e1 o1 o2 => k h1 ⟨b1, o1, o2, t.ne, t.kr, t.ke, t.pos, t.br, t.be, t.bc, hm⟩ ⟨e1.mono fun b _ hb => .inl hb, fun b hb => .inl hb⟩
theorem TH.st_count (t : TH h n rs es T) {m : Nat} {x : Int} {K : H → Prop} (hx : x = (m : Int)) (hm : m ≤ BIG) (k : ∀ h', TH h' n rs es { T with count := m } → Stp h n rs es h' rs es → K h') : stH h ⟨n, 3, none⟩ [.int .i64 x] K := by
  subst hx
  exact t.stn (by omega) fun h1 b1 e1 o1 o2 => k h1 ⟨b1, o1, o2, t.ne, t.kr, t.ke, t.pos, t.br, t.be, hm, t.bm⟩ ⟨e1.mono fun b _ hb => .inl hb, fun b hb => .inl hb⟩
theorem Left_spec (t : TH h n rs es T) {Q : Int → H → Prop} (k : Q ((leftT T : Nat) : Int) h) : F.table_Table_chain_Chain_api_Agg_Left (some ⟨n, 0, none⟩) h Q := by
  unfold F.table_Table_chain_Chain_api_Agg_Left
  simp only [nn_some, add_lit, Nat.zero_add]
  rw [ldL_iff t.c1, ldI_iff t.c2, t.elen]
  have := t.bm
  have := t.be
  simp only [BIG] at this
  rw [w64 (by omega) (by omega)]
  rw [show ((leftT T : Nat) : Int) = (T.elder.length : Int) - (T.moved : Int) from by unfold leftT; omega] at k
  exact k
end
theorem Move_loop {n : Nat} {Q : Int → H → Prop} : ∀ (m : Nat) (h : H) (rs es : Sl) (T T1 : Tb (Option Addr)) (x1 : Int), TH h n rs es T → moveN nilA x1.toNat T = some T1 → x1 < 9223372036854775808 → x1.toNat < m →
    (∀ h' es', TH h' n rs es' (finT T1) → Stp h n rs es h' rs es' → Q ((leftT (finT T1) : Nat) : Int) h') → F.table_Table_chain_Chain_api_Agg_Move.l1 Q m (some ⟨n, 0, none⟩) x1 h
  | 0, h, rs, es, T, T1, x1, t, hm, hx, hf, k => by omega
  | m + 1, h, rs, es, T, T1, x1, t, hm, hx, hf, k => by
    unfold F.table_Table_chain_Chain_api_Agg_Move.l1
    simp only [nn_some, add_lit, Nat.zero_add]
    rw [ldI_iff t.c2, ldL_iff t.c1, t.elen]
    have hbe := t.be
    simp only [BIG] at hbe
    have stop : ∀ C1, T1 = T → F.table_Table_chain_Chain_api_Agg_Move.j5 Q C1 (some ⟨n, 0, none⟩) x1 false h := fun C1 e => by
      subst e
      unfold F.table_Table_chain_Chain_api_Agg_Move.j5
      refine ⟨(fun h => by cases h), fun _ => ?_⟩
      simp only [nn_some, add_lit, Nat.zero_add]
      rw [ldI_iff t.c2, ldL_iff t.c1, t.elen]
      simp only [beq_iff_eq, beq_eq_false_iff_ne]
      unfold F.table_Table_chain_Chain_api_Agg_Move.j6
      refine ⟨fun g => ?_, fun g => ?_⟩
      · refine t.stn (by omega) fun h1 b1 e1 o1 o2 => ?_
        have hfin : finT T1 = ⟨T1.row, [], 0, T1.count⟩ := by unfold finT; rw [if_pos (by omega)]
        refine stH_of b1 (by simp) fun h2 b2 e2 _ => ?_
        have t2 : TH h2 n rs ⟨none, 0, 0⟩ (finT T1) := by
          rw [hfin]
          exact ⟨b2, o1.only e2 fun b hb hn => t.nr b hb hn, Owns.nil _ _ _, fun b hb => by simp [Sl.blk], t.kr, fun i p hi => by simp at hi, t.pos, t.br, by simp, t.bc, by simp⟩
        have s2 : Stp h n rs es h2 rs ⟨none, 0, 0⟩ := ⟨(e1.mono fun b _ hb => .inl hb).trans (e2.mono fun b _ hb => .inl hb) fun _ _ hb => hb, fun b hb => by
          rcases hb with hb | hb | hb
          · exact .inl (.inl hb)
          · exact .inl (.inr (.inl hb))
          · simp [Sl.blk] at hb⟩
        exact Left_spec t2 (k h2 _ t2 s2)
      · have hfin : finT T1 = T1 := by unfold finT; rw [if_neg (by omega)]
        have t2 : TH h n rs es (finT T1) := by rw [hfin]; exact t
        exact Left_spec t2 (k h _ t2 (.refl _ _ _ _))
    by_cases hx0 : x1 > 0
    · refine ⟨fun _ => ?_, fun g => by simp at g; omega⟩
      obtain ⟨c, hc⟩ : ∃ c, x1.toNat = c + 1 := ⟨x1.toNat - 1, by omega⟩
      rw [hc] at hm
      unfold moveN at hm
      by_cases hlt : T.moved < T.elder.length
      · rw [if_pos hlt] at hm
        rw [show decide ((T.moved : Int) < (T.elder.length : Int)) = true from by simpa using hlt]
        unfold F.table_Table_chain_Chain_api_Agg_Move.j5
        refine ⟨fun _ => ?_, fun h => by cases h⟩
        unfold F.table_Table_chain_Chain_api_Agg_Move.j2
        simp only [nn_some, add_lit, Nat.zero_add]
        obtain ⟨p, hp⟩ : ∃ p, T.elder[T.moved]? = some p := ⟨_, List.getElem?_eq_getElem hlt⟩
        obtain ⟨be, q1, q2⟩ := t.el_at hp
        have step : ∀ (h1 : H) (T2 : Tb (Option Addr)), TH h1 n rs es T2 → Stp h n rs es h1 rs es → T2.moved = T.moved → T2.elder.length = T.elder.length → moveN nilA c { T2 with moved := T2.moved + 1 } = some T1 → F.table_Table_chain_Chain_api_Agg_Move.j4 Q (F.table_Table_chain_Chain_api_Agg_Move.l1 Q m) (some ⟨n, 0, none⟩) x1 h1 := fun h1 T2 t2 s2 em el hm2 => by
          unfold F.table_Table_chain_Chain_api_Agg_Move.j4
          simp only [nn_some, add_lit, Nat.zero_add]
          rw [ldI_iff t2.c2]
          refine t2.st_moved (m := T2.moved + 1) (by rw [w64 (by omega) (by omega)]; omega) (by omega) fun h2 t3 s3 => ?_
          unfold F.table_Table_chain_Chain_api_Agg_Move.j3
          rw [w64 (by omega) (by omega)]
          refine Move_loop m h2 rs es _ T1 (x1 - 1) t3 ?_ (by omega) (by omega) fun h' es' t4 s4 => k h' es' t4 ((s2.trans s3).trans s4)
          rw [show (x1 - 1).toNat = c from by omega]
          exact hm2
        rw [ldL_iff t.c1, ldI_iff t.c2]
        refine idxA_of q1 (by rw [t.elen]; exact hlt) rfl ?_
        have c0 := q2 0 _ rfl
        have c1 := q2 1 _ rfl
        rw [ldI_iff c0]
        unfold move1 at hm
        rw [hp] at hm
        simp only at hm
        simp only [beq_iff_eq, beq_eq_false_iff_ne]
        by_cases h1 : p.is_ = 1
        · rw [if_pos h1] at hm
          refine ⟨fun _ => ?_, fun g => absurd (by omega) g⟩
          cases hfr : findM T.row p.key with
          | none => rw [hfr] at hm; cases hm
          | some r =>
            rw [hfr] at hm
            simp only at hm
            rw [ldL_iff t.c0, ldS_iff c1]
            refine find_spec t.row.reads t.br (t.ke _ p hp) hfr fun h1 e1 => ?_
            have t1 := t.ext e1
            rw [ldL_iff t1.c0]
            have q3 : Cells h1 ⟨be, T.moved * 3, none⟩ (cP p) := q2.ext e1
            refine ⟨⟨(p.is_ : Int), p.key, p.value⟩, q3, ?_⟩
            have hr := find_lt t.pos hfr
            obtain ⟨br, u1, _⟩ := t1.row_at (List.getElem?_eq_getElem hr)
            refine idxA_of u1 (by rw [t.rlen]; exact hr) rfl ?_
            refine t1.set_row u1 hr (t.ke _ p hp) fun h2 t2 s2 => ?_
            refine t2.set_el (p := goneP nilA) (i := T.moved) q1 hlt (by show (0 : Nat) ≤ _; decide) fun h3 t3 s3 => ?_
            exact step h3 _ t3 ((Stp.of_ext e1).trans (s2.trans s3)) rfl (by simp) hm
        · rw [if_neg h1] at hm
          refine ⟨fun g => absurd (by omega) h1, fun _ => ?_⟩
          exact step h T t (.refl _ _ _ _) rfl rfl hm
      · rw [if_neg hlt] at hm
        rw [show decide ((T.moved : Int) < (T.elder.length : Int)) = false from by simpa using hlt]
        exact stop _ (Option.some.inj hm).symm
    · refine ⟨fun g => by simp at g; omega, fun _ => stop _ ?_⟩
      rw [show x1.toNat = 0 from by omega] at hm
      exact (Option.some.inj hm).symm
theorem Move_spec {h : H} {n : Nat} {rs es : Sl} {T T' : Tb (Option Addr)} {x : Int} {Q : Int → H → Prop} (t : TH h n rs es T) (hm : moveM nilA T x = some T') (hx : x < 9223372036854775808)
    (k : ∀ h' es', TH h' n rs es' T' → Stp h n rs es h' rs es' → Q ((leftT T' : Nat) : Int) h') : F.table_Table_chain_Chain_api_Agg_Move (some ⟨n, 0, none⟩) x h Q := by
  unfold moveM at hm
  cases h1 : moveN nilA x.toNat T with
  | none => rw [h1] at hm; cases hm
  | some T1 =>
    rw [h1] at hm
    cases hm
    exact ⟨x.toNat + 1, Move_loop _ h rs es T T1 x t h1 hx (by omega) k⟩
end Go.Proofs.Ytoccbnhahaoeiaa.V.P
namespace Go.Proofs.Ytoccbnhahaoeiaa.V.P
open Go Go.Proofs.Ytoccbnhahaoeiaa.V
set_option linter.unusedVariables false
set_option linter.unusedSimpArgs false
set_option maxRecDepth 20000
theorem elP : El PP tn_Sltable_place_chain_Chain_api_Agg tn_table_place_chain_Chain_api_Agg 3 32 (.agg #[.int .u8 0, .string ⟨#[]⟩, .pointer none]) := el_Sltable_place_chain_Chain_api_Agg
theorem made_rows (n : Nat) : (madeCells (Value.agg #[.int .u8 0, .string ⟨#[]⟩, .pointer none]).cells (n * 3)).toList = (List.replicate n (emptP nilA)).flatMap cP := by
  have := made3 (.int .u8 0) (.string ⟨#[]⟩) (.pointer none) n
  rw [List.flatMap, List.map_replicate]
  exact this
theorem KB.repl (n : Nat) : KB (List.replicate n (emptP nilA)) := fun i p hp => by
  obtain ⟨rfl, _⟩ := repl_get hp
  show (0 : Nat) ≤ _; omega
theorem New_spec {h : H} {Q : Option Addr → H → Prop} (k : ∀ h' n rs, TH h' n rs ⟨none, 0, 0⟩ (newT nilA) → Ext h h' → (∀ b, FT n rs ⟨none, 0, 0⟩ b → h.size ≤ b) → Q (some ⟨n, 0, none⟩) h') : F.table_New_chain_Chain_api_Agg h Q := by
  unfold F.table_New_chain_Chain_api_Agg
  refine make_of (n := 8) elP (by omega) (by simp [maxLen]) fun b h1 hb o1 e1 => ?_
  rw [made_rows] at o1
  refine new_of fun n h2 hn b2 e2 _ => ?_
  refine k h2 n _ ⟨b2, o1.ext e2, Owns.nil _ _ _, fun b hb => by simp [Sl.blk], KB.repl 8, KB.nil, by simp [newT], by simp [newT, BIG], by simp [newT], by simp [newT], by simp [newT]⟩ (e1.trans e2) fun b' hb' => ?_
  rcases hb' with h1 | h1 | h1
  · have := e1.size; omega
  · simp [Sl.blk] at h1; omega
  · simp [Sl.blk] at h1
section
variable {h : H} {n : Nat} {rs es : Sl} {T : Tb (Option Addr)} {key : ByteArray}
/-- Where a key lies: its place's address. -/
theorem where_spec {Q : Option Addr → H → Prop} (t : TH h n rs es T) (ok : TOk T) (hk : SmallK key)
    (k1 : ∀ h' i b, Ext h h' → Hit T.row key i → rs.ptr = some ⟨b, 0, none⟩ → Q (some ⟨b, i * 3, none⟩) h')
    (k2 : ∀ h' i b, Ext h h' → Hit T.elder key i → (∀ j, ¬ Hit T.row key j) → es.ptr = some ⟨b, 0, none⟩ → Q (some ⟨b, i * 3, none⟩) h')
    (k3 : ∀ h', Ext h h' → (∀ j, ¬ Hit T.row key j) → (∀ j, ¬ Hit T.elder key j) → Q none h') : F.table_Table_chain_Chain_api_Agg_where (some ⟨n, 0, none⟩) key h Q := by
  unfold F.table_Table_chain_Chain_api_Agg_where
  simp only [nn_some, add_lit, Nat.zero_add]
  rw [ldL_iff t.c0]
  have w := where_ok ok key
  unfold whereM at w
  cases hf : findM T.row key with
  | none => rw [hf] at w; rcases w with ⟨i, w, _⟩ | ⟨i, w, _⟩ | ⟨w, _⟩ <;> cases w
  | some r =>
    rw [hf] at w
    obtain ⟨i, b⟩ := r
    refine find_spec t.row.reads t.br hk hf fun h1 e1 => ?_
    have t1 := t.ext e1
    rw [ldL_iff t1.c0, ldL_iff t1.c1]
    cases b with
    | true =>
      refine ⟨fun _ => ?_, fun h => by cases h⟩
      rcases w with ⟨j, w, wh⟩ | ⟨j, w, _⟩ | ⟨w, _⟩
      · simp at w; subst w
        obtain ⟨p, hp, _⟩ := id wh
        obtain ⟨b, u1, _⟩ := t1.row_at hp
        exact idxA_of u1 (by rw [t.rlen]; exact wh.lt) rfl (k1 h1 _ b e1 wh u1)
      · cases w
      · cases w
    | false =>
      refine ⟨fun h => (by cases h), fun _ => ?_⟩
      simp only at w
      cases hg : findM T.elder key with
      | none => rw [hg] at w; rcases w with ⟨i, w, _⟩ | ⟨i, w, _⟩ | ⟨w, _⟩ <;> cases w
      | some r =>
        rw [hg] at w
        obtain ⟨i, b⟩ := r
        refine find_spec t1.el.reads t.be hk hg fun h2 e2 => ?_
        have t2 := t1.ext e2
        rw [ldL_iff t2.c1]
        cases b with
        | true =>
          refine ⟨fun _ => ?_, fun h => by cases h⟩
          rcases w with ⟨j, w, _⟩ | ⟨j, w, wh, wn⟩ | ⟨w, _⟩
          · simp at w
          · simp at w; subst w
            obtain ⟨p, hp, _⟩ := id wh
            obtain ⟨b, u1, _⟩ := t2.el_at hp
            exact idxA_of u1 (by rw [t.elen]; exact wh.lt) rfl (k2 h2 _ b (e1.trans e2) wh wn u1)
          · cases w
        | false =>
          refine ⟨fun h => (by cases h), fun _ => ?_⟩
          rcases w with ⟨j, w, _⟩ | ⟨j, w, _⟩ | ⟨w, w1, w2⟩
          · simp at w
          · simp at w
          · exact k3 h2 (e1.trans e2) w1 w2
theorem Get_spec {Q : Option Addr → Bool → H → Prop} (t : TH h n rs es T) (ok : TOk T) (hk : SmallK key) (k : ∀ h', Ext h h' → Q ((getM T key).getD nilA) (getM T key).isSome h') : F.table_Table_chain_Chain_api_Agg_Get (some ⟨n, 0, none⟩) key h Q := by
  unfold F.table_Table_chain_Chain_api_Agg_Get
  refine where_spec t ok hk (fun h1 i b e1 hh hb => ?_) (fun h1 i b e1 hh hn hb => ?_) (fun h1 e1 hn hne => ?_)
  · obtain ⟨p, g1, g2, g3⟩ := hh
    obtain ⟨b', u1, u2⟩ := (t.ext e1).row_at g1
    rw [hb] at u1; cases u1
    refine ⟨fun _ => ?_, fun h => by cases h⟩
    rw [nn_some, ldP_iff (u2 2 _ rfl)]
    have := k h1 e1
    rw [get_row ok g1 g2 g3] at this
    exact this
  · obtain ⟨p, g1, g2, g3⟩ := hh
    obtain ⟨b', u1, u2⟩ := (t.ext e1).el_at g1
    rw [hb] at u1; cases u1
    refine ⟨fun _ => ?_, fun h => by cases h⟩
    rw [nn_some, ldP_iff (u2 2 _ rfl)]
    have := k h1 e1
    rw [get_elder ok hn g1 g2 g3] at this
    exact this
  · refine ⟨fun h => (by cases h), fun _ => ?_⟩
    have := k h1 e1
    rw [get_none hn hne] at this
    exact this
/-- A place's value is written. -/
theorem st_val {f : List (Pl (Option Addr))} {s : Sl} {i b : Nat} {p : Pl (Option Addr)} {v : Option Addr} {K : H → Prop} (ow : Owns h s tn_table_place_chain_Chain_api_Agg 3 (f.flatMap cP)) (hp : s.ptr = some ⟨b, 0, none⟩) (hi : f[i]? = some p)
    (k : ∀ h', Owns h' s tn_table_place_chain_Chain_api_Agg 3 ((newP f i v).flatMap cP) → Only (fun b => s.blk = some b) h h' → K h') : stH h ⟨b, i * 3 + 2, none⟩ [.pointer v] K := by
  have hl := (List.getElem?_eq_some_iff.1 hi).1
  refine own_set ow hp (by rw [flat_len cP 3 cP_len]; simp; omega) fun h1 o1 e1 _ => k h1 ?_ e1
  have ha := flat_get cP 3 cP_len f i p hi 0 (by omega)
  have hb := flat_get cP 3 cP_len f i p hi 1 (by omega)
  rw [set3 (v := .pointer v) ha hb] at o1
  rw [newP_eq hi, flat_set cP 3 cP_len f i ⟨p.is_, p.key, v⟩ hl]
  exact o1
theorem newP_len {f : List (Pl (Option Addr))} {i : Nat} {v : Option Addr} : (newP f i v).length = f.length := by unfold newP; split <;> simp
theorem newP_kb {f : List (Pl (Option Addr))} {i : Nat} {v : Option Addr} (k : KB f) : KB (newP f i v) := by
  unfold newP
  split
  · exact k
  · rename_i p hp; exact k.set (k i p hp)
theorem lay_spec {v : Option Addr} {T' : Tb (Option Addr)} {Q : H → Prop} (t : TH h n rs es T) (hk : SmallK key) (hl : layP T key v = some T') (hc : T'.count ≤ BIG) (k : ∀ h', TH h' n rs es T' → Stp h n rs es h' rs es → Q h') : F.table_Table_chain_Chain_api_Agg_Put.j1 Q (some ⟨n, 0, none⟩) key v h := by
  unfold F.table_Table_chain_Chain_api_Agg_Put.j1
  unfold layP at hl
  simp only [nn_some, add_lit, Nat.zero_add]
  rw [ldL_iff t.c0]
  cases hf : findM T.row key with
  | none => rw [hf] at hl; cases hl
  | some r =>
    rw [hf] at hl
    cases hl
    refine find_spec t.row.reads t.br hk hf fun h1 e1 => ?_
    have t1 := t.ext e1
    rw [ldL_iff t1.c0]
    have hr := find_lt t.pos hf
    obtain ⟨br, u1, _⟩ := t1.row_at (List.getElem?_eq_getElem hr)
    refine idxA_of u1 (by rw [t.rlen]; exact hr) rfl ?_
    refine t1.set_row (p := ⟨1, key, v⟩) u1 hr hk fun h2 t2 s2 => ?_
    rw [ldI_iff t2.c3]
    have hb : T.count + 1 ≤ BIG := hc
    simp only [BIG] at hb
    refine t2.st_count (m := T.count + 1) (by show IntKind.wrap .i64 ((T.count : Int) + 1) = _; rw [w64 (by omega) (by omega)]; omega) hc fun h3 t3 s3 => ?_
    exact k h3 t3 (((Stp.of_ext e1).trans s2).trans s3)
theorem Put_spec {v : Option Addr} {T' : Tb (Option Addr)} {Q : H → Prop} (t : TH h n rs es T) (ok : TOk T) (hk : SmallK key) (hp : putM nilA T key v = some T') (hb : T'.row.length ≤ BIG) (hc : T'.count ≤ BIG)
    (k : ∀ h' rs' es', TH h' n rs' es' T' → Stp h n rs es h' rs' es' → Q h') : F.table_Table_chain_Chain_api_Agg_Put (some ⟨n, 0, none⟩) key v h Q := by
  unfold F.table_Table_chain_Chain_api_Agg_Put
  obtain ⟨T1, m1, ok1, m3, m4, m5, m6, m7⟩ := move_ok (z := nilA) ok 4
  unfold putM at hp
  rw [m1] at hp
  simp only at hp
  unfold putM' at hp
  have w := where_ok ok1 key
  refine Move_spec t m1 (by omega) fun h1 es1 t1 s1 => ?_
  refine where_spec t1 ok1 hk (fun h2 i b e2 hh hb2 => ?_) (fun h2 i b e2 hh hn hb2 => ?_) (fun h2 e2 hn hne => ?_)
  · refine ⟨fun _ => ?_, fun h => by cases h⟩
    rw [nn_some]
    have hw : whereM T1 key = some (some (false, i)) := by
      unfold whereM; rw [ok1.row.hit hh]
    rw [hw] at hp
    simp only at hp
    cases hp
    obtain ⟨p, g1, g2, g3⟩ := hh
    have t2 := t1.ext e2
    refine st_val t2.row hb2 g1 fun h3 o3 e3 => ?_
    exact k h3 _ _ ⟨e3.block t2.tb fun hb => t2.nr _ hb rfl, o3, t2.el.only e3 fun b' hb hb' => t2.ne b' hb' hb, t2.ne, newP_kb t2.kr, t2.ke, by
      intro hnil
      have := congrArg List.length hnil
      rw [newP_len] at this
      exact t2.pos (List.eq_nil_of_length_eq_zero this), by rw [newP_len]; exact t2.br, t2.be, t2.bc, t2.bm⟩ ((s1.ext e2).trans ⟨e3.mono fun b' _ hb => .inr (.inl hb), fun b' hb => .inl hb⟩)
  · refine ⟨fun _ => ?_, fun h => by cases h⟩
    rw [nn_some]
    have hw : whereM T1 key = some (some (true, i)) := by
      rcases w with ⟨j, w, wh⟩ | ⟨j, w, wh, _⟩ | ⟨w, _, wn⟩
      · exact absurd wh (hn j)
      · obtain ⟨p, a1, a2, a3⟩ := hh
        obtain ⟨q, b1, b2, b3⟩ := wh
        rw [w, ok1.elder.uniq i j p q a1 b1 a2 b2 (a3.trans b3.symm)]
      · exact absurd hh (wn i)
    rw [hw] at hp
    simp only at hp
    cases hp
    obtain ⟨p, g1, g2, g3⟩ := hh
    have t2 := t1.ext e2
    refine st_val t2.el hb2 g1 fun h3 o3 e3 => ?_
    exact k h3 _ _ ⟨e3.block t2.tb fun hb => t2.nel _ hb rfl, t2.row.only e3 fun b' hb hb' => t2.ne b' hb hb', o3, t2.ne, t2.kr, newP_kb t2.ke, t2.pos, t2.br, by rw [newP_len]; exact t2.be, t2.bc, by rw [newP_len]; exact t2.bm⟩ ((s1.ext e2).trans ⟨e3.mono fun b' _ hb => .inr (.inr hb), fun b' hb => .inl hb⟩)
  · refine ⟨fun h => (by cases h), fun _ => ?_⟩
    have hw : whereM T1 key = some none := by
      rcases w with ⟨j, w, wh⟩ | ⟨j, w, wh, _⟩ | ⟨w, _, _⟩
      · exact absurd wh (hn j)
      · exact absurd wh (hne j)
      · exact w
    rw [hw] at hp
    simp only at hp
    have t2 := t1.ext e2
    have s2 := s1.ext e2
    simp only [nn_some, add_lit, Nat.zero_add]
    rw [ldI_iff t2.c3, ldL_iff t2.c0, t2.rlen]
    have hbc := t1.bc
    have hbr := t1.br
    simp only [BIG] at hbc hbr
    rw [w64 (n := (T1.count : Int) + 1) (by omega) (by omega), w64 (by omega) (by omega), w64 (by omega) (by omega)]
    simp only [decide_eq_true_eq, decide_eq_false_iff_not]
    by_cases hgr : 4 * (T1.count + 1) > 3 * T1.row.length
    · rw [if_pos hgr] at hp
      refine ⟨fun _ => ?_, fun g => absurd (by omega) g⟩
      rw [ldL_iff t2.c1, t2.elen]
      obtain ⟨T2, n1, ok2, n3, n4, n5, n6, n7⟩ := move_ok (z := nilA) ok1 (T1.elder.length : Int)
      rw [n1] at hp
      simp only at hp
      have hbe := t1.be
      simp only [BIG] at hbe
      refine Move_spec t2 n1 (by omega) fun h3 es3 t3 s3 => ?_
      rw [ldL_iff t3.c0, t3.rlen]
      have hlen2 : T'.row.length = 2 * T2.row.length := by
        unfold layP at hp
        cases hf : findM (growT nilA T2).row key with
        | none => rw [hf] at hp; cases hp
        | some r => rw [hf] at hp; cases hp; simp [growT]
      have hb2 : 2 * T2.row.length ≤ BIG := by omega
      simp only [BIG] at hb2
      rw [w64 (by omega) (by omega), show 2 * (T2.row.length : Int) = ((2 * T2.row.length : Nat) : Int) from by omega, ldL_iff t3.c0]
      refine make_of (n := 2 * T2.row.length) elP (by omega) (by simp only [maxLen]; omega) fun b h4 hb4 o4 e4 => ?_
      rw [made_rows] at o4
      have t4 := t3.ext e4
      refine ⟨t4.c0, ?_⟩
      have hr3 := fun b' hb => t3.lt b' (.inr (.inl hb))
      refine t4.stn (by omega) fun h5 b5 e5 p5 q5 => ?_
      have o5 : Owns h5 ⟨some ⟨b, 0, none⟩, 2 * T2.row.length, 2 * T2.row.length⟩ tn_table_place_chain_Chain_api_Agg 3 ((List.replicate (2 * T2.row.length) (emptP nilA)).flatMap cP) := o4.only e5 fun b' hb' hn' => by
        simp [Sl.blk] at hb'
        have := t3.lt n (.inl rfl)
        omega
      refine stH_of b5 (by simp) fun h6 b6 e6 _ => ?_
      have o6 := o5.only e6 fun b' hb' hn' => by
        simp [Sl.blk] at hb'
        have := t3.lt n (.inl rfl)
        omega
      have p6 := p5.only e6 fun b' hb' hn' => t4.nr b' hb' hn'
      refine stH_of b6 (by rw [writeA_size]; simp) fun h7 b7 e7 _ => ?_
      have o7 := o6.only e7 fun b' hb' hn' => by
        simp [Sl.blk] at hb'
        have := t3.lt n (.inl rfl)
        omega
      have p7 := p6.only e7 fun b' hb' hn' => t4.nr b' hb' hn'
      have t7 : TH h7 n ⟨some ⟨b, 0, none⟩, 2 * T2.row.length, 2 * T2.row.length⟩ rs (growT nilA T2) :=
        ⟨b7, o7, p7, fun b' hb' hb2 => by
          have := hr3 b' hb2
          simp [Sl.blk] at hb'
          omega, KB.repl _, t3.kr, by
          have := t3.pos
          intro hnil
          have h0 := congrArg List.length hnil
          have hl0 : T2.row.length ≠ 0 := fun e => this (List.eq_nil_of_length_eq_zero e)
          simp only [growT, List.length_replicate, List.length_nil] at h0
          omega, by simp [growT]; omega, t3.br, t3.bc, by simp [growT]⟩
      have s7 : Stp h3 n rs es3 h7 ⟨some ⟨b, 0, none⟩, 2 * T2.row.length, 2 * T2.row.length⟩ rs :=
        ⟨(((e4.only (S := FT n rs es3)).trans (e5.mono fun b' _ hb => .inl hb) fun _ _ hb => hb).trans (e6.mono fun b' _ hb => .inl hb) fun _ _ hb => hb).trans (e7.mono fun b' _ hb => .inl hb) fun _ _ hb => hb, fun b' hb' => by
          rcases hb' with h1 | h1 | h1
          · exact .inl (.inl h1)
          · simp [Sl.blk] at h1; exact .inr (by omega)
          · exact .inl (.inr (.inl h1))⟩
      exact lay_spec t7 hk hp hc fun h8 t8 s8 => k h8 _ _ t8 (((s2.trans s3).trans s7).trans s8)
    · rw [if_neg hgr] at hp
      refine ⟨fun g => absurd g (by omega), fun _ => ?_⟩
      exact lay_spec t2 hk hp hc fun h3 t3 s3 => k h3 _ _ t3 (s2.trans s3)
end
end Go.Proofs.Ytoccbnhahaoeiaa.V.P
namespace Go.Proofs.Ytoccbnhahaoeiaa.V.P
open Go Go.Proofs.Ytoccbnhahaoeiaa.V
set_option linter.unusedVariables false
set_option linter.unusedSimpArgs false
set_option maxRecDepth 20000
theorem keys_int_loop {h : H} {o b : Nat} {M : List (ByteArray × Value)} {R : LoopState → Option Code → Obj} {Q : Sl → H → Prop} (ho : h.size ≤ o) (hb : b < o) (hM : M.length < 1073741824) (hv : ∀ p ∈ M, ∃ v : Option Addr, p.2 = .pointer v)
    (k : ∀ (r : Sl) (h' : H) (D : List (ByteArray × Value)), D.Perm M → Owns h' r 9 1 ((D.map (·.1)).flatMap cT) → Ext h h' → (∀ n, r.blk = some n → h.size ≤ n) → Q r h')
    (hy : yields PP R (o + 2) [] (fun bg1 l1 args h K1 J1 => ∃ (y1_7 : ByteArray), args = [(.string y1_7)] ∧
      bg1 h fun h3 => ldL h3 ⟨o, 0, none⟩ fun y4 => newL h3 #[(.string y1_7)] ty_9 1 fun s7 h6 => runL PP (Builtin.append_ #[tn_Slstring, tn_Slstring] tn_Slstring #[y4.enc, s7.enc]) h6 fun s9 h8 => stH h8 ⟨o, 0, none⟩ [s9.enc] fun h10 => K1 h10)) :
    ∀ (m : Nat) (D : List (ByteArray × Value)) (h' : H), KG h o b M D h' → h'[o + 2]? = some (R .ready none) → D.length ≤ M.length → M.length - D.length < m →
      F.maps_Keys_map_string_chain_Chain_api_Agg_string_chain_Chain_api_Agg_1.l1 (rngEnd R (o + 2) [] (fun h11 => ldL h11 ⟨o, 0, none⟩ fun y12 => shuts ((o + 1) :: ([] : List Nat)) h11 fun h14 => Q y12 h14) (fun jj h15 => True)) m (.func (.yield (o + 2)) #[] #[]) ⟨o + 3, 0, none⟩ h'
  | 0, D, h', kg, hrd, hl, hm => by omega
  | m + 1, D, h', kg, hrd, hl, hm => by
    unfold F.maps_Keys_map_string_chain_Chain_api_Agg_string_chain_Chain_api_Agg_1.l1
    refine nextM_of kg.it (fun hp => ?_) (fun h5 p it5 hpM e5 sz5 hen => ?_)
    · refine ⟨false, #[], rfl, (fun h => by cases h), fun _ => .inl ⟨hrd, ?_⟩⟩
      have kg2 := kg.only ho hb (put_only h' (o + 2) (R .exhausted none))
      obtain ⟨s, s1, s2, s3⟩ := kg2.box
      refine (ldL_iff (s1.cell (i := 0) rfl)).2 ?_
      refine ⟨kg2.dfr, ?_⟩
      have e6 := put_only (put h' (o + 2) (R .exhausted none)) (o + 1) (.deferred none)
      exact k s _ D hp (s2.only e6 fun n hn hf => by have := s3 n hn; omega) (kg2.ext.step e6 fun n hn hf => by omega) fun n hn => by have := s3 n hn; omega
    · refine ⟨true, #[.string p.1, p.2], rfl, fun _ => ?_, fun h => by cases h⟩
      obtain ⟨v, hpv⟩ := hv p hpM
      refine hen _ ⟨p.1, v, by rw [hpv], ?_⟩
      have hrd5 : h5[o + 2]? = some (R .ready none) := e5.block hrd (by omega)
      refine hy h5 _ _ hrd5 ⟨p.1, rfl, hrd5, ?_⟩
      obtain ⟨s, s1, s2, s3⟩ := kg.box
      have ep := put_only h5 (o + 2) (R .busy none)
      have s1' : Blk (put h5 (o + 2) (R .busy none)) o #[s.enc] tn_Slstring := ep.block (e5.block s1 (by omega)) (by omega)
      have s2' := (s2.only e5 fun n hn hf => by have := s3 n hn; omega).only ep fun n hn hf => by have := s3 n hn; omega
      rw [ldL_iff (s1'.cell (i := 0) rfl)]
      refine newL_of fun n6 h6 hn6 b6 e6 _ => ?_
      have sz := kg.size
      have szp : (put h5 (o + 2) (R .busy none)).size = h'.size := by simp [put]; omega
      have hDl : (D.map (·.1)).length < 1073741824 := by simp; omega
      refine app_list (f := cT) (M := [p.1]) cT_len (by omega) el_Slstring (s2'.ext e6) (blk_reads (size := 1) (m := 1) (show Blk h6 n6 (([p.1] : List ByteArray).flatMap cT).toArray 9 from b6) rfl) (fun x => one1 rfl) (by simp at hDl ⊢; omega) fun r7 h7 q1 q2 q3 => ?_
      have b7 : Blk h7 o #[s.enc] tn_Slstring := q2.block (e6.block s1' (fun f => f)) fun e => by have := s3 o e; omega
      have hr7 : ∀ n, r7.blk = some n → o + 4 ≤ n := fun n hn => by
        rcases q3 with q3 | ⟨b', q3, q4⟩
        · exact s3 n (by rw [← q3]; exact hn)
        · rw [q3] at hn; cases hn
          have := e6.size; omega
      refine stH_of b7 (by simp) fun h8 b8 e8 _ => ?_
      rw [writeA_all (by simp)] at b8
      have oall : Only (fun n => n = o ∨ n = o + 2 ∨ n = o + 3 ∨ s.blk = some n) h' h8 :=
        (((e5.mono fun n _ e => .inr (.inr (.inl e))).trans (ep.mono fun n _ e => .inr (.inl e)) fun _ _ e => e).trans ((e6.only (S := fun b => s.blk = some b)).trans q2 fun _ _ e => e |> fun x => x) fun n _ e => .inr (.inr (.inr e))).trans e8 fun n _ e => .inl e
      have oit : Only (fun n => n = o ∨ n = o + 2 ∨ s.blk = some n) h5 h8 :=
        ((ep.mono fun n _ e => .inr (.inl e)).trans ((e6.only (S := fun b => s.blk = some b)).trans q2 fun _ _ e => e |> fun x => x) fun n _ e => .inr (.inr e)).trans e8 fun n _ e => .inl e
      have hrd8 : h8[o + 2]? = some (R .busy none) := e8.block (q2.block (e6.block (putAt_ hrd5) (fun f => f)) fun e => by have := s3 _ e; omega) (by omega)
      have kg8 : KG h o b M (D ++ [p]) h8 := ⟨kg.ext.step oall fun n hn hf => by
          rcases hf with hf | hf | hf | hf
          · omega
          · omega
          · omega
          · have := s3 n hf; omega, ⟨r7, b8, by
          rw [List.map_append]
          exact q1.only e8 fun n hn hf => by have := hr7 n hn; omega, hr7⟩, oall.block kg.dfr (by
          intro hf
          rcases hf with hf | hf | hf | hf
          · omega
          · omega
          · omega
          · have := s3 _ hf; omega), it5.only oit (by
          intro hf
          rcases hf with hf | hf | hf
          · omega
          · omega
          · have := s3 _ hf; omega) (by
          intro hf
          rcases hf with hf | hf | hf
          · omega
          · omega
          · have := s3 _ hf; omega), by have := oall.size; omega⟩
      refine ⟨hrd8, true, rfl, (fun h => by cases h), fun _ => ?_⟩
      have hlen : (D ++ [p]).length ≤ M.length := by
        obtain ⟨_, es, clock, since, seen, c0, hb1, rp, hr1, _, _, _, E, w1, w2, w3, w4⟩ := it5
        have l1 : E.length = (D ++ [p]).length := by simpa using congrArg List.length w4
        have l2 := rp.len
        have hnd : E.Nodup := nodup_of w3
        have l3 : (E.map (·.born)).length ≤ (es.toList.map (·.born)).length := nodup_len w3 fun x hx => by
          obtain ⟨e, he, rfl⟩ := List.mem_map.1 hx
          exact List.mem_map.2 ⟨e, w1 e he, rfl⟩
        simp only [List.length_map, Array.length_toList] at l3
        omega
      refine keys_int_loop ho hb hM hv k hy m (D ++ [p]) _ (kg8.only ho hb (put_only h8 (o + 2) (R .ready none))) (putAt_ hrd8) hlen (by simp only [List.length_append, List.length_singleton] at hlen ⊢; omega)
set_option maxHeartbeats 400000 in
theorem keys_int_spec {h : H} {a b : Nat} {M : List (ByteArray × Value)} {Q : Sl → H → Prop} (ba : Blk h a #[.map (some b)] tn_map_string_chain_Chain_api_Agg) (mp : MapH h b M) (hM : M.length < 1073741824) (hv : ∀ p ∈ M, ∃ v : Option Addr, p.2 = .pointer v)
    (k : ∀ (r : Sl) (h' : H) (D : List (ByteArray × Value)), D.Perm M → Owns h' r 9 1 ((D.map (·.1)).flatMap cT) → Ext h h' → (∀ n, r.blk = some n → h.size ≤ n) → Q r h') : F.slices_AppendSeq_Slstring_string ⟨none, 0, 0⟩ (.func (.func no_maps_Keys_map_string_chain_Chain_api_Agg_string_chain_Chain_api_Agg_1) #[] #[.pointer (some ⟨a, 0, none⟩)]) h Q := by
  unfold F.slices_AppendSeq_Slstring_string
  refine new_of fun o h1 ho b1 e1 sz1 => ?_
  subst ho
  rw [show h1.size = h.size + 1 from sz1]
  intro R hR hy
  rw [sz1] at hy ⊢
  refine ⟨no_maps_Keys_map_string_chain_Chain_api_Agg_string_chain_Chain_api_Agg_1, #[], #[.pointer (some ⟨a, 0, none⟩)], rfl, fun args w => no_maps_Keys_map_string_chain_Chain_api_Agg_string_chain_Chain_api_Agg_1_call args w, ?_⟩
  have hblt := mp.lt
  have halt := block_lt ba
  have d1 : Ext h1 (h1.push (.deferred (some []))) := .push _ _
  have d2 : Ext (h1.push (.deferred (some []))) ((h1.push (.deferred (some []))).push (R .ready none)) := .push _ _
  have e3 : Ext h ((h1.push (.deferred (some []))).push (R .ready none)) := (e1.trans d1).trans d2
  have key : F.maps_Keys_map_string_chain_Chain_api_Agg_string_chain_Chain_api_Agg_1 (.func (.yield (h.size + 2)) #[] #[]) ⟨a, 0, none⟩ ((h1.push (.deferred (some []))).push (R .ready none)) (rngEnd R (h.size + 2) [] (fun h11 => ldL h11 ⟨h.size, 0, none⟩ fun y12 => shuts ((h.size + 1) :: ([] : List Nat)) h11 fun h14 => Q y12 h14) (fun jj h15 => True)) := by
    unfold F.maps_Keys_map_string_chain_Chain_api_Agg_string_chain_Chain_api_Agg_1
    rw [ldM_iff ((show Blk _ a #[.map (some b)] tn_map_string_chain_Chain_api_Agg from e3.block ba (fun f => f)).cell (i := 0) rfl)]
    refine rangeM_of (kt := 9) (et := _) mt_map_string_chain_Chain_api_Agg (mp.only e3 (fun f => f)) fun h4 it4 e4 sz4 => ?_
    have hsz : ((h1.push (.deferred (some []))).push (R .ready none)).size = h.size + 3 := by simp; omega
    rw [hsz] at it4 sz4 ⊢
    refine ⟨_, rfl, M.length + 1, ?_⟩
    refine keys_int_loop (Nat.le_refl _) hblt hM hv k hy (M.length + 1) [] h4 ⟨e3.trans e4, ⟨⟨none, 0, 0⟩, e4.block (d2.block (d1.block b1 (fun f => f)) (fun f => f)) (fun f => f), Owns.nil _ _ _, fun n hn => by simp [Sl.blk] at hn⟩, e4.block (d2.block (by rw [← sz1]; simp) (fun f => f)) (fun f => f), it4, by omega⟩ (e4.block (by
      have : h.size + 2 = (h1.push (.deferred (some []))).size := by simp; omega
      rw [this, Array.getElem?_push, if_pos rfl]) (fun f => f)) (by simp) (by simp)
  exact (F.maps_Keys_map_string_chain_Chain_api_Agg_string_chain_Chain_api_Agg_1_ok key).mono fun r h' ⟨_, q⟩ => q
/-- slices.Sorted of a map's keys. -/
theorem sorted_int_spec {h : H} {a b : Nat} {M : List (ByteArray × Value)} {Q : Sl → H → Prop} (ba : Blk h a #[.map (some b)] tn_map_string_chain_Chain_api_Agg) (mp : MapH h b M) (hM : M.length < 1073741824) (hv : ∀ p ∈ M, ∃ v : Option Addr, p.2 = .pointer v)
    (k : ∀ (r : Sl) (h' : H) (D : List (ByteArray × Value)), D.Perm M → Owns h' r 9 1 ((sortT (D.map (·.1))).flatMap cT) → Ext h h' → (∀ n, r.blk = some n → h.size ≤ n) → Q r h') : F.slices_Sorted_string (.func (.func no_maps_Keys_map_string_chain_Chain_api_Agg_string_chain_Chain_api_Agg_1) #[] #[.pointer (some ⟨a, 0, none⟩)]) h Q := by
  unfold F.slices_Sorted_string F.slices_Collect_string
  refine keys_int_spec ba mp hM hv fun r h1 D hp o1 e1 m1 => ?_
  refine sort_fn rfl o1 (by have := hp.length_eq; simp; omega) fun h2 o2 e2 => ⟨rfl, ?_⟩
  exact k r h2 D hp o2 (e1.step e2 fun n hn hf => by have := m1 n hf; omega) m1
end Go.Proofs.Ytoccbnhahaoeiaa.V.P
