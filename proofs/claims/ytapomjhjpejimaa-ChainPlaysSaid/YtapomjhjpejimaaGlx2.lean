/- Printed by a program of this session (gen.py): Go functions as Lean functions over the heap, and that the Go code does what they say; no condition. -/
import Derived.Test.YtapomjhjpejimaaGlx1
namespace Go.Proofs.Ytapomjhjpejimaa.V
open Go
set_option linter.unusedVariables false
set_option maxRecDepth 100000
/-- (*spate/spatelaw5.World).put -/
def F.spatelaw5_World_put (p0 : Option Addr) (p1 : Int) (p2 : Int) (h : H) (Q : Bool → H → Prop) : Prop :=
  nn p0 fun a1 =>
  ldP h (a1.add 0) fun y3 =>
  F.chain_Chain_int_Put y3 p1 p2 h fun r6 r7 h5 =>
  nn p0 fun a8 =>
  ldP h5 (a8.add 1) fun y10 =>
  F.spatelaw5_wide p2 h5 fun r13 h12 =>
  cellH h12 (a8.add 1) = some (.pointer y10) ∧
  F.chain_Chain_spatelaw5_Wide_Put y10 p1 r13 h12 fun r16 r17 h15 =>
  nn p0 fun a18 =>
  ldP h15 (a18.add 2) fun y20 =>
  F.spateref5_Chain_Put y20 p1 p2 h15 fun r23 r24 h22 =>
  (((r6 == r23)) = true →
  (((r16 == r23)) = true →
  (((r7 == r24)) = true →
  Q ((r17 == r24)) h22) ∧
  (((r7 == r24)) = false →
  Q false h22)) ∧
  (((r16 == r23)) = false →
  Q false h22)) ∧
  (((r6 == r23)) = false →
  Q false h22)
theorem F.spatelaw5_World_put_ok {p0 : Option Addr} {p1 : Int} {p2 : Int} {h : H} {Q : Bool → H → Prop} (H : F.spatelaw5_World_put p0 p1 p2 h Q) : Fn PP 44 ([(.pointer p0), (.int .i64 p1), (.int .i64 p2)] : List Value).toArray h fun r h' => ∃ r0, r = (.bool r0) ∧ Q r0 h' := by
  unfold F.spatelaw5_World_put at H
  refine fn_of Try.func44 Try.ntmps44 rfl rfl fun w0 => ?_
  refine tr_sub [(0, (.pointer p0)), (1, (.int .i64 p1)), (2, (.int .i64 p2))] ⟨rfl, rfl, rfl, trivial⟩ ?_
  refine tr_seq ?_
  refine tr_region ?_
  refine tr_p (y_assign rfl) rfl rfl ?_
  refine tr_nil ?_
  refine tr_thenN ?_
  refine tr_seq ?_
  refine tr_region ?_
  refine tr_p (y_move rfl) rfl rfl ?_
  obtain ⟨a1, e2, H⟩ := H
  refine tr_p (f_nn rfl e2) rfl rfl ?_
  refine tr_p (y_fa (off := 0) Try.runUnderlying66 fo_66_0 rfl) rfl rfl ?_
  obtain ⟨y3, k4, H⟩ := H
  refine tr_h (y_ld Try.isAgg25 rfl) k4 rfl rfl ?_
  refine tr_p (y_move rfl) rfl rfl ?_
  refine tr_p (y_move rfl) rfl rfl ?_
  refine tr_e (e_call Try.call23 rfl (F.chain_Chain_int_Put_ok H)) rfl rfl ?_
  rintro _ h5 ⟨r6, r7, rfl, H⟩
  refine tr_p (y_move rfl) rfl rfl ?_
  refine tr_p (y_ext rfl rfl) rfl rfl ?_
  refine tr_p (y_ext rfl rfl) rfl rfl ?_
  refine tr_p (y_assign rfl) rfl rfl ?_
  refine tr_p (y_assign rfl) rfl rfl ?_
  refine tr_nil ?_
  refine tr_thenN ?_
  refine tr_seq ?_
  refine tr_draw mixed [0, 1, 3, 7, 0, 0, 32, 127, 255, 511, 511, 1023, 4095] (by kernel_rfl) ?_
  refine g_p 0 1 rfl (by kernel_rfl) (y_move rfl) rfl rfl ?_
  obtain ⟨a8, e9, H⟩ := H
  refine g_p 1 3 rfl (by kernel_rfl) (f_nn rfl e9) rfl rfl ?_
  refine g_p 2 7 rfl (by kernel_rfl) (y_fa (off := 1) Try.runUnderlying66 fo_66_1 rfl) rfl rfl ?_
  obtain ⟨y10, k11, H⟩ := H
  refine g_h 3 15 rfl (by kernel_rfl) (y_ld Try.isAgg57 rfl) k11 rfl rfl ?_
  refine g_p 4 31 rfl (by kernel_rfl) (y_move rfl) rfl rfl ?_
  refine g_p 5 63 rfl (by kernel_rfl) (y_move rfl) rfl rfl ?_
  refine g_e 6 127 [(3, fun h => cellH h (a8.add 1) = some (.pointer y10))] (by kernel_rfl) rfl (by kernel_rfl) (e_call Try.call62 rfl (F.spatelaw5_wide_ok H)) rfl rfl ?_
  rintro _ h12 ⟨r13, rfl, H⟩
  obtain ⟨k14, H⟩ := H
  refine ⟨And.intro k14 trivial, ?_⟩
  refine g_e 7 255 [] (by kernel_rfl) rfl (by kernel_rfl) (e_call Try.call61 rfl (F.chain_Chain_spatelaw5_Wide_Put_ok H)) rfl rfl ?_
  rintro _ h15 ⟨r16, r17, rfl, H⟩
  refine ⟨trivial, ?_⟩
  refine g_p 8 511 rfl (by kernel_rfl) (y_move rfl) rfl rfl ?_
  refine g_p 9 1023 rfl (by kernel_rfl) (y_ext rfl rfl) rfl rfl ?_
  refine g_p 10 2047 rfl (by kernel_rfl) (y_ext rfl rfl) rfl rfl ?_
  refine g_p 11 4095 rfl (by kernel_rfl) (y_assign rfl) rfl rfl ?_
  refine g_p 12 8191 rfl (by kernel_rfl) (y_assign rfl) rfl rfl ?_
  refine g_d (by kernel_rfl) ?_
  refine tr_thenN ?_
  refine tr_seq ?_
  refine tr_region ?_
  refine tr_p (y_move rfl) rfl rfl ?_
  obtain ⟨a18, e19, H⟩ := H
  refine tr_p (f_nn rfl e19) rfl rfl ?_
  refine tr_p (y_fa (off := 2) Try.runUnderlying66 fo_66_2 rfl) rfl rfl ?_
  obtain ⟨y20, k21, H⟩ := H
  refine tr_h (y_ld Try.isAgg61 rfl) k21 rfl rfl ?_
  refine tr_p (y_move rfl) rfl rfl ?_
  refine tr_p (y_move rfl) rfl rfl ?_
  refine tr_e (e_call Try.call63 rfl (F.spateref5_Chain_Put_ok H)) rfl rfl ?_
  rintro _ h22 ⟨r23, r24, rfl, H⟩
  refine tr_p (y_move rfl) rfl rfl ?_
  refine tr_p (y_ext rfl rfl) rfl rfl ?_
  refine tr_p (y_ext rfl rfl) rfl rfl ?_
  refine tr_p (y_assign rfl) rfl rfl ?_
  refine tr_p (y_assign rfl) rfl rfl ?_
  refine tr_nil ?_
  refine tr_thenN ?_
  refine tr_seq ?_
  refine tr_region ?_
  refine tr_p (y_move rfl) rfl rfl ?_
  refine tr_p (y_move rfl) rfl rfl ?_
  refine tr_p (y_eql rfl rfl) rfl rfl ?_
  refine tr_p (y_move rfl) rfl rfl ?_
  refine tr_split (t := 47) rfl (fun g25 => ?_) (fun g25 => ?_)
  · replace H := H.1 g25
    refine tr_p (y_move rfl) rfl rfl ?_
    refine tr_p (y_move rfl) rfl rfl ?_
    refine tr_p (y_eql rfl rfl) rfl rfl ?_
    refine tr_p (y_pick_t rfl rfl) rfl rfl ?_
    refine tr_p (y_move rfl) rfl rfl ?_
    refine tr_split (t := 52) rfl (fun g26 => ?_) (fun g26 => ?_)
    · replace H := H.1 g26
      refine tr_p (y_move rfl) rfl rfl ?_
      refine tr_p (y_move rfl) rfl rfl ?_
      refine tr_p (y_eql rfl rfl) rfl rfl ?_
      refine tr_p (y_pick_t rfl rfl) rfl rfl ?_
      refine tr_p (y_move rfl) rfl rfl ?_
      refine tr_split (t := 57) rfl (fun g27 => ?_) (fun g27 => ?_)
      · replace H := H.1 g27
        refine tr_p (y_move rfl) rfl rfl ?_
        refine tr_p (y_move rfl) rfl rfl ?_
        refine tr_p (y_eql rfl rfl) rfl rfl ?_
        refine tr_p (y_pick_t rfl rfl) rfl rfl ?_
        refine tr_p (y_assign rfl) rfl rfl ?_
        refine tr_nil ?_
        refine tr_thenN ?_
        refine tr_ret ?_
        exact tr_ret1 rfl rfl ⟨_, rfl, H⟩
      · replace H := H.2 g27
        refine tr_s rfl rfl ?_
        refine tr_s rfl rfl ?_
        refine tr_s rfl rfl ?_
        refine tr_p (y_pick_f rfl rfl) rfl rfl ?_
        refine tr_p (y_assign rfl) rfl rfl ?_
        refine tr_nil ?_
        refine tr_thenN ?_
        refine tr_ret ?_
        exact tr_ret1 rfl rfl ⟨_, rfl, H⟩
    · replace H := H.2 g26
      refine tr_s rfl rfl ?_
      refine tr_s rfl rfl ?_
      refine tr_s rfl rfl ?_
      refine tr_p (y_pick_f rfl rfl) rfl rfl ?_
      refine tr_p (y_move rfl) rfl rfl ?_
      refine tr_s rfl rfl ?_
      refine tr_s rfl rfl ?_
      refine tr_s rfl rfl ?_
      refine tr_p (y_pick_f rfl rfl) rfl rfl ?_
      refine tr_p (y_assign rfl) rfl rfl ?_
      refine tr_nil ?_
      refine tr_thenN ?_
      refine tr_ret ?_
      exact tr_ret1 rfl rfl ⟨_, rfl, H⟩
  · replace H := H.2 g25
    refine tr_s rfl rfl ?_
    refine tr_s rfl rfl ?_
    refine tr_s rfl rfl ?_
    refine tr_p (y_pick_f rfl rfl) rfl rfl ?_
    refine tr_p (y_move rfl) rfl rfl ?_
    refine tr_s rfl rfl ?_
    refine tr_s rfl rfl ?_
    refine tr_s rfl rfl ?_
    refine tr_p (y_pick_f rfl rfl) rfl rfl ?_
    refine tr_p (y_move rfl) rfl rfl ?_
    refine tr_s rfl rfl ?_
    refine tr_s rfl rfl ?_
    refine tr_s rfl rfl ?_
    refine tr_p (y_pick_f rfl rfl) rfl rfl ?_
    refine tr_p (y_assign rfl) rfl rfl ?_
    refine tr_nil ?_
    refine tr_thenN ?_
    refine tr_ret ?_
    exact tr_ret1 rfl rfl ⟨_, rfl, H⟩

/-- (*spate/chain.Chain[spate/spatelaw5.Wide]).Newest -/
def F.chain_Chain_spatelaw5_Wide_Newest (p0 : Option Addr) (h : H) (Q : S_spatelaw5_Wide → Int → Bool → H → Prop) : Prop :=
  new h (((⟨0, (⟨#[]⟩ : ByteArray)⟩ : S_spatelaw5_Wide) : S_spatelaw5_Wide).cells.toArray) ty_60 fun a2 h1 =>
  nn p0 fun a3 =>
  ldL h1 (a3.add 0) fun y5 =>
  ((((y5.len : Int) == 0)) = true →
  ld_S_spatelaw5_Wide h1 a2 fun y8 =>
  stH h1 a2 y8.cells fun h10 =>
  ld_S_spatelaw5_Wide h10 a2 fun y11 =>
  Q y11 0 false h10) ∧
  ((((y5.len : Int) == 0)) = false →
  nn p0 fun a13 =>
  ldL h1 (a13.add 0) fun y15 =>
  nn p0 fun a17 =>
  ldL h1 (a17.add 0) fun y19 =>
  idxA y15 (IntKind.wrap .i64 ((y19.len : Int) - 1)) 4 fun a21 =>
  ld_S_chain_version_spatelaw5_Wide h1 a21 fun y23 =>
  new h1 (((⟨0, (⟨0, (⟨#[]⟩ : ByteArray)⟩ : S_spatelaw5_Wide), false⟩ : S_chain_version_spatelaw5_Wide) : S_chain_version_spatelaw5_Wide).cells.toArray) ty_103 fun a26 h25 =>
  Cells h25 a21 y23.cells ∧
  cellH h25 (a17.add 0) = some y19.enc ∧
  cellH h25 (a13.add 0) = some y15.enc ∧
  stH h25 a26 y23.cells fun h30 =>
  ld_S_spatelaw5_Wide h30 (a26.add 1) fun y31 =>
  ldI .i64 h30 (a26.add 0) fun y33 =>
  ldB h30 (a26.add 3) fun y35 =>
  stH h30 a2 y31.cells fun h37 =>
  cellH h37 (a26.add 3) = some (.bool y35) ∧
  cellH h37 (a26.add 0) = some (.int .i64 y33) ∧
  ld_S_spatelaw5_Wide h37 a2 fun y40 =>
  Q y40 y33 (!y35) h37)
theorem F.chain_Chain_spatelaw5_Wide_Newest_ok {p0 : Option Addr} {h : H} {Q : S_spatelaw5_Wide → Int → Bool → H → Prop} (H : F.chain_Chain_spatelaw5_Wide_Newest p0 h Q) : Fn PP 56 ([(.pointer p0)] : List Value).toArray h fun r h' => ∃ r0 r1 r2, r = .tuple #[(.agg r0.cells.toArray), (.int .i64 r1), (.bool r2)] ∧ Q r0 r1 r2 h' := by
  unfold F.chain_Chain_spatelaw5_Wide_Newest at H
  refine fn_of Try.func56 Try.ntmps56 rfl rfl fun w0 => ?_
  refine tr_sub [(0, (.pointer p0))] ⟨rfl, trivial⟩ ?_
  refine tr_seq ?_
  refine tr_region ?_
  refine tr_e (f_alloc (cs := ((⟨0, (⟨#[]⟩ : ByteArray)⟩ : S_spatelaw5_Wide) : S_spatelaw5_Wide).cells.toArray) Try.zeroValue60 rfl H) rfl rfl ?_
  rintro _ h1 ⟨a2, rfl, H⟩
  refine tr_p (y_assign rfl) rfl rfl ?_
  refine tr_p (y_assign rfl) rfl rfl ?_
  refine tr_nil ?_
  refine tr_thenN ?_
  refine tr_seq ?_
  refine tr_seq ?_
  refine tr_region ?_
  refine tr_p (y_move rfl) rfl rfl ?_
  obtain ⟨a3, e4, H⟩ := H
  refine tr_p (f_nn rfl e4) rfl rfl ?_
  refine tr_p (y_fa (off := 0) Try.runUnderlying86 fo_86_0 rfl) rfl rfl ?_
  obtain ⟨y5, k6, H⟩ := H
  refine tr_h (y_ld Try.isAgg84 rfl) k6 rfl rfl ?_
  refine tr_p (y_len (ts := #[]) Try.runUnderlying84 (o := y5.ptr) (n := y5.len) (cap := y5.cap) rfl) rfl rfl ?_
  refine tr_p (y_eql rfl rfl) rfl rfl ?_
  refine tr_nil ?_
  refine tr_thenN ?_
  refine tr_cond rfl (fun g7 => ?_) (fun g7 => ?_)
  · replace H := H.1 g7
    refine tr_seq ?_
    refine tr_region ?_
    obtain ⟨y8, k9, H⟩ := H
    refine tr_h (y_ldS Try.isAgg60 Try.sizeOf60 rfl rfl) k9 rfl rfl ?_
    refine tr_e (f_store (vs := y8.cells) Try.sizeOf60 rfl rfl cellsOfStruct rfl (by intro v hv; exact ones_S_spatelaw5_Wide _ v hv) H) rfl rfl ?_
    rintro _ h10 ⟨rfl, H⟩
    refine tr_p (y_assign rfl) rfl rfl ?_
    refine tr_p (y_assign rfl) rfl rfl ?_
    refine tr_nil ?_
    refine tr_thenN ?_
    refine tr_ret ?_
    refine tr_thenR ?_
    obtain ⟨y11, k12, H⟩ := H
    exact tr_rv3 rfl (rv_cellS Try.isAgg60 Try.sizeOf60 rfl rfl k12) (rv_tmp rfl) (rv_tmp rfl) ⟨_, _, _, rfl, H⟩
  · replace H := H.2 g7
    refine tr_skip ?_
    refine tr_thenN ?_
    refine tr_seq ?_
    refine tr_draw mixed [0, 1, 3, 7, 0, 16, 48, 112, 240, 496, 1023, 2047, 0, 8191] (by kernel_rfl) ?_
    refine g_p 0 1 rfl (by kernel_rfl) (y_move rfl) rfl rfl ?_
    obtain ⟨a13, e14, H⟩ := H
    refine g_p 1 3 rfl (by kernel_rfl) (f_nn rfl e14) rfl rfl ?_
    refine g_p 2 7 rfl (by kernel_rfl) (y_fa (off := 0) Try.runUnderlying86 fo_86_0 rfl) rfl rfl ?_
    obtain ⟨y15, k16, H⟩ := H
    refine g_h 3 15 rfl (by kernel_rfl) (y_ld Try.isAgg84 rfl) k16 rfl rfl ?_
    refine g_p 4 31 rfl (by kernel_rfl) (y_move rfl) rfl rfl ?_
    obtain ⟨a17, e18, H⟩ := H
    refine g_p 5 63 rfl (by kernel_rfl) (f_nn rfl e18) rfl rfl ?_
    refine g_p 6 127 rfl (by kernel_rfl) (y_fa (off := 0) Try.runUnderlying86 fo_86_0 rfl) rfl rfl ?_
    obtain ⟨y19, k20, H⟩ := H
    refine g_h 7 255 rfl (by kernel_rfl) (y_ld Try.isAgg84 rfl) k20 rfl rfl ?_
    refine g_p 8 511 rfl (by kernel_rfl) (y_len (ts := #[]) Try.runUnderlying84 (o := y19.ptr) (n := y19.len) (cap := y19.cap) rfl) rfl rfl ?_
    refine g_p 9 1023 rfl (by kernel_rfl) (y_sub rfl rfl) rfl rfl ?_
    obtain ⟨a21, e22, H⟩ := H
    refine g_p 10 2047 rfl (by kernel_rfl) (f_idx (s := y15) Try.runUnderlying84 Try.sizeOf103 rfl rfl e22) rfl rfl ?_
    obtain ⟨y23, k24, H⟩ := H
    refine g_h 11 4095 rfl (by kernel_rfl) (y_ldS Try.isAgg103 Try.sizeOf103 rfl rfl) k24 rfl rfl ?_
    refine g_e 12 8191 [(11, fun h => Cells h a21 y23.cells), (7, fun h => cellH h (a17.add 0) = some y19.enc), (3, fun h => cellH h (a13.add 0) = some y15.enc)] (by kernel_rfl) rfl (by kernel_rfl) (f_alloc (cs := ((⟨0, (⟨0, (⟨#[]⟩ : ByteArray)⟩ : S_spatelaw5_Wide), false⟩ : S_chain_version_spatelaw5_Wide) : S_chain_version_spatelaw5_Wide).cells.toArray) Try.zeroValue103 rfl H) rfl rfl ?_
    rintro _ h25 ⟨a26, rfl, H⟩
    obtain ⟨k27, k28, k29, H⟩ := H
    refine ⟨And.intro k27 (And.intro k28 (And.intro k29 trivial)), ?_⟩
    refine g_e 13 16383 [] (by kernel_rfl) rfl (by kernel_rfl) (f_store (vs := y23.cells) Try.sizeOf103 rfl rfl cellsOfStruct rfl (by intro v hv; exact ones_S_chain_version_spatelaw5_Wide _ v hv) H) rfl rfl ?_
    rintro _ h30 ⟨rfl, H⟩
    refine ⟨trivial, ?_⟩
    refine g_d (by kernel_rfl) ?_
    refine tr_thenN ?_
    refine tr_seq ?_
    refine tr_draw mixed [0, 1, 0, 4, 0, 16, 48, 3, 143, 511] (by kernel_rfl) ?_
    refine g_p 0 1 rfl (by kernel_rfl) (y_fa (off := 1) Try.runUnderlying103 fo_103_1 rfl) rfl rfl ?_
    obtain ⟨y31, k32, H⟩ := H
    refine g_h 1 3 rfl (by kernel_rfl) (y_ldS Try.isAgg60 Try.sizeOf60 rfl rfl) k32 rfl rfl ?_
    refine g_p 2 7 rfl (by kernel_rfl) (y_fa (off := 0) Try.runUnderlying103 fo_103_0 rfl) rfl rfl ?_
    obtain ⟨y33, k34, H⟩ := H
    refine g_h 3 15 rfl (by kernel_rfl) (y_ld Try.isAgg3 rfl) k34 rfl rfl ?_
    refine g_p 4 31 rfl (by kernel_rfl) (y_fa (off := 3) Try.runUnderlying103 fo_103_2 rfl) rfl rfl ?_
    obtain ⟨y35, k36, H⟩ := H
    refine g_h 5 63 rfl (by kernel_rfl) (y_ld Try.isAgg4 rfl) k36 rfl rfl ?_
    refine g_p 6 127 rfl (by kernel_rfl) (y_not rfl) rfl rfl ?_
    refine g_e 7 255 [(5, fun h => cellH h (a26.add 3) = some (.bool y35)), (3, fun h => cellH h (a26.add 0) = some (.int .i64 y33))] (by kernel_rfl) rfl (by kernel_rfl) (f_store (vs := y31.cells) Try.sizeOf60 rfl rfl cellsOfStruct rfl (by intro v hv; exact ones_S_spatelaw5_Wide _ v hv) H) rfl rfl ?_
    rintro _ h37 ⟨rfl, H⟩
    obtain ⟨k38, k39, H⟩ := H
    refine ⟨And.intro k38 (And.intro k39 trivial), ?_⟩
    refine g_p 8 511 rfl (by kernel_rfl) (y_assign rfl) rfl rfl ?_
    refine g_p 9 1023 rfl (by kernel_rfl) (y_assign rfl) rfl rfl ?_
    refine g_d (by kernel_rfl) ?_
    refine tr_thenN ?_
    refine tr_ret ?_
    obtain ⟨y40, k41, H⟩ := H
    exact tr_rv3 rfl (rv_cellS Try.isAgg60 Try.sizeOf60 rfl rfl k41) (rv_tmp rfl) (rv_tmp rfl) ⟨_, _, _, rfl, H⟩

/-- (*spate/chain.Chain[spate/spatelaw5.Wide]).Kill -/
def F.chain_Chain_spatelaw5_Wide_Kill (p0 : Option Addr) (p1 : Int) (h : H) (Q : Int → Int → H → Prop) : Prop :=
  F.chain_Chain_spatelaw5_Wide_may p0 p1 h fun r2 h1 =>
  (((r2 != 0)) = true →
  Q 0 r2 h1) ∧
  (((r2 != 0)) = false →
  F.chain_Chain_spatelaw5_Wide_Newest p0 h1 fun r5 r6 r7 h4 =>
  new h4 (((⟨0, (⟨#[]⟩ : ByteArray)⟩ : S_spatelaw5_Wide) : S_spatelaw5_Wide).cells.toArray) ty_60 fun a9 h8 =>
  stH h8 a9 r5.cells fun h10 =>
  ((!r7) = true →
  Q 0 44 h10) ∧
  ((!r7) = false →
  F.chain_Chain_spatelaw5_Wide_lay p0 (⟨p1, (⟨0, (⟨#[]⟩ : ByteArray)⟩ : S_spatelaw5_Wide), true⟩ : S_chain_version_spatelaw5_Wide) h10 fun r13 h12 =>
  Q r13 0 h12))
theorem F.chain_Chain_spatelaw5_Wide_Kill_ok {p0 : Option Addr} {p1 : Int} {h : H} {Q : Int → Int → H → Prop} (H : F.chain_Chain_spatelaw5_Wide_Kill p0 p1 h Q) : Fn PP 64 ([(.pointer p0), (.int .i64 p1)] : List Value).toArray h fun r h' => ∃ r0 r1, r = .tuple #[(.int .i64 r0), (.int .i64 r1)] ∧ Q r0 r1 h' := by
  unfold F.chain_Chain_spatelaw5_Wide_Kill at H
  refine fn_of Try.func64 Try.ntmps64 rfl rfl fun w0 => ?_
  refine tr_sub [(0, (.pointer p0)), (1, (.int .i64 p1))] ⟨rfl, rfl, trivial⟩ ?_
  refine tr_seq ?_
  refine tr_region ?_
  refine tr_p (y_assign rfl) rfl rfl ?_
  refine tr_p (y_assign rfl) rfl rfl ?_
  refine tr_nil ?_
  refine tr_thenN ?_
  refine tr_seq ?_
  refine tr_seq ?_
  refine tr_region ?_
  refine tr_p (y_move rfl) rfl rfl ?_
  refine tr_p (y_move rfl) rfl rfl ?_
  refine tr_e (e_call Try.call71 rfl (F.chain_Chain_spatelaw5_Wide_may_ok H)) rfl rfl ?_
  rintro _ h1 ⟨r2, rfl, H⟩
  refine tr_p (y_assign rfl) rfl rfl ?_
  refine tr_nil ?_
  refine tr_thenN ?_
  refine tr_seq ?_
  refine tr_region ?_
  refine tr_p (y_move rfl) rfl rfl ?_
  refine tr_p (y_neq rfl rfl) rfl rfl ?_
  refine tr_nil ?_
  refine tr_thenN ?_
  refine tr_cond rfl (fun g3 => ?_) (fun g3 => ?_)
  · replace H := H.1 g3
    refine tr_seq ?_
    refine tr_region ?_
    refine tr_p (y_move rfl) rfl rfl ?_
    refine tr_p (y_assign rfl) rfl rfl ?_
    refine tr_p (y_assign rfl) rfl rfl ?_
    refine tr_nil ?_
    refine tr_thenN ?_
    refine tr_ret ?_
    refine tr_thenR ?_
    exact tr_ret2 rfl rfl rfl ⟨_, _, rfl, H⟩
  · replace H := H.2 g3
    refine tr_skip ?_
    refine tr_thenN ?_
    refine tr_seq ?_
    refine tr_seq ?_
    refine tr_region ?_
    refine tr_p (y_move rfl) rfl rfl ?_
    refine tr_e (e_call Try.call56 rfl (F.chain_Chain_spatelaw5_Wide_Newest_ok H)) rfl rfl ?_
    rintro _ h4 ⟨r5, r6, r7, rfl, H⟩
    refine tr_p (y_move rfl) rfl rfl ?_
    refine tr_p (y_ext rfl rfl) rfl rfl ?_
    refine tr_p (y_ext rfl rfl) rfl rfl ?_
    refine tr_p (y_ext rfl rfl) rfl rfl ?_
    refine tr_e (f_alloc (cs := ((⟨0, (⟨#[]⟩ : ByteArray)⟩ : S_spatelaw5_Wide) : S_spatelaw5_Wide).cells.toArray) Try.zeroValue60 rfl H) rfl rfl ?_
    rintro _ h8 ⟨a9, rfl, H⟩
    refine tr_e (f_store (vs := r5.cells) Try.sizeOf60 rfl rfl cellsOfStruct rfl (by intro v hv; exact ones_S_spatelaw5_Wide _ v hv) H) rfl rfl ?_
    rintro _ h10 ⟨rfl, H⟩
    refine tr_p (y_assign rfl) rfl rfl ?_
    refine tr_p (y_assign rfl) rfl rfl ?_
    refine tr_nil ?_
    refine tr_thenN ?_
    refine tr_seq ?_
    refine tr_region ?_
    refine tr_p (y_move rfl) rfl rfl ?_
    refine tr_p (y_not rfl) rfl rfl ?_
    refine tr_nil ?_
    refine tr_thenN ?_
    refine tr_cond rfl (fun g11 => ?_) (fun g11 => ?_)
    · replace H := H.1 g11
      refine tr_seq ?_
      refine tr_region ?_
      refine tr_p (y_assign rfl) rfl rfl ?_
      refine tr_p (y_assign rfl) rfl rfl ?_
      refine tr_nil ?_
      refine tr_thenN ?_
      refine tr_ret ?_
      refine tr_thenR ?_
      exact tr_ret2 rfl rfl rfl ⟨_, _, rfl, H⟩
    · replace H := H.2 g11
      refine tr_skip ?_
      refine tr_thenN ?_
      refine tr_seq ?_
      refine tr_region ?_
      refine tr_p (y_move rfl) rfl rfl ?_
      refine tr_p (y_move rfl) rfl rfl ?_
      refine tr_p (f_build rfl (bd_103_0_2 p1 true)) rfl rfl ?_
      refine tr_e (e_call Try.call72 rfl (F.chain_Chain_spatelaw5_Wide_lay_ok H)) rfl rfl ?_
      rintro _ h12 ⟨r13, rfl, H⟩
      refine tr_p (y_assign rfl) rfl rfl ?_
      refine tr_p (y_assign rfl) rfl rfl ?_
      refine tr_nil ?_
      refine tr_thenN ?_
      refine tr_ret ?_
      exact tr_ret2 rfl rfl rfl ⟨_, _, rfl, H⟩

/-- (*spate/spateref5.Chain).Kill -/
def F.spateref5_Chain_Kill (p0 : Option Addr) (p1 : Int) (h : H) (Q : Int → Int → H → Prop) : Prop :=
  F.spateref5_Chain_wrong p0 p1 h fun r2 h1 =>
  (((r2 != 0)) = true →
  Q 0 r2 h1) ∧
  (((r2 != 0)) = false →
  F.spateref5_Chain_newest p0 h1 fun r5 h4 =>
  ((!r5.Is) = true →
  Q 0 44 h4) ∧
  ((!r5.Is) = false →
  F.spateref5_Chain_lay p0 (⟨p1, 0, false⟩ : S_spateref5_Version) h4 fun r8 h7 =>
  Q r8 0 h7))
theorem F.spateref5_Chain_Kill_ok {p0 : Option Addr} {p1 : Int} {h : H} {Q : Int → Int → H → Prop} (H : F.spateref5_Chain_Kill p0 p1 h Q) : Fn PP 65 ([(.pointer p0), (.int .i64 p1)] : List Value).toArray h fun r h' => ∃ r0 r1, r = .tuple #[(.int .i64 r0), (.int .i64 r1)] ∧ Q r0 r1 h' := by
  unfold F.spateref5_Chain_Kill at H
  refine fn_of Try.func65 Try.ntmps65 rfl rfl fun w0 => ?_
  refine tr_sub [(0, (.pointer p0)), (1, (.int .i64 p1))] ⟨rfl, rfl, trivial⟩ ?_
  refine tr_seq ?_
  refine tr_region ?_
  refine tr_p (y_assign rfl) rfl rfl ?_
  refine tr_p (y_assign rfl) rfl rfl ?_
  refine tr_nil ?_
  refine tr_thenN ?_
  refine tr_seq ?_
  refine tr_region ?_
  refine tr_p (y_move rfl) rfl rfl ?_
  refine tr_p (y_move rfl) rfl rfl ?_
  refine tr_e (e_call Try.call73 rfl (F.spateref5_Chain_wrong_ok H)) rfl rfl ?_
  rintro _ h1 ⟨r2, rfl, H⟩
  refine tr_p (y_assign rfl) rfl rfl ?_
  refine tr_nil ?_
  refine tr_thenN ?_
  refine tr_seq ?_
  refine tr_seq ?_
  refine tr_region ?_
  refine tr_p (y_move rfl) rfl rfl ?_
  refine tr_p (y_neq rfl rfl) rfl rfl ?_
  refine tr_nil ?_
  refine tr_thenN ?_
  refine tr_cond rfl (fun g3 => ?_) (fun g3 => ?_)
  · replace H := H.1 g3
    refine tr_seq ?_
    refine tr_region ?_
    refine tr_p (y_move rfl) rfl rfl ?_
    refine tr_p (y_assign rfl) rfl rfl ?_
    refine tr_p (y_assign rfl) rfl rfl ?_
    refine tr_nil ?_
    refine tr_thenN ?_
    refine tr_ret ?_
    refine tr_thenR ?_
    exact tr_ret2 rfl rfl rfl ⟨_, _, rfl, H⟩
  · replace H := H.2 g3
    refine tr_skip ?_
    refine tr_thenN ?_
    refine tr_seq ?_
    refine tr_seq ?_
    refine tr_region ?_
    refine tr_p (y_move rfl) rfl rfl ?_
    refine tr_e (e_call Try.call70 rfl (F.spateref5_Chain_newest_ok H)) rfl rfl ?_
    rintro _ h4 ⟨r5, rfl, H⟩
    refine tr_p (y_field (fl_89_2 r5) rfl) rfl rfl ?_
    refine tr_p (y_not rfl) rfl rfl ?_
    refine tr_nil ?_
    refine tr_thenN ?_
    refine tr_cond rfl (fun g6 => ?_) (fun g6 => ?_)
    · replace H := H.1 g6
      refine tr_seq ?_
      refine tr_region ?_
      refine tr_p (y_assign rfl) rfl rfl ?_
      refine tr_p (y_assign rfl) rfl rfl ?_
      refine tr_nil ?_
      refine tr_thenN ?_
      refine tr_ret ?_
      refine tr_thenR ?_
      exact tr_ret2 rfl rfl rfl ⟨_, _, rfl, H⟩
    · replace H := H.2 g6
      refine tr_skip ?_
      refine tr_thenN ?_
      refine tr_seq ?_
      refine tr_region ?_
      refine tr_p (y_move rfl) rfl rfl ?_
      refine tr_p (y_move rfl) rfl rfl ?_
      refine tr_p (f_build rfl (bd_89_0 p1)) rfl rfl ?_
      refine tr_e (e_call Try.call74 rfl (F.spateref5_Chain_lay_ok H)) rfl rfl ?_
      rintro _ h7 ⟨r8, rfl, H⟩
      refine tr_p (y_assign rfl) rfl rfl ?_
      refine tr_p (y_assign rfl) rfl rfl ?_
      refine tr_nil ?_
      refine tr_thenN ?_
      refine tr_ret ?_
      exact tr_ret2 rfl rfl rfl ⟨_, _, rfl, H⟩

/-- (*spate/spatelaw5.World).kill -/
def F.spatelaw5_World_kill (p0 : Option Addr) (p1 : Int) (h : H) (Q : Bool → H → Prop) : Prop :=
  nn p0 fun a1 =>
  ldP h (a1.add 0) fun y3 =>
  F.chain_Chain_int_Kill y3 p1 h fun r6 r7 h5 =>
  nn p0 fun a8 =>
  ldP h5 (a8.add 1) fun y10 =>
  F.chain_Chain_spatelaw5_Wide_Kill y10 p1 h5 fun r13 r14 h12 =>
  nn p0 fun a15 =>
  ldP h12 (a15.add 2) fun y17 =>
  F.spateref5_Chain_Kill y17 p1 h12 fun r20 r21 h19 =>
  (((r6 == r20)) = true →
  (((r13 == r20)) = true →
  (((r7 == r21)) = true →
  Q ((r14 == r21)) h19) ∧
  (((r7 == r21)) = false →
  Q false h19)) ∧
  (((r13 == r20)) = false →
  Q false h19)) ∧
  (((r6 == r20)) = false →
  Q false h19)
theorem F.spatelaw5_World_kill_ok {p0 : Option Addr} {p1 : Int} {h : H} {Q : Bool → H → Prop} (H : F.spatelaw5_World_kill p0 p1 h Q) : Fn PP 45 ([(.pointer p0), (.int .i64 p1)] : List Value).toArray h fun r h' => ∃ r0, r = (.bool r0) ∧ Q r0 h' := by
  unfold F.spatelaw5_World_kill at H
  refine fn_of Try.func45 Try.ntmps45 rfl rfl fun w0 => ?_
  refine tr_sub [(0, (.pointer p0)), (1, (.int .i64 p1))] ⟨rfl, rfl, trivial⟩ ?_
  refine tr_seq ?_
  refine tr_region ?_
  refine tr_p (y_assign rfl) rfl rfl ?_
  refine tr_nil ?_
  refine tr_thenN ?_
  refine tr_seq ?_
  refine tr_region ?_
  refine tr_p (y_move rfl) rfl rfl ?_
  obtain ⟨a1, e2, H⟩ := H
  refine tr_p (f_nn rfl e2) rfl rfl ?_
  refine tr_p (y_fa (off := 0) Try.runUnderlying66 fo_66_0 rfl) rfl rfl ?_
  obtain ⟨y3, k4, H⟩ := H
  refine tr_h (y_ld Try.isAgg25 rfl) k4 rfl rfl ?_
  refine tr_p (y_move rfl) rfl rfl ?_
  refine tr_e (e_call Try.call22 rfl (F.chain_Chain_int_Kill_ok H)) rfl rfl ?_
  rintro _ h5 ⟨r6, r7, rfl, H⟩
  refine tr_p (y_move rfl) rfl rfl ?_
  refine tr_p (y_ext rfl rfl) rfl rfl ?_
  refine tr_p (y_ext rfl rfl) rfl rfl ?_
  refine tr_p (y_assign rfl) rfl rfl ?_
  refine tr_p (y_assign rfl) rfl rfl ?_
  refine tr_nil ?_
  refine tr_thenN ?_
  refine tr_seq ?_
  refine tr_region ?_
  refine tr_p (y_move rfl) rfl rfl ?_
  obtain ⟨a8, e9, H⟩ := H
  refine tr_p (f_nn rfl e9) rfl rfl ?_
  refine tr_p (y_fa (off := 1) Try.runUnderlying66 fo_66_1 rfl) rfl rfl ?_
  obtain ⟨y10, k11, H⟩ := H
  refine tr_h (y_ld Try.isAgg57 rfl) k11 rfl rfl ?_
  refine tr_p (y_move rfl) rfl rfl ?_
  refine tr_e (e_call Try.call64 rfl (F.chain_Chain_spatelaw5_Wide_Kill_ok H)) rfl rfl ?_
  rintro _ h12 ⟨r13, r14, rfl, H⟩
  refine tr_p (y_move rfl) rfl rfl ?_
  refine tr_p (y_ext rfl rfl) rfl rfl ?_
  refine tr_p (y_ext rfl rfl) rfl rfl ?_
  refine tr_p (y_assign rfl) rfl rfl ?_
  refine tr_p (y_assign rfl) rfl rfl ?_
  refine tr_nil ?_
  refine tr_thenN ?_
  refine tr_seq ?_
  refine tr_region ?_
  refine tr_p (y_move rfl) rfl rfl ?_
  obtain ⟨a15, e16, H⟩ := H
  refine tr_p (f_nn rfl e16) rfl rfl ?_
  refine tr_p (y_fa (off := 2) Try.runUnderlying66 fo_66_2 rfl) rfl rfl ?_
  obtain ⟨y17, k18, H⟩ := H
  refine tr_h (y_ld Try.isAgg61 rfl) k18 rfl rfl ?_
  refine tr_p (y_move rfl) rfl rfl ?_
  refine tr_e (e_call Try.call65 rfl (F.spateref5_Chain_Kill_ok H)) rfl rfl ?_
  rintro _ h19 ⟨r20, r21, rfl, H⟩
  refine tr_p (y_move rfl) rfl rfl ?_
  refine tr_p (y_ext rfl rfl) rfl rfl ?_
  refine tr_p (y_ext rfl rfl) rfl rfl ?_
  refine tr_p (y_assign rfl) rfl rfl ?_
  refine tr_p (y_assign rfl) rfl rfl ?_
  refine tr_nil ?_
  refine tr_thenN ?_
  refine tr_seq ?_
  refine tr_region ?_
  refine tr_p (y_move rfl) rfl rfl ?_
  refine tr_p (y_move rfl) rfl rfl ?_
  refine tr_p (y_eql rfl rfl) rfl rfl ?_
  refine tr_p (y_move rfl) rfl rfl ?_
  refine tr_split (t := 41) rfl (fun g22 => ?_) (fun g22 => ?_)
  · replace H := H.1 g22
    refine tr_p (y_move rfl) rfl rfl ?_
    refine tr_p (y_move rfl) rfl rfl ?_
    refine tr_p (y_eql rfl rfl) rfl rfl ?_
    refine tr_p (y_pick_t rfl rfl) rfl rfl ?_
    refine tr_p (y_move rfl) rfl rfl ?_
    refine tr_split (t := 46) rfl (fun g23 => ?_) (fun g23 => ?_)
    · replace H := H.1 g23
      refine tr_p (y_move rfl) rfl rfl ?_
      refine tr_p (y_move rfl) rfl rfl ?_
      refine tr_p (y_eql rfl rfl) rfl rfl ?_
      refine tr_p (y_pick_t rfl rfl) rfl rfl ?_
      refine tr_p (y_move rfl) rfl rfl ?_
      refine tr_split (t := 51) rfl (fun g24 => ?_) (fun g24 => ?_)
      · replace H := H.1 g24
        refine tr_p (y_move rfl) rfl rfl ?_
        refine tr_p (y_move rfl) rfl rfl ?_
        refine tr_p (y_eql rfl rfl) rfl rfl ?_
        refine tr_p (y_pick_t rfl rfl) rfl rfl ?_
        refine tr_p (y_assign rfl) rfl rfl ?_
        refine tr_nil ?_
        refine tr_thenN ?_
        refine tr_ret ?_
        exact tr_ret1 rfl rfl ⟨_, rfl, H⟩
      · replace H := H.2 g24
        refine tr_s rfl rfl ?_
        refine tr_s rfl rfl ?_
        refine tr_s rfl rfl ?_
        refine tr_p (y_pick_f rfl rfl) rfl rfl ?_
        refine tr_p (y_assign rfl) rfl rfl ?_
        refine tr_nil ?_
        refine tr_thenN ?_
        refine tr_ret ?_
        exact tr_ret1 rfl rfl ⟨_, rfl, H⟩
    · replace H := H.2 g23
      refine tr_s rfl rfl ?_
      refine tr_s rfl rfl ?_
      refine tr_s rfl rfl ?_
      refine tr_p (y_pick_f rfl rfl) rfl rfl ?_
      refine tr_p (y_move rfl) rfl rfl ?_
      refine tr_s rfl rfl ?_
      refine tr_s rfl rfl ?_
      refine tr_s rfl rfl ?_
      refine tr_p (y_pick_f rfl rfl) rfl rfl ?_
      refine tr_p (y_assign rfl) rfl rfl ?_
      refine tr_nil ?_
      refine tr_thenN ?_
      refine tr_ret ?_
      exact tr_ret1 rfl rfl ⟨_, rfl, H⟩
  · replace H := H.2 g22
    refine tr_s rfl rfl ?_
    refine tr_s rfl rfl ?_
    refine tr_s rfl rfl ?_
    refine tr_p (y_pick_f rfl rfl) rfl rfl ?_
    refine tr_p (y_move rfl) rfl rfl ?_
    refine tr_s rfl rfl ?_
    refine tr_s rfl rfl ?_
    refine tr_s rfl rfl ?_
    refine tr_p (y_pick_f rfl rfl) rfl rfl ?_
    refine tr_p (y_move rfl) rfl rfl ?_
    refine tr_s rfl rfl ?_
    refine tr_s rfl rfl ?_
    refine tr_s rfl rfl ?_
    refine tr_p (y_pick_f rfl rfl) rfl rfl ?_
    refine tr_p (y_assign rfl) rfl rfl ?_
    refine tr_nil ?_
    refine tr_thenN ?_
    refine tr_ret ?_
    exact tr_ret1 rfl rfl ⟨_, rfl, H⟩

/-- (*spate/spateref5.Chain).Newest -/
def F.spateref5_Chain_Newest (p0 : Option Addr) (h : H) (Q : Int → Int → Bool → H → Prop) : Prop :=
  F.spateref5_Chain_newest p0 h fun r2 h1 =>
  new h1 (((⟨0, 0, false⟩ : S_spateref5_Version) : S_spateref5_Version).cells.toArray) ty_89 fun a4 h3 =>
  stH h3 a4 r2.cells fun h5 =>
  ldI .i64 h5 (a4.add 1) fun y6 =>
  ldI .i64 h5 (a4.add 0) fun y8 =>
  ldB h5 (a4.add 2) fun y10 =>
  Q y6 y8 y10 h5
theorem F.spateref5_Chain_Newest_ok {p0 : Option Addr} {h : H} {Q : Int → Int → Bool → H → Prop} (H : F.spateref5_Chain_Newest p0 h Q) : Fn PP 57 ([(.pointer p0)] : List Value).toArray h fun r h' => ∃ r0 r1 r2, r = .tuple #[(.int .i64 r0), (.int .i64 r1), (.bool r2)] ∧ Q r0 r1 r2 h' := by
  unfold F.spateref5_Chain_Newest at H
  refine fn_of Try.func57 Try.ntmps57 rfl rfl fun w0 => ?_
  refine tr_sub [(0, (.pointer p0))] ⟨rfl, trivial⟩ ?_
  refine tr_seq ?_
  refine tr_region ?_
  refine tr_p (y_assign rfl) rfl rfl ?_
  refine tr_p (y_assign rfl) rfl rfl ?_
  refine tr_p (y_assign rfl) rfl rfl ?_
  refine tr_nil ?_
  refine tr_thenN ?_
  refine tr_seq ?_
  refine tr_region ?_
  refine tr_p (y_move rfl) rfl rfl ?_
  refine tr_e (e_call Try.call70 rfl (F.spateref5_Chain_newest_ok H)) rfl rfl ?_
  rintro _ h1 ⟨r2, rfl, H⟩
  refine tr_e (f_alloc (cs := ((⟨0, 0, false⟩ : S_spateref5_Version) : S_spateref5_Version).cells.toArray) Try.zeroValue89 rfl H) rfl rfl ?_
  rintro _ h3 ⟨a4, rfl, H⟩
  refine tr_e (f_store (vs := r2.cells) Try.sizeOf89 rfl rfl cellsOfStruct rfl (by intro v hv; exact ones_S_spateref5_Version _ v hv) H) rfl rfl ?_
  rintro _ h5 ⟨rfl, H⟩
  refine tr_nil ?_
  refine tr_thenN ?_
  refine tr_seq ?_
  refine tr_draw mixed [0, 1, 0, 4, 0, 16, 3, 79, 255] (by kernel_rfl) ?_
  refine g_p 0 1 rfl (by kernel_rfl) (y_fa (off := 1) Try.runUnderlying89 fo_89_1 rfl) rfl rfl ?_
  obtain ⟨y6, k7, H⟩ := H
  refine g_h 1 3 rfl (by kernel_rfl) (y_ld Try.isAgg3 rfl) k7 rfl rfl ?_
  refine g_p 2 7 rfl (by kernel_rfl) (y_fa (off := 0) Try.runUnderlying89 fo_89_0 rfl) rfl rfl ?_
  obtain ⟨y8, k9, H⟩ := H
  refine g_h 3 15 rfl (by kernel_rfl) (y_ld Try.isAgg3 rfl) k9 rfl rfl ?_
  refine g_p 4 31 rfl (by kernel_rfl) (y_fa (off := 2) Try.runUnderlying89 fo_89_2 rfl) rfl rfl ?_
  obtain ⟨y10, k11, H⟩ := H
  refine g_h 5 63 rfl (by kernel_rfl) (y_ld Try.isAgg4 rfl) k11 rfl rfl ?_
  refine g_p 6 127 rfl (by kernel_rfl) (y_assign rfl) rfl rfl ?_
  refine g_p 7 255 rfl (by kernel_rfl) (y_assign rfl) rfl rfl ?_
  refine g_p 8 511 rfl (by kernel_rfl) (y_assign rfl) rfl rfl ?_
  refine g_d (by kernel_rfl) ?_
  refine tr_thenN ?_
  refine tr_ret ?_
  exact tr_ret3 rfl rfl rfl rfl ⟨_, _, _, rfl, H⟩

/-- (*spate/spatelaw5.World).near -/
def F.spatelaw5_World_near (p0 : Option Addr) (p1 : Int) (h : H) (Q : Int → H → Prop) : Prop :=
  nn p0 fun a1 =>
  ldP h (a1.add 2) fun y3 =>
  F.spateref5_Chain_Newest y3 h fun r6 r7 r8 h5 =>
  F.spatelaw5_within p1 9 h5 fun r10 h9 =>
  Q (IntKind.wrap .i64 ((IntKind.wrap .i64 (r7 + r10)) - 1)) h9
theorem F.spatelaw5_World_near_ok {p0 : Option Addr} {p1 : Int} {h : H} {Q : Int → H → Prop} (H : F.spatelaw5_World_near p0 p1 h Q) : Fn PP 46 ([(.pointer p0), (.int .i64 p1)] : List Value).toArray h fun r h' => ∃ r0, r = (.int .i64 r0) ∧ Q r0 h' := by
  unfold F.spatelaw5_World_near at H
  refine fn_of Try.func46 Try.ntmps46 rfl rfl fun w0 => ?_
  refine tr_sub [(0, (.pointer p0)), (1, (.int .i64 p1))] ⟨rfl, rfl, trivial⟩ ?_
  refine tr_seq ?_
  refine tr_region ?_
  refine tr_p (y_assign rfl) rfl rfl ?_
  refine tr_nil ?_
  refine tr_thenN ?_
  refine tr_seq ?_
  refine tr_region ?_
  refine tr_p (y_move rfl) rfl rfl ?_
  obtain ⟨a1, e2, H⟩ := H
  refine tr_p (f_nn rfl e2) rfl rfl ?_
  refine tr_p (y_fa (off := 2) Try.runUnderlying66 fo_66_2 rfl) rfl rfl ?_
  obtain ⟨y3, k4, H⟩ := H
  refine tr_h (y_ld Try.isAgg61 rfl) k4 rfl rfl ?_
  refine tr_e (e_call Try.call57 rfl (F.spateref5_Chain_Newest_ok H)) rfl rfl ?_
  rintro _ h5 ⟨r6, r7, r8, rfl, H⟩
  refine tr_p (y_move rfl) rfl rfl ?_
  refine tr_p (y_ext rfl rfl) rfl rfl ?_
  refine tr_p (y_ext rfl rfl) rfl rfl ?_
  refine tr_p (y_ext rfl rfl) rfl rfl ?_
  refine tr_p (y_assign rfl) rfl rfl ?_
  refine tr_p (y_assign rfl) rfl rfl ?_
  refine tr_p (y_assign rfl) rfl rfl ?_
  refine tr_nil ?_
  refine tr_thenN ?_
  refine tr_seq ?_
  refine tr_region ?_
  refine tr_p (y_move rfl) rfl rfl ?_
  refine tr_p (y_move rfl) rfl rfl ?_
  refine tr_e (e_call Try.call21 rfl (F.spatelaw5_within_ok H)) rfl rfl ?_
  rintro _ h9 ⟨r10, rfl, H⟩
  refine tr_p (y_add rfl rfl) rfl rfl ?_
  refine tr_p (y_sub rfl rfl) rfl rfl ?_
  refine tr_p (y_assign rfl) rfl rfl ?_
  refine tr_nil ?_
  refine tr_thenN ?_
  refine tr_ret ?_
  exact tr_ret1 rfl rfl ⟨_, rfl, H⟩

def F.slices_BinarySearchFunc_Slchain_version_spatelaw5_Wide_chain_version_spatelaw5_Wide_int.l1 (Q : Int → Bool → H → Prop) : Nat → Sl → Int → Value → Int → Int → Int → H → Prop
  | 0, _, _, _, _, _, _, _ => False
  | q1 + 1, x0, x1, x2, x8, x9, x10, h =>
    ((decide (x9 < x10)) = true →
    0 ≤ (1 : Int) ∧
    idxA x0 (IntKind.wrap .i64 (Int.fdiv (IntKind.wrap .u64 (IntKind.wrap .i64 (x9 + x10))) (2 ^ (min (1 : Int).toNat (IntKind.bits .u64)) : Int))) 4 fun a3 =>
    ld_S_chain_version_spatelaw5_Wide h a3 fun y5 =>
    CV PP x2 [(.agg y5.cells.toArray), (.int .i64 x1)] h fun u h7 => ∃ (r8 : Int), u = (.int .i64 r8) ∧
    ((decide (r8 < 0)) = true →
    (F.slices_BinarySearchFunc_Slchain_version_spatelaw5_Wide_chain_version_spatelaw5_Wide_int.l1 Q q1) x0 x1 x2 x8 (IntKind.wrap .i64 ((IntKind.wrap .i64 (Int.fdiv (IntKind.wrap .u64 (IntKind.wrap .i64 (x9 + x10))) (2 ^ (min (1 : Int).toNat (IntKind.bits .u64)) : Int))) + 1)) x10 h7) ∧
    ((decide (r8 < 0)) = false →
    (F.slices_BinarySearchFunc_Slchain_version_spatelaw5_Wide_chain_version_spatelaw5_Wide_int.l1 Q q1) x0 x1 x2 x8 x9 (IntKind.wrap .i64 (Int.fdiv (IntKind.wrap .u64 (IntKind.wrap .i64 (x9 + x10))) (2 ^ (min (1 : Int).toNat (IntKind.bits .u64)) : Int))) h7)) ∧
    ((decide (x9 < x10)) = false →
    ((decide (x9 < x8)) = true →
    idxA x0 x9 4 fun a11 =>
    ld_S_chain_version_spatelaw5_Wide h a11 fun y13 =>
    CV PP x2 [(.agg y13.cells.toArray), (.int .i64 x1)] h fun u h15 => ∃ (r16 : Int), u = (.int .i64 r16) ∧
    Q x9 ((r16 == 0)) h15) ∧
    ((decide (x9 < x8)) = false →
    Q x9 false h))
/-- slices.BinarySearchFunc[[]spate/chain.version[spate/spatelaw5.Wide],spate/chain.version[spate/spatelaw5.Wide],int] -/
def F.slices_BinarySearchFunc_Slchain_version_spatelaw5_Wide_chain_version_spatelaw5_Wide_int (p0 : Sl) (p1 : Int) (p2 : Value) (h : H) (Q : Int → Bool → H → Prop) : Prop :=
  ∃ m, F.slices_BinarySearchFunc_Slchain_version_spatelaw5_Wide_chain_version_spatelaw5_Wide_int.l1 Q m p0 p1 p2 (p0.len : Int) 0 (p0.len : Int) h
theorem F.slices_BinarySearchFunc_Slchain_version_spatelaw5_Wide_chain_version_spatelaw5_Wide_int_ok {p0 : Sl} {p1 : Int} {p2 : Value} {h : H} {Q : Int → Bool → H → Prop} (H : F.slices_BinarySearchFunc_Slchain_version_spatelaw5_Wide_chain_version_spatelaw5_Wide_int p0 p1 p2 h Q) : Fn PP 75 ([p0.enc, (.int .i64 p1), p2] : List Value).toArray h fun r h' => ∃ r0 r1, r = .tuple #[(.int .i64 r0), (.bool r1)] ∧ Q r0 r1 h' := by
  unfold F.slices_BinarySearchFunc_Slchain_version_spatelaw5_Wide_chain_version_spatelaw5_Wide_int at H
  refine fn_of Try.func75 Try.ntmps75 rfl rfl fun w0 => ?_
  refine tr_sub [(0, p0.enc), (1, (.int .i64 p1)), (2, p2)] ⟨rfl, rfl, rfl, trivial⟩ ?_
  refine tr_seq ?_
  refine tr_region ?_
  refine tr_p (y_assign rfl) rfl rfl ?_
  refine tr_p (y_assign rfl) rfl rfl ?_
  refine tr_nil ?_
  refine tr_thenN ?_
  refine tr_seq ?_
  refine tr_region ?_
  refine tr_p (y_move rfl) rfl rfl ?_
  refine tr_p (y_len (ts := #[]) Try.runUnderlying84 (o := p0.ptr) (n := p0.len) (cap := p0.cap) rfl) rfl rfl ?_
  refine tr_p (y_assign rfl) rfl rfl ?_
  refine tr_nil ?_
  refine tr_thenN ?_
  refine tr_seq ?_
  refine tr_region ?_
  refine tr_p (y_move rfl) rfl rfl ?_
  refine tr_p (y_assign rfl) rfl rfl ?_
  refine tr_p (y_assign rfl) rfl rfl ?_
  refine tr_nil ?_
  refine tr_thenN ?_
  refine tr_seq ?_
  refine tr_block ?_
  obtain ⟨m17, H⟩ := H
  refine tr_sub [(0, p0.enc), (1, (.int .i64 p1)), (2, p2), (8, (.int .i64 (p0.len : Int))), (9, (.int .i64 0)), (10, (.int .i64 (p0.len : Int)))] ⟨rfl, rfl, rfl, rfl, rfl, rfl, trivial⟩ ?_
  refine tr_loop_j (fun m L' h => ∃ (x0 : Sl) (x1 : Int) (x2 : Value) (x8 : Int) (x9 : Int) (x10 : Int), L' = [(0, x0.enc), (1, (.int .i64 x1)), (2, x2), (8, (.int .i64 x8)), (9, (.int .i64 x9)), (10, (.int .i64 x10))] ∧ F.slices_BinarySearchFunc_Slchain_version_spatelaw5_Wide_chain_version_spatelaw5_Wide_int.l1 Q m x0 x1 x2 x8 x9 x10 h) ?_ ?_ m17 ⟨_, _, _, _, _, _, rfl, H⟩
  · rintro L' h ⟨_, _, _, _, _, _, _, H⟩; exact H
  · rintro q1 L' h ⟨x0, x1, x2, x8, x9, x10, rfl, H⟩
    unfold F.slices_BinarySearchFunc_Slchain_version_spatelaw5_Wide_chain_version_spatelaw5_Wide_int.l1 at H
    refine tr_seq ?_
    refine tr_seq ?_
    refine tr_region ?_
    refine tr_p (y_move rfl) rfl rfl ?_
    refine tr_p (y_move rfl) rfl rfl ?_
    refine tr_p (y_lss rfl rfl) rfl rfl ?_
    refine tr_nil ?_
    refine tr_thenN ?_
    refine tr_cond rfl (fun g1 => ?_) (fun g1 => ?_)
    · replace H := H.1 g1
      refine tr_skip ?_
      refine tr_thenN ?_
      refine tr_block ?_
      refine tr_seq ?_
      refine tr_region ?_
      refine tr_p (y_move rfl) rfl rfl ?_
      refine tr_p (y_move rfl) rfl rfl ?_
      refine tr_p (y_add rfl rfl) rfl rfl ?_
      refine tr_p (y_cvt Try.runUnderlying3 Try.runUnderlying106 rfl) rfl rfl ?_
      obtain ⟨e2, H⟩ := H
      refine tr_p (y_shr rfl rfl e2) rfl rfl ?_
      refine tr_p (y_cvt Try.runUnderlying106 Try.runUnderlying3 rfl) rfl rfl ?_
      refine tr_p (y_assign rfl) rfl rfl ?_
      refine tr_nil ?_
      refine tr_thenN ?_
      refine tr_seq ?_
      refine tr_region ?_
      refine tr_p (y_move rfl) rfl rfl ?_
      refine tr_p (y_move rfl) rfl rfl ?_
      refine tr_p (y_move rfl) rfl rfl ?_
      obtain ⟨a3, e4, H⟩ := H
      refine tr_p (f_idx (s := x0) Try.runUnderlying84 Try.sizeOf103 rfl rfl e4) rfl rfl ?_
      obtain ⟨y5, k6, H⟩ := H
      refine tr_h (y_ldS Try.isAgg103 Try.sizeOf103 rfl rfl) k6 rfl rfl ?_
      refine tr_p (y_move rfl) rfl rfl ?_
      refine tr_e (e_callD rfl rfl H) rfl rfl ?_
      rintro _ h7 ⟨r8, rfl, H⟩
      refine tr_p (y_lss rfl rfl) rfl rfl ?_
      refine tr_nil ?_
      refine tr_thenN ?_
      refine tr_cond rfl (fun g9 => ?_) (fun g9 => ?_)
      · replace H := H.1 g9
        refine tr_region ?_
        refine tr_p (y_move rfl) rfl rfl ?_
        refine tr_p (y_add rfl rfl) rfl rfl ?_
        refine tr_p (y_assign rfl) rfl rfl ?_
        refine tr_nil ?_
        refine tr_blockN ?_
        refine tr_thenN ?_
        exact tr_join [(0, x0.enc), (1, (.int .i64 x1)), (2, x2), (8, (.int .i64 x8)), (9, (.int .i64 (IntKind.wrap .i64 ((IntKind.wrap .i64 (Int.fdiv (IntKind.wrap .u64 (IntKind.wrap .i64 (x9 + x10))) (2 ^ (min (1 : Int).toNat (IntKind.bits .u64)) : Int))) + 1)))), (10, (.int .i64 x10))] ⟨rfl, rfl, rfl, rfl, rfl, rfl, trivial⟩ ⟨_, _, _, _, _, _, rfl, H⟩
      · replace H := H.2 g9
        refine tr_region ?_
        refine tr_p (y_move rfl) rfl rfl ?_
        refine tr_p (y_assign rfl) rfl rfl ?_
        refine tr_nil ?_
        refine tr_blockN ?_
        refine tr_thenN ?_
        exact tr_join [(0, x0.enc), (1, (.int .i64 x1)), (2, x2), (8, (.int .i64 x8)), (9, (.int .i64 x9)), (10, (.int .i64 (IntKind.wrap .i64 (Int.fdiv (IntKind.wrap .u64 (IntKind.wrap .i64 (x9 + x10))) (2 ^ (min (1 : Int).toNat (IntKind.bits .u64)) : Int)))))] ⟨rfl, rfl, rfl, rfl, rfl, rfl, trivial⟩ ⟨_, _, _, _, _, _, rfl, H⟩
    · replace H := H.2 g1
      refine tr_exit ?_
      refine tr_thenE ?_
      refine tr_thenE ?_
      refine tr_hit ?_
      refine tr_thenN ?_
      refine tr_seq ?_
      refine tr_region ?_
      refine tr_p (y_move rfl) rfl rfl ?_
      refine tr_p (y_move rfl) rfl rfl ?_
      refine tr_p (y_move rfl) rfl rfl ?_
      refine tr_p (y_lss rfl rfl) rfl rfl ?_
      refine tr_p (y_move rfl) rfl rfl ?_
      refine tr_split (t := 39) rfl (fun g10 => ?_) (fun g10 => ?_)
      · replace H := H.1 g10
        refine tr_p (y_move rfl) rfl rfl ?_
        refine tr_p (y_move rfl) rfl rfl ?_
        refine tr_p (y_move rfl) rfl rfl ?_
        obtain ⟨a11, e12, H⟩ := H
        refine tr_p (f_idx (s := x0) Try.runUnderlying84 Try.sizeOf103 rfl rfl e12) rfl rfl ?_
        obtain ⟨y13, k14, H⟩ := H
        refine tr_h (y_ldS Try.isAgg103 Try.sizeOf103 rfl rfl) k14 rfl rfl ?_
        refine tr_p (y_move rfl) rfl rfl ?_
        refine tr_e (e_callD rfl rfl H) rfl rfl ?_
        rintro _ h15 ⟨r16, rfl, H⟩
        refine tr_p (y_eql rfl rfl) rfl rfl ?_
        refine tr_p (y_pick_t rfl rfl) rfl rfl ?_
        refine tr_p (y_assign rfl) rfl rfl ?_
        refine tr_p (y_assign rfl) rfl rfl ?_
        refine tr_nil ?_
        refine tr_thenN ?_
        refine tr_ret ?_
        exact tr_ret2 rfl rfl rfl ⟨_, _, rfl, H⟩
      · replace H := H.2 g10
        refine tr_s rfl rfl ?_
        refine tr_s rfl rfl ?_
        refine tr_s rfl rfl ?_
        refine tr_s rfl rfl ?_
        refine tr_s rfl rfl ?_
        refine tr_s rfl rfl ?_
        refine tr_s rfl rfl ?_
        refine tr_s rfl rfl ?_
        refine tr_p (y_pick_f rfl rfl) rfl rfl ?_
        refine tr_p (y_assign rfl) rfl rfl ?_
        refine tr_p (y_assign rfl) rfl rfl ?_
        refine tr_nil ?_
        refine tr_thenN ?_
        refine tr_ret ?_
        exact tr_ret2 rfl rfl rfl ⟨_, _, rfl, H⟩

/-- (*spate/chain.Chain[spate/spatelaw5.Wide]).place$1 -/
def F.chain_Chain_spatelaw5_Wide_place_1 (p0 : S_chain_version_spatelaw5_Wide) (p1 : Int) (h : H) (Q : Int → H → Prop) : Prop :=
  new h p0.cells.toArray ty_103 fun a2 h1 =>
  ldI .i64 h1 (a2.add 0) fun y3 =>
  ((decide (y3 ≤ p1)) = true →
  Q (-1) h1) ∧
  ((decide (y3 ≤ p1)) = false →
  Q 1 h1)
theorem F.chain_Chain_spatelaw5_Wide_place_1_ok {p0 : S_chain_version_spatelaw5_Wide} {p1 : Int} {h : H} {Q : Int → H → Prop} (H : F.chain_Chain_spatelaw5_Wide_place_1 p0 p1 h Q) : Fn PP 76 ([(.agg p0.cells.toArray), (.int .i64 p1)] : List Value).toArray h fun r h' => ∃ r0, r = (.int .i64 r0) ∧ Q r0 h' := by
  unfold F.chain_Chain_spatelaw5_Wide_place_1 at H
  refine fn_of Try.func76 Try.ntmps76 rfl rfl fun w0 => ?_
  refine tr_sub [(0, (.agg p0.cells.toArray)), (1, (.int .i64 p1))] ⟨rfl, rfl, trivial⟩ ?_
  refine tr_seq ?_
  refine tr_region ?_
  refine tr_e (f_box (cs := p0.cells.toArray) rfl rfl H) rfl rfl ?_
  rintro _ h1 ⟨a2, rfl, H⟩
  refine tr_p (y_assign rfl) rfl rfl ?_
  refine tr_nil ?_
  refine tr_thenN ?_
  refine tr_seq ?_
  refine tr_seq ?_
  refine tr_region ?_
  refine tr_p (y_fa (off := 0) Try.runUnderlying103 fo_103_0 rfl) rfl rfl ?_
  obtain ⟨y3, k4, H⟩ := H
  refine tr_h (y_ld Try.isAgg3 rfl) k4 rfl rfl ?_
  refine tr_p (y_move rfl) rfl rfl ?_
  refine tr_p (y_leq rfl rfl) rfl rfl ?_
  refine tr_nil ?_
  refine tr_thenN ?_
  refine tr_cond rfl (fun g5 => ?_) (fun g5 => ?_)
  · replace H := H.1 g5
    refine tr_seq ?_
    refine tr_region ?_
    refine tr_p (y_assign rfl) rfl rfl ?_
    refine tr_nil ?_
    refine tr_thenN ?_
    refine tr_ret ?_
    refine tr_thenR ?_
    exact tr_ret1 rfl rfl ⟨_, rfl, H⟩
  · replace H := H.2 g5
    refine tr_skip ?_
    refine tr_thenN ?_
    refine tr_seq ?_
    refine tr_region ?_
    refine tr_p (y_assign rfl) rfl rfl ?_
    refine tr_nil ?_
    refine tr_thenN ?_
    refine tr_ret ?_
    exact tr_ret1 rfl rfl ⟨_, rfl, H⟩

/-- (*spate/chain.Chain[spate/spatelaw5.Wide]).place -/
def F.chain_Chain_spatelaw5_Wide_place (p0 : Option Addr) (p1 : Int) (h : H) (Q : Int → H → Prop) : Prop :=
  nn p0 fun a1 =>
  ldL h (a1.add 0) fun y3 =>
  F.slices_BinarySearchFunc_Slchain_version_spatelaw5_Wide_chain_version_spatelaw5_Wide_int y3 p1 (.func (.func 76) #[] #[]) h fun r6 r7 h5 =>
  Q (IntKind.wrap .i64 (r6 - 1)) h5
theorem F.chain_Chain_spatelaw5_Wide_place_ok {p0 : Option Addr} {p1 : Int} {h : H} {Q : Int → H → Prop} (H : F.chain_Chain_spatelaw5_Wide_place p0 p1 h Q) : Fn PP 66 ([(.pointer p0), (.int .i64 p1)] : List Value).toArray h fun r h' => ∃ r0, r = (.int .i64 r0) ∧ Q r0 h' := by
  unfold F.chain_Chain_spatelaw5_Wide_place at H
  refine fn_of Try.func66 Try.ntmps66 rfl rfl fun w0 => ?_
  refine tr_sub [(0, (.pointer p0)), (1, (.int .i64 p1))] ⟨rfl, rfl, trivial⟩ ?_
  refine tr_seq ?_
  refine tr_region ?_
  refine tr_p (y_assign rfl) rfl rfl ?_
  refine tr_nil ?_
  refine tr_thenN ?_
  refine tr_seq ?_
  refine tr_region ?_
  refine tr_p (y_move rfl) rfl rfl ?_
  obtain ⟨a1, e2, H⟩ := H
  refine tr_p (f_nn rfl e2) rfl rfl ?_
  refine tr_p (y_fa (off := 0) Try.runUnderlying86 fo_86_0 rfl) rfl rfl ?_
  obtain ⟨y3, k4, H⟩ := H
  refine tr_h (y_ld Try.isAgg84 rfl) k4 rfl rfl ?_
  refine tr_p (y_move rfl) rfl rfl ?_
  refine tr_e (e_call Try.call75 rfl (F.slices_BinarySearchFunc_Slchain_version_spatelaw5_Wide_chain_version_spatelaw5_Wide_int_ok H)) rfl rfl ?_
  rintro _ h5 ⟨r6, r7, rfl, H⟩
  refine tr_p (y_move rfl) rfl rfl ?_
  refine tr_p (y_ext rfl rfl) rfl rfl ?_
  refine tr_p (y_ext rfl rfl) rfl rfl ?_
  refine tr_p (y_assign rfl) rfl rfl ?_
  refine tr_p (y_assign rfl) rfl rfl ?_
  refine tr_nil ?_
  refine tr_thenN ?_
  refine tr_seq ?_
  refine tr_region ?_
  refine tr_p (y_move rfl) rfl rfl ?_
  refine tr_p (y_sub rfl rfl) rfl rfl ?_
  refine tr_p (y_assign rfl) rfl rfl ?_
  refine tr_nil ?_
  refine tr_thenN ?_
  refine tr_ret ?_
  exact tr_ret1 rfl rfl ⟨_, rfl, H⟩

def F.chain_Chain_spatelaw5_Wide_At.j1 (Q : S_spatelaw5_Wide → Bool → H → Prop) (x4 : Addr) (h : H) : Prop :=
  ld_S_spatelaw5_Wide h x4 fun y3 =>
  stH h x4 y3.cells fun h5 =>
  ld_S_spatelaw5_Wide h5 x4 fun y6 =>
  Q y6 false h5
def F.chain_Chain_spatelaw5_Wide_At.j2 (Q : S_spatelaw5_Wide → Bool → H → Prop) (x0 : Option Addr) (x4 : Addr) (x6 : Int) (x22 : Bool) (h : H) : Prop :=
  (x22 = true →
  nn x0 fun a11 =>
  ldL h (a11.add 0) fun y13 =>
  idxA y13 x6 4 fun a15 =>
  ld_S_spatelaw5_Wide h (a15.add 1) fun y17 =>
  stH h x4 y17.cells fun h19 =>
  ld_S_spatelaw5_Wide h19 x4 fun y20 =>
  Q y20 true h19) ∧
  (x22 = false →
  F.chain_Chain_spatelaw5_Wide_At.j1 Q x4 h)
/-- (*spate/chain.Chain[spate/spatelaw5.Wide]).At -/
def F.chain_Chain_spatelaw5_Wide_At (p0 : Option Addr) (p1 : Int) (h : H) (Q : S_spatelaw5_Wide → Bool → H → Prop) : Prop :=
  new h (((⟨0, (⟨#[]⟩ : ByteArray)⟩ : S_spatelaw5_Wide) : S_spatelaw5_Wide).cells.toArray) ty_60 fun a2 h1 =>
  F.chain_Chain_spatelaw5_Wide_place p0 p1 h1 fun r9 h8 =>
  ((decide (r9 ≥ 0)) = true →
  nn p0 fun a23 =>
  ldL h8 (a23.add 0) fun y25 =>
  idxA y25 r9 4 fun a27 =>
  ldB h8 (a27.add 3) fun y29 =>
  F.chain_Chain_spatelaw5_Wide_At.j2 Q p0 a2 r9 (!y29) h8) ∧
  ((decide (r9 ≥ 0)) = false →
  F.chain_Chain_spatelaw5_Wide_At.j2 Q p0 a2 r9 false h8)
theorem F.chain_Chain_spatelaw5_Wide_At_ok {p0 : Option Addr} {p1 : Int} {h : H} {Q : S_spatelaw5_Wide → Bool → H → Prop} (H : F.chain_Chain_spatelaw5_Wide_At p0 p1 h Q) : Fn PP 53 ([(.pointer p0), (.int .i64 p1)] : List Value).toArray h fun r h' => ∃ r0 r1, r = .tuple #[(.agg r0.cells.toArray), (.bool r1)] ∧ Q r0 r1 h' := by
  unfold F.chain_Chain_spatelaw5_Wide_At at H
  refine fn_of Try.func53 Try.ntmps53 rfl rfl fun w0 => ?_
  refine tr_sub [(0, (.pointer p0)), (1, (.int .i64 p1))] ⟨rfl, rfl, trivial⟩ ?_
  refine tr_seq ?_
  refine tr_region ?_
  refine tr_e (f_alloc (cs := ((⟨0, (⟨#[]⟩ : ByteArray)⟩ : S_spatelaw5_Wide) : S_spatelaw5_Wide).cells.toArray) Try.zeroValue60 rfl H) rfl rfl ?_
  rintro _ h1 ⟨a2, rfl, H⟩
  refine tr_p (y_assign rfl) rfl rfl ?_
  refine tr_nil ?_
  refine tr_thenN ?_
  refine tr_seq_j (fun L' h => ∃ (x4 : Addr), L' = [(4, (.pointer (some x4)))] ∧ F.chain_Chain_spatelaw5_Wide_At.j1 Q x4 h) ?_ ?_
  · rintro L' h ⟨x4, rfl, H⟩
    unfold F.chain_Chain_spatelaw5_Wide_At.j1 at H
    refine tr_seq ?_
    refine tr_region ?_
    obtain ⟨y3, k4, H⟩ := H
    refine tr_h (y_ldS Try.isAgg60 Try.sizeOf60 rfl rfl) k4 rfl rfl ?_
    refine tr_e (f_store (vs := y3.cells) Try.sizeOf60 rfl rfl cellsOfStruct rfl (by intro v hv; exact ones_S_spatelaw5_Wide _ v hv) H) rfl rfl ?_
    rintro _ h5 ⟨rfl, H⟩
    refine tr_p (y_assign rfl) rfl rfl ?_
    refine tr_nil ?_
    refine tr_thenN ?_
    refine tr_ret ?_
    obtain ⟨y6, k7, H⟩ := H
    exact tr_rv2 rfl (rv_cellS Try.isAgg60 Try.sizeOf60 rfl rfl k7) (rv_tmp rfl) ⟨_, _, rfl, H⟩
  · refine tr_seq ?_
    refine tr_region ?_
    refine tr_p (y_move rfl) rfl rfl ?_
    refine tr_p (y_move rfl) rfl rfl ?_
    refine tr_e (e_call Try.call66 rfl (F.chain_Chain_spatelaw5_Wide_place_ok H)) rfl rfl ?_
    rintro _ h8 ⟨r9, rfl, H⟩
    refine tr_p (y_assign rfl) rfl rfl ?_
    refine tr_nil ?_
    refine tr_thenN ?_
    refine tr_seq_j (fun L' h => ∃ (x0 : Option Addr) (x4 : Addr) (x6 : Int) (x22 : Bool), L' = [(0, (.pointer x0)), (4, (.pointer (some x4))), (6, (.int .i64 x6)), (22, (.bool x22))] ∧ F.chain_Chain_spatelaw5_Wide_At.j2 Q x0 x4 x6 x22 h) ?_ ?_
    · rintro L' h ⟨x0, x4, x6, x22, rfl, H⟩
      unfold F.chain_Chain_spatelaw5_Wide_At.j2 at H
      refine tr_cond rfl (fun g10 => ?_) (fun g10 => ?_)
      · replace H := H.1 g10
        refine tr_seq ?_
        refine tr_region ?_
        refine tr_p (y_move rfl) rfl rfl ?_
        obtain ⟨a11, e12, H⟩ := H
        refine tr_p (f_nn rfl e12) rfl rfl ?_
        refine tr_p (y_fa (off := 0) Try.runUnderlying86 fo_86_0 rfl) rfl rfl ?_
        obtain ⟨y13, k14, H⟩ := H
        refine tr_h (y_ld Try.isAgg84 rfl) k14 rfl rfl ?_
        refine tr_p (y_move rfl) rfl rfl ?_
        obtain ⟨a15, e16, H⟩ := H
        refine tr_p (f_idx (s := y13) Try.runUnderlying84 Try.sizeOf103 rfl rfl e16) rfl rfl ?_
        refine tr_p (y_fa (off := 1) Try.runUnderlying103 fo_103_1 rfl) rfl rfl ?_
        obtain ⟨y17, k18, H⟩ := H
        refine tr_h (y_ldS Try.isAgg60 Try.sizeOf60 rfl rfl) k18 rfl rfl ?_
        refine tr_e (f_store (vs := y17.cells) Try.sizeOf60 rfl rfl cellsOfStruct rfl (by intro v hv; exact ones_S_spatelaw5_Wide _ v hv) H) rfl rfl ?_
        rintro _ h19 ⟨rfl, H⟩
        refine tr_p (y_assign rfl) rfl rfl ?_
        refine tr_nil ?_
        refine tr_thenN ?_
        refine tr_ret ?_
        refine tr_thenR ?_
        obtain ⟨y20, k21, H⟩ := H
        exact tr_rv2 rfl (rv_cellS Try.isAgg60 Try.sizeOf60 rfl rfl k21) (rv_tmp rfl) ⟨_, _, rfl, H⟩
      · replace H := H.2 g10
        refine tr_skip ?_
        refine tr_thenN ?_
        exact tr_join [(4, (.pointer (some x4)))] ⟨rfl, trivial⟩ ⟨_, rfl, H⟩
    · refine tr_region ?_
      refine tr_p (y_move rfl) rfl rfl ?_
      refine tr_p (y_geq rfl rfl) rfl rfl ?_
      refine tr_p (y_move rfl) rfl rfl ?_
      refine tr_split (t := 12) rfl (fun g22 => ?_) (fun g22 => ?_)
      · replace H := H.1 g22
        refine tr_p (y_move rfl) rfl rfl ?_
        obtain ⟨a23, e24, H⟩ := H
        refine tr_p (f_nn rfl e24) rfl rfl ?_
        refine tr_p (y_fa (off := 0) Try.runUnderlying86 fo_86_0 rfl) rfl rfl ?_
        obtain ⟨y25, k26, H⟩ := H
        refine tr_h (y_ld Try.isAgg84 rfl) k26 rfl rfl ?_
        refine tr_p (y_move rfl) rfl rfl ?_
        obtain ⟨a27, e28, H⟩ := H
        refine tr_p (f_idx (s := y25) Try.runUnderlying84 Try.sizeOf103 rfl rfl e28) rfl rfl ?_
        refine tr_p (y_fa (off := 3) Try.runUnderlying103 fo_103_2 rfl) rfl rfl ?_
        obtain ⟨y29, k30, H⟩ := H
        refine tr_h (y_ld Try.isAgg4 rfl) k30 rfl rfl ?_
        refine tr_p (y_not rfl) rfl rfl ?_
        refine tr_p (y_pick_t rfl rfl) rfl rfl ?_
        refine tr_nil ?_
        refine tr_thenN ?_
        exact tr_join [(0, (.pointer p0)), (4, (.pointer (some a2))), (6, (.int .i64 r9)), (22, (.bool (!y29)))] ⟨rfl, rfl, rfl, rfl, trivial⟩ ⟨_, _, _, _, rfl, H⟩
      · replace H := H.2 g22
        refine tr_s rfl rfl ?_
        refine tr_s rfl rfl ?_
        refine tr_s rfl rfl ?_
        refine tr_s rfl rfl ?_
        refine tr_s rfl rfl ?_
        refine tr_s rfl rfl ?_
        refine tr_s rfl rfl ?_
        refine tr_s rfl rfl ?_
        refine tr_s rfl rfl ?_
        refine tr_p (y_pick_f rfl rfl) rfl rfl ?_
        refine tr_nil ?_
        refine tr_thenN ?_
        exact tr_join [(0, (.pointer p0)), (4, (.pointer (some a2))), (6, (.int .i64 r9)), (22, (.bool false))] ⟨rfl, rfl, rfl, rfl, trivial⟩ ⟨_, _, _, _, rfl, H⟩

def F.spateref5_Chain_at.j2 (Q : Int → H → Prop) (C1 : (Option Addr) → Int → Int → Int → H → Prop) (x0 : Option Addr) (x1 : Int) (x5 : Int) (x6 : Int) (h : H) : Prop :=
  C1 x0 x1 x5 (IntKind.wrap .i64 (x6 + 1)) h
def F.spateref5_Chain_at.l1 (Q : Int → H → Prop) : Nat → (Option Addr) → Int → Int → Int → H → Prop
  | 0, _, _, _, _, _ => False
  | q1 + 1, x0, x1, x5, x6, h =>
    nn x0 fun a1 =>
    ldL h (a1.add 0) fun y3 =>
    ((decide (x6 < (y3.len : Int))) = true →
    nn x0 fun a6 =>
    ldL h (a6.add 0) fun y8 =>
    idxA y8 x6 3 fun a10 =>
    ldI .i64 h (a10.add 0) fun y12 =>
    ((decide (y12 ≤ x1)) = true →
    F.spateref5_Chain_at.j2 Q (F.spateref5_Chain_at.l1 Q q1) x0 x1 x6 x6 h) ∧
    ((decide (y12 ≤ x1)) = false →
    F.spateref5_Chain_at.j2 Q (F.spateref5_Chain_at.l1 Q q1) x0 x1 x5 x6 h)) ∧
    ((decide (x6 < (y3.len : Int))) = false →
    Q x5 h)
/-- (*spate/spateref5.Chain).at -/
def F.spateref5_Chain_at (p0 : Option Addr) (p1 : Int) (h : H) (Q : Int → H → Prop) : Prop :=
  ∃ m, F.spateref5_Chain_at.l1 Q m p0 p1 (-1) 0 h
theorem F.spateref5_Chain_at_ok {p0 : Option Addr} {p1 : Int} {h : H} {Q : Int → H → Prop} (H : F.spateref5_Chain_at p0 p1 h Q) : Fn PP 67 ([(.pointer p0), (.int .i64 p1)] : List Value).toArray h fun r h' => ∃ r0, r = (.int .i64 r0) ∧ Q r0 h' := by
  unfold F.spateref5_Chain_at at H
  refine fn_of Try.func67 Try.ntmps67 rfl rfl fun w0 => ?_
  refine tr_sub [(0, (.pointer p0)), (1, (.int .i64 p1))] ⟨rfl, rfl, trivial⟩ ?_
  refine tr_seq ?_
  refine tr_region ?_
  refine tr_p (y_assign rfl) rfl rfl ?_
  refine tr_nil ?_
  refine tr_thenN ?_
  refine tr_seq ?_
  refine tr_region ?_
  refine tr_p (y_assign rfl) rfl rfl ?_
  refine tr_nil ?_
  refine tr_thenN ?_
  refine tr_seq ?_
  refine tr_seq ?_
  refine tr_region ?_
  refine tr_p (y_assign rfl) rfl rfl ?_
  refine tr_nil ?_
  refine tr_thenN ?_
  refine tr_block ?_
  obtain ⟨m15, H⟩ := H
  refine tr_sub [(0, (.pointer p0)), (1, (.int .i64 p1)), (5, (.int .i64 (-1))), (6, (.int .i64 0))] ⟨rfl, rfl, rfl, rfl, trivial⟩ ?_
  refine tr_loop_j (fun m L' h => ∃ (x0 : Option Addr) (x1 : Int) (x5 : Int) (x6 : Int), L' = [(0, (.pointer x0)), (1, (.int .i64 x1)), (5, (.int .i64 x5)), (6, (.int .i64 x6))] ∧ F.spateref5_Chain_at.l1 Q m x0 x1 x5 x6 h) ?_ ?_ m15 ⟨_, _, _, _, rfl, H⟩
  · rintro L' h ⟨_, _, _, _, _, H⟩; exact H
  · rintro q1 L' h ⟨x0, x1, x5, x6, rfl, H⟩
    unfold F.spateref5_Chain_at.l1 at H
    refine tr_seq ?_
    refine tr_seq ?_
    refine tr_region ?_
    refine tr_p (y_move rfl) rfl rfl ?_
    refine tr_p (y_move rfl) rfl rfl ?_
    obtain ⟨a1, e2, H⟩ := H
    refine tr_p (f_nn rfl e2) rfl rfl ?_
    refine tr_p (y_fa (off := 0) Try.runUnderlying64 fo_64_0 rfl) rfl rfl ?_
    obtain ⟨y3, k4, H⟩ := H
    refine tr_h (y_ld Try.isAgg62 rfl) k4 rfl rfl ?_
    refine tr_p (y_len (ts := #[]) Try.runUnderlying62 (o := y3.ptr) (n := y3.len) (cap := y3.cap) rfl) rfl rfl ?_
    refine tr_p (y_lss rfl rfl) rfl rfl ?_
    refine tr_nil ?_
    refine tr_thenN ?_
    refine tr_cond rfl (fun g5 => ?_) (fun g5 => ?_)
    · replace H := H.1 g5
      refine tr_skip ?_
      refine tr_thenN ?_
      refine tr_seq_j (fun L' h => ∃ (x0 : Option Addr) (x1 : Int) (x5 : Int) (x6 : Int), L' = [(0, (.pointer x0)), (1, (.int .i64 x1)), (5, (.int .i64 x5)), (6, (.int .i64 x6))] ∧ F.spateref5_Chain_at.j2 Q (F.spateref5_Chain_at.l1 Q q1) x0 x1 x5 x6 h) ?_ ?_
      · rintro L' h ⟨x0, x1, x5, x6, rfl, H⟩
        unfold F.spateref5_Chain_at.j2 at H
        refine tr_region ?_
        refine tr_p (y_move rfl) rfl rfl ?_
        refine tr_p (y_add rfl rfl) rfl rfl ?_
        refine tr_p (y_assign rfl) rfl rfl ?_
        refine tr_nil ?_
        refine tr_thenN ?_
        exact tr_join [(0, (.pointer x0)), (1, (.int .i64 x1)), (5, (.int .i64 x5)), (6, (.int .i64 (IntKind.wrap .i64 (x6 + 1))))] ⟨rfl, rfl, rfl, rfl, trivial⟩ ⟨_, _, _, _, rfl, H⟩
      · refine tr_block ?_
        refine tr_seq ?_
        refine tr_region ?_
        refine tr_p (y_move rfl) rfl rfl ?_
        obtain ⟨a6, e7, H⟩ := H
        refine tr_p (f_nn rfl e7) rfl rfl ?_
        refine tr_p (y_fa (off := 0) Try.runUnderlying64 fo_64_0 rfl) rfl rfl ?_
        obtain ⟨y8, k9, H⟩ := H
        refine tr_h (y_ld Try.isAgg62 rfl) k9 rfl rfl ?_
        refine tr_p (y_move rfl) rfl rfl ?_
        obtain ⟨a10, e11, H⟩ := H
        refine tr_p (f_idx (s := y8) Try.runUnderlying62 Try.sizeOf89 rfl rfl e11) rfl rfl ?_
        refine tr_p (y_fa (off := 0) Try.runUnderlying89 fo_89_0 rfl) rfl rfl ?_
        obtain ⟨y12, k13, H⟩ := H
        refine tr_h (y_ld Try.isAgg3 rfl) k13 rfl rfl ?_
        refine tr_p (y_move rfl) rfl rfl ?_
        refine tr_p (y_leq rfl rfl) rfl rfl ?_
        refine tr_nil ?_
        refine tr_thenN ?_
        refine tr_cond rfl (fun g14 => ?_) (fun g14 => ?_)
        · replace H := H.1 g14
          refine tr_region ?_
          refine tr_p (y_move rfl) rfl rfl ?_
          refine tr_p (y_assign rfl) rfl rfl ?_
          refine tr_nil ?_
          refine tr_blockN ?_
          refine tr_thenN ?_
          exact tr_join [(0, (.pointer x0)), (1, (.int .i64 x1)), (5, (.int .i64 x6)), (6, (.int .i64 x6))] ⟨rfl, rfl, rfl, rfl, trivial⟩ ⟨_, _, _, _, rfl, H⟩
        · replace H := H.2 g14
          refine tr_skip ?_
          refine tr_blockN ?_
          refine tr_thenN ?_
          exact tr_join [(0, (.pointer x0)), (1, (.int .i64 x1)), (5, (.int .i64 x5)), (6, (.int .i64 x6))] ⟨rfl, rfl, rfl, rfl, trivial⟩ ⟨_, _, _, _, rfl, H⟩
    · replace H := H.2 g5
      refine tr_exit ?_
      refine tr_thenE ?_
      refine tr_thenE ?_
      refine tr_hit ?_
      refine tr_thenN ?_
      refine tr_seq ?_
      refine tr_region ?_
      refine tr_p (y_move rfl) rfl rfl ?_
      refine tr_p (y_assign rfl) rfl rfl ?_
      refine tr_nil ?_
      refine tr_thenN ?_
      refine tr_ret ?_
      exact tr_ret1 rfl rfl ⟨_, rfl, H⟩

def F.spateref5_Chain_At.j1 (Q : Int → Bool → H → Prop) (x0 : Option Addr) (x6 : Int) (h : H) : Prop :=
  nn x0 fun a3 =>
  ldL h (a3.add 0) fun y5 =>
  idxA y5 x6 3 fun a7 =>
  ldI .i64 h (a7.add 1) fun y9 =>
  Q y9 true h
def F.spateref5_Chain_At.j2 (Q : Int → Bool → H → Prop) (x0 : Option Addr) (x6 : Int) (x22 : Bool) (h : H) : Prop :=
  (x22 = true →
  Q 0 false h) ∧
  (x22 = false →
  F.spateref5_Chain_At.j1 Q x0 x6 h)
/-- (*spate/spateref5.Chain).At -/
def F.spateref5_Chain_At (p0 : Option Addr) (p1 : Int) (h : H) (Q : Int → Bool → H → Prop) : Prop :=
  F.spateref5_Chain_at p0 p1 h fun r2 h1 =>
  ((decide (r2 < 0)) = true →
  F.spateref5_Chain_At.j2 Q p0 r2 true h1) ∧
  ((decide (r2 < 0)) = false →
  nn p0 fun a13 =>
  ldL h1 (a13.add 0) fun y15 =>
  idxA y15 r2 3 fun a17 =>
  ldB h1 (a17.add 2) fun y19 =>
  F.spateref5_Chain_At.j2 Q p0 r2 (!y19) h1)
theorem F.spateref5_Chain_At_ok {p0 : Option Addr} {p1 : Int} {h : H} {Q : Int → Bool → H → Prop} (H : F.spateref5_Chain_At p0 p1 h Q) : Fn PP 54 ([(.pointer p0), (.int .i64 p1)] : List Value).toArray h fun r h' => ∃ r0 r1, r = .tuple #[(.int .i64 r0), (.bool r1)] ∧ Q r0 r1 h' := by
  unfold F.spateref5_Chain_At at H
  refine fn_of Try.func54 Try.ntmps54 rfl rfl fun w0 => ?_
  refine tr_sub [(0, (.pointer p0)), (1, (.int .i64 p1))] ⟨rfl, rfl, trivial⟩ ?_
  refine tr_seq ?_
  refine tr_region ?_
  refine tr_p (y_assign rfl) rfl rfl ?_
  refine tr_p (y_assign rfl) rfl rfl ?_
  refine tr_nil ?_
  refine tr_thenN ?_
  refine tr_seq ?_
  refine tr_region ?_
  refine tr_p (y_move rfl) rfl rfl ?_
  refine tr_p (y_move rfl) rfl rfl ?_
  refine tr_e (e_call Try.call67 rfl (F.spateref5_Chain_at_ok H)) rfl rfl ?_
  rintro _ h1 ⟨r2, rfl, H⟩
  refine tr_p (y_assign rfl) rfl rfl ?_
  refine tr_nil ?_
  refine tr_thenN ?_
  refine tr_seq_j (fun L' h => ∃ (x0 : Option Addr) (x6 : Int), L' = [(0, (.pointer x0)), (6, (.int .i64 x6))] ∧ F.spateref5_Chain_At.j1 Q x0 x6 h) ?_ ?_
  · rintro L' h ⟨x0, x6, rfl, H⟩
    unfold F.spateref5_Chain_At.j1 at H
    refine tr_seq ?_
    refine tr_region ?_
    refine tr_p (y_move rfl) rfl rfl ?_
    obtain ⟨a3, e4, H⟩ := H
    refine tr_p (f_nn rfl e4) rfl rfl ?_
    refine tr_p (y_fa (off := 0) Try.runUnderlying64 fo_64_0 rfl) rfl rfl ?_
    obtain ⟨y5, k6, H⟩ := H
    refine tr_h (y_ld Try.isAgg62 rfl) k6 rfl rfl ?_
    refine tr_p (y_move rfl) rfl rfl ?_
    obtain ⟨a7, e8, H⟩ := H
    refine tr_p (f_idx (s := y5) Try.runUnderlying62 Try.sizeOf89 rfl rfl e8) rfl rfl ?_
    refine tr_p (y_fa (off := 1) Try.runUnderlying89 fo_89_1 rfl) rfl rfl ?_
    obtain ⟨y9, k10, H⟩ := H
    refine tr_h (y_ld Try.isAgg3 rfl) k10 rfl rfl ?_
    refine tr_p (y_assign rfl) rfl rfl ?_
    refine tr_p (y_assign rfl) rfl rfl ?_
    refine tr_nil ?_
    refine tr_thenN ?_
    refine tr_ret ?_
    exact tr_ret2 rfl rfl rfl ⟨_, _, rfl, H⟩
  · refine tr_seq_j (fun L' h => ∃ (x0 : Option Addr) (x6 : Int) (x22 : Bool), L' = [(0, (.pointer x0)), (6, (.int .i64 x6)), (22, (.bool x22))] ∧ F.spateref5_Chain_At.j2 Q x0 x6 x22 h) ?_ ?_
    · rintro L' h ⟨x0, x6, x22, rfl, H⟩
      unfold F.spateref5_Chain_At.j2 at H
      refine tr_cond rfl (fun g11 => ?_) (fun g11 => ?_)
      · replace H := H.1 g11
        refine tr_seq ?_
        refine tr_region ?_
        refine tr_p (y_assign rfl) rfl rfl ?_
        refine tr_p (y_assign rfl) rfl rfl ?_
        refine tr_nil ?_
        refine tr_thenN ?_
        refine tr_ret ?_
        refine tr_thenR ?_
        exact tr_ret2 rfl rfl rfl ⟨_, _, rfl, H⟩
      · replace H := H.2 g11
        refine tr_skip ?_
        refine tr_thenN ?_
        exact tr_join [(0, (.pointer x0)), (6, (.int .i64 x6))] ⟨rfl, rfl, trivial⟩ ⟨_, _, rfl, H⟩
    · refine tr_region ?_
      refine tr_p (y_move rfl) rfl rfl ?_
      refine tr_p (y_lss rfl rfl) rfl rfl ?_
      refine tr_p (y_move rfl) rfl rfl ?_
      refine tr_split (t := 12) rfl (fun g12 => ?_) (fun g12 => ?_)
      · replace H := H.1 g12
        refine tr_s rfl rfl ?_
        refine tr_s rfl rfl ?_
        refine tr_s rfl rfl ?_
        refine tr_s rfl rfl ?_
        refine tr_s rfl rfl ?_
        refine tr_s rfl rfl ?_
        refine tr_s rfl rfl ?_
        refine tr_s rfl rfl ?_
        refine tr_s rfl rfl ?_
        refine tr_p (y_pick_t rfl rfl) rfl rfl ?_
        refine tr_nil ?_
        refine tr_thenN ?_
        exact tr_join [(0, (.pointer p0)), (6, (.int .i64 r2)), (22, (.bool true))] ⟨rfl, rfl, rfl, trivial⟩ ⟨_, _, _, rfl, H⟩
      · replace H := H.2 g12
        refine tr_p (y_move rfl) rfl rfl ?_
        obtain ⟨a13, e14, H⟩ := H
        refine tr_p (f_nn rfl e14) rfl rfl ?_
        refine tr_p (y_fa (off := 0) Try.runUnderlying64 fo_64_0 rfl) rfl rfl ?_
        obtain ⟨y15, k16, H⟩ := H
        refine tr_h (y_ld Try.isAgg62 rfl) k16 rfl rfl ?_
        refine tr_p (y_move rfl) rfl rfl ?_
        obtain ⟨a17, e18, H⟩ := H
        refine tr_p (f_idx (s := y15) Try.runUnderlying62 Try.sizeOf89 rfl rfl e18) rfl rfl ?_
        refine tr_p (y_fa (off := 2) Try.runUnderlying89 fo_89_2 rfl) rfl rfl ?_
        obtain ⟨y19, k20, H⟩ := H
        refine tr_h (y_ld Try.isAgg4 rfl) k20 rfl rfl ?_
        refine tr_p (y_not rfl) rfl rfl ?_
        refine tr_p (y_pick_f rfl rfl) rfl rfl ?_
        refine tr_nil ?_
        refine tr_thenN ?_
        exact tr_join [(0, (.pointer p0)), (6, (.int .i64 r2)), (22, (.bool (!y19)))] ⟨rfl, rfl, rfl, trivial⟩ ⟨_, _, _, rfl, H⟩

/-- spate/spatelaw5.number -/
def F.spatelaw5_number (p0 : S_spatelaw5_Wide) (h : H) (Q : Int → Bool → H → Prop) : Prop :=
  new h p0.cells.toArray ty_60 fun a2 h1 =>
  ldI .i64 h1 (a2.add 0) fun y3 =>
  ld_S_spatelaw5_Wide h1 a2 fun y5 =>
  ldI .i64 h1 (a2.add 0) fun y7 =>
  F.spatelaw5_wide y7 h1 fun r10 h9 =>
  Cells h9 a2 y5.cells ∧
  cellH h9 (a2.add 0) = some (.int .i64 y3) ∧
  Q y3 ((y5.N == r10.N) && ((y5.S.toList == r10.S.toList) && true)) h9
theorem F.spatelaw5_number_ok {p0 : S_spatelaw5_Wide} {h : H} {Q : Int → Bool → H → Prop} (H : F.spatelaw5_number p0 h Q) : Fn PP 55 ([(.agg p0.cells.toArray)] : List Value).toArray h fun r h' => ∃ r0 r1, r = .tuple #[(.int .i64 r0), (.bool r1)] ∧ Q r0 r1 h' := by
  unfold F.spatelaw5_number at H
  refine fn_of Try.func55 Try.ntmps55 rfl rfl fun w0 => ?_
  refine tr_sub [(0, (.agg p0.cells.toArray))] ⟨rfl, trivial⟩ ?_
  refine tr_seq ?_
  refine tr_region ?_
  refine tr_e (f_box (cs := p0.cells.toArray) rfl rfl H) rfl rfl ?_
  rintro _ h1 ⟨a2, rfl, H⟩
  refine tr_p (y_assign rfl) rfl rfl ?_
  refine tr_p (y_assign rfl) rfl rfl ?_
  refine tr_nil ?_
  refine tr_thenN ?_
  refine tr_seq ?_
  refine tr_draw mixed [0, 1, 0, 0, 8, 24, 60, 59, 255] (by kernel_rfl) ?_
  refine g_p 0 1 rfl (by kernel_rfl) (y_fa (off := 0) Try.runUnderlying60 fo_60_0 rfl) rfl rfl ?_
  obtain ⟨y3, k4, H⟩ := H
  refine g_h 1 3 rfl (by kernel_rfl) (y_ld Try.isAgg3 rfl) k4 rfl rfl ?_
  obtain ⟨y5, k6, H⟩ := H
  refine g_h 2 7 rfl (by kernel_rfl) (y_ldS Try.isAgg60 Try.sizeOf60 rfl rfl) k6 rfl rfl ?_
  refine g_p 3 15 rfl (by kernel_rfl) (y_fa (off := 0) Try.runUnderlying60 fo_60_0 rfl) rfl rfl ?_
  obtain ⟨y7, k8, H⟩ := H
  refine g_h 4 31 rfl (by kernel_rfl) (y_ld Try.isAgg3 rfl) k8 rfl rfl ?_
  refine g_e 5 63 [(2, fun h => Cells h a2 y5.cells), (1, fun h => cellH h (a2.add 0) = some (.int .i64 y3))] (by kernel_rfl) rfl (by kernel_rfl) (e_call Try.call62 rfl (F.spatelaw5_wide_ok H)) rfl rfl ?_
  rintro _ h9 ⟨r10, rfl, H⟩
  obtain ⟨k11, k12, H⟩ := H
  refine ⟨And.intro k11 (And.intro k12 trivial), ?_⟩
  refine g_p 6 127 rfl (by kernel_rfl) (st_eql (b := ((y5.N == r10.N) && ((y5.S.toList == r10.S.toList) && true))) eqg_60 (fun w => eqst_60 y5 r10 9998 w) rfl rfl) rfl rfl ?_
  refine g_p 7 255 rfl (by kernel_rfl) (y_assign rfl) rfl rfl ?_
  refine g_p 8 511 rfl (by kernel_rfl) (y_assign rfl) rfl rfl ?_
  refine g_d (by kernel_rfl) ?_
  refine tr_thenN ?_
  refine tr_ret ?_
  exact tr_ret2 rfl rfl rfl ⟨_, _, rfl, H⟩

/-- (*spate/chain.Chain[spate/spatelaw5.Wide]).Len -/
def F.chain_Chain_spatelaw5_Wide_Len (p0 : Option Addr) (h : H) (Q : Int → H → Prop) : Prop :=
  nn p0 fun a1 =>
  ldL h (a1.add 0) fun y3 =>
  Q (y3.len : Int) h
theorem F.chain_Chain_spatelaw5_Wide_Len_ok {p0 : Option Addr} {h : H} {Q : Int → H → Prop} (H : F.chain_Chain_spatelaw5_Wide_Len p0 h Q) : Fn PP 58 ([(.pointer p0)] : List Value).toArray h fun r h' => ∃ r0, r = (.int .i64 r0) ∧ Q r0 h' := by
  unfold F.chain_Chain_spatelaw5_Wide_Len at H
  refine fn_of Try.func58 Try.ntmps58 rfl rfl fun w0 => ?_
  refine tr_sub [(0, (.pointer p0))] ⟨rfl, trivial⟩ ?_
  refine tr_seq ?_
  refine tr_region ?_
  refine tr_p (y_assign rfl) rfl rfl ?_
  refine tr_nil ?_
  refine tr_thenN ?_
  refine tr_seq ?_
  refine tr_region ?_
  refine tr_p (y_move rfl) rfl rfl ?_
  obtain ⟨a1, e2, H⟩ := H
  refine tr_p (f_nn rfl e2) rfl rfl ?_
  refine tr_p (y_fa (off := 0) Try.runUnderlying86 fo_86_0 rfl) rfl rfl ?_
  obtain ⟨y3, k4, H⟩ := H
  refine tr_h (y_ld Try.isAgg84 rfl) k4 rfl rfl ?_
  refine tr_p (y_len (ts := #[]) Try.runUnderlying84 (o := y3.ptr) (n := y3.len) (cap := y3.cap) rfl) rfl rfl ?_
  refine tr_p (y_assign rfl) rfl rfl ?_
  refine tr_nil ?_
  refine tr_thenN ?_
  refine tr_ret ?_
  exact tr_ret1 rfl rfl ⟨_, rfl, H⟩

def F.spatelaw5_World_asks.j1 (Q : Bool → H → Prop) (x0 : Option Addr) (x7 : Addr) (h : H) : Prop :=
  nn x0 fun a30 =>
  ldP h (a30.add 0) fun y32 =>
  F.chain_Chain_int_Newest y32 h fun r35 r36 r37 h34 =>
  nn x0 fun a38 =>
  ldP h34 (a38.add 1) fun y40 =>
  F.chain_Chain_spatelaw5_Wide_Newest y40 h34 fun r43 r44 r45 h42 =>
  stH h42 x7 r43.cells fun h46 =>
  nn x0 fun a47 =>
  ldP h46 (a47.add 2) fun y49 =>
  F.spateref5_Chain_Newest y49 h46 fun r52 r53 r54 h51 =>
  ld_S_spatelaw5_Wide h51 x7 fun y55 =>
  F.spatelaw5_number y55 h51 fun r58 r59 h57 =>
  (((r35 == r52)) = true →
  (((r36 == r53)) = true →
  ((r37 == r54) = true →
  (((r44 == r53)) = true →
  ((r45 == r54) = true →
  (r54 = true →
  (r59 = true →
  (((r58 == r52)) = true →
  nn x0 fun a68 =>
  ldP h57 (a68.add 0) fun y70 =>
  nn x0 fun a72 =>
  ldP h57 (a72.add 2) fun y74 =>
  nn y74 fun a76 =>
  ldL h57 (a76.add 0) fun y78 =>
  F.chain_Chain_int_Len y70 h57 fun r81 h80 =>
  cellH h80 (a76.add 0) = some y78.enc ∧
  cellH h80 (a72.add 2) = some (.pointer y74) ∧
  (((r81 == (y78.len : Int))) = true →
  nn x0 fun a85 =>
  ldP h80 (a85.add 1) fun y87 =>
  nn x0 fun a89 =>
  ldP h80 (a89.add 2) fun y91 =>
  nn y91 fun a93 =>
  ldL h80 (a93.add 0) fun y95 =>
  F.chain_Chain_spatelaw5_Wide_Len y87 h80 fun r98 h97 =>
  cellH h97 (a93.add 0) = some y95.enc ∧
  cellH h97 (a89.add 2) = some (.pointer y91) ∧
  Q ((r98 == (y95.len : Int))) h97) ∧
  (((r81 == (y78.len : Int))) = false →
  Q false h80)) ∧
  (((r58 == r52)) = false →
  ((!r54) = true →
  ld_S_spatelaw5_Wide h57 x7 fun y102 =>
  (((y102.N == (⟨0, (⟨#[]⟩ : ByteArray)⟩ : S_spatelaw5_Wide).N) && ((y102.S.toList == (⟨0, (⟨#[]⟩ : ByteArray)⟩ : S_spatelaw5_Wide).S.toList) && true)) = true →
  nn x0 fun a105 =>
  ldP h57 (a105.add 0) fun y107 =>
  nn x0 fun a109 =>
  ldP h57 (a109.add 2) fun y111 =>
  nn y111 fun a113 =>
  ldL h57 (a113.add 0) fun y115 =>
  F.chain_Chain_int_Len y107 h57 fun r118 h117 =>
  cellH h117 (a113.add 0) = some y115.enc ∧
  cellH h117 (a109.add 2) = some (.pointer y111) ∧
  (((r118 == (y115.len : Int))) = true →
  nn x0 fun a122 =>
  ldP h117 (a122.add 1) fun y124 =>
  nn x0 fun a126 =>
  ldP h117 (a126.add 2) fun y128 =>
  nn y128 fun a130 =>
  ldL h117 (a130.add 0) fun y132 =>
  F.chain_Chain_spatelaw5_Wide_Len y124 h117 fun r135 h134 =>
  cellH h134 (a130.add 0) = some y132.enc ∧
  cellH h134 (a126.add 2) = some (.pointer y128) ∧
  Q ((r135 == (y132.len : Int))) h134) ∧
  (((r118 == (y115.len : Int))) = false →
  Q false h117)) ∧
  (((y102.N == (⟨0, (⟨#[]⟩ : ByteArray)⟩ : S_spatelaw5_Wide).N) && ((y102.S.toList == (⟨0, (⟨#[]⟩ : ByteArray)⟩ : S_spatelaw5_Wide).S.toList) && true)) = false →
  Q false h57)) ∧
  ((!r54) = false →
  Q false h57))) ∧
  (r59 = false →
  ((!r54) = true →
  ld_S_spatelaw5_Wide h57 x7 fun y139 =>
  (((y139.N == (⟨0, (⟨#[]⟩ : ByteArray)⟩ : S_spatelaw5_Wide).N) && ((y139.S.toList == (⟨0, (⟨#[]⟩ : ByteArray)⟩ : S_spatelaw5_Wide).S.toList) && true)) = true →
  nn x0 fun a142 =>
  ldP h57 (a142.add 0) fun y144 =>
  nn x0 fun a146 =>
  ldP h57 (a146.add 2) fun y148 =>
  nn y148 fun a150 =>
  ldL h57 (a150.add 0) fun y152 =>
  F.chain_Chain_int_Len y144 h57 fun r155 h154 =>
  cellH h154 (a150.add 0) = some y152.enc ∧
  cellH h154 (a146.add 2) = some (.pointer y148) ∧
  (((r155 == (y152.len : Int))) = true →
  nn x0 fun a159 =>
  ldP h154 (a159.add 1) fun y161 =>
  nn x0 fun a163 =>
  ldP h154 (a163.add 2) fun y165 =>
  nn y165 fun a167 =>
  ldL h154 (a167.add 0) fun y169 =>
  F.chain_Chain_spatelaw5_Wide_Len y161 h154 fun r172 h171 =>
  cellH h171 (a167.add 0) = some y169.enc ∧
  cellH h171 (a163.add 2) = some (.pointer y165) ∧
  Q ((r172 == (y169.len : Int))) h171) ∧
  (((r155 == (y152.len : Int))) = false →
  Q false h154)) ∧
  (((y139.N == (⟨0, (⟨#[]⟩ : ByteArray)⟩ : S_spatelaw5_Wide).N) && ((y139.S.toList == (⟨0, (⟨#[]⟩ : ByteArray)⟩ : S_spatelaw5_Wide).S.toList) && true)) = false →
  Q false h57)) ∧
  ((!r54) = false →
  Q false h57))) ∧
  (r54 = false →
  ((!r54) = true →
  ld_S_spatelaw5_Wide h57 x7 fun y176 =>
  (((y176.N == (⟨0, (⟨#[]⟩ : ByteArray)⟩ : S_spatelaw5_Wide).N) && ((y176.S.toList == (⟨0, (⟨#[]⟩ : ByteArray)⟩ : S_spatelaw5_Wide).S.toList) && true)) = true →
  nn x0 fun a179 =>
  ldP h57 (a179.add 0) fun y181 =>
  nn x0 fun a183 =>
  ldP h57 (a183.add 2) fun y185 =>
  nn y185 fun a187 =>
  ldL h57 (a187.add 0) fun y189 =>
  F.chain_Chain_int_Len y181 h57 fun r192 h191 =>
  cellH h191 (a187.add 0) = some y189.enc ∧
  cellH h191 (a183.add 2) = some (.pointer y185) ∧
  (((r192 == (y189.len : Int))) = true →
  nn x0 fun a196 =>
  ldP h191 (a196.add 1) fun y198 =>
  nn x0 fun a200 =>
  ldP h191 (a200.add 2) fun y202 =>
  nn y202 fun a204 =>
  ldL h191 (a204.add 0) fun y206 =>
  F.chain_Chain_spatelaw5_Wide_Len y198 h191 fun r209 h208 =>
  cellH h208 (a204.add 0) = some y206.enc ∧
  cellH h208 (a200.add 2) = some (.pointer y202) ∧
  Q ((r209 == (y206.len : Int))) h208) ∧
  (((r192 == (y189.len : Int))) = false →
  Q false h191)) ∧
  (((y176.N == (⟨0, (⟨#[]⟩ : ByteArray)⟩ : S_spatelaw5_Wide).N) && ((y176.S.toList == (⟨0, (⟨#[]⟩ : ByteArray)⟩ : S_spatelaw5_Wide).S.toList) && true)) = false →
  Q false h57)) ∧
  ((!r54) = false →
  Q false h57))) ∧
  ((r45 == r54) = false →
  Q false h57)) ∧
  (((r44 == r53)) = false →
  Q false h57)) ∧
  ((r37 == r54) = false →
  Q false h57)) ∧
  (((r36 == r53)) = false →
  Q false h57)) ∧
  (((r35 == r52)) = false →
  Q false h57)
def F.spatelaw5_World_asks.j2 (Q : Bool → H → Prop) (x0 : Option Addr) (x7 : Addr) (x81 : Bool) (h : H) : Prop :=
  (x81 = true →
  Q false h) ∧
  (x81 = false →
  F.spatelaw5_World_asks.j1 Q x0 x7 h)
/-- (*spate/spatelaw5.World).asks -/
def F.spatelaw5_World_asks (p0 : Option Addr) (p1 : Int) (h : H) (Q : Bool → H → Prop) : Prop :=
  nn p0 fun a1 =>
  ldP h (a1.add 0) fun y3 =>
  F.chain_Chain_int_At y3 p1 h fun r6 r7 h5 =>
  nn p0 fun a8 =>
  ldP h5 (a8.add 1) fun y10 =>
  F.chain_Chain_spatelaw5_Wide_At y10 p1 h5 fun r13 r14 h12 =>
  new h12 (((⟨0, (⟨#[]⟩ : ByteArray)⟩ : S_spatelaw5_Wide) : S_spatelaw5_Wide).cells.toArray) ty_60 fun a16 h15 =>
  stH h15 a16 r13.cells fun h17 =>
  nn p0 fun a18 =>
  ldP h17 (a18.add 2) fun y20 =>
  F.spateref5_Chain_At y20 p1 h17 fun r23 r24 h22 =>
  ld_S_spatelaw5_Wide h22 a16 fun y25 =>
  F.spatelaw5_number y25 h22 fun r28 r29 h27 =>
  (((r6 != r23)) = true →
  F.spatelaw5_World_asks.j2 Q p0 a16 true h27) ∧
  (((r6 != r23)) = false →
  ((!(r7 == r24)) = true →
  F.spatelaw5_World_asks.j2 Q p0 a16 true h27) ∧
  ((!(r7 == r24)) = false →
  ((!(r14 == r24)) = true →
  F.spatelaw5_World_asks.j2 Q p0 a16 true h27) ∧
  ((!(r14 == r24)) = false →
  (r24 = true →
  ((!r29) = true →
  F.spatelaw5_World_asks.j2 Q p0 a16 true h27) ∧
  ((!r29) = false →
  (((r28 != r23)) = true →
  F.spatelaw5_World_asks.j2 Q p0 a16 true h27) ∧
  (((r28 != r23)) = false →
  ((!r24) = true →
  ld_S_spatelaw5_Wide h27 a16 fun y220 =>
  F.spatelaw5_World_asks.j2 Q p0 a16 (!((y220.N == (⟨0, (⟨#[]⟩ : ByteArray)⟩ : S_spatelaw5_Wide).N) && ((y220.S.toList == (⟨0, (⟨#[]⟩ : ByteArray)⟩ : S_spatelaw5_Wide).S.toList) && true))) h27) ∧
  ((!r24) = false →
  F.spatelaw5_World_asks.j2 Q p0 a16 false h27)))) ∧
  (r24 = false →
  ((!r24) = true →
  ld_S_spatelaw5_Wide h27 a16 fun y223 =>
  F.spatelaw5_World_asks.j2 Q p0 a16 (!((y223.N == (⟨0, (⟨#[]⟩ : ByteArray)⟩ : S_spatelaw5_Wide).N) && ((y223.S.toList == (⟨0, (⟨#[]⟩ : ByteArray)⟩ : S_spatelaw5_Wide).S.toList) && true))) h27) ∧
  ((!r24) = false →
  F.spatelaw5_World_asks.j2 Q p0 a16 false h27)))))
theorem F.spatelaw5_World_asks_ok {p0 : Option Addr} {p1 : Int} {h : H} {Q : Bool → H → Prop} (H : F.spatelaw5_World_asks p0 p1 h Q) : Fn PP 35 ([(.pointer p0), (.int .i64 p1)] : List Value).toArray h fun r h' => ∃ r0, r = (.bool r0) ∧ Q r0 h' := by
  unfold F.spatelaw5_World_asks at H
  refine fn_of Try.func35 Try.ntmps35 rfl rfl fun w0 => ?_
  refine tr_sub [(0, (.pointer p0)), (1, (.int .i64 p1))] ⟨rfl, rfl, trivial⟩ ?_
  refine tr_seq ?_
  refine tr_region ?_
  refine tr_p (y_assign rfl) rfl rfl ?_
  refine tr_nil ?_
  refine tr_thenN ?_
  refine tr_seq ?_
  refine tr_region ?_
  refine tr_p (y_move rfl) rfl rfl ?_
  obtain ⟨a1, e2, H⟩ := H
  refine tr_p (f_nn rfl e2) rfl rfl ?_
  refine tr_p (y_fa (off := 0) Try.runUnderlying66 fo_66_0 rfl) rfl rfl ?_
  obtain ⟨y3, k4, H⟩ := H
  refine tr_h (y_ld Try.isAgg25 rfl) k4 rfl rfl ?_
  refine tr_p (y_move rfl) rfl rfl ?_
  refine tr_e (e_call Try.call24 rfl (F.chain_Chain_int_At_ok H)) rfl rfl ?_
  rintro _ h5 ⟨r6, r7, rfl, H⟩
  refine tr_p (y_move rfl) rfl rfl ?_
  refine tr_p (y_ext rfl rfl) rfl rfl ?_
  refine tr_p (y_ext rfl rfl) rfl rfl ?_
  refine tr_p (y_assign rfl) rfl rfl ?_
  refine tr_p (y_assign rfl) rfl rfl ?_
  refine tr_nil ?_
  refine tr_thenN ?_
  refine tr_seq ?_
  refine tr_region ?_
  refine tr_p (y_move rfl) rfl rfl ?_
  obtain ⟨a8, e9, H⟩ := H
  refine tr_p (f_nn rfl e9) rfl rfl ?_
  refine tr_p (y_fa (off := 1) Try.runUnderlying66 fo_66_1 rfl) rfl rfl ?_
  obtain ⟨y10, k11, H⟩ := H
  refine tr_h (y_ld Try.isAgg57 rfl) k11 rfl rfl ?_
  refine tr_p (y_move rfl) rfl rfl ?_
  refine tr_e (e_call Try.call53 rfl (F.chain_Chain_spatelaw5_Wide_At_ok H)) rfl rfl ?_
  rintro _ h12 ⟨r13, r14, rfl, H⟩
  refine tr_p (y_move rfl) rfl rfl ?_
  refine tr_p (y_ext rfl rfl) rfl rfl ?_
  refine tr_p (y_ext rfl rfl) rfl rfl ?_
  refine tr_e (f_alloc (cs := ((⟨0, (⟨#[]⟩ : ByteArray)⟩ : S_spatelaw5_Wide) : S_spatelaw5_Wide).cells.toArray) Try.zeroValue60 rfl H) rfl rfl ?_
  rintro _ h15 ⟨a16, rfl, H⟩
  refine tr_e (f_store (vs := r13.cells) Try.sizeOf60 rfl rfl cellsOfStruct rfl (by intro v hv; exact ones_S_spatelaw5_Wide _ v hv) H) rfl rfl ?_
  rintro _ h17 ⟨rfl, H⟩
  refine tr_p (y_assign rfl) rfl rfl ?_
  refine tr_nil ?_
  refine tr_thenN ?_
  refine tr_seq ?_
  refine tr_region ?_
  refine tr_p (y_move rfl) rfl rfl ?_
  obtain ⟨a18, e19, H⟩ := H
  refine tr_p (f_nn rfl e19) rfl rfl ?_
  refine tr_p (y_fa (off := 2) Try.runUnderlying66 fo_66_2 rfl) rfl rfl ?_
  obtain ⟨y20, k21, H⟩ := H
  refine tr_h (y_ld Try.isAgg61 rfl) k21 rfl rfl ?_
  refine tr_p (y_move rfl) rfl rfl ?_
  refine tr_e (e_call Try.call54 rfl (F.spateref5_Chain_At_ok H)) rfl rfl ?_
  rintro _ h22 ⟨r23, r24, rfl, H⟩
  refine tr_p (y_move rfl) rfl rfl ?_
  refine tr_p (y_ext rfl rfl) rfl rfl ?_
  refine tr_p (y_ext rfl rfl) rfl rfl ?_
  refine tr_p (y_assign rfl) rfl rfl ?_
  refine tr_p (y_assign rfl) rfl rfl ?_
  refine tr_nil ?_
  refine tr_thenN ?_
  refine tr_seq ?_
  refine tr_region ?_
  obtain ⟨y25, k26, H⟩ := H
  refine tr_h (y_ldS Try.isAgg60 Try.sizeOf60 rfl rfl) k26 rfl rfl ?_
  refine tr_e (e_call Try.call55 rfl (F.spatelaw5_number_ok H)) rfl rfl ?_
  rintro _ h27 ⟨r28, r29, rfl, H⟩
  refine tr_p (y_move rfl) rfl rfl ?_
  refine tr_p (y_ext rfl rfl) rfl rfl ?_
  refine tr_p (y_ext rfl rfl) rfl rfl ?_
  refine tr_p (y_assign rfl) rfl rfl ?_
  refine tr_p (y_assign rfl) rfl rfl ?_
  refine tr_nil ?_
  refine tr_thenN ?_
  refine tr_seq_j (fun L' h => ∃ (x0 : Option Addr) (x7 : Addr), L' = [(0, (.pointer x0)), (7, (.pointer (some x7)))] ∧ F.spatelaw5_World_asks.j1 Q x0 x7 h) ?_ ?_
  · rintro L' h ⟨x0, x7, rfl, H⟩
    unfold F.spatelaw5_World_asks.j1 at H
    refine tr_seq ?_
    refine tr_region ?_
    refine tr_p (y_move rfl) rfl rfl ?_
    obtain ⟨a30, e31, H⟩ := H
    refine tr_p (f_nn rfl e31) rfl rfl ?_
    refine tr_p (y_fa (off := 0) Try.runUnderlying66 fo_66_0 rfl) rfl rfl ?_
    obtain ⟨y32, k33, H⟩ := H
    refine tr_h (y_ld Try.isAgg25 rfl) k33 rfl rfl ?_
    refine tr_e (e_call Try.call14 rfl (F.chain_Chain_int_Newest_ok H)) rfl rfl ?_
    rintro _ h34 ⟨r35, r36, r37, rfl, H⟩
    refine tr_p (y_move rfl) rfl rfl ?_
    refine tr_p (y_ext rfl rfl) rfl rfl ?_
    refine tr_p (y_ext rfl rfl) rfl rfl ?_
    refine tr_p (y_ext rfl rfl) rfl rfl ?_
    refine tr_p (y_assign rfl) rfl rfl ?_
    refine tr_p (y_assign rfl) rfl rfl ?_
    refine tr_p (y_assign rfl) rfl rfl ?_
    refine tr_nil ?_
    refine tr_thenN ?_
    refine tr_seq ?_
    refine tr_region ?_
    refine tr_p (y_move rfl) rfl rfl ?_
    obtain ⟨a38, e39, H⟩ := H
    refine tr_p (f_nn rfl e39) rfl rfl ?_
    refine tr_p (y_fa (off := 1) Try.runUnderlying66 fo_66_1 rfl) rfl rfl ?_
    obtain ⟨y40, k41, H⟩ := H
    refine tr_h (y_ld Try.isAgg57 rfl) k41 rfl rfl ?_
    refine tr_e (e_call Try.call56 rfl (F.chain_Chain_spatelaw5_Wide_Newest_ok H)) rfl rfl ?_
    rintro _ h42 ⟨r43, r44, r45, rfl, H⟩
    refine tr_p (y_move rfl) rfl rfl ?_
    refine tr_p (y_ext rfl rfl) rfl rfl ?_
    refine tr_p (y_ext rfl rfl) rfl rfl ?_
    refine tr_p (y_ext rfl rfl) rfl rfl ?_
    refine tr_e (f_store (vs := r43.cells) Try.sizeOf60 rfl rfl cellsOfStruct rfl (by intro v hv; exact ones_S_spatelaw5_Wide _ v hv) H) rfl rfl ?_
    rintro _ h46 ⟨rfl, H⟩
    refine tr_p (y_assign rfl) rfl rfl ?_
    refine tr_p (y_assign rfl) rfl rfl ?_
    refine tr_nil ?_
    refine tr_thenN ?_
    refine tr_seq ?_
    refine tr_region ?_
    refine tr_p (y_move rfl) rfl rfl ?_
    obtain ⟨a47, e48, H⟩ := H
    refine tr_p (f_nn rfl e48) rfl rfl ?_
    refine tr_p (y_fa (off := 2) Try.runUnderlying66 fo_66_2 rfl) rfl rfl ?_
    obtain ⟨y49, k50, H⟩ := H
    refine tr_h (y_ld Try.isAgg61 rfl) k50 rfl rfl ?_
    refine tr_e (e_call Try.call57 rfl (F.spateref5_Chain_Newest_ok H)) rfl rfl ?_
    rintro _ h51 ⟨r52, r53, r54, rfl, H⟩
    refine tr_p (y_move rfl) rfl rfl ?_
    refine tr_p (y_ext rfl rfl) rfl rfl ?_
    refine tr_p (y_ext rfl rfl) rfl rfl ?_
    refine tr_p (y_ext rfl rfl) rfl rfl ?_
    refine tr_p (y_assign rfl) rfl rfl ?_
    refine tr_p (y_assign rfl) rfl rfl ?_
    refine tr_p (y_assign rfl) rfl rfl ?_
    refine tr_nil ?_
    refine tr_thenN ?_
    refine tr_seq ?_
    refine tr_region ?_
    obtain ⟨y55, k56, H⟩ := H
    refine tr_h (y_ldS Try.isAgg60 Try.sizeOf60 rfl rfl) k56 rfl rfl ?_
    refine tr_e (e_call Try.call55 rfl (F.spatelaw5_number_ok H)) rfl rfl ?_
    rintro _ h57 ⟨r58, r59, rfl, H⟩
    refine tr_p (y_move rfl) rfl rfl ?_
    refine tr_p (y_ext rfl rfl) rfl rfl ?_
    refine tr_p (y_ext rfl rfl) rfl rfl ?_
    refine tr_p (y_assign rfl) rfl rfl ?_
    refine tr_p (y_assign rfl) rfl rfl ?_
    refine tr_nil ?_
    refine tr_thenN ?_
    refine tr_seq ?_
    refine tr_draw mixed [0, 0, 3, 7, 15, 15, 63, 127, 255, 511, 511, 2047, 4095, 8191, 16383, 16383, 65535, 131071, 262143, 524287, 524287, 2097151, 4194303, 8388607, 16777215, 33554431, 67108863, 134217727, 268435455, 536870911, 536870911, 2147483647, 4294967295, 8589934591, 17179869183, 34359738367, 68719476735, 137438953471, 137438953471, 549755813887, 1099511627775, 2199023255551, 4398046511103, 8796093022207, 17592186044415, 35184372088831, 70368744177663, 140737488355327, 281474976710655, 17592186044415, 580542139465727, 1706442046308351, 3958241859993599, 8461841487364095, 17469040742105087, 35483439251587071, 71512236270551039, 144115188075855871, 288230376151711743, 576460752303423487, 1152921504606846975, 2305843009213693951, 4611686018427387903, 9223372036854775807, 18446744073709551615, 1152921504606846975, 38046409652025950207, 111833385946864156671, 259407338536540569599, 554555243715893395455, 1144851054074599047167, 2325442674792010350591, 4686625916226832957439, 9444732965739290427391, 18889465931478580854783, 37778931862957161709567] (by kernel_rfl) ?_
    refine g_p 0 1 rfl (by kernel_rfl) (y_move rfl) rfl rfl ?_
    refine g_p 1 3 rfl (by kernel_rfl) (y_move rfl) rfl rfl ?_
    refine g_p 2 7 rfl (by kernel_rfl) (y_eql rfl rfl) rfl rfl ?_
    refine g_p 3 15 rfl (by kernel_rfl) (y_move rfl) rfl rfl ?_
    refine g_split (t := 117) rfl (fun g60 => ?_) (fun g60 => ?_)
    · replace H := H.1 g60
      refine g_p 4 31 rfl (by kernel_rfl) (y_move rfl) rfl rfl ?_
      refine g_p 5 63 rfl (by kernel_rfl) (y_move rfl) rfl rfl ?_
      refine g_p 6 127 rfl (by kernel_rfl) (y_eql rfl rfl) rfl rfl ?_
      refine g_p 7 255 rfl (by kernel_rfl) (y_pick_t rfl rfl) rfl rfl ?_
      refine g_p 8 511 rfl (by kernel_rfl) (y_move rfl) rfl rfl ?_
      refine g_split (t := 122) rfl (fun g61 => ?_) (fun g61 => ?_)
      · replace H := H.1 g61
        refine g_p 9 1023 rfl (by kernel_rfl) (y_move rfl) rfl rfl ?_
        refine g_p 10 2047 rfl (by kernel_rfl) (y_move rfl) rfl rfl ?_
        refine g_p 11 4095 rfl (by kernel_rfl) (y_beql Try.underlying4 rfl rfl) rfl rfl ?_
        refine g_p 12 8191 rfl (by kernel_rfl) (y_pick_t rfl rfl) rfl rfl ?_
        refine g_p 13 16383 rfl (by kernel_rfl) (y_move rfl) rfl rfl ?_
        refine g_split (t := 127) rfl (fun g62 => ?_) (fun g62 => ?_)
        · replace H := H.1 g62
          refine g_p 14 32767 rfl (by kernel_rfl) (y_move rfl) rfl rfl ?_
          refine g_p 15 65535 rfl (by kernel_rfl) (y_move rfl) rfl rfl ?_
          refine g_p 16 131071 rfl (by kernel_rfl) (y_eql rfl rfl) rfl rfl ?_
          refine g_p 17 262143 rfl (by kernel_rfl) (y_pick_t rfl rfl) rfl rfl ?_
          refine g_p 18 524287 rfl (by kernel_rfl) (y_move rfl) rfl rfl ?_
          refine g_split (t := 132) rfl (fun g63 => ?_) (fun g63 => ?_)
          · replace H := H.1 g63
            refine g_p 19 1048575 rfl (by kernel_rfl) (y_move rfl) rfl rfl ?_
            refine g_p 20 2097151 rfl (by kernel_rfl) (y_move rfl) rfl rfl ?_
            refine g_p 21 4194303 rfl (by kernel_rfl) (y_beql Try.underlying4 rfl rfl) rfl rfl ?_
            refine g_p 22 8388607 rfl (by kernel_rfl) (y_pick_t rfl rfl) rfl rfl ?_
            refine g_p 23 16777215 rfl (by kernel_rfl) (y_move rfl) rfl rfl ?_
            refine g_split (t := 137) rfl (fun g64 => ?_) (fun g64 => ?_)
            · replace H := H.1 g64
              refine g_p 24 33554431 rfl (by kernel_rfl) (y_move rfl) rfl rfl ?_
              refine g_p 25 67108863 rfl (by kernel_rfl) (y_move rfl) rfl rfl ?_
              refine g_split (t := 139) rfl (fun g65 => ?_) (fun g65 => ?_)
              · replace H := H.1 g65
                refine g_p 26 134217727 rfl (by kernel_rfl) (y_move rfl) rfl rfl ?_
                refine g_p 27 268435455 rfl (by kernel_rfl) (y_pick_t rfl rfl) rfl rfl ?_
                refine g_p 28 536870911 rfl (by kernel_rfl) (y_move rfl) rfl rfl ?_
                refine g_split (t := 142) rfl (fun g66 => ?_) (fun g66 => ?_)
                · replace H := H.1 g66
                  refine g_p 29 1073741823 rfl (by kernel_rfl) (y_move rfl) rfl rfl ?_
                  refine g_p 30 2147483647 rfl (by kernel_rfl) (y_move rfl) rfl rfl ?_
                  refine g_p 31 4294967295 rfl (by kernel_rfl) (y_eql rfl rfl) rfl rfl ?_
                  refine g_p 32 8589934591 rfl (by kernel_rfl) (y_pick_t rfl rfl) rfl rfl ?_
                  refine g_p 33 17179869183 rfl (by kernel_rfl) (y_move rfl) rfl rfl ?_
                  refine g_split (t := 147) rfl (fun g67 => ?_) (fun g67 => ?_)
                  · replace H := H.1 g67
                    refine g_s 34 34359738367 rfl (by kernel_rfl) rfl rfl ?_
                    refine g_s 35 68719476735 rfl (by kernel_rfl) rfl rfl ?_
                    refine g_s 36 137438953471 rfl (by kernel_rfl) rfl rfl ?_
                    refine g_s 37 274877906943 rfl (by kernel_rfl) rfl rfl ?_
                    refine g_s 38 549755813887 rfl (by kernel_rfl) rfl rfl ?_
                    refine g_s 39 1099511627775 rfl (by kernel_rfl) rfl rfl ?_
                    refine g_s 40 2199023255551 rfl (by kernel_rfl) rfl rfl ?_
                    refine g_p 41 4398046511103 rfl (by kernel_rfl) (y_pick_t rfl rfl) rfl rfl ?_
                    refine g_p 42 8796093022207 rfl (by kernel_rfl) (y_pick_t rfl rfl) rfl rfl ?_
                    refine g_p 43 17592186044415 rfl (by kernel_rfl) (y_move rfl) rfl rfl ?_
                    refine g_p 44 35184372088831 rfl (by kernel_rfl) (y_move rfl) rfl rfl ?_
                    obtain ⟨a68, e69, H⟩ := H
                    refine g_p 45 70368744177663 rfl (by kernel_rfl) (f_nn rfl e69) rfl rfl ?_
                    refine g_p 46 140737488355327 rfl (by kernel_rfl) (y_fa (off := 0) Try.runUnderlying66 fo_66_0 rfl) rfl rfl ?_
                    obtain ⟨y70, k71, H⟩ := H
                    refine g_h 47 281474976710655 rfl (by kernel_rfl) (y_ld Try.isAgg25 rfl) k71 rfl rfl ?_
                    refine g_p 49 844424930131967 rfl (by kernel_rfl) (y_move rfl) rfl rfl ?_
                    obtain ⟨a72, e73, H⟩ := H
                    refine g_p 50 1970324836974591 rfl (by kernel_rfl) (f_nn rfl e73) rfl rfl ?_
                    refine g_p 51 4222124650659839 rfl (by kernel_rfl) (y_fa (off := 2) Try.runUnderlying66 fo_66_2 rfl) rfl rfl ?_
                    obtain ⟨y74, k75, H⟩ := H
                    refine g_h 52 8725724278030335 rfl (by kernel_rfl) (y_ld Try.isAgg61 rfl) k75 rfl rfl ?_
                    obtain ⟨a76, e77, H⟩ := H
                    refine g_p 53 17732923532771327 rfl (by kernel_rfl) (f_nn rfl e77) rfl rfl ?_
                    refine g_p 54 35747322042253311 rfl (by kernel_rfl) (y_fa (off := 0) Try.runUnderlying64 fo_64_0 rfl) rfl rfl ?_
                    obtain ⟨y78, k79, H⟩ := H
                    refine g_h 55 71776119061217279 rfl (by kernel_rfl) (y_ld Try.isAgg62 rfl) k79 rfl rfl ?_
                    refine g_p 56 143833713099145215 rfl (by kernel_rfl) (y_len (ts := #[]) Try.runUnderlying62 (o := y78.ptr) (n := y78.len) (cap := y78.cap) rfl) rfl rfl ?_
                    refine g_e 48 144115188075855871 [(55, fun h => cellH h (a76.add 0) = some y78.enc), (52, fun h => cellH h (a72.add 2) = some (.pointer y74))] (by kernel_rfl) rfl (by kernel_rfl) (e_call Try.call16 rfl (F.chain_Chain_int_Len_ok H)) rfl rfl ?_
                    rintro _ h80 ⟨r81, rfl, H⟩
                    obtain ⟨k82, k83, H⟩ := H
                    refine ⟨And.intro k82 (And.intro k83 trivial), ?_⟩
                    refine g_p 57 288230376151711743 rfl (by kernel_rfl) (y_eql rfl rfl) rfl rfl ?_
                    refine g_p 58 576460752303423487 rfl (by kernel_rfl) (y_pick_t rfl rfl) rfl rfl ?_
                    refine g_p 59 1152921504606846975 rfl (by kernel_rfl) (y_move rfl) rfl rfl ?_
                    refine g_split (t := 173) rfl (fun g84 => ?_) (fun g84 => ?_)
                    · replace H := H.1 g84
                      refine g_p 60 2305843009213693951 rfl (by kernel_rfl) (y_move rfl) rfl rfl ?_
                      obtain ⟨a85, e86, H⟩ := H
                      refine g_p 61 4611686018427387903 rfl (by kernel_rfl) (f_nn rfl e86) rfl rfl ?_
                      refine g_p 62 9223372036854775807 rfl (by kernel_rfl) (y_fa (off := 1) Try.runUnderlying66 fo_66_1 rfl) rfl rfl ?_
                      obtain ⟨y87, k88, H⟩ := H
                      refine g_h 63 18446744073709551615 rfl (by kernel_rfl) (y_ld Try.isAgg57 rfl) k88 rfl rfl ?_
                      refine g_p 65 55340232221128654847 rfl (by kernel_rfl) (y_move rfl) rfl rfl ?_
                      obtain ⟨a89, e90, H⟩ := H
                      refine g_p 66 129127208515966861311 rfl (by kernel_rfl) (f_nn rfl e90) rfl rfl ?_
                      refine g_p 67 276701161105643274239 rfl (by kernel_rfl) (y_fa (off := 2) Try.runUnderlying66 fo_66_2 rfl) rfl rfl ?_
                      obtain ⟨y91, k92, H⟩ := H
                      refine g_h 68 571849066284996100095 rfl (by kernel_rfl) (y_ld Try.isAgg61 rfl) k92 rfl rfl ?_
                      obtain ⟨a93, e94, H⟩ := H
                      refine g_p 69 1162144876643701751807 rfl (by kernel_rfl) (f_nn rfl e94) rfl rfl ?_
                      refine g_p 70 2342736497361113055231 rfl (by kernel_rfl) (y_fa (off := 0) Try.runUnderlying64 fo_64_0 rfl) rfl rfl ?_
                      obtain ⟨y95, k96, H⟩ := H
                      refine g_h 71 4703919738795935662079 rfl (by kernel_rfl) (y_ld Try.isAgg62 rfl) k96 rfl rfl ?_
                      refine g_p 72 9426286221665580875775 rfl (by kernel_rfl) (y_len (ts := #[]) Try.runUnderlying62 (o := y95.ptr) (n := y95.len) (cap := y95.cap) rfl) rfl rfl ?_
                      refine g_e 64 9444732965739290427391 [(71, fun h => cellH h (a93.add 0) = some y95.enc), (68, fun h => cellH h (a89.add 2) = some (.pointer y91))] (by kernel_rfl) rfl (by kernel_rfl) (e_call Try.call58 rfl (F.chain_Chain_spatelaw5_Wide_Len_ok H)) rfl rfl ?_
                      rintro _ h97 ⟨r98, rfl, H⟩
                      obtain ⟨k99, k100, H⟩ := H
                      refine ⟨And.intro k99 (And.intro k100 trivial), ?_⟩
                      refine g_p 73 18889465931478580854783 rfl (by kernel_rfl) (y_eql rfl rfl) rfl rfl ?_
                      refine g_p 74 37778931862957161709567 rfl (by kernel_rfl) (y_pick_t rfl rfl) rfl rfl ?_
                      refine g_p 75 75557863725914323419135 rfl (by kernel_rfl) (y_assign rfl) rfl rfl ?_
                      refine g_d (by kernel_rfl) ?_
                      refine tr_thenN ?_
                      refine tr_ret ?_
                      exact tr_ret1 rfl rfl ⟨_, rfl, H⟩
                    · replace H := H.2 g84
                      refine g_s 60 2305843009213693951 rfl (by kernel_rfl) rfl rfl ?_
                      refine g_s 61 4611686018427387903 rfl (by kernel_rfl) rfl rfl ?_
                      refine g_s 62 9223372036854775807 rfl (by kernel_rfl) rfl rfl ?_
                      refine g_s 63 18446744073709551615 rfl (by kernel_rfl) rfl rfl ?_
                      refine g_s 64 36893488147419103231 rfl (by kernel_rfl) rfl rfl ?_
                      refine g_s 65 73786976294838206463 rfl (by kernel_rfl) rfl rfl ?_
                      refine g_s 66 147573952589676412927 rfl (by kernel_rfl) rfl rfl ?_
                      refine g_s 67 295147905179352825855 rfl (by kernel_rfl) rfl rfl ?_
                      refine g_s 68 590295810358705651711 rfl (by kernel_rfl) rfl rfl ?_
                      refine g_s 69 1180591620717411303423 rfl (by kernel_rfl) rfl rfl ?_
                      refine g_s 70 2361183241434822606847 rfl (by kernel_rfl) rfl rfl ?_
                      refine g_s 71 4722366482869645213695 rfl (by kernel_rfl) rfl rfl ?_
                      refine g_s 72 9444732965739290427391 rfl (by kernel_rfl) rfl rfl ?_
                      refine g_s 73 18889465931478580854783 rfl (by kernel_rfl) rfl rfl ?_
                      refine g_p 74 37778931862957161709567 rfl (by kernel_rfl) (y_pick_f rfl rfl) rfl rfl ?_
                      refine g_p 75 75557863725914323419135 rfl (by kernel_rfl) (y_assign rfl) rfl rfl ?_
                      refine g_d (by kernel_rfl) ?_
                      refine tr_thenN ?_
                      refine tr_ret ?_
                      exact tr_ret1 rfl rfl ⟨_, rfl, H⟩
                  · replace H := H.2 g67
                    refine g_p 34 34359738367 rfl (by kernel_rfl) (y_move rfl) rfl rfl ?_
                    refine g_p 35 68719476735 rfl (by kernel_rfl) (y_not rfl) rfl rfl ?_
                    refine g_p 36 137438953471 rfl (by kernel_rfl) (y_move rfl) rfl rfl ?_
                    refine g_split (t := 150) rfl (fun g101 => ?_) (fun g101 => ?_)
                    · replace H := H.1 g101
                      obtain ⟨y102, k103, H⟩ := H
                      refine g_h 37 274877906943 rfl (by kernel_rfl) (y_ldS Try.isAgg60 Try.sizeOf60 rfl rfl) k103 rfl rfl ?_
                      refine g_p 38 549755813887 rfl (by kernel_rfl) (f_build rfl (bd_60_ )) rfl rfl ?_
                      refine g_p 39 1099511627775 rfl (by kernel_rfl) (st_eql (b := ((y102.N == (⟨0, (⟨#[]⟩ : ByteArray)⟩ : S_spatelaw5_Wide).N) && ((y102.S.toList == (⟨0, (⟨#[]⟩ : ByteArray)⟩ : S_spatelaw5_Wide).S.toList) && true))) eqg_60 (fun w => eqst_60 y102 (⟨0, (⟨#[]⟩ : ByteArray)⟩ : S_spatelaw5_Wide) 9998 w) rfl rfl) rfl rfl ?_
                      refine g_p 40 2199023255551 rfl (by kernel_rfl) (y_pick_t rfl rfl) rfl rfl ?_
                      refine g_p 41 4398046511103 rfl (by kernel_rfl) (y_pick_f rfl rfl) rfl rfl ?_
                      refine g_p 42 8796093022207 rfl (by kernel_rfl) (y_pick_t rfl rfl) rfl rfl ?_
                      refine g_p 43 17592186044415 rfl (by kernel_rfl) (y_move rfl) rfl rfl ?_
                      refine g_split (t := 157) rfl (fun g104 => ?_) (fun g104 => ?_)
                      · replace H := H.1 g104
                        refine g_p 44 35184372088831 rfl (by kernel_rfl) (y_move rfl) rfl rfl ?_
                        obtain ⟨a105, e106, H⟩ := H
                        refine g_p 45 70368744177663 rfl (by kernel_rfl) (f_nn rfl e106) rfl rfl ?_
                        refine g_p 46 140737488355327 rfl (by kernel_rfl) (y_fa (off := 0) Try.runUnderlying66 fo_66_0 rfl) rfl rfl ?_
                        obtain ⟨y107, k108, H⟩ := H
                        refine g_h 47 281474976710655 rfl (by kernel_rfl) (y_ld Try.isAgg25 rfl) k108 rfl rfl ?_
                        refine g_p 49 844424930131967 rfl (by kernel_rfl) (y_move rfl) rfl rfl ?_
                        obtain ⟨a109, e110, H⟩ := H
                        refine g_p 50 1970324836974591 rfl (by kernel_rfl) (f_nn rfl e110) rfl rfl ?_
                        refine g_p 51 4222124650659839 rfl (by kernel_rfl) (y_fa (off := 2) Try.runUnderlying66 fo_66_2 rfl) rfl rfl ?_
                        obtain ⟨y111, k112, H⟩ := H
                        refine g_h 52 8725724278030335 rfl (by kernel_rfl) (y_ld Try.isAgg61 rfl) k112 rfl rfl ?_
                        obtain ⟨a113, e114, H⟩ := H
                        refine g_p 53 17732923532771327 rfl (by kernel_rfl) (f_nn rfl e114) rfl rfl ?_
                        refine g_p 54 35747322042253311 rfl (by kernel_rfl) (y_fa (off := 0) Try.runUnderlying64 fo_64_0 rfl) rfl rfl ?_
                        obtain ⟨y115, k116, H⟩ := H
                        refine g_h 55 71776119061217279 rfl (by kernel_rfl) (y_ld Try.isAgg62 rfl) k116 rfl rfl ?_
                        refine g_p 56 143833713099145215 rfl (by kernel_rfl) (y_len (ts := #[]) Try.runUnderlying62 (o := y115.ptr) (n := y115.len) (cap := y115.cap) rfl) rfl rfl ?_
                        refine g_e 48 144115188075855871 [(55, fun h => cellH h (a113.add 0) = some y115.enc), (52, fun h => cellH h (a109.add 2) = some (.pointer y111))] (by kernel_rfl) rfl (by kernel_rfl) (e_call Try.call16 rfl (F.chain_Chain_int_Len_ok H)) rfl rfl ?_
                        rintro _ h117 ⟨r118, rfl, H⟩
                        obtain ⟨k119, k120, H⟩ := H
                        refine ⟨And.intro k119 (And.intro k120 trivial), ?_⟩
                        refine g_p 57 288230376151711743 rfl (by kernel_rfl) (y_eql rfl rfl) rfl rfl ?_
                        refine g_p 58 576460752303423487 rfl (by kernel_rfl) (y_pick_t rfl rfl) rfl rfl ?_
                        refine g_p 59 1152921504606846975 rfl (by kernel_rfl) (y_move rfl) rfl rfl ?_
                        refine g_split (t := 173) rfl (fun g121 => ?_) (fun g121 => ?_)
                        · replace H := H.1 g121
                          refine g_p 60 2305843009213693951 rfl (by kernel_rfl) (y_move rfl) rfl rfl ?_
                          obtain ⟨a122, e123, H⟩ := H
                          refine g_p 61 4611686018427387903 rfl (by kernel_rfl) (f_nn rfl e123) rfl rfl ?_
                          refine g_p 62 9223372036854775807 rfl (by kernel_rfl) (y_fa (off := 1) Try.runUnderlying66 fo_66_1 rfl) rfl rfl ?_
                          obtain ⟨y124, k125, H⟩ := H
                          refine g_h 63 18446744073709551615 rfl (by kernel_rfl) (y_ld Try.isAgg57 rfl) k125 rfl rfl ?_
                          refine g_p 65 55340232221128654847 rfl (by kernel_rfl) (y_move rfl) rfl rfl ?_
                          obtain ⟨a126, e127, H⟩ := H
                          refine g_p 66 129127208515966861311 rfl (by kernel_rfl) (f_nn rfl e127) rfl rfl ?_
                          refine g_p 67 276701161105643274239 rfl (by kernel_rfl) (y_fa (off := 2) Try.runUnderlying66 fo_66_2 rfl) rfl rfl ?_
                          obtain ⟨y128, k129, H⟩ := H
                          refine g_h 68 571849066284996100095 rfl (by kernel_rfl) (y_ld Try.isAgg61 rfl) k129 rfl rfl ?_
                          obtain ⟨a130, e131, H⟩ := H
                          refine g_p 69 1162144876643701751807 rfl (by kernel_rfl) (f_nn rfl e131) rfl rfl ?_
                          refine g_p 70 2342736497361113055231 rfl (by kernel_rfl) (y_fa (off := 0) Try.runUnderlying64 fo_64_0 rfl) rfl rfl ?_
                          obtain ⟨y132, k133, H⟩ := H
                          refine g_h 71 4703919738795935662079 rfl (by kernel_rfl) (y_ld Try.isAgg62 rfl) k133 rfl rfl ?_
                          refine g_p 72 9426286221665580875775 rfl (by kernel_rfl) (y_len (ts := #[]) Try.runUnderlying62 (o := y132.ptr) (n := y132.len) (cap := y132.cap) rfl) rfl rfl ?_
                          refine g_e 64 9444732965739290427391 [(71, fun h => cellH h (a130.add 0) = some y132.enc), (68, fun h => cellH h (a126.add 2) = some (.pointer y128))] (by kernel_rfl) rfl (by kernel_rfl) (e_call Try.call58 rfl (F.chain_Chain_spatelaw5_Wide_Len_ok H)) rfl rfl ?_
                          rintro _ h134 ⟨r135, rfl, H⟩
                          obtain ⟨k136, k137, H⟩ := H
                          refine ⟨And.intro k136 (And.intro k137 trivial), ?_⟩
                          refine g_p 73 18889465931478580854783 rfl (by kernel_rfl) (y_eql rfl rfl) rfl rfl ?_
                          refine g_p 74 37778931862957161709567 rfl (by kernel_rfl) (y_pick_t rfl rfl) rfl rfl ?_
                          refine g_p 75 75557863725914323419135 rfl (by kernel_rfl) (y_assign rfl) rfl rfl ?_
                          refine g_d (by kernel_rfl) ?_
                          refine tr_thenN ?_
                          refine tr_ret ?_
                          exact tr_ret1 rfl rfl ⟨_, rfl, H⟩
                        · replace H := H.2 g121
                          refine g_s 60 2305843009213693951 rfl (by kernel_rfl) rfl rfl ?_
                          refine g_s 61 4611686018427387903 rfl (by kernel_rfl) rfl rfl ?_
                          refine g_s 62 9223372036854775807 rfl (by kernel_rfl) rfl rfl ?_
                          refine g_s 63 18446744073709551615 rfl (by kernel_rfl) rfl rfl ?_
                          refine g_s 64 36893488147419103231 rfl (by kernel_rfl) rfl rfl ?_
                          refine g_s 65 73786976294838206463 rfl (by kernel_rfl) rfl rfl ?_
                          refine g_s 66 147573952589676412927 rfl (by kernel_rfl) rfl rfl ?_
                          refine g_s 67 295147905179352825855 rfl (by kernel_rfl) rfl rfl ?_
                          refine g_s 68 590295810358705651711 rfl (by kernel_rfl) rfl rfl ?_
                          refine g_s 69 1180591620717411303423 rfl (by kernel_rfl) rfl rfl ?_
                          refine g_s 70 2361183241434822606847 rfl (by kernel_rfl) rfl rfl ?_
                          refine g_s 71 4722366482869645213695 rfl (by kernel_rfl) rfl rfl ?_
                          refine g_s 72 9444732965739290427391 rfl (by kernel_rfl) rfl rfl ?_
                          refine g_s 73 18889465931478580854783 rfl (by kernel_rfl) rfl rfl ?_
                          refine g_p 74 37778931862957161709567 rfl (by kernel_rfl) (y_pick_f rfl rfl) rfl rfl ?_
                          refine g_p 75 75557863725914323419135 rfl (by kernel_rfl) (y_assign rfl) rfl rfl ?_
                          refine g_d (by kernel_rfl) ?_
                          refine tr_thenN ?_
                          refine tr_ret ?_
                          exact tr_ret1 rfl rfl ⟨_, rfl, H⟩
                      · replace H := H.2 g104
                        refine g_s 44 35184372088831 rfl (by kernel_rfl) rfl rfl ?_
                        refine g_s 45 70368744177663 rfl (by kernel_rfl) rfl rfl ?_
                        refine g_s 46 140737488355327 rfl (by kernel_rfl) rfl rfl ?_
                        refine g_s 47 281474976710655 rfl (by kernel_rfl) rfl rfl ?_
                        refine g_s 48 562949953421311 rfl (by kernel_rfl) rfl rfl ?_
                        refine g_s 49 1125899906842623 rfl (by kernel_rfl) rfl rfl ?_
                        refine g_s 50 2251799813685247 rfl (by kernel_rfl) rfl rfl ?_
                        refine g_s 51 4503599627370495 rfl (by kernel_rfl) rfl rfl ?_
                        refine g_s 52 9007199254740991 rfl (by kernel_rfl) rfl rfl ?_
                        refine g_s 53 18014398509481983 rfl (by kernel_rfl) rfl rfl ?_
                        refine g_s 54 36028797018963967 rfl (by kernel_rfl) rfl rfl ?_
                        refine g_s 55 72057594037927935 rfl (by kernel_rfl) rfl rfl ?_
                        refine g_s 56 144115188075855871 rfl (by kernel_rfl) rfl rfl ?_
                        refine g_s 57 288230376151711743 rfl (by kernel_rfl) rfl rfl ?_
                        refine g_p 58 576460752303423487 rfl (by kernel_rfl) (y_pick_f rfl rfl) rfl rfl ?_
                        refine g_p 59 1152921504606846975 rfl (by kernel_rfl) (y_move rfl) rfl rfl ?_
                        refine g_s 60 2305843009213693951 rfl (by kernel_rfl) rfl rfl ?_
                        refine g_s 61 4611686018427387903 rfl (by kernel_rfl) rfl rfl ?_
                        refine g_s 62 9223372036854775807 rfl (by kernel_rfl) rfl rfl ?_
                        refine g_s 63 18446744073709551615 rfl (by kernel_rfl) rfl rfl ?_
                        refine g_s 64 36893488147419103231 rfl (by kernel_rfl) rfl rfl ?_
                        refine g_s 65 73786976294838206463 rfl (by kernel_rfl) rfl rfl ?_
                        refine g_s 66 147573952589676412927 rfl (by kernel_rfl) rfl rfl ?_
                        refine g_s 67 295147905179352825855 rfl (by kernel_rfl) rfl rfl ?_
                        refine g_s 68 590295810358705651711 rfl (by kernel_rfl) rfl rfl ?_
                        refine g_s 69 1180591620717411303423 rfl (by kernel_rfl) rfl rfl ?_
                        refine g_s 70 2361183241434822606847 rfl (by kernel_rfl) rfl rfl ?_
                        refine g_s 71 4722366482869645213695 rfl (by kernel_rfl) rfl rfl ?_
                        refine g_s 72 9444732965739290427391 rfl (by kernel_rfl) rfl rfl ?_
                        refine g_s 73 18889465931478580854783 rfl (by kernel_rfl) rfl rfl ?_
                        refine g_p 74 37778931862957161709567 rfl (by kernel_rfl) (y_pick_f rfl rfl) rfl rfl ?_
                        refine g_p 75 75557863725914323419135 rfl (by kernel_rfl) (y_assign rfl) rfl rfl ?_
                        refine g_d (by kernel_rfl) ?_
                        refine tr_thenN ?_
                        refine tr_ret ?_
                        exact tr_ret1 rfl rfl ⟨_, rfl, H⟩
                    · replace H := H.2 g101
                      refine g_s 37 274877906943 rfl (by kernel_rfl) rfl rfl ?_
                      refine g_s 38 549755813887 rfl (by kernel_rfl) rfl rfl ?_
                      refine g_s 39 1099511627775 rfl (by kernel_rfl) rfl rfl ?_
                      refine g_p 40 2199023255551 rfl (by kernel_rfl) (y_pick_f rfl rfl) rfl rfl ?_
                      refine g_p 41 4398046511103 rfl (by kernel_rfl) (y_pick_f rfl rfl) rfl rfl ?_
                      refine g_p 42 8796093022207 rfl (by kernel_rfl) (y_pick_t rfl rfl) rfl rfl ?_
                      refine g_p 43 17592186044415 rfl (by kernel_rfl) (y_move rfl) rfl rfl ?_
                      refine g_s 44 35184372088831 rfl (by kernel_rfl) rfl rfl ?_
                      refine g_s 45 70368744177663 rfl (by kernel_rfl) rfl rfl ?_
                      refine g_s 46 140737488355327 rfl (by kernel_rfl) rfl rfl ?_
                      refine g_s 47 281474976710655 rfl (by kernel_rfl) rfl rfl ?_
                      refine g_s 48 562949953421311 rfl (by kernel_rfl) rfl rfl ?_
                      refine g_s 49 1125899906842623 rfl (by kernel_rfl) rfl rfl ?_
                      refine g_s 50 2251799813685247 rfl (by kernel_rfl) rfl rfl ?_
                      refine g_s 51 4503599627370495 rfl (by kernel_rfl) rfl rfl ?_
                      refine g_s 52 9007199254740991 rfl (by kernel_rfl) rfl rfl ?_
                      refine g_s 53 18014398509481983 rfl (by kernel_rfl) rfl rfl ?_
                      refine g_s 54 36028797018963967 rfl (by kernel_rfl) rfl rfl ?_
                      refine g_s 55 72057594037927935 rfl (by kernel_rfl) rfl rfl ?_
                      refine g_s 56 144115188075855871 rfl (by kernel_rfl) rfl rfl ?_
                      refine g_s 57 288230376151711743 rfl (by kernel_rfl) rfl rfl ?_
                      refine g_p 58 576460752303423487 rfl (by kernel_rfl) (y_pick_f rfl rfl) rfl rfl ?_
                      refine g_p 59 1152921504606846975 rfl (by kernel_rfl) (y_move rfl) rfl rfl ?_
                      refine g_s 60 2305843009213693951 rfl (by kernel_rfl) rfl rfl ?_
                      refine g_s 61 4611686018427387903 rfl (by kernel_rfl) rfl rfl ?_
                      refine g_s 62 9223372036854775807 rfl (by kernel_rfl) rfl rfl ?_
                      refine g_s 63 18446744073709551615 rfl (by kernel_rfl) rfl rfl ?_
                      refine g_s 64 36893488147419103231 rfl (by kernel_rfl) rfl rfl ?_
                      refine g_s 65 73786976294838206463 rfl (by kernel_rfl) rfl rfl ?_
                      refine g_s 66 147573952589676412927 rfl (by kernel_rfl) rfl rfl ?_
                      refine g_s 67 295147905179352825855 rfl (by kernel_rfl) rfl rfl ?_
                      refine g_s 68 590295810358705651711 rfl (by kernel_rfl) rfl rfl ?_
                      refine g_s 69 1180591620717411303423 rfl (by kernel_rfl) rfl rfl ?_
                      refine g_s 70 2361183241434822606847 rfl (by kernel_rfl) rfl rfl ?_
                      refine g_s 71 4722366482869645213695 rfl (by kernel_rfl) rfl rfl ?_
                      refine g_s 72 9444732965739290427391 rfl (by kernel_rfl) rfl rfl ?_
                      refine g_s 73 18889465931478580854783 rfl (by kernel_rfl) rfl rfl ?_
                      refine g_p 74 37778931862957161709567 rfl (by kernel_rfl) (y_pick_f rfl rfl) rfl rfl ?_
                      refine g_p 75 75557863725914323419135 rfl (by kernel_rfl) (y_assign rfl) rfl rfl ?_
                      refine g_d (by kernel_rfl) ?_
                      refine tr_thenN ?_
                      refine tr_ret ?_
                      exact tr_ret1 rfl rfl ⟨_, rfl, H⟩
                · replace H := H.2 g66
                  refine g_s 29 1073741823 rfl (by kernel_rfl) rfl rfl ?_
                  refine g_s 30 2147483647 rfl (by kernel_rfl) rfl rfl ?_
                  refine g_s 31 4294967295 rfl (by kernel_rfl) rfl rfl ?_
                  refine g_p 32 8589934591 rfl (by kernel_rfl) (y_pick_f rfl rfl) rfl rfl ?_
                  refine g_p 33 17179869183 rfl (by kernel_rfl) (y_move rfl) rfl rfl ?_
                  refine g_p 34 34359738367 rfl (by kernel_rfl) (y_move rfl) rfl rfl ?_
                  refine g_p 35 68719476735 rfl (by kernel_rfl) (y_not rfl) rfl rfl ?_
                  refine g_p 36 137438953471 rfl (by kernel_rfl) (y_move rfl) rfl rfl ?_
                  refine g_split (t := 150) rfl (fun g138 => ?_) (fun g138 => ?_)
                  · replace H := H.1 g138
                    obtain ⟨y139, k140, H⟩ := H
                    refine g_h 37 274877906943 rfl (by kernel_rfl) (y_ldS Try.isAgg60 Try.sizeOf60 rfl rfl) k140 rfl rfl ?_
                    refine g_p 38 549755813887 rfl (by kernel_rfl) (f_build rfl (bd_60_ )) rfl rfl ?_
                    refine g_p 39 1099511627775 rfl (by kernel_rfl) (st_eql (b := ((y139.N == (⟨0, (⟨#[]⟩ : ByteArray)⟩ : S_spatelaw5_Wide).N) && ((y139.S.toList == (⟨0, (⟨#[]⟩ : ByteArray)⟩ : S_spatelaw5_Wide).S.toList) && true))) eqg_60 (fun w => eqst_60 y139 (⟨0, (⟨#[]⟩ : ByteArray)⟩ : S_spatelaw5_Wide) 9998 w) rfl rfl) rfl rfl ?_
                    refine g_p 40 2199023255551 rfl (by kernel_rfl) (y_pick_t rfl rfl) rfl rfl ?_
                    refine g_p 41 4398046511103 rfl (by kernel_rfl) (y_pick_f rfl rfl) rfl rfl ?_
                    refine g_p 42 8796093022207 rfl (by kernel_rfl) (y_pick_t rfl rfl) rfl rfl ?_
                    refine g_p 43 17592186044415 rfl (by kernel_rfl) (y_move rfl) rfl rfl ?_
                    refine g_split (t := 157) rfl (fun g141 => ?_) (fun g141 => ?_)
                    · replace H := H.1 g141
                      refine g_p 44 35184372088831 rfl (by kernel_rfl) (y_move rfl) rfl rfl ?_
                      obtain ⟨a142, e143, H⟩ := H
                      refine g_p 45 70368744177663 rfl (by kernel_rfl) (f_nn rfl e143) rfl rfl ?_
                      refine g_p 46 140737488355327 rfl (by kernel_rfl) (y_fa (off := 0) Try.runUnderlying66 fo_66_0 rfl) rfl rfl ?_
                      obtain ⟨y144, k145, H⟩ := H
                      refine g_h 47 281474976710655 rfl (by kernel_rfl) (y_ld Try.isAgg25 rfl) k145 rfl rfl ?_
                      refine g_p 49 844424930131967 rfl (by kernel_rfl) (y_move rfl) rfl rfl ?_
                      obtain ⟨a146, e147, H⟩ := H
                      refine g_p 50 1970324836974591 rfl (by kernel_rfl) (f_nn rfl e147) rfl rfl ?_
                      refine g_p 51 4222124650659839 rfl (by kernel_rfl) (y_fa (off := 2) Try.runUnderlying66 fo_66_2 rfl) rfl rfl ?_
                      obtain ⟨y148, k149, H⟩ := H
                      refine g_h 52 8725724278030335 rfl (by kernel_rfl) (y_ld Try.isAgg61 rfl) k149 rfl rfl ?_
                      obtain ⟨a150, e151, H⟩ := H
                      refine g_p 53 17732923532771327 rfl (by kernel_rfl) (f_nn rfl e151) rfl rfl ?_
                      refine g_p 54 35747322042253311 rfl (by kernel_rfl) (y_fa (off := 0) Try.runUnderlying64 fo_64_0 rfl) rfl rfl ?_
                      obtain ⟨y152, k153, H⟩ := H
                      refine g_h 55 71776119061217279 rfl (by kernel_rfl) (y_ld Try.isAgg62 rfl) k153 rfl rfl ?_
                      refine g_p 56 143833713099145215 rfl (by kernel_rfl) (y_len (ts := #[]) Try.runUnderlying62 (o := y152.ptr) (n := y152.len) (cap := y152.cap) rfl) rfl rfl ?_
                      refine g_e 48 144115188075855871 [(55, fun h => cellH h (a150.add 0) = some y152.enc), (52, fun h => cellH h (a146.add 2) = some (.pointer y148))] (by kernel_rfl) rfl (by kernel_rfl) (e_call Try.call16 rfl (F.chain_Chain_int_Len_ok H)) rfl rfl ?_
                      rintro _ h154 ⟨r155, rfl, H⟩
                      obtain ⟨k156, k157, H⟩ := H
                      refine ⟨And.intro k156 (And.intro k157 trivial), ?_⟩
                      refine g_p 57 288230376151711743 rfl (by kernel_rfl) (y_eql rfl rfl) rfl rfl ?_
                      refine g_p 58 576460752303423487 rfl (by kernel_rfl) (y_pick_t rfl rfl) rfl rfl ?_
                      refine g_p 59 1152921504606846975 rfl (by kernel_rfl) (y_move rfl) rfl rfl ?_
                      refine g_split (t := 173) rfl (fun g158 => ?_) (fun g158 => ?_)
                      · replace H := H.1 g158
                        refine g_p 60 2305843009213693951 rfl (by kernel_rfl) (y_move rfl) rfl rfl ?_
                        obtain ⟨a159, e160, H⟩ := H
                        refine g_p 61 4611686018427387903 rfl (by kernel_rfl) (f_nn rfl e160) rfl rfl ?_
                        refine g_p 62 9223372036854775807 rfl (by kernel_rfl) (y_fa (off := 1) Try.runUnderlying66 fo_66_1 rfl) rfl rfl ?_
                        obtain ⟨y161, k162, H⟩ := H
                        refine g_h 63 18446744073709551615 rfl (by kernel_rfl) (y_ld Try.isAgg57 rfl) k162 rfl rfl ?_
                        refine g_p 65 55340232221128654847 rfl (by kernel_rfl) (y_move rfl) rfl rfl ?_
                        obtain ⟨a163, e164, H⟩ := H
                        refine g_p 66 129127208515966861311 rfl (by kernel_rfl) (f_nn rfl e164) rfl rfl ?_
                        refine g_p 67 276701161105643274239 rfl (by kernel_rfl) (y_fa (off := 2) Try.runUnderlying66 fo_66_2 rfl) rfl rfl ?_
                        obtain ⟨y165, k166, H⟩ := H
                        refine g_h 68 571849066284996100095 rfl (by kernel_rfl) (y_ld Try.isAgg61 rfl) k166 rfl rfl ?_
                        obtain ⟨a167, e168, H⟩ := H
                        refine g_p 69 1162144876643701751807 rfl (by kernel_rfl) (f_nn rfl e168) rfl rfl ?_
                        refine g_p 70 2342736497361113055231 rfl (by kernel_rfl) (y_fa (off := 0) Try.runUnderlying64 fo_64_0 rfl) rfl rfl ?_
                        obtain ⟨y169, k170, H⟩ := H
                        refine g_h 71 4703919738795935662079 rfl (by kernel_rfl) (y_ld Try.isAgg62 rfl) k170 rfl rfl ?_
                        refine g_p 72 9426286221665580875775 rfl (by kernel_rfl) (y_len (ts := #[]) Try.runUnderlying62 (o := y169.ptr) (n := y169.len) (cap := y169.cap) rfl) rfl rfl ?_
                        refine g_e 64 9444732965739290427391 [(71, fun h => cellH h (a167.add 0) = some y169.enc), (68, fun h => cellH h (a163.add 2) = some (.pointer y165))] (by kernel_rfl) rfl (by kernel_rfl) (e_call Try.call58 rfl (F.chain_Chain_spatelaw5_Wide_Len_ok H)) rfl rfl ?_
                        rintro _ h171 ⟨r172, rfl, H⟩
                        obtain ⟨k173, k174, H⟩ := H
                        refine ⟨And.intro k173 (And.intro k174 trivial), ?_⟩
                        refine g_p 73 18889465931478580854783 rfl (by kernel_rfl) (y_eql rfl rfl) rfl rfl ?_
                        refine g_p 74 37778931862957161709567 rfl (by kernel_rfl) (y_pick_t rfl rfl) rfl rfl ?_
                        refine g_p 75 75557863725914323419135 rfl (by kernel_rfl) (y_assign rfl) rfl rfl ?_
                        refine g_d (by kernel_rfl) ?_
                        refine tr_thenN ?_
                        refine tr_ret ?_
                        exact tr_ret1 rfl rfl ⟨_, rfl, H⟩
                      · replace H := H.2 g158
                        refine g_s 60 2305843009213693951 rfl (by kernel_rfl) rfl rfl ?_
                        refine g_s 61 4611686018427387903 rfl (by kernel_rfl) rfl rfl ?_
                        refine g_s 62 9223372036854775807 rfl (by kernel_rfl) rfl rfl ?_
                        refine g_s 63 18446744073709551615 rfl (by kernel_rfl) rfl rfl ?_
                        refine g_s 64 36893488147419103231 rfl (by kernel_rfl) rfl rfl ?_
                        refine g_s 65 73786976294838206463 rfl (by kernel_rfl) rfl rfl ?_
                        refine g_s 66 147573952589676412927 rfl (by kernel_rfl) rfl rfl ?_
                        refine g_s 67 295147905179352825855 rfl (by kernel_rfl) rfl rfl ?_
                        refine g_s 68 590295810358705651711 rfl (by kernel_rfl) rfl rfl ?_
                        refine g_s 69 1180591620717411303423 rfl (by kernel_rfl) rfl rfl ?_
                        refine g_s 70 2361183241434822606847 rfl (by kernel_rfl) rfl rfl ?_
                        refine g_s 71 4722366482869645213695 rfl (by kernel_rfl) rfl rfl ?_
                        refine g_s 72 9444732965739290427391 rfl (by kernel_rfl) rfl rfl ?_
                        refine g_s 73 18889465931478580854783 rfl (by kernel_rfl) rfl rfl ?_
                        refine g_p 74 37778931862957161709567 rfl (by kernel_rfl) (y_pick_f rfl rfl) rfl rfl ?_
                        refine g_p 75 75557863725914323419135 rfl (by kernel_rfl) (y_assign rfl) rfl rfl ?_
                        refine g_d (by kernel_rfl) ?_
                        refine tr_thenN ?_
                        refine tr_ret ?_
                        exact tr_ret1 rfl rfl ⟨_, rfl, H⟩
                    · replace H := H.2 g141
                      refine g_s 44 35184372088831 rfl (by kernel_rfl) rfl rfl ?_
                      refine g_s 45 70368744177663 rfl (by kernel_rfl) rfl rfl ?_
                      refine g_s 46 140737488355327 rfl (by kernel_rfl) rfl rfl ?_
                      refine g_s 47 281474976710655 rfl (by kernel_rfl) rfl rfl ?_
                      refine g_s 48 562949953421311 rfl (by kernel_rfl) rfl rfl ?_
                      refine g_s 49 1125899906842623 rfl (by kernel_rfl) rfl rfl ?_
                      refine g_s 50 2251799813685247 rfl (by kernel_rfl) rfl rfl ?_
                      refine g_s 51 4503599627370495 rfl (by kernel_rfl) rfl rfl ?_
                      refine g_s 52 9007199254740991 rfl (by kernel_rfl) rfl rfl ?_
                      refine g_s 53 18014398509481983 rfl (by kernel_rfl) rfl rfl ?_
                      refine g_s 54 36028797018963967 rfl (by kernel_rfl) rfl rfl ?_
                      refine g_s 55 72057594037927935 rfl (by kernel_rfl) rfl rfl ?_
                      refine g_s 56 144115188075855871 rfl (by kernel_rfl) rfl rfl ?_
                      refine g_s 57 288230376151711743 rfl (by kernel_rfl) rfl rfl ?_
                      refine g_p 58 576460752303423487 rfl (by kernel_rfl) (y_pick_f rfl rfl) rfl rfl ?_
                      refine g_p 59 1152921504606846975 rfl (by kernel_rfl) (y_move rfl) rfl rfl ?_
                      refine g_s 60 2305843009213693951 rfl (by kernel_rfl) rfl rfl ?_
                      refine g_s 61 4611686018427387903 rfl (by kernel_rfl) rfl rfl ?_
                      refine g_s 62 9223372036854775807 rfl (by kernel_rfl) rfl rfl ?_
                      refine g_s 63 18446744073709551615 rfl (by kernel_rfl) rfl rfl ?_
                      refine g_s 64 36893488147419103231 rfl (by kernel_rfl) rfl rfl ?_
                      refine g_s 65 73786976294838206463 rfl (by kernel_rfl) rfl rfl ?_
                      refine g_s 66 147573952589676412927 rfl (by kernel_rfl) rfl rfl ?_
                      refine g_s 67 295147905179352825855 rfl (by kernel_rfl) rfl rfl ?_
                      refine g_s 68 590295810358705651711 rfl (by kernel_rfl) rfl rfl ?_
                      refine g_s 69 1180591620717411303423 rfl (by kernel_rfl) rfl rfl ?_
                      refine g_s 70 2361183241434822606847 rfl (by kernel_rfl) rfl rfl ?_
                      refine g_s 71 4722366482869645213695 rfl (by kernel_rfl) rfl rfl ?_
                      refine g_s 72 9444732965739290427391 rfl (by kernel_rfl) rfl rfl ?_
                      refine g_s 73 18889465931478580854783 rfl (by kernel_rfl) rfl rfl ?_
                      refine g_p 74 37778931862957161709567 rfl (by kernel_rfl) (y_pick_f rfl rfl) rfl rfl ?_
                      refine g_p 75 75557863725914323419135 rfl (by kernel_rfl) (y_assign rfl) rfl rfl ?_
                      refine g_d (by kernel_rfl) ?_
                      refine tr_thenN ?_
                      refine tr_ret ?_
                      exact tr_ret1 rfl rfl ⟨_, rfl, H⟩
                  · replace H := H.2 g138
                    refine g_s 37 274877906943 rfl (by kernel_rfl) rfl rfl ?_
                    refine g_s 38 549755813887 rfl (by kernel_rfl) rfl rfl ?_
                    refine g_s 39 1099511627775 rfl (by kernel_rfl) rfl rfl ?_
                    refine g_p 40 2199023255551 rfl (by kernel_rfl) (y_pick_f rfl rfl) rfl rfl ?_
                    refine g_p 41 4398046511103 rfl (by kernel_rfl) (y_pick_f rfl rfl) rfl rfl ?_
                    refine g_p 42 8796093022207 rfl (by kernel_rfl) (y_pick_t rfl rfl) rfl rfl ?_
                    refine g_p 43 17592186044415 rfl (by kernel_rfl) (y_move rfl) rfl rfl ?_
                    refine g_s 44 35184372088831 rfl (by kernel_rfl) rfl rfl ?_
                    refine g_s 45 70368744177663 rfl (by kernel_rfl) rfl rfl ?_
                    refine g_s 46 140737488355327 rfl (by kernel_rfl) rfl rfl ?_
                    refine g_s 47 281474976710655 rfl (by kernel_rfl) rfl rfl ?_
                    refine g_s 48 562949953421311 rfl (by kernel_rfl) rfl rfl ?_
                    refine g_s 49 1125899906842623 rfl (by kernel_rfl) rfl rfl ?_
                    refine g_s 50 2251799813685247 rfl (by kernel_rfl) rfl rfl ?_
                    refine g_s 51 4503599627370495 rfl (by kernel_rfl) rfl rfl ?_
                    refine g_s 52 9007199254740991 rfl (by kernel_rfl) rfl rfl ?_
                    refine g_s 53 18014398509481983 rfl (by kernel_rfl) rfl rfl ?_
                    refine g_s 54 36028797018963967 rfl (by kernel_rfl) rfl rfl ?_
                    refine g_s 55 72057594037927935 rfl (by kernel_rfl) rfl rfl ?_
                    refine g_s 56 144115188075855871 rfl (by kernel_rfl) rfl rfl ?_
                    refine g_s 57 288230376151711743 rfl (by kernel_rfl) rfl rfl ?_
                    refine g_p 58 576460752303423487 rfl (by kernel_rfl) (y_pick_f rfl rfl) rfl rfl ?_
                    refine g_p 59 1152921504606846975 rfl (by kernel_rfl) (y_move rfl) rfl rfl ?_
                    refine g_s 60 2305843009213693951 rfl (by kernel_rfl) rfl rfl ?_
                    refine g_s 61 4611686018427387903 rfl (by kernel_rfl) rfl rfl ?_
                    refine g_s 62 9223372036854775807 rfl (by kernel_rfl) rfl rfl ?_
                    refine g_s 63 18446744073709551615 rfl (by kernel_rfl) rfl rfl ?_
                    refine g_s 64 36893488147419103231 rfl (by kernel_rfl) rfl rfl ?_
                    refine g_s 65 73786976294838206463 rfl (by kernel_rfl) rfl rfl ?_
                    refine g_s 66 147573952589676412927 rfl (by kernel_rfl) rfl rfl ?_
                    refine g_s 67 295147905179352825855 rfl (by kernel_rfl) rfl rfl ?_
                    refine g_s 68 590295810358705651711 rfl (by kernel_rfl) rfl rfl ?_
                    refine g_s 69 1180591620717411303423 rfl (by kernel_rfl) rfl rfl ?_
                    refine g_s 70 2361183241434822606847 rfl (by kernel_rfl) rfl rfl ?_
                    refine g_s 71 4722366482869645213695 rfl (by kernel_rfl) rfl rfl ?_
                    refine g_s 72 9444732965739290427391 rfl (by kernel_rfl) rfl rfl ?_
                    refine g_s 73 18889465931478580854783 rfl (by kernel_rfl) rfl rfl ?_
                    refine g_p 74 37778931862957161709567 rfl (by kernel_rfl) (y_pick_f rfl rfl) rfl rfl ?_
                    refine g_p 75 75557863725914323419135 rfl (by kernel_rfl) (y_assign rfl) rfl rfl ?_
                    refine g_d (by kernel_rfl) ?_
                    refine tr_thenN ?_
                    refine tr_ret ?_
                    exact tr_ret1 rfl rfl ⟨_, rfl, H⟩
              · replace H := H.2 g65
                refine g_s 26 134217727 rfl (by kernel_rfl) rfl rfl ?_
                refine g_p 27 268435455 rfl (by kernel_rfl) (y_pick_f rfl rfl) rfl rfl ?_
                refine g_p 28 536870911 rfl (by kernel_rfl) (y_move rfl) rfl rfl ?_
                refine g_s 29 1073741823 rfl (by kernel_rfl) rfl rfl ?_
                refine g_s 30 2147483647 rfl (by kernel_rfl) rfl rfl ?_
                refine g_s 31 4294967295 rfl (by kernel_rfl) rfl rfl ?_
                refine g_p 32 8589934591 rfl (by kernel_rfl) (y_pick_f rfl rfl) rfl rfl ?_
                refine g_p 33 17179869183 rfl (by kernel_rfl) (y_move rfl) rfl rfl ?_
                refine g_p 34 34359738367 rfl (by kernel_rfl) (y_move rfl) rfl rfl ?_
                refine g_p 35 68719476735 rfl (by kernel_rfl) (y_not rfl) rfl rfl ?_
                refine g_p 36 137438953471 rfl (by kernel_rfl) (y_move rfl) rfl rfl ?_
                refine g_split (t := 150) rfl (fun g175 => ?_) (fun g175 => ?_)
                · replace H := H.1 g175
                  obtain ⟨y176, k177, H⟩ := H
                  refine g_h 37 274877906943 rfl (by kernel_rfl) (y_ldS Try.isAgg60 Try.sizeOf60 rfl rfl) k177 rfl rfl ?_
                  refine g_p 38 549755813887 rfl (by kernel_rfl) (f_build rfl (bd_60_ )) rfl rfl ?_
                  refine g_p 39 1099511627775 rfl (by kernel_rfl) (st_eql (b := ((y176.N == (⟨0, (⟨#[]⟩ : ByteArray)⟩ : S_spatelaw5_Wide).N) && ((y176.S.toList == (⟨0, (⟨#[]⟩ : ByteArray)⟩ : S_spatelaw5_Wide).S.toList) && true))) eqg_60 (fun w => eqst_60 y176 (⟨0, (⟨#[]⟩ : ByteArray)⟩ : S_spatelaw5_Wide) 9998 w) rfl rfl) rfl rfl ?_
                  refine g_p 40 2199023255551 rfl (by kernel_rfl) (y_pick_t rfl rfl) rfl rfl ?_
                  refine g_p 41 4398046511103 rfl (by kernel_rfl) (y_pick_f rfl rfl) rfl rfl ?_
                  refine g_p 42 8796093022207 rfl (by kernel_rfl) (y_pick_t rfl rfl) rfl rfl ?_
                  refine g_p 43 17592186044415 rfl (by kernel_rfl) (y_move rfl) rfl rfl ?_
                  refine g_split (t := 157) rfl (fun g178 => ?_) (fun g178 => ?_)
                  · replace H := H.1 g178
                    refine g_p 44 35184372088831 rfl (by kernel_rfl) (y_move rfl) rfl rfl ?_
                    obtain ⟨a179, e180, H⟩ := H
                    refine g_p 45 70368744177663 rfl (by kernel_rfl) (f_nn rfl e180) rfl rfl ?_
                    refine g_p 46 140737488355327 rfl (by kernel_rfl) (y_fa (off := 0) Try.runUnderlying66 fo_66_0 rfl) rfl rfl ?_
                    obtain ⟨y181, k182, H⟩ := H
                    refine g_h 47 281474976710655 rfl (by kernel_rfl) (y_ld Try.isAgg25 rfl) k182 rfl rfl ?_
                    refine g_p 49 844424930131967 rfl (by kernel_rfl) (y_move rfl) rfl rfl ?_
                    obtain ⟨a183, e184, H⟩ := H
                    refine g_p 50 1970324836974591 rfl (by kernel_rfl) (f_nn rfl e184) rfl rfl ?_
                    refine g_p 51 4222124650659839 rfl (by kernel_rfl) (y_fa (off := 2) Try.runUnderlying66 fo_66_2 rfl) rfl rfl ?_
                    obtain ⟨y185, k186, H⟩ := H
                    refine g_h 52 8725724278030335 rfl (by kernel_rfl) (y_ld Try.isAgg61 rfl) k186 rfl rfl ?_
                    obtain ⟨a187, e188, H⟩ := H
                    refine g_p 53 17732923532771327 rfl (by kernel_rfl) (f_nn rfl e188) rfl rfl ?_
                    refine g_p 54 35747322042253311 rfl (by kernel_rfl) (y_fa (off := 0) Try.runUnderlying64 fo_64_0 rfl) rfl rfl ?_
                    obtain ⟨y189, k190, H⟩ := H
                    refine g_h 55 71776119061217279 rfl (by kernel_rfl) (y_ld Try.isAgg62 rfl) k190 rfl rfl ?_
                    refine g_p 56 143833713099145215 rfl (by kernel_rfl) (y_len (ts := #[]) Try.runUnderlying62 (o := y189.ptr) (n := y189.len) (cap := y189.cap) rfl) rfl rfl ?_
                    refine g_e 48 144115188075855871 [(55, fun h => cellH h (a187.add 0) = some y189.enc), (52, fun h => cellH h (a183.add 2) = some (.pointer y185))] (by kernel_rfl) rfl (by kernel_rfl) (e_call Try.call16 rfl (F.chain_Chain_int_Len_ok H)) rfl rfl ?_
                    rintro _ h191 ⟨r192, rfl, H⟩
                    obtain ⟨k193, k194, H⟩ := H
                    refine ⟨And.intro k193 (And.intro k194 trivial), ?_⟩
                    refine g_p 57 288230376151711743 rfl (by kernel_rfl) (y_eql rfl rfl) rfl rfl ?_
                    refine g_p 58 576460752303423487 rfl (by kernel_rfl) (y_pick_t rfl rfl) rfl rfl ?_
                    refine g_p 59 1152921504606846975 rfl (by kernel_rfl) (y_move rfl) rfl rfl ?_
                    refine g_split (t := 173) rfl (fun g195 => ?_) (fun g195 => ?_)
                    · replace H := H.1 g195
                      refine g_p 60 2305843009213693951 rfl (by kernel_rfl) (y_move rfl) rfl rfl ?_
                      obtain ⟨a196, e197, H⟩ := H
                      refine g_p 61 4611686018427387903 rfl (by kernel_rfl) (f_nn rfl e197) rfl rfl ?_
                      refine g_p 62 9223372036854775807 rfl (by kernel_rfl) (y_fa (off := 1) Try.runUnderlying66 fo_66_1 rfl) rfl rfl ?_
                      obtain ⟨y198, k199, H⟩ := H
                      refine g_h 63 18446744073709551615 rfl (by kernel_rfl) (y_ld Try.isAgg57 rfl) k199 rfl rfl ?_
                      refine g_p 65 55340232221128654847 rfl (by kernel_rfl) (y_move rfl) rfl rfl ?_
                      obtain ⟨a200, e201, H⟩ := H
                      refine g_p 66 129127208515966861311 rfl (by kernel_rfl) (f_nn rfl e201) rfl rfl ?_
                      refine g_p 67 276701161105643274239 rfl (by kernel_rfl) (y_fa (off := 2) Try.runUnderlying66 fo_66_2 rfl) rfl rfl ?_
                      obtain ⟨y202, k203, H⟩ := H
                      refine g_h 68 571849066284996100095 rfl (by kernel_rfl) (y_ld Try.isAgg61 rfl) k203 rfl rfl ?_
                      obtain ⟨a204, e205, H⟩ := H
                      refine g_p 69 1162144876643701751807 rfl (by kernel_rfl) (f_nn rfl e205) rfl rfl ?_
                      refine g_p 70 2342736497361113055231 rfl (by kernel_rfl) (y_fa (off := 0) Try.runUnderlying64 fo_64_0 rfl) rfl rfl ?_
                      obtain ⟨y206, k207, H⟩ := H
                      refine g_h 71 4703919738795935662079 rfl (by kernel_rfl) (y_ld Try.isAgg62 rfl) k207 rfl rfl ?_
                      refine g_p 72 9426286221665580875775 rfl (by kernel_rfl) (y_len (ts := #[]) Try.runUnderlying62 (o := y206.ptr) (n := y206.len) (cap := y206.cap) rfl) rfl rfl ?_
                      refine g_e 64 9444732965739290427391 [(71, fun h => cellH h (a204.add 0) = some y206.enc), (68, fun h => cellH h (a200.add 2) = some (.pointer y202))] (by kernel_rfl) rfl (by kernel_rfl) (e_call Try.call58 rfl (F.chain_Chain_spatelaw5_Wide_Len_ok H)) rfl rfl ?_
                      rintro _ h208 ⟨r209, rfl, H⟩
                      obtain ⟨k210, k211, H⟩ := H
                      refine ⟨And.intro k210 (And.intro k211 trivial), ?_⟩
                      refine g_p 73 18889465931478580854783 rfl (by kernel_rfl) (y_eql rfl rfl) rfl rfl ?_
                      refine g_p 74 37778931862957161709567 rfl (by kernel_rfl) (y_pick_t rfl rfl) rfl rfl ?_
                      refine g_p 75 75557863725914323419135 rfl (by kernel_rfl) (y_assign rfl) rfl rfl ?_
                      refine g_d (by kernel_rfl) ?_
                      refine tr_thenN ?_
                      refine tr_ret ?_
                      exact tr_ret1 rfl rfl ⟨_, rfl, H⟩
                    · replace H := H.2 g195
                      refine g_s 60 2305843009213693951 rfl (by kernel_rfl) rfl rfl ?_
                      refine g_s 61 4611686018427387903 rfl (by kernel_rfl) rfl rfl ?_
                      refine g_s 62 9223372036854775807 rfl (by kernel_rfl) rfl rfl ?_
                      refine g_s 63 18446744073709551615 rfl (by kernel_rfl) rfl rfl ?_
                      refine g_s 64 36893488147419103231 rfl (by kernel_rfl) rfl rfl ?_
                      refine g_s 65 73786976294838206463 rfl (by kernel_rfl) rfl rfl ?_
                      refine g_s 66 147573952589676412927 rfl (by kernel_rfl) rfl rfl ?_
                      refine g_s 67 295147905179352825855 rfl (by kernel_rfl) rfl rfl ?_
                      refine g_s 68 590295810358705651711 rfl (by kernel_rfl) rfl rfl ?_
                      refine g_s 69 1180591620717411303423 rfl (by kernel_rfl) rfl rfl ?_
                      refine g_s 70 2361183241434822606847 rfl (by kernel_rfl) rfl rfl ?_
                      refine g_s 71 4722366482869645213695 rfl (by kernel_rfl) rfl rfl ?_
                      refine g_s 72 9444732965739290427391 rfl (by kernel_rfl) rfl rfl ?_
                      refine g_s 73 18889465931478580854783 rfl (by kernel_rfl) rfl rfl ?_
                      refine g_p 74 37778931862957161709567 rfl (by kernel_rfl) (y_pick_f rfl rfl) rfl rfl ?_
                      refine g_p 75 75557863725914323419135 rfl (by kernel_rfl) (y_assign rfl) rfl rfl ?_
                      refine g_d (by kernel_rfl) ?_
                      refine tr_thenN ?_
                      refine tr_ret ?_
                      exact tr_ret1 rfl rfl ⟨_, rfl, H⟩
                  · replace H := H.2 g178
                    refine g_s 44 35184372088831 rfl (by kernel_rfl) rfl rfl ?_
                    refine g_s 45 70368744177663 rfl (by kernel_rfl) rfl rfl ?_
                    refine g_s 46 140737488355327 rfl (by kernel_rfl) rfl rfl ?_
                    refine g_s 47 281474976710655 rfl (by kernel_rfl) rfl rfl ?_
                    refine g_s 48 562949953421311 rfl (by kernel_rfl) rfl rfl ?_
                    refine g_s 49 1125899906842623 rfl (by kernel_rfl) rfl rfl ?_
                    refine g_s 50 2251799813685247 rfl (by kernel_rfl) rfl rfl ?_
                    refine g_s 51 4503599627370495 rfl (by kernel_rfl) rfl rfl ?_
                    refine g_s 52 9007199254740991 rfl (by kernel_rfl) rfl rfl ?_
                    refine g_s 53 18014398509481983 rfl (by kernel_rfl) rfl rfl ?_
                    refine g_s 54 36028797018963967 rfl (by kernel_rfl) rfl rfl ?_
                    refine g_s 55 72057594037927935 rfl (by kernel_rfl) rfl rfl ?_
                    refine g_s 56 144115188075855871 rfl (by kernel_rfl) rfl rfl ?_
                    refine g_s 57 288230376151711743 rfl (by kernel_rfl) rfl rfl ?_
                    refine g_p 58 576460752303423487 rfl (by kernel_rfl) (y_pick_f rfl rfl) rfl rfl ?_
                    refine g_p 59 1152921504606846975 rfl (by kernel_rfl) (y_move rfl) rfl rfl ?_
                    refine g_s 60 2305843009213693951 rfl (by kernel_rfl) rfl rfl ?_
                    refine g_s 61 4611686018427387903 rfl (by kernel_rfl) rfl rfl ?_
                    refine g_s 62 9223372036854775807 rfl (by kernel_rfl) rfl rfl ?_
                    refine g_s 63 18446744073709551615 rfl (by kernel_rfl) rfl rfl ?_
                    refine g_s 64 36893488147419103231 rfl (by kernel_rfl) rfl rfl ?_
                    refine g_s 65 73786976294838206463 rfl (by kernel_rfl) rfl rfl ?_
                    refine g_s 66 147573952589676412927 rfl (by kernel_rfl) rfl rfl ?_
                    refine g_s 67 295147905179352825855 rfl (by kernel_rfl) rfl rfl ?_
                    refine g_s 68 590295810358705651711 rfl (by kernel_rfl) rfl rfl ?_
                    refine g_s 69 1180591620717411303423 rfl (by kernel_rfl) rfl rfl ?_
                    refine g_s 70 2361183241434822606847 rfl (by kernel_rfl) rfl rfl ?_
                    refine g_s 71 4722366482869645213695 rfl (by kernel_rfl) rfl rfl ?_
                    refine g_s 72 9444732965739290427391 rfl (by kernel_rfl) rfl rfl ?_
                    refine g_s 73 18889465931478580854783 rfl (by kernel_rfl) rfl rfl ?_
                    refine g_p 74 37778931862957161709567 rfl (by kernel_rfl) (y_pick_f rfl rfl) rfl rfl ?_
                    refine g_p 75 75557863725914323419135 rfl (by kernel_rfl) (y_assign rfl) rfl rfl ?_
                    refine g_d (by kernel_rfl) ?_
                    refine tr_thenN ?_
                    refine tr_ret ?_
                    exact tr_ret1 rfl rfl ⟨_, rfl, H⟩
                · replace H := H.2 g175
                  refine g_s 37 274877906943 rfl (by kernel_rfl) rfl rfl ?_
                  refine g_s 38 549755813887 rfl (by kernel_rfl) rfl rfl ?_
                  refine g_s 39 1099511627775 rfl (by kernel_rfl) rfl rfl ?_
                  refine g_p 40 2199023255551 rfl (by kernel_rfl) (y_pick_f rfl rfl) rfl rfl ?_
                  refine g_p 41 4398046511103 rfl (by kernel_rfl) (y_pick_f rfl rfl) rfl rfl ?_
                  refine g_p 42 8796093022207 rfl (by kernel_rfl) (y_pick_t rfl rfl) rfl rfl ?_
                  refine g_p 43 17592186044415 rfl (by kernel_rfl) (y_move rfl) rfl rfl ?_
                  refine g_s 44 35184372088831 rfl (by kernel_rfl) rfl rfl ?_
                  refine g_s 45 70368744177663 rfl (by kernel_rfl) rfl rfl ?_
                  refine g_s 46 140737488355327 rfl (by kernel_rfl) rfl rfl ?_
                  refine g_s 47 281474976710655 rfl (by kernel_rfl) rfl rfl ?_
                  refine g_s 48 562949953421311 rfl (by kernel_rfl) rfl rfl ?_
                  refine g_s 49 1125899906842623 rfl (by kernel_rfl) rfl rfl ?_
                  refine g_s 50 2251799813685247 rfl (by kernel_rfl) rfl rfl ?_
                  refine g_s 51 4503599627370495 rfl (by kernel_rfl) rfl rfl ?_
                  refine g_s 52 9007199254740991 rfl (by kernel_rfl) rfl rfl ?_
                  refine g_s 53 18014398509481983 rfl (by kernel_rfl) rfl rfl ?_
                  refine g_s 54 36028797018963967 rfl (by kernel_rfl) rfl rfl ?_
                  refine g_s 55 72057594037927935 rfl (by kernel_rfl) rfl rfl ?_
                  refine g_s 56 144115188075855871 rfl (by kernel_rfl) rfl rfl ?_
                  refine g_s 57 288230376151711743 rfl (by kernel_rfl) rfl rfl ?_
                  refine g_p 58 576460752303423487 rfl (by kernel_rfl) (y_pick_f rfl rfl) rfl rfl ?_
                  refine g_p 59 1152921504606846975 rfl (by kernel_rfl) (y_move rfl) rfl rfl ?_
                  refine g_s 60 2305843009213693951 rfl (by kernel_rfl) rfl rfl ?_
                  refine g_s 61 4611686018427387903 rfl (by kernel_rfl) rfl rfl ?_
                  refine g_s 62 9223372036854775807 rfl (by kernel_rfl) rfl rfl ?_
                  refine g_s 63 18446744073709551615 rfl (by kernel_rfl) rfl rfl ?_
                  refine g_s 64 36893488147419103231 rfl (by kernel_rfl) rfl rfl ?_
                  refine g_s 65 73786976294838206463 rfl (by kernel_rfl) rfl rfl ?_
                  refine g_s 66 147573952589676412927 rfl (by kernel_rfl) rfl rfl ?_
                  refine g_s 67 295147905179352825855 rfl (by kernel_rfl) rfl rfl ?_
                  refine g_s 68 590295810358705651711 rfl (by kernel_rfl) rfl rfl ?_
                  refine g_s 69 1180591620717411303423 rfl (by kernel_rfl) rfl rfl ?_
                  refine g_s 70 2361183241434822606847 rfl (by kernel_rfl) rfl rfl ?_
                  refine g_s 71 4722366482869645213695 rfl (by kernel_rfl) rfl rfl ?_
                  refine g_s 72 9444732965739290427391 rfl (by kernel_rfl) rfl rfl ?_
                  refine g_s 73 18889465931478580854783 rfl (by kernel_rfl) rfl rfl ?_
                  refine g_p 74 37778931862957161709567 rfl (by kernel_rfl) (y_pick_f rfl rfl) rfl rfl ?_
                  refine g_p 75 75557863725914323419135 rfl (by kernel_rfl) (y_assign rfl) rfl rfl ?_
                  refine g_d (by kernel_rfl) ?_
                  refine tr_thenN ?_
                  refine tr_ret ?_
                  exact tr_ret1 rfl rfl ⟨_, rfl, H⟩
            · replace H := H.2 g64
              refine g_s 24 33554431 rfl (by kernel_rfl) rfl rfl ?_
              refine g_s 25 67108863 rfl (by kernel_rfl) rfl rfl ?_
              refine g_s 26 134217727 rfl (by kernel_rfl) rfl rfl ?_
              refine g_s 27 268435455 rfl (by kernel_rfl) rfl rfl ?_
              refine g_s 28 536870911 rfl (by kernel_rfl) rfl rfl ?_
              refine g_s 29 1073741823 rfl (by kernel_rfl) rfl rfl ?_
              refine g_s 30 2147483647 rfl (by kernel_rfl) rfl rfl ?_
              refine g_s 31 4294967295 rfl (by kernel_rfl) rfl rfl ?_
              refine g_s 32 8589934591 rfl (by kernel_rfl) rfl rfl ?_
              refine g_s 33 17179869183 rfl (by kernel_rfl) rfl rfl ?_
              refine g_s 34 34359738367 rfl (by kernel_rfl) rfl rfl ?_
              refine g_s 35 68719476735 rfl (by kernel_rfl) rfl rfl ?_
              refine g_s 36 137438953471 rfl (by kernel_rfl) rfl rfl ?_
              refine g_s 37 274877906943 rfl (by kernel_rfl) rfl rfl ?_
              refine g_s 38 549755813887 rfl (by kernel_rfl) rfl rfl ?_
              refine g_s 39 1099511627775 rfl (by kernel_rfl) rfl rfl ?_
              refine g_s 40 2199023255551 rfl (by kernel_rfl) rfl rfl ?_
              refine g_s 41 4398046511103 rfl (by kernel_rfl) rfl rfl ?_
              refine g_p 42 8796093022207 rfl (by kernel_rfl) (y_pick_f rfl rfl) rfl rfl ?_
              refine g_p 43 17592186044415 rfl (by kernel_rfl) (y_move rfl) rfl rfl ?_
              refine g_s 44 35184372088831 rfl (by kernel_rfl) rfl rfl ?_
              refine g_s 45 70368744177663 rfl (by kernel_rfl) rfl rfl ?_
              refine g_s 46 140737488355327 rfl (by kernel_rfl) rfl rfl ?_
              refine g_s 47 281474976710655 rfl (by kernel_rfl) rfl rfl ?_
              refine g_s 48 562949953421311 rfl (by kernel_rfl) rfl rfl ?_
              refine g_s 49 1125899906842623 rfl (by kernel_rfl) rfl rfl ?_
              refine g_s 50 2251799813685247 rfl (by kernel_rfl) rfl rfl ?_
              refine g_s 51 4503599627370495 rfl (by kernel_rfl) rfl rfl ?_
              refine g_s 52 9007199254740991 rfl (by kernel_rfl) rfl rfl ?_
              refine g_s 53 18014398509481983 rfl (by kernel_rfl) rfl rfl ?_
              refine g_s 54 36028797018963967 rfl (by kernel_rfl) rfl rfl ?_
              refine g_s 55 72057594037927935 rfl (by kernel_rfl) rfl rfl ?_
              refine g_s 56 144115188075855871 rfl (by kernel_rfl) rfl rfl ?_
              refine g_s 57 288230376151711743 rfl (by kernel_rfl) rfl rfl ?_
              refine g_p 58 576460752303423487 rfl (by kernel_rfl) (y_pick_f rfl rfl) rfl rfl ?_
              refine g_p 59 1152921504606846975 rfl (by kernel_rfl) (y_move rfl) rfl rfl ?_
              refine g_s 60 2305843009213693951 rfl (by kernel_rfl) rfl rfl ?_
              refine g_s 61 4611686018427387903 rfl (by kernel_rfl) rfl rfl ?_
              refine g_s 62 9223372036854775807 rfl (by kernel_rfl) rfl rfl ?_
              refine g_s 63 18446744073709551615 rfl (by kernel_rfl) rfl rfl ?_
              refine g_s 64 36893488147419103231 rfl (by kernel_rfl) rfl rfl ?_
              refine g_s 65 73786976294838206463 rfl (by kernel_rfl) rfl rfl ?_
              refine g_s 66 147573952589676412927 rfl (by kernel_rfl) rfl rfl ?_
              refine g_s 67 295147905179352825855 rfl (by kernel_rfl) rfl rfl ?_
              refine g_s 68 590295810358705651711 rfl (by kernel_rfl) rfl rfl ?_
              refine g_s 69 1180591620717411303423 rfl (by kernel_rfl) rfl rfl ?_
              refine g_s 70 2361183241434822606847 rfl (by kernel_rfl) rfl rfl ?_
              refine g_s 71 4722366482869645213695 rfl (by kernel_rfl) rfl rfl ?_
              refine g_s 72 9444732965739290427391 rfl (by kernel_rfl) rfl rfl ?_
              refine g_s 73 18889465931478580854783 rfl (by kernel_rfl) rfl rfl ?_
              refine g_p 74 37778931862957161709567 rfl (by kernel_rfl) (y_pick_f rfl rfl) rfl rfl ?_
              refine g_p 75 75557863725914323419135 rfl (by kernel_rfl) (y_assign rfl) rfl rfl ?_
              refine g_d (by kernel_rfl) ?_
              refine tr_thenN ?_
              refine tr_ret ?_
              exact tr_ret1 rfl rfl ⟨_, rfl, H⟩
          · replace H := H.2 g63
            refine g_s 19 1048575 rfl (by kernel_rfl) rfl rfl ?_
            refine g_s 20 2097151 rfl (by kernel_rfl) rfl rfl ?_
            refine g_s 21 4194303 rfl (by kernel_rfl) rfl rfl ?_
            refine g_p 22 8388607 rfl (by kernel_rfl) (y_pick_f rfl rfl) rfl rfl ?_
            refine g_p 23 16777215 rfl (by kernel_rfl) (y_move rfl) rfl rfl ?_
            refine g_s 24 33554431 rfl (by kernel_rfl) rfl rfl ?_
            refine g_s 25 67108863 rfl (by kernel_rfl) rfl rfl ?_
            refine g_s 26 134217727 rfl (by kernel_rfl) rfl rfl ?_
            refine g_s 27 268435455 rfl (by kernel_rfl) rfl rfl ?_
            refine g_s 28 536870911 rfl (by kernel_rfl) rfl rfl ?_
            refine g_s 29 1073741823 rfl (by kernel_rfl) rfl rfl ?_
            refine g_s 30 2147483647 rfl (by kernel_rfl) rfl rfl ?_
            refine g_s 31 4294967295 rfl (by kernel_rfl) rfl rfl ?_
            refine g_s 32 8589934591 rfl (by kernel_rfl) rfl rfl ?_
            refine g_s 33 17179869183 rfl (by kernel_rfl) rfl rfl ?_
            refine g_s 34 34359738367 rfl (by kernel_rfl) rfl rfl ?_
            refine g_s 35 68719476735 rfl (by kernel_rfl) rfl rfl ?_
            refine g_s 36 137438953471 rfl (by kernel_rfl) rfl rfl ?_
            refine g_s 37 274877906943 rfl (by kernel_rfl) rfl rfl ?_
            refine g_s 38 549755813887 rfl (by kernel_rfl) rfl rfl ?_
            refine g_s 39 1099511627775 rfl (by kernel_rfl) rfl rfl ?_
            refine g_s 40 2199023255551 rfl (by kernel_rfl) rfl rfl ?_
            refine g_s 41 4398046511103 rfl (by kernel_rfl) rfl rfl ?_
            refine g_p 42 8796093022207 rfl (by kernel_rfl) (y_pick_f rfl rfl) rfl rfl ?_
            refine g_p 43 17592186044415 rfl (by kernel_rfl) (y_move rfl) rfl rfl ?_
            refine g_s 44 35184372088831 rfl (by kernel_rfl) rfl rfl ?_
            refine g_s 45 70368744177663 rfl (by kernel_rfl) rfl rfl ?_
            refine g_s 46 140737488355327 rfl (by kernel_rfl) rfl rfl ?_
            refine g_s 47 281474976710655 rfl (by kernel_rfl) rfl rfl ?_
            refine g_s 48 562949953421311 rfl (by kernel_rfl) rfl rfl ?_
            refine g_s 49 1125899906842623 rfl (by kernel_rfl) rfl rfl ?_
            refine g_s 50 2251799813685247 rfl (by kernel_rfl) rfl rfl ?_
            refine g_s 51 4503599627370495 rfl (by kernel_rfl) rfl rfl ?_
            refine g_s 52 9007199254740991 rfl (by kernel_rfl) rfl rfl ?_
            refine g_s 53 18014398509481983 rfl (by kernel_rfl) rfl rfl ?_
            refine g_s 54 36028797018963967 rfl (by kernel_rfl) rfl rfl ?_
            refine g_s 55 72057594037927935 rfl (by kernel_rfl) rfl rfl ?_
            refine g_s 56 144115188075855871 rfl (by kernel_rfl) rfl rfl ?_
            refine g_s 57 288230376151711743 rfl (by kernel_rfl) rfl rfl ?_
            refine g_p 58 576460752303423487 rfl (by kernel_rfl) (y_pick_f rfl rfl) rfl rfl ?_
            refine g_p 59 1152921504606846975 rfl (by kernel_rfl) (y_move rfl) rfl rfl ?_
            refine g_s 60 2305843009213693951 rfl (by kernel_rfl) rfl rfl ?_
            refine g_s 61 4611686018427387903 rfl (by kernel_rfl) rfl rfl ?_
            refine g_s 62 9223372036854775807 rfl (by kernel_rfl) rfl rfl ?_
            refine g_s 63 18446744073709551615 rfl (by kernel_rfl) rfl rfl ?_
            refine g_s 64 36893488147419103231 rfl (by kernel_rfl) rfl rfl ?_
            refine g_s 65 73786976294838206463 rfl (by kernel_rfl) rfl rfl ?_
            refine g_s 66 147573952589676412927 rfl (by kernel_rfl) rfl rfl ?_
            refine g_s 67 295147905179352825855 rfl (by kernel_rfl) rfl rfl ?_
            refine g_s 68 590295810358705651711 rfl (by kernel_rfl) rfl rfl ?_
            refine g_s 69 1180591620717411303423 rfl (by kernel_rfl) rfl rfl ?_
            refine g_s 70 2361183241434822606847 rfl (by kernel_rfl) rfl rfl ?_
            refine g_s 71 4722366482869645213695 rfl (by kernel_rfl) rfl rfl ?_
            refine g_s 72 9444732965739290427391 rfl (by kernel_rfl) rfl rfl ?_
            refine g_s 73 18889465931478580854783 rfl (by kernel_rfl) rfl rfl ?_
            refine g_p 74 37778931862957161709567 rfl (by kernel_rfl) (y_pick_f rfl rfl) rfl rfl ?_
            refine g_p 75 75557863725914323419135 rfl (by kernel_rfl) (y_assign rfl) rfl rfl ?_
            refine g_d (by kernel_rfl) ?_
            refine tr_thenN ?_
            refine tr_ret ?_
            exact tr_ret1 rfl rfl ⟨_, rfl, H⟩
        · replace H := H.2 g62
          refine g_s 14 32767 rfl (by kernel_rfl) rfl rfl ?_
          refine g_s 15 65535 rfl (by kernel_rfl) rfl rfl ?_
          refine g_s 16 131071 rfl (by kernel_rfl) rfl rfl ?_
          refine g_p 17 262143 rfl (by kernel_rfl) (y_pick_f rfl rfl) rfl rfl ?_
          refine g_p 18 524287 rfl (by kernel_rfl) (y_move rfl) rfl rfl ?_
          refine g_s 19 1048575 rfl (by kernel_rfl) rfl rfl ?_
          refine g_s 20 2097151 rfl (by kernel_rfl) rfl rfl ?_
          refine g_s 21 4194303 rfl (by kernel_rfl) rfl rfl ?_
          refine g_p 22 8388607 rfl (by kernel_rfl) (y_pick_f rfl rfl) rfl rfl ?_
          refine g_p 23 16777215 rfl (by kernel_rfl) (y_move rfl) rfl rfl ?_
          refine g_s 24 33554431 rfl (by kernel_rfl) rfl rfl ?_
          refine g_s 25 67108863 rfl (by kernel_rfl) rfl rfl ?_
          refine g_s 26 134217727 rfl (by kernel_rfl) rfl rfl ?_
          refine g_s 27 268435455 rfl (by kernel_rfl) rfl rfl ?_
          refine g_s 28 536870911 rfl (by kernel_rfl) rfl rfl ?_
          refine g_s 29 1073741823 rfl (by kernel_rfl) rfl rfl ?_
          refine g_s 30 2147483647 rfl (by kernel_rfl) rfl rfl ?_
          refine g_s 31 4294967295 rfl (by kernel_rfl) rfl rfl ?_
          refine g_s 32 8589934591 rfl (by kernel_rfl) rfl rfl ?_
          refine g_s 33 17179869183 rfl (by kernel_rfl) rfl rfl ?_
          refine g_s 34 34359738367 rfl (by kernel_rfl) rfl rfl ?_
          refine g_s 35 68719476735 rfl (by kernel_rfl) rfl rfl ?_
          refine g_s 36 137438953471 rfl (by kernel_rfl) rfl rfl ?_
          refine g_s 37 274877906943 rfl (by kernel_rfl) rfl rfl ?_
          refine g_s 38 549755813887 rfl (by kernel_rfl) rfl rfl ?_
          refine g_s 39 1099511627775 rfl (by kernel_rfl) rfl rfl ?_
          refine g_s 40 2199023255551 rfl (by kernel_rfl) rfl rfl ?_
          refine g_s 41 4398046511103 rfl (by kernel_rfl) rfl rfl ?_
          refine g_p 42 8796093022207 rfl (by kernel_rfl) (y_pick_f rfl rfl) rfl rfl ?_
          refine g_p 43 17592186044415 rfl (by kernel_rfl) (y_move rfl) rfl rfl ?_
          refine g_s 44 35184372088831 rfl (by kernel_rfl) rfl rfl ?_
          refine g_s 45 70368744177663 rfl (by kernel_rfl) rfl rfl ?_
          refine g_s 46 140737488355327 rfl (by kernel_rfl) rfl rfl ?_
          refine g_s 47 281474976710655 rfl (by kernel_rfl) rfl rfl ?_
          refine g_s 48 562949953421311 rfl (by kernel_rfl) rfl rfl ?_
          refine g_s 49 1125899906842623 rfl (by kernel_rfl) rfl rfl ?_
          refine g_s 50 2251799813685247 rfl (by kernel_rfl) rfl rfl ?_
          refine g_s 51 4503599627370495 rfl (by kernel_rfl) rfl rfl ?_
          refine g_s 52 9007199254740991 rfl (by kernel_rfl) rfl rfl ?_
          refine g_s 53 18014398509481983 rfl (by kernel_rfl) rfl rfl ?_
          refine g_s 54 36028797018963967 rfl (by kernel_rfl) rfl rfl ?_
          refine g_s 55 72057594037927935 rfl (by kernel_rfl) rfl rfl ?_
          refine g_s 56 144115188075855871 rfl (by kernel_rfl) rfl rfl ?_
          refine g_s 57 288230376151711743 rfl (by kernel_rfl) rfl rfl ?_
          refine g_p 58 576460752303423487 rfl (by kernel_rfl) (y_pick_f rfl rfl) rfl rfl ?_
          refine g_p 59 1152921504606846975 rfl (by kernel_rfl) (y_move rfl) rfl rfl ?_
          refine g_s 60 2305843009213693951 rfl (by kernel_rfl) rfl rfl ?_
          refine g_s 61 4611686018427387903 rfl (by kernel_rfl) rfl rfl ?_
          refine g_s 62 9223372036854775807 rfl (by kernel_rfl) rfl rfl ?_
          refine g_s 63 18446744073709551615 rfl (by kernel_rfl) rfl rfl ?_
          refine g_s 64 36893488147419103231 rfl (by kernel_rfl) rfl rfl ?_
          refine g_s 65 73786976294838206463 rfl (by kernel_rfl) rfl rfl ?_
          refine g_s 66 147573952589676412927 rfl (by kernel_rfl) rfl rfl ?_
          refine g_s 67 295147905179352825855 rfl (by kernel_rfl) rfl rfl ?_
          refine g_s 68 590295810358705651711 rfl (by kernel_rfl) rfl rfl ?_
          refine g_s 69 1180591620717411303423 rfl (by kernel_rfl) rfl rfl ?_
          refine g_s 70 2361183241434822606847 rfl (by kernel_rfl) rfl rfl ?_
          refine g_s 71 4722366482869645213695 rfl (by kernel_rfl) rfl rfl ?_
          refine g_s 72 9444732965739290427391 rfl (by kernel_rfl) rfl rfl ?_
          refine g_s 73 18889465931478580854783 rfl (by kernel_rfl) rfl rfl ?_
          refine g_p 74 37778931862957161709567 rfl (by kernel_rfl) (y_pick_f rfl rfl) rfl rfl ?_
          refine g_p 75 75557863725914323419135 rfl (by kernel_rfl) (y_assign rfl) rfl rfl ?_
          refine g_d (by kernel_rfl) ?_
          refine tr_thenN ?_
          refine tr_ret ?_
          exact tr_ret1 rfl rfl ⟨_, rfl, H⟩
      · replace H := H.2 g61
        refine g_s 9 1023 rfl (by kernel_rfl) rfl rfl ?_
        refine g_s 10 2047 rfl (by kernel_rfl) rfl rfl ?_
        refine g_s 11 4095 rfl (by kernel_rfl) rfl rfl ?_
        refine g_p 12 8191 rfl (by kernel_rfl) (y_pick_f rfl rfl) rfl rfl ?_
        refine g_p 13 16383 rfl (by kernel_rfl) (y_move rfl) rfl rfl ?_
        refine g_s 14 32767 rfl (by kernel_rfl) rfl rfl ?_
        refine g_s 15 65535 rfl (by kernel_rfl) rfl rfl ?_
        refine g_s 16 131071 rfl (by kernel_rfl) rfl rfl ?_
        refine g_p 17 262143 rfl (by kernel_rfl) (y_pick_f rfl rfl) rfl rfl ?_
        refine g_p 18 524287 rfl (by kernel_rfl) (y_move rfl) rfl rfl ?_
        refine g_s 19 1048575 rfl (by kernel_rfl) rfl rfl ?_
        refine g_s 20 2097151 rfl (by kernel_rfl) rfl rfl ?_
        refine g_s 21 4194303 rfl (by kernel_rfl) rfl rfl ?_
        refine g_p 22 8388607 rfl (by kernel_rfl) (y_pick_f rfl rfl) rfl rfl ?_
        refine g_p 23 16777215 rfl (by kernel_rfl) (y_move rfl) rfl rfl ?_
        refine g_s 24 33554431 rfl (by kernel_rfl) rfl rfl ?_
        refine g_s 25 67108863 rfl (by kernel_rfl) rfl rfl ?_
        refine g_s 26 134217727 rfl (by kernel_rfl) rfl rfl ?_
        refine g_s 27 268435455 rfl (by kernel_rfl) rfl rfl ?_
        refine g_s 28 536870911 rfl (by kernel_rfl) rfl rfl ?_
        refine g_s 29 1073741823 rfl (by kernel_rfl) rfl rfl ?_
        refine g_s 30 2147483647 rfl (by kernel_rfl) rfl rfl ?_
        refine g_s 31 4294967295 rfl (by kernel_rfl) rfl rfl ?_
        refine g_s 32 8589934591 rfl (by kernel_rfl) rfl rfl ?_
        refine g_s 33 17179869183 rfl (by kernel_rfl) rfl rfl ?_
        refine g_s 34 34359738367 rfl (by kernel_rfl) rfl rfl ?_
        refine g_s 35 68719476735 rfl (by kernel_rfl) rfl rfl ?_
        refine g_s 36 137438953471 rfl (by kernel_rfl) rfl rfl ?_
        refine g_s 37 274877906943 rfl (by kernel_rfl) rfl rfl ?_
        refine g_s 38 549755813887 rfl (by kernel_rfl) rfl rfl ?_
        refine g_s 39 1099511627775 rfl (by kernel_rfl) rfl rfl ?_
        refine g_s 40 2199023255551 rfl (by kernel_rfl) rfl rfl ?_
        refine g_s 41 4398046511103 rfl (by kernel_rfl) rfl rfl ?_
        refine g_p 42 8796093022207 rfl (by kernel_rfl) (y_pick_f rfl rfl) rfl rfl ?_
        refine g_p 43 17592186044415 rfl (by kernel_rfl) (y_move rfl) rfl rfl ?_
        refine g_s 44 35184372088831 rfl (by kernel_rfl) rfl rfl ?_
        refine g_s 45 70368744177663 rfl (by kernel_rfl) rfl rfl ?_
        refine g_s 46 140737488355327 rfl (by kernel_rfl) rfl rfl ?_
        refine g_s 47 281474976710655 rfl (by kernel_rfl) rfl rfl ?_
        refine g_s 48 562949953421311 rfl (by kernel_rfl) rfl rfl ?_
        refine g_s 49 1125899906842623 rfl (by kernel_rfl) rfl rfl ?_
        refine g_s 50 2251799813685247 rfl (by kernel_rfl) rfl rfl ?_
        refine g_s 51 4503599627370495 rfl (by kernel_rfl) rfl rfl ?_
        refine g_s 52 9007199254740991 rfl (by kernel_rfl) rfl rfl ?_
        refine g_s 53 18014398509481983 rfl (by kernel_rfl) rfl rfl ?_
        refine g_s 54 36028797018963967 rfl (by kernel_rfl) rfl rfl ?_
        refine g_s 55 72057594037927935 rfl (by kernel_rfl) rfl rfl ?_
        refine g_s 56 144115188075855871 rfl (by kernel_rfl) rfl rfl ?_
        refine g_s 57 288230376151711743 rfl (by kernel_rfl) rfl rfl ?_
        refine g_p 58 576460752303423487 rfl (by kernel_rfl) (y_pick_f rfl rfl) rfl rfl ?_
        refine g_p 59 1152921504606846975 rfl (by kernel_rfl) (y_move rfl) rfl rfl ?_
        refine g_s 60 2305843009213693951 rfl (by kernel_rfl) rfl rfl ?_
        refine g_s 61 4611686018427387903 rfl (by kernel_rfl) rfl rfl ?_
        refine g_s 62 9223372036854775807 rfl (by kernel_rfl) rfl rfl ?_
        refine g_s 63 18446744073709551615 rfl (by kernel_rfl) rfl rfl ?_
        refine g_s 64 36893488147419103231 rfl (by kernel_rfl) rfl rfl ?_
        refine g_s 65 73786976294838206463 rfl (by kernel_rfl) rfl rfl ?_
        refine g_s 66 147573952589676412927 rfl (by kernel_rfl) rfl rfl ?_
        refine g_s 67 295147905179352825855 rfl (by kernel_rfl) rfl rfl ?_
        refine g_s 68 590295810358705651711 rfl (by kernel_rfl) rfl rfl ?_
        refine g_s 69 1180591620717411303423 rfl (by kernel_rfl) rfl rfl ?_
        refine g_s 70 2361183241434822606847 rfl (by kernel_rfl) rfl rfl ?_
        refine g_s 71 4722366482869645213695 rfl (by kernel_rfl) rfl rfl ?_
        refine g_s 72 9444732965739290427391 rfl (by kernel_rfl) rfl rfl ?_
        refine g_s 73 18889465931478580854783 rfl (by kernel_rfl) rfl rfl ?_
        refine g_p 74 37778931862957161709567 rfl (by kernel_rfl) (y_pick_f rfl rfl) rfl rfl ?_
        refine g_p 75 75557863725914323419135 rfl (by kernel_rfl) (y_assign rfl) rfl rfl ?_
        refine g_d (by kernel_rfl) ?_
        refine tr_thenN ?_
        refine tr_ret ?_
        exact tr_ret1 rfl rfl ⟨_, rfl, H⟩
    · replace H := H.2 g60
      refine g_s 4 31 rfl (by kernel_rfl) rfl rfl ?_
      refine g_s 5 63 rfl (by kernel_rfl) rfl rfl ?_
      refine g_s 6 127 rfl (by kernel_rfl) rfl rfl ?_
      refine g_p 7 255 rfl (by kernel_rfl) (y_pick_f rfl rfl) rfl rfl ?_
      refine g_p 8 511 rfl (by kernel_rfl) (y_move rfl) rfl rfl ?_
      refine g_s 9 1023 rfl (by kernel_rfl) rfl rfl ?_
      refine g_s 10 2047 rfl (by kernel_rfl) rfl rfl ?_
      refine g_s 11 4095 rfl (by kernel_rfl) rfl rfl ?_
      refine g_p 12 8191 rfl (by kernel_rfl) (y_pick_f rfl rfl) rfl rfl ?_
      refine g_p 13 16383 rfl (by kernel_rfl) (y_move rfl) rfl rfl ?_
      refine g_s 14 32767 rfl (by kernel_rfl) rfl rfl ?_
      refine g_s 15 65535 rfl (by kernel_rfl) rfl rfl ?_
      refine g_s 16 131071 rfl (by kernel_rfl) rfl rfl ?_
      refine g_p 17 262143 rfl (by kernel_rfl) (y_pick_f rfl rfl) rfl rfl ?_
      refine g_p 18 524287 rfl (by kernel_rfl) (y_move rfl) rfl rfl ?_
      refine g_s 19 1048575 rfl (by kernel_rfl) rfl rfl ?_
      refine g_s 20 2097151 rfl (by kernel_rfl) rfl rfl ?_
      refine g_s 21 4194303 rfl (by kernel_rfl) rfl rfl ?_
      refine g_p 22 8388607 rfl (by kernel_rfl) (y_pick_f rfl rfl) rfl rfl ?_
      refine g_p 23 16777215 rfl (by kernel_rfl) (y_move rfl) rfl rfl ?_
      refine g_s 24 33554431 rfl (by kernel_rfl) rfl rfl ?_
      refine g_s 25 67108863 rfl (by kernel_rfl) rfl rfl ?_
      refine g_s 26 134217727 rfl (by kernel_rfl) rfl rfl ?_
      refine g_s 27 268435455 rfl (by kernel_rfl) rfl rfl ?_
      refine g_s 28 536870911 rfl (by kernel_rfl) rfl rfl ?_
      refine g_s 29 1073741823 rfl (by kernel_rfl) rfl rfl ?_
      refine g_s 30 2147483647 rfl (by kernel_rfl) rfl rfl ?_
      refine g_s 31 4294967295 rfl (by kernel_rfl) rfl rfl ?_
      refine g_s 32 8589934591 rfl (by kernel_rfl) rfl rfl ?_
      refine g_s 33 17179869183 rfl (by kernel_rfl) rfl rfl ?_
      refine g_s 34 34359738367 rfl (by kernel_rfl) rfl rfl ?_
      refine g_s 35 68719476735 rfl (by kernel_rfl) rfl rfl ?_
      refine g_s 36 137438953471 rfl (by kernel_rfl) rfl rfl ?_
      refine g_s 37 274877906943 rfl (by kernel_rfl) rfl rfl ?_
      refine g_s 38 549755813887 rfl (by kernel_rfl) rfl rfl ?_
      refine g_s 39 1099511627775 rfl (by kernel_rfl) rfl rfl ?_
      refine g_s 40 2199023255551 rfl (by kernel_rfl) rfl rfl ?_
      refine g_s 41 4398046511103 rfl (by kernel_rfl) rfl rfl ?_
      refine g_p 42 8796093022207 rfl (by kernel_rfl) (y_pick_f rfl rfl) rfl rfl ?_
      refine g_p 43 17592186044415 rfl (by kernel_rfl) (y_move rfl) rfl rfl ?_
      refine g_s 44 35184372088831 rfl (by kernel_rfl) rfl rfl ?_
      refine g_s 45 70368744177663 rfl (by kernel_rfl) rfl rfl ?_
      refine g_s 46 140737488355327 rfl (by kernel_rfl) rfl rfl ?_
      refine g_s 47 281474976710655 rfl (by kernel_rfl) rfl rfl ?_
      refine g_s 48 562949953421311 rfl (by kernel_rfl) rfl rfl ?_
      refine g_s 49 1125899906842623 rfl (by kernel_rfl) rfl rfl ?_
      refine g_s 50 2251799813685247 rfl (by kernel_rfl) rfl rfl ?_
      refine g_s 51 4503599627370495 rfl (by kernel_rfl) rfl rfl ?_
      refine g_s 52 9007199254740991 rfl (by kernel_rfl) rfl rfl ?_
      refine g_s 53 18014398509481983 rfl (by kernel_rfl) rfl rfl ?_
      refine g_s 54 36028797018963967 rfl (by kernel_rfl) rfl rfl ?_
      refine g_s 55 72057594037927935 rfl (by kernel_rfl) rfl rfl ?_
      refine g_s 56 144115188075855871 rfl (by kernel_rfl) rfl rfl ?_
      refine g_s 57 288230376151711743 rfl (by kernel_rfl) rfl rfl ?_
      refine g_p 58 576460752303423487 rfl (by kernel_rfl) (y_pick_f rfl rfl) rfl rfl ?_
      refine g_p 59 1152921504606846975 rfl (by kernel_rfl) (y_move rfl) rfl rfl ?_
      refine g_s 60 2305843009213693951 rfl (by kernel_rfl) rfl rfl ?_
      refine g_s 61 4611686018427387903 rfl (by kernel_rfl) rfl rfl ?_
      refine g_s 62 9223372036854775807 rfl (by kernel_rfl) rfl rfl ?_
      refine g_s 63 18446744073709551615 rfl (by kernel_rfl) rfl rfl ?_
      refine g_s 64 36893488147419103231 rfl (by kernel_rfl) rfl rfl ?_
      refine g_s 65 73786976294838206463 rfl (by kernel_rfl) rfl rfl ?_
      refine g_s 66 147573952589676412927 rfl (by kernel_rfl) rfl rfl ?_
      refine g_s 67 295147905179352825855 rfl (by kernel_rfl) rfl rfl ?_
      refine g_s 68 590295810358705651711 rfl (by kernel_rfl) rfl rfl ?_
      refine g_s 69 1180591620717411303423 rfl (by kernel_rfl) rfl rfl ?_
      refine g_s 70 2361183241434822606847 rfl (by kernel_rfl) rfl rfl ?_
      refine g_s 71 4722366482869645213695 rfl (by kernel_rfl) rfl rfl ?_
      refine g_s 72 9444732965739290427391 rfl (by kernel_rfl) rfl rfl ?_
      refine g_s 73 18889465931478580854783 rfl (by kernel_rfl) rfl rfl ?_
      refine g_p 74 37778931862957161709567 rfl (by kernel_rfl) (y_pick_f rfl rfl) rfl rfl ?_
      refine g_p 75 75557863725914323419135 rfl (by kernel_rfl) (y_assign rfl) rfl rfl ?_
      refine g_d (by kernel_rfl) ?_
      refine tr_thenN ?_
      refine tr_ret ?_
      exact tr_ret1 rfl rfl ⟨_, rfl, H⟩
  · refine tr_seq_j (fun L' h => ∃ (x0 : Option Addr) (x7 : Addr) (x81 : Bool), L' = [(0, (.pointer x0)), (7, (.pointer (some x7))), (81, (.bool x81))] ∧ F.spatelaw5_World_asks.j2 Q x0 x7 x81 h) ?_ ?_
    · rintro L' h ⟨x0, x7, x81, rfl, H⟩
      unfold F.spatelaw5_World_asks.j2 at H
      refine tr_cond rfl (fun g212 => ?_) (fun g212 => ?_)
      · replace H := H.1 g212
        refine tr_seq ?_
        refine tr_region ?_
        refine tr_p (y_assign rfl) rfl rfl ?_
        refine tr_nil ?_
        refine tr_thenN ?_
        refine tr_ret ?_
        refine tr_thenR ?_
        exact tr_ret1 rfl rfl ⟨_, rfl, H⟩
      · replace H := H.2 g212
        refine tr_skip ?_
        refine tr_thenN ?_
        exact tr_join [(0, (.pointer x0)), (7, (.pointer (some x7)))] ⟨rfl, rfl, trivial⟩ ⟨_, _, rfl, H⟩
    · refine tr_region ?_
      refine tr_p (y_move rfl) rfl rfl ?_
      refine tr_p (y_move rfl) rfl rfl ?_
      refine tr_p (y_neq rfl rfl) rfl rfl ?_
      refine tr_p (y_move rfl) rfl rfl ?_
      refine tr_split (t := 51) rfl (fun g213 => ?_) (fun g213 => ?_)
      · replace H := H.1 g213
        refine tr_s rfl rfl ?_
        refine tr_s rfl rfl ?_
        refine tr_s rfl rfl ?_
        refine tr_p (y_pick_t rfl rfl) rfl rfl ?_
        refine tr_p (y_move rfl) rfl rfl ?_
        refine tr_s rfl rfl ?_
        refine tr_s rfl rfl ?_
        refine tr_s rfl rfl ?_
        refine tr_p (y_pick_t rfl rfl) rfl rfl ?_
        refine tr_p (y_move rfl) rfl rfl ?_
        refine tr_s rfl rfl ?_
        refine tr_s rfl rfl ?_
        refine tr_s rfl rfl ?_
        refine tr_s rfl rfl ?_
        refine tr_s rfl rfl ?_
        refine tr_s rfl rfl ?_
        refine tr_s rfl rfl ?_
        refine tr_s rfl rfl ?_
        refine tr_s rfl rfl ?_
        refine tr_s rfl rfl ?_
        refine tr_p (y_pick_t rfl rfl) rfl rfl ?_
        refine tr_p (y_move rfl) rfl rfl ?_
        refine tr_s rfl rfl ?_
        refine tr_s rfl rfl ?_
        refine tr_s rfl rfl ?_
        refine tr_s rfl rfl ?_
        refine tr_s rfl rfl ?_
        refine tr_s rfl rfl ?_
        refine tr_s rfl rfl ?_
        refine tr_p (y_pick_t rfl rfl) rfl rfl ?_
        refine tr_nil ?_
        refine tr_thenN ?_
        exact tr_join [(0, (.pointer p0)), (7, (.pointer (some a16))), (81, (.bool true))] ⟨rfl, rfl, rfl, trivial⟩ ⟨_, _, _, rfl, H⟩
      · replace H := H.2 g213
        refine tr_p (y_move rfl) rfl rfl ?_
        refine tr_p (y_move rfl) rfl rfl ?_
        refine tr_p (y_bneq Try.underlying4 rfl rfl) rfl rfl ?_
        refine tr_p (y_pick_f rfl rfl) rfl rfl ?_
        refine tr_p (y_move rfl) rfl rfl ?_
        refine tr_split (t := 56) rfl (fun g214 => ?_) (fun g214 => ?_)
        · replace H := H.1 g214
          refine tr_s rfl rfl ?_
          refine tr_s rfl rfl ?_
          refine tr_s rfl rfl ?_
          refine tr_p (y_pick_t rfl rfl) rfl rfl ?_
          refine tr_p (y_move rfl) rfl rfl ?_
          refine tr_s rfl rfl ?_
          refine tr_s rfl rfl ?_
          refine tr_s rfl rfl ?_
          refine tr_s rfl rfl ?_
          refine tr_s rfl rfl ?_
          refine tr_s rfl rfl ?_
          refine tr_s rfl rfl ?_
          refine tr_s rfl rfl ?_
          refine tr_s rfl rfl ?_
          refine tr_s rfl rfl ?_
          refine tr_p (y_pick_t rfl rfl) rfl rfl ?_
          refine tr_p (y_move rfl) rfl rfl ?_
          refine tr_s rfl rfl ?_
          refine tr_s rfl rfl ?_
          refine tr_s rfl rfl ?_
          refine tr_s rfl rfl ?_
          refine tr_s rfl rfl ?_
          refine tr_s rfl rfl ?_
          refine tr_s rfl rfl ?_
          refine tr_p (y_pick_t rfl rfl) rfl rfl ?_
          refine tr_nil ?_
          refine tr_thenN ?_
          exact tr_join [(0, (.pointer p0)), (7, (.pointer (some a16))), (81, (.bool true))] ⟨rfl, rfl, rfl, trivial⟩ ⟨_, _, _, rfl, H⟩
        · replace H := H.2 g214
          refine tr_p (y_move rfl) rfl rfl ?_
          refine tr_p (y_move rfl) rfl rfl ?_
          refine tr_p (y_bneq Try.underlying4 rfl rfl) rfl rfl ?_
          refine tr_p (y_pick_f rfl rfl) rfl rfl ?_
          refine tr_p (y_move rfl) rfl rfl ?_
          refine tr_split (t := 61) rfl (fun g215 => ?_) (fun g215 => ?_)
          · replace H := H.1 g215
            refine tr_s rfl rfl ?_
            refine tr_s rfl rfl ?_
            refine tr_s rfl rfl ?_
            refine tr_s rfl rfl ?_
            refine tr_s rfl rfl ?_
            refine tr_s rfl rfl ?_
            refine tr_s rfl rfl ?_
            refine tr_s rfl rfl ?_
            refine tr_s rfl rfl ?_
            refine tr_s rfl rfl ?_
            refine tr_p (y_pick_t rfl rfl) rfl rfl ?_
            refine tr_p (y_move rfl) rfl rfl ?_
            refine tr_s rfl rfl ?_
            refine tr_s rfl rfl ?_
            refine tr_s rfl rfl ?_
            refine tr_s rfl rfl ?_
            refine tr_s rfl rfl ?_
            refine tr_s rfl rfl ?_
            refine tr_s rfl rfl ?_
            refine tr_p (y_pick_t rfl rfl) rfl rfl ?_
            refine tr_nil ?_
            refine tr_thenN ?_
            exact tr_join [(0, (.pointer p0)), (7, (.pointer (some a16))), (81, (.bool true))] ⟨rfl, rfl, rfl, trivial⟩ ⟨_, _, _, rfl, H⟩
          · replace H := H.2 g215
            refine tr_p (y_move rfl) rfl rfl ?_
            refine tr_p (y_move rfl) rfl rfl ?_
            refine tr_split (t := 63) rfl (fun g216 => ?_) (fun g216 => ?_)
            · replace H := H.1 g216
              refine tr_p (y_move rfl) rfl rfl ?_
              refine tr_p (y_not rfl) rfl rfl ?_
              refine tr_p (y_move rfl) rfl rfl ?_
              refine tr_split (t := 66) rfl (fun g217 => ?_) (fun g217 => ?_)
              · replace H := H.1 g217
                refine tr_s rfl rfl ?_
                refine tr_s rfl rfl ?_
                refine tr_s rfl rfl ?_
                refine tr_p (y_pick_t rfl rfl) rfl rfl ?_
                refine tr_p (y_pick_t rfl rfl) rfl rfl ?_
                refine tr_p (y_pick_f rfl rfl) rfl rfl ?_
                refine tr_p (y_move rfl) rfl rfl ?_
                refine tr_s rfl rfl ?_
                refine tr_s rfl rfl ?_
                refine tr_s rfl rfl ?_
                refine tr_s rfl rfl ?_
                refine tr_s rfl rfl ?_
                refine tr_s rfl rfl ?_
                refine tr_s rfl rfl ?_
                refine tr_p (y_pick_t rfl rfl) rfl rfl ?_
                refine tr_nil ?_
                refine tr_thenN ?_
                exact tr_join [(0, (.pointer p0)), (7, (.pointer (some a16))), (81, (.bool true))] ⟨rfl, rfl, rfl, trivial⟩ ⟨_, _, _, rfl, H⟩
              · replace H := H.2 g217
                refine tr_p (y_move rfl) rfl rfl ?_
                refine tr_p (y_move rfl) rfl rfl ?_
                refine tr_p (y_neq rfl rfl) rfl rfl ?_
                refine tr_p (y_pick_f rfl rfl) rfl rfl ?_
                refine tr_p (y_pick_t rfl rfl) rfl rfl ?_
                refine tr_p (y_pick_f rfl rfl) rfl rfl ?_
                refine tr_p (y_move rfl) rfl rfl ?_
                refine tr_split (t := 73) rfl (fun g218 => ?_) (fun g218 => ?_)
                · replace H := H.1 g218
                  refine tr_s rfl rfl ?_
                  refine tr_s rfl rfl ?_
                  refine tr_s rfl rfl ?_
                  refine tr_s rfl rfl ?_
                  refine tr_s rfl rfl ?_
                  refine tr_s rfl rfl ?_
                  refine tr_s rfl rfl ?_
                  refine tr_p (y_pick_t rfl rfl) rfl rfl ?_
                  refine tr_nil ?_
                  refine tr_thenN ?_
                  exact tr_join [(0, (.pointer p0)), (7, (.pointer (some a16))), (81, (.bool true))] ⟨rfl, rfl, rfl, trivial⟩ ⟨_, _, _, rfl, H⟩
                · replace H := H.2 g218
                  refine tr_p (y_move rfl) rfl rfl ?_
                  refine tr_p (y_not rfl) rfl rfl ?_
                  refine tr_p (y_move rfl) rfl rfl ?_
                  refine tr_split (t := 76) rfl (fun g219 => ?_) (fun g219 => ?_)
                  · replace H := H.1 g219
                    obtain ⟨y220, k221, H⟩ := H
                    refine tr_h (y_ldS Try.isAgg60 Try.sizeOf60 rfl rfl) k221 rfl rfl ?_
                    refine tr_p (f_build rfl (bd_60_ )) rfl rfl ?_
                    refine tr_p (st_neq (b := ((y220.N == (⟨0, (⟨#[]⟩ : ByteArray)⟩ : S_spatelaw5_Wide).N) && ((y220.S.toList == (⟨0, (⟨#[]⟩ : ByteArray)⟩ : S_spatelaw5_Wide).S.toList) && true))) eqg_60 (fun w => eqst_60 y220 (⟨0, (⟨#[]⟩ : ByteArray)⟩ : S_spatelaw5_Wide) 9998 w) rfl rfl) rfl rfl ?_
                    refine tr_p (y_pick_t rfl rfl) rfl rfl ?_
                    refine tr_p (y_pick_f rfl rfl) rfl rfl ?_
                    refine tr_nil ?_
                    refine tr_thenN ?_
                    exact tr_join [(0, (.pointer p0)), (7, (.pointer (some a16))), (81, (.bool (!((y220.N == (⟨0, (⟨#[]⟩ : ByteArray)⟩ : S_spatelaw5_Wide).N) && ((y220.S.toList == (⟨0, (⟨#[]⟩ : ByteArray)⟩ : S_spatelaw5_Wide).S.toList) && true)))))] ⟨rfl, rfl, rfl, trivial⟩ ⟨_, _, _, rfl, H⟩
                  · replace H := H.2 g219
                    refine tr_s rfl rfl ?_
                    refine tr_s rfl rfl ?_
                    refine tr_s rfl rfl ?_
                    refine tr_p (y_pick_f rfl rfl) rfl rfl ?_
                    refine tr_p (y_pick_f rfl rfl) rfl rfl ?_
                    refine tr_nil ?_
                    refine tr_thenN ?_
                    exact tr_join [(0, (.pointer p0)), (7, (.pointer (some a16))), (81, (.bool false))] ⟨rfl, rfl, rfl, trivial⟩ ⟨_, _, _, rfl, H⟩
            · replace H := H.2 g216
              refine tr_s rfl rfl ?_
              refine tr_s rfl rfl ?_
              refine tr_s rfl rfl ?_
              refine tr_s rfl rfl ?_
              refine tr_s rfl rfl ?_
              refine tr_s rfl rfl ?_
              refine tr_s rfl rfl ?_
              refine tr_p (y_pick_f rfl rfl) rfl rfl ?_
              refine tr_p (y_pick_f rfl rfl) rfl rfl ?_
              refine tr_p (y_move rfl) rfl rfl ?_
              refine tr_p (y_move rfl) rfl rfl ?_
              refine tr_p (y_not rfl) rfl rfl ?_
              refine tr_p (y_move rfl) rfl rfl ?_
              refine tr_split (t := 76) rfl (fun g222 => ?_) (fun g222 => ?_)
              · replace H := H.1 g222
                obtain ⟨y223, k224, H⟩ := H
                refine tr_h (y_ldS Try.isAgg60 Try.sizeOf60 rfl rfl) k224 rfl rfl ?_
                refine tr_p (f_build rfl (bd_60_ )) rfl rfl ?_
                refine tr_p (st_neq (b := ((y223.N == (⟨0, (⟨#[]⟩ : ByteArray)⟩ : S_spatelaw5_Wide).N) && ((y223.S.toList == (⟨0, (⟨#[]⟩ : ByteArray)⟩ : S_spatelaw5_Wide).S.toList) && true))) eqg_60 (fun w => eqst_60 y223 (⟨0, (⟨#[]⟩ : ByteArray)⟩ : S_spatelaw5_Wide) 9998 w) rfl rfl) rfl rfl ?_
                refine tr_p (y_pick_t rfl rfl) rfl rfl ?_
                refine tr_p (y_pick_f rfl rfl) rfl rfl ?_
                refine tr_nil ?_
                refine tr_thenN ?_
                exact tr_join [(0, (.pointer p0)), (7, (.pointer (some a16))), (81, (.bool (!((y223.N == (⟨0, (⟨#[]⟩ : ByteArray)⟩ : S_spatelaw5_Wide).N) && ((y223.S.toList == (⟨0, (⟨#[]⟩ : ByteArray)⟩ : S_spatelaw5_Wide).S.toList) && true)))))] ⟨rfl, rfl, rfl, trivial⟩ ⟨_, _, _, rfl, H⟩
              · replace H := H.2 g222
                refine tr_s rfl rfl ?_
                refine tr_s rfl rfl ?_
                refine tr_s rfl rfl ?_
                refine tr_p (y_pick_f rfl rfl) rfl rfl ?_
                refine tr_p (y_pick_f rfl rfl) rfl rfl ?_
                refine tr_nil ?_
                refine tr_thenN ?_
                exact tr_join [(0, (.pointer p0)), (7, (.pointer (some a16))), (81, (.bool false))] ⟨rfl, rfl, rfl, trivial⟩ ⟨_, _, _, rfl, H⟩

def F.spatelaw5_lent.l1 (Q : Sl → H → Prop) : Nat → Sl → Sl → Int → H → Prop
  | 0, _, _, _, _ => False
  | q1 + 1, x0, x3, x4, h =>
    ((decide (x4 < (x3.len : Int))) = true →
    idxA x3 x4 1 fun a6 =>
    stH h a6 [(.int .i64 (IntKind.wrap .i64 ((-77) - x4)))] fun h8 =>
    (F.spatelaw5_lent.l1 Q q1) x0 x3 (IntKind.wrap .i64 (x4 + 1)) h8) ∧
    ((decide (x4 < (x3.len : Int))) = false →
    cutL x3 0 (x0.len : Int) 1 fun s10 =>
    Q s10 h)
/-- spate/spatelaw5.lent -/
def F.spatelaw5_lent (p0 : Sl) (h : H) (Q : Sl → H → Prop) : Prop :=
  runL PP (Instr.makeSlice 24 (.int .i64 (IntKind.wrap .i64 ((p0.len : Int) + 5))) (.int .i64 (IntKind.wrap .i64 ((p0.len : Int) + 5)))) h fun s2 h1 =>
  runI PP (Builtin.copy_ #[24, 24] 3 #[s2.enc, p0.enc]) h1 .i64 fun s4 h3 =>
  ∃ m, F.spatelaw5_lent.l1 Q m p0 s2 (p0.len : Int) h3
theorem F.spatelaw5_lent_ok {p0 : Sl} {h : H} {Q : Sl → H → Prop} (H : F.spatelaw5_lent p0 h Q) : Fn PP 47 ([p0.enc] : List Value).toArray h fun r h' => ∃ r0, r = r0.enc ∧ Q r0 h' := by
  unfold F.spatelaw5_lent at H
  refine fn_of Try.func47 Try.ntmps47 rfl rfl fun w0 => ?_
  refine tr_sub [(0, p0.enc)] ⟨rfl, trivial⟩ ?_
  refine tr_seq ?_
  refine tr_region ?_
  refine tr_p (y_assign rfl) rfl rfl ?_
  refine tr_nil ?_
  refine tr_thenN ?_
  refine tr_seq ?_
  refine tr_region ?_
  refine tr_p (y_move rfl) rfl rfl ?_
  refine tr_p (y_len (ts := #[]) Try.runUnderlying24 (o := p0.ptr) (n := p0.len) (cap := p0.cap) rfl) rfl rfl ?_
  refine tr_p (y_add rfl rfl) rfl rfl ?_
  refine tr_e (f_make rfl rfl H) rfl rfl ?_
  rintro _ h1 ⟨s2, rfl, H⟩
  refine tr_p (y_assign rfl) rfl rfl ?_
  refine tr_nil ?_
  refine tr_thenN ?_
  refine tr_seq ?_
  refine tr_region ?_
  refine tr_p (y_move rfl) rfl rfl ?_
  refine tr_p (y_move rfl) rfl rfl ?_
  refine tr_e (f_copy rfl H) rfl rfl ?_
  rintro _ h3 ⟨s4, rfl, H⟩
  refine tr_nil ?_
  refine tr_thenN ?_
  refine tr_seq ?_
  refine tr_seq ?_
  refine tr_region ?_
  refine tr_p (y_move rfl) rfl rfl ?_
  refine tr_p (y_len (ts := #[]) Try.runUnderlying24 (o := p0.ptr) (n := p0.len) (cap := p0.cap) rfl) rfl rfl ?_
  refine tr_p (y_assign rfl) rfl rfl ?_
  refine tr_nil ?_
  refine tr_thenN ?_
  refine tr_block ?_
  obtain ⟨m11, H⟩ := H
  refine tr_sub [(0, p0.enc), (3, s2.enc), (4, (.int .i64 (p0.len : Int)))] ⟨rfl, rfl, rfl, trivial⟩ ?_
  refine tr_loop_j (fun m L' h => ∃ (x0 : Sl) (x3 : Sl) (x4 : Int), L' = [(0, x0.enc), (3, x3.enc), (4, (.int .i64 x4))] ∧ F.spatelaw5_lent.l1 Q m x0 x3 x4 h) ?_ ?_ m11 ⟨_, _, _, rfl, H⟩
  · rintro L' h ⟨_, _, _, _, H⟩; exact H
  · rintro q1 L' h ⟨x0, x3, x4, rfl, H⟩
    unfold F.spatelaw5_lent.l1 at H
    refine tr_seq ?_
    refine tr_seq ?_
    refine tr_region ?_
    refine tr_p (y_move rfl) rfl rfl ?_
    refine tr_p (y_move rfl) rfl rfl ?_
    refine tr_p (y_len (ts := #[]) Try.runUnderlying24 (o := x3.ptr) (n := x3.len) (cap := x3.cap) rfl) rfl rfl ?_
    refine tr_p (y_lss rfl rfl) rfl rfl ?_
    refine tr_nil ?_
    refine tr_thenN ?_
    refine tr_cond rfl (fun g5 => ?_) (fun g5 => ?_)
    · replace H := H.1 g5
      refine tr_skip ?_
      refine tr_thenN ?_
      refine tr_seq ?_
      refine tr_block ?_
      refine tr_region ?_
      refine tr_p (y_move rfl) rfl rfl ?_
      refine tr_p (y_move rfl) rfl rfl ?_
      refine tr_p (y_move rfl) rfl rfl ?_
      refine tr_p (y_sub rfl rfl) rfl rfl ?_
      obtain ⟨a6, e7, H⟩ := H
      refine tr_p (f_idx (s := x3) Try.runUnderlying24 Try.sizeOf3 rfl rfl e7) rfl rfl ?_
      refine tr_e (f_store (vs := [(.int .i64 (IntKind.wrap .i64 ((-77) - x4)))]) Try.sizeOf3 rfl rfl rfl rfl (one1 rfl) H) rfl rfl ?_
      rintro _ h8 ⟨rfl, H⟩
      refine tr_nil ?_
      refine tr_blockN ?_
      refine tr_thenN ?_
      refine tr_region ?_
      refine tr_p (y_move rfl) rfl rfl ?_
      refine tr_p (y_add rfl rfl) rfl rfl ?_
      refine tr_p (y_assign rfl) rfl rfl ?_
      refine tr_nil ?_
      refine tr_thenN ?_
      exact tr_join [(0, x0.enc), (3, x3.enc), (4, (.int .i64 (IntKind.wrap .i64 (x4 + 1))))] ⟨rfl, rfl, rfl, trivial⟩ ⟨_, _, _, rfl, H⟩
    · replace H := H.2 g5
      refine tr_exit ?_
      refine tr_thenE ?_
      refine tr_thenE ?_
      refine tr_hit ?_
      refine tr_thenN ?_
      refine tr_seq ?_
      refine tr_region ?_
      refine tr_p (y_move rfl) rfl rfl ?_
      refine tr_p (y_move rfl) rfl rfl ?_
      refine tr_p (y_len (ts := #[]) Try.runUnderlying24 (o := x0.ptr) (n := x0.len) (cap := x0.cap) rfl) rfl rfl ?_
      obtain ⟨s10, e9, H⟩ := H
      refine tr_p (f_cutL (s := x3) none (some (.i64, (x0.len : Int))) Try.runUnderlying24 Try.sizeOf3 rfl rfl rfl e9) rfl rfl ?_
      refine tr_p (y_assign rfl) rfl rfl ?_
      refine tr_nil ?_
      refine tr_thenN ?_
      refine tr_ret ?_
      exact tr_ret1 rfl rfl ⟨_, rfl, H⟩

def F.spatelaw5_kept.j2 (Q : Bool → H → Prop) (C1 : Sl → Sl → Bool → Int → H → Prop) (x1 : Sl) (x5 : Sl) (x6 : Bool) (x7 : Int) (h : H) : Prop :=
  C1 x1 x5 x6 (IntKind.wrap .i64 (x7 + 1)) h
def F.spatelaw5_kept.j3 (Q : Bool → H → Prop) (C1 : Sl → Sl → Bool → Int → H → Prop) (x1 : Sl) (x5 : Sl) (x6 : Bool) (x7 : Int) (h : H) : Prop :=
  idxA x5 x7 1 fun a4 =>
  stH h a4 [(.int .i64 3)] fun h6 =>
  F.spatelaw5_kept.j2 Q C1 x1 x5 x6 x7 h6
def F.spatelaw5_kept.l1 (Q : Bool → H → Prop) : Nat → Sl → Sl → Bool → Int → H → Prop
  | 0, _, _, _, _, _ => False
  | q1 + 1, x1, x5, x6, x7, h =>
    ((decide (x7 < (x5.len : Int))) = true →
    ((decide (x7 < (x1.len : Int))) = true →
    (x6 = true →
    idxA x5 x7 1 fun a9 =>
    ldI .i64 h a9 fun y11 =>
    idxA x1 x7 1 fun a13 =>
    ldI .i64 h a13 fun y15 =>
    F.spatelaw5_kept.j3 Q (F.spatelaw5_kept.l1 Q q1) x1 x5 ((y11 == y15)) x7 h) ∧
    (x6 = false →
    F.spatelaw5_kept.j3 Q (F.spatelaw5_kept.l1 Q q1) x1 x5 false x7 h)) ∧
    ((decide (x7 < (x1.len : Int))) = false →
    (x6 = true →
    idxA x5 x7 1 fun a18 =>
    ldI .i64 h a18 fun y20 =>
    F.spatelaw5_kept.j3 Q (F.spatelaw5_kept.l1 Q q1) x1 x5 ((y20 == (IntKind.wrap .i64 ((-77) - x7)))) x7 h) ∧
    (x6 = false →
    F.spatelaw5_kept.j3 Q (F.spatelaw5_kept.l1 Q q1) x1 x5 false x7 h))) ∧
    ((decide (x7 < (x5.len : Int))) = false →
    Q x6 h)
/-- spate/spatelaw5.kept -/
def F.spatelaw5_kept (p0 : Sl) (p1 : Sl) (h : H) (Q : Bool → H → Prop) : Prop :=
  cutL p0 0 (IntKind.wrap .i64 ((p1.len : Int) + 5)) 1 fun s2 =>
  ∃ m, F.spatelaw5_kept.l1 Q m p1 s2 true 0 h
theorem F.spatelaw5_kept_ok {p0 : Sl} {p1 : Sl} {h : H} {Q : Bool → H → Prop} (H : F.spatelaw5_kept p0 p1 h Q) : Fn PP 48 ([p0.enc, p1.enc] : List Value).toArray h fun r h' => ∃ r0, r = (.bool r0) ∧ Q r0 h' := by
  unfold F.spatelaw5_kept at H
  refine fn_of Try.func48 Try.ntmps48 rfl rfl fun w0 => ?_
  refine tr_sub [(0, p0.enc), (1, p1.enc)] ⟨rfl, rfl, trivial⟩ ?_
  refine tr_seq ?_
  refine tr_region ?_
  refine tr_p (y_assign rfl) rfl rfl ?_
  refine tr_nil ?_
  refine tr_thenN ?_
  refine tr_seq ?_
  refine tr_region ?_
  refine tr_p (y_move rfl) rfl rfl ?_
  refine tr_p (y_move rfl) rfl rfl ?_
  refine tr_p (y_len (ts := #[]) Try.runUnderlying24 (o := p1.ptr) (n := p1.len) (cap := p1.cap) rfl) rfl rfl ?_
  refine tr_p (y_add rfl rfl) rfl rfl ?_
  obtain ⟨s2, e1, H⟩ := H
  refine tr_p (f_cutL (s := p0) none (some (.i64, (IntKind.wrap .i64 ((p1.len : Int) + 5)))) Try.runUnderlying24 Try.sizeOf3 rfl rfl rfl e1) rfl rfl ?_
  refine tr_p (y_assign rfl) rfl rfl ?_
  refine tr_nil ?_
  refine tr_thenN ?_
  refine tr_seq ?_
  refine tr_region ?_
  refine tr_p (y_assign rfl) rfl rfl ?_
  refine tr_nil ?_
  refine tr_thenN ?_
  refine tr_seq ?_
  refine tr_seq ?_
  refine tr_region ?_
  refine tr_p (y_assign rfl) rfl rfl ?_
  refine tr_nil ?_
  refine tr_thenN ?_
  refine tr_block ?_
  obtain ⟨m22, H⟩ := H
  refine tr_sub [(1, p1.enc), (5, s2.enc), (6, (.bool true)), (7, (.int .i64 0))] ⟨rfl, rfl, rfl, rfl, trivial⟩ ?_
  refine tr_loop_j (fun m L' h => ∃ (x1 : Sl) (x5 : Sl) (x6 : Bool) (x7 : Int), L' = [(1, x1.enc), (5, x5.enc), (6, (.bool x6)), (7, (.int .i64 x7))] ∧ F.spatelaw5_kept.l1 Q m x1 x5 x6 x7 h) ?_ ?_ m22 ⟨_, _, _, _, rfl, H⟩
  · rintro L' h ⟨_, _, _, _, _, H⟩; exact H
  · rintro q1 L' h ⟨x1, x5, x6, x7, rfl, H⟩
    unfold F.spatelaw5_kept.l1 at H
    refine tr_seq ?_
    refine tr_seq ?_
    refine tr_region ?_
    refine tr_p (y_move rfl) rfl rfl ?_
    refine tr_p (y_move rfl) rfl rfl ?_
    refine tr_p (y_len (ts := #[]) Try.runUnderlying24 (o := x5.ptr) (n := x5.len) (cap := x5.cap) rfl) rfl rfl ?_
    refine tr_p (y_lss rfl rfl) rfl rfl ?_
    refine tr_nil ?_
    refine tr_thenN ?_
    refine tr_cond rfl (fun g3 => ?_) (fun g3 => ?_)
    · replace H := H.1 g3
      refine tr_skip ?_
      refine tr_thenN ?_
      refine tr_seq_j (fun L' h => ∃ (x1 : Sl) (x5 : Sl) (x6 : Bool) (x7 : Int), L' = [(1, x1.enc), (5, x5.enc), (6, (.bool x6)), (7, (.int .i64 x7))] ∧ F.spatelaw5_kept.j2 Q (F.spatelaw5_kept.l1 Q q1) x1 x5 x6 x7 h) ?_ ?_
      · rintro L' h ⟨x1, x5, x6, x7, rfl, H⟩
        unfold F.spatelaw5_kept.j2 at H
        refine tr_region ?_
        refine tr_p (y_move rfl) rfl rfl ?_
        refine tr_p (y_add rfl rfl) rfl rfl ?_
        refine tr_p (y_assign rfl) rfl rfl ?_
        refine tr_nil ?_
        refine tr_thenN ?_
        exact tr_join [(1, x1.enc), (5, x5.enc), (6, (.bool x6)), (7, (.int .i64 (IntKind.wrap .i64 (x7 + 1))))] ⟨rfl, rfl, rfl, rfl, trivial⟩ ⟨_, _, _, _, rfl, H⟩
      · refine tr_block ?_
        refine tr_seq_j (fun L' h => ∃ (x1 : Sl) (x5 : Sl) (x6 : Bool) (x7 : Int), L' = [(1, x1.enc), (5, x5.enc), (6, (.bool x6)), (7, (.int .i64 x7))] ∧ F.spatelaw5_kept.j3 Q (F.spatelaw5_kept.l1 Q q1) x1 x5 x6 x7 h) ?_ ?_
        · rintro L' h ⟨x1, x5, x6, x7, rfl, H⟩
          unfold F.spatelaw5_kept.j3 at H
          refine tr_region ?_
          refine tr_p (y_move rfl) rfl rfl ?_
          refine tr_p (y_move rfl) rfl rfl ?_
          obtain ⟨a4, e5, H⟩ := H
          refine tr_p (f_idx (s := x5) Try.runUnderlying24 Try.sizeOf3 rfl rfl e5) rfl rfl ?_
          refine tr_e (f_store (vs := [(.int .i64 3)]) Try.sizeOf3 rfl rfl rfl rfl (one1 rfl) H) rfl rfl ?_
          rintro _ h6 ⟨rfl, H⟩
          refine tr_nil ?_
          refine tr_blockN ?_
          refine tr_thenN ?_
          exact tr_join [(1, x1.enc), (5, x5.enc), (6, (.bool x6)), (7, (.int .i64 x7))] ⟨rfl, rfl, rfl, rfl, trivial⟩ ⟨_, _, _, _, rfl, H⟩
        · refine tr_seq ?_
          refine tr_region ?_
          refine tr_p (y_move rfl) rfl rfl ?_
          refine tr_p (y_move rfl) rfl rfl ?_
          refine tr_p (y_len (ts := #[]) Try.runUnderlying24 (o := x1.ptr) (n := x1.len) (cap := x1.cap) rfl) rfl rfl ?_
          refine tr_p (y_lss rfl rfl) rfl rfl ?_
          refine tr_nil ?_
          refine tr_thenN ?_
          refine tr_cond rfl (fun g7 => ?_) (fun g7 => ?_)
          · replace H := H.1 g7
            refine tr_draw mixed [0, 1, 3, 3, 15, 31, 3, 3, 195, 451, 1023, 2047, 4095] (by kernel_rfl) ?_
            refine g_p 0 1 rfl (by kernel_rfl) (y_move rfl) rfl rfl ?_
            refine g_p 1 3 rfl (by kernel_rfl) (y_move rfl) rfl rfl ?_
            refine g_split (t := 24) rfl (fun g8 => ?_) (fun g8 => ?_)
            · replace H := H.1 g8
              refine g_p 2 7 rfl (by kernel_rfl) (y_move rfl) rfl rfl ?_
              refine g_p 3 15 rfl (by kernel_rfl) (y_move rfl) rfl rfl ?_
              obtain ⟨a9, e10, H⟩ := H
              refine g_p 4 31 rfl (by kernel_rfl) (f_idx (s := x5) Try.runUnderlying24 Try.sizeOf3 rfl rfl e10) rfl rfl ?_
              obtain ⟨y11, k12, H⟩ := H
              refine g_h 5 63 rfl (by kernel_rfl) (y_ld Try.isAgg3 rfl) k12 rfl rfl ?_
              refine g_p 6 127 rfl (by kernel_rfl) (y_move rfl) rfl rfl ?_
              refine g_p 7 255 rfl (by kernel_rfl) (y_move rfl) rfl rfl ?_
              obtain ⟨a13, e14, H⟩ := H
              refine g_p 8 511 rfl (by kernel_rfl) (f_idx (s := x1) Try.runUnderlying24 Try.sizeOf3 rfl rfl e14) rfl rfl ?_
              obtain ⟨y15, k16, H⟩ := H
              refine g_h 9 1023 rfl (by kernel_rfl) (y_ld Try.isAgg3 rfl) k16 rfl rfl ?_
              refine g_p 10 2047 rfl (by kernel_rfl) (y_eql rfl rfl) rfl rfl ?_
              refine g_p 11 4095 rfl (by kernel_rfl) (y_pick_t rfl rfl) rfl rfl ?_
              refine g_e 12 8191 [] (by kernel_rfl) rfl (by kernel_rfl) (yp_ev (y_assign rfl)) rfl rfl ?_
              rintro _ _ ⟨rfl, rfl⟩
              refine ⟨trivial, ?_⟩
              refine g_d (by kernel_rfl) ?_
              refine tr_thenN ?_
              exact tr_join [(1, x1.enc), (5, x5.enc), (6, (.bool ((y11 == y15)))), (7, (.int .i64 x7))] ⟨rfl, rfl, rfl, rfl, trivial⟩ ⟨_, _, _, _, rfl, H⟩
            · replace H := H.2 g8
              refine g_s 2 7 rfl (by kernel_rfl) rfl rfl ?_
              refine g_s 3 15 rfl (by kernel_rfl) rfl rfl ?_
              refine g_s 4 31 rfl (by kernel_rfl) rfl rfl ?_
              refine g_s 5 63 rfl (by kernel_rfl) rfl rfl ?_
              refine g_s 6 127 rfl (by kernel_rfl) rfl rfl ?_
              refine g_s 7 255 rfl (by kernel_rfl) rfl rfl ?_
              refine g_s 8 511 rfl (by kernel_rfl) rfl rfl ?_
              refine g_s 9 1023 rfl (by kernel_rfl) rfl rfl ?_
              refine g_s 10 2047 rfl (by kernel_rfl) rfl rfl ?_
              refine g_p 11 4095 rfl (by kernel_rfl) (y_pick_f rfl rfl) rfl rfl ?_
              refine g_e 12 8191 [] (by kernel_rfl) rfl (by kernel_rfl) (yp_ev (y_assign rfl)) rfl rfl ?_
              rintro _ _ ⟨rfl, rfl⟩
              refine ⟨trivial, ?_⟩
              refine g_d (by kernel_rfl) ?_
              refine tr_thenN ?_
              exact tr_join [(1, x1.enc), (5, x5.enc), (6, (.bool false)), (7, (.int .i64 x7))] ⟨rfl, rfl, rfl, rfl, trivial⟩ ⟨_, _, _, _, rfl, H⟩
          · replace H := H.2 g7
            refine tr_region ?_
            refine tr_p (y_move rfl) rfl rfl ?_
            refine tr_p (y_move rfl) rfl rfl ?_
            refine tr_split (t := 36) rfl (fun g17 => ?_) (fun g17 => ?_)
            · replace H := H.1 g17
              refine tr_p (y_move rfl) rfl rfl ?_
              refine tr_p (y_move rfl) rfl rfl ?_
              obtain ⟨a18, e19, H⟩ := H
              refine tr_p (f_idx (s := x5) Try.runUnderlying24 Try.sizeOf3 rfl rfl e19) rfl rfl ?_
              obtain ⟨y20, k21, H⟩ := H
              refine tr_h (y_ld Try.isAgg3 rfl) k21 rfl rfl ?_
              refine tr_p (y_move rfl) rfl rfl ?_
              refine tr_p (y_sub rfl rfl) rfl rfl ?_
              refine tr_p (y_eql rfl rfl) rfl rfl ?_
              refine tr_p (y_pick_t rfl rfl) rfl rfl ?_
              refine tr_p (y_assign rfl) rfl rfl ?_
              refine tr_nil ?_
              refine tr_thenN ?_
              exact tr_join [(1, x1.enc), (5, x5.enc), (6, (.bool ((y20 == (IntKind.wrap .i64 ((-77) - x7)))))), (7, (.int .i64 x7))] ⟨rfl, rfl, rfl, rfl, trivial⟩ ⟨_, _, _, _, rfl, H⟩
            · replace H := H.2 g17
              refine tr_s rfl rfl ?_
              refine tr_s rfl rfl ?_
              refine tr_s rfl rfl ?_
              refine tr_s rfl rfl ?_
              refine tr_s rfl rfl ?_
              refine tr_s rfl rfl ?_
              refine tr_s rfl rfl ?_
              refine tr_p (y_pick_f rfl rfl) rfl rfl ?_
              refine tr_p (y_assign rfl) rfl rfl ?_
              refine tr_nil ?_
              refine tr_thenN ?_
              exact tr_join [(1, x1.enc), (5, x5.enc), (6, (.bool false)), (7, (.int .i64 x7))] ⟨rfl, rfl, rfl, rfl, trivial⟩ ⟨_, _, _, _, rfl, H⟩
    · replace H := H.2 g3
      refine tr_exit ?_
      refine tr_thenE ?_
      refine tr_thenE ?_
      refine tr_hit ?_
      refine tr_thenN ?_
      refine tr_seq ?_
      refine tr_region ?_
      refine tr_p (y_move rfl) rfl rfl ?_
      refine tr_p (y_assign rfl) rfl rfl ?_
      refine tr_nil ?_
      refine tr_thenN ?_
      refine tr_ret ?_
      exact tr_ret1 rfl rfl ⟨_, rfl, H⟩

def F.chain_Chain_spatelaw5_Wide_Prune.j3 (Q : Int → H → Prop) (x0 : Option Addr) (x5 : Int) (x10 : Sl) (h : H) : Prop :=
  nn x0 fun a45 =>
  stH h (a45.add 0) [x10.enc] fun h47 =>
  Q (IntKind.wrap .i64 (x5 - (x10.len : Int))) h47
def F.chain_Chain_spatelaw5_Wide_Prune.j4 (Q : Int → H → Prop) (x0 : Option Addr) (x5 : Int) (x10 : Sl) (x68 : Bool) (h : H) : Prop :=
  (x68 = true →
  F.chain_Chain_spatelaw5_Wide_Prune.j3 Q x0 x5 (⟨none, 0, 0⟩ : Sl) h) ∧
  (x68 = false →
  F.chain_Chain_spatelaw5_Wide_Prune.j3 Q x0 x5 x10 h)
def F.chain_Chain_spatelaw5_Wide_Prune.l2 (Q : Int → H → Prop) : Nat → (Option Addr) → Int → Sl → Sl → Sl → Int → Int → H → Prop
  | 0, _, _, _, _, _, _, _, _ => False
  | q2 + 1, x0, x5, x6, x10, x44, x45, x46, h =>
    ((decide (x46 < x45)) = true →
    idxA x44 x46 4 fun a27 =>
    ld_S_chain_version_spatelaw5_Wide h a27 fun y29 =>
    new h (((⟨0, (⟨0, (⟨#[]⟩ : ByteArray)⟩ : S_spatelaw5_Wide), false⟩ : S_chain_version_spatelaw5_Wide) : S_chain_version_spatelaw5_Wide).cells.toArray) ty_103 fun a32 h31 =>
    stH h31 a32 y29.cells fun h33 =>
    idxA x6 x46 1 fun a34 =>
    ldB h33 a34 fun y36 =>
    (y36 = true →
    ld_S_chain_version_spatelaw5_Wide h33 a32 fun y39 =>
    newL h33 ((y39.cells).toArray) ty_103 1 fun s42 h41 =>
    runL PP (Builtin.append_ #[84, 84] 84 #[x10.enc, s42.enc]) h41 fun s44 h43 =>
    (F.chain_Chain_spatelaw5_Wide_Prune.l2 Q q2) x0 x5 x6 s44 x44 x45 (IntKind.wrap .i64 (x46 + 1)) h43) ∧
    (y36 = false →
    (F.chain_Chain_spatelaw5_Wide_Prune.l2 Q q2) x0 x5 x6 x10 x44 x45 (IntKind.wrap .i64 (x46 + 1)) h33)) ∧
    ((decide (x46 < x45)) = false →
    ((((x10.len : Int) == 1)) = true →
    idxA x10 0 4 fun a50 =>
    ldB h (a50.add 3) fun y52 =>
    F.chain_Chain_spatelaw5_Wide_Prune.j4 Q x0 x5 x10 y52 h) ∧
    ((((x10.len : Int) == 1)) = false →
    F.chain_Chain_spatelaw5_Wide_Prune.j4 Q x0 x5 x10 false h))
def F.chain_Chain_spatelaw5_Wide_Prune.l1 (Q : Int → H → Prop) : Nat → (Option Addr) → Int → Sl → Sl → Int → Int → H → Prop
  | 0, _, _, _, _, _, _, _ => False
  | q1 + 1, x0, x5, x6, x26, x27, x28, h =>
    ((decide (x28 < x27)) = true →
    idxA x26 x28 1 fun a12 =>
    ldI .i64 h a12 fun y14 =>
    F.chain_Chain_spatelaw5_Wide_place x0 y14 h fun r17 h16 =>
    ((decide (r17 ≥ 0)) = true →
    idxA x6 r17 1 fun a19 =>
    stH h16 a19 [(.bool true)] fun h21 =>
    (F.chain_Chain_spatelaw5_Wide_Prune.l1 Q q1) x0 x5 x6 x26 x27 (IntKind.wrap .i64 (x28 + 1)) h21) ∧
    ((decide (r17 ≥ 0)) = false →
    (F.chain_Chain_spatelaw5_Wide_Prune.l1 Q q1) x0 x5 x6 x26 x27 (IntKind.wrap .i64 (x28 + 1)) h16)) ∧
    ((decide (x28 < x27)) = false →
    nn x0 fun a22 =>
    ldL h (a22.add 0) fun y24 =>
    ∃ m, F.chain_Chain_spatelaw5_Wide_Prune.l2 Q m x0 x5 x6 (⟨none, 0, 0⟩ : Sl) y24 (y24.len : Int) 0 h)
/-- (*spate/chain.Chain[spate/spatelaw5.Wide]).Prune -/
def F.chain_Chain_spatelaw5_Wide_Prune (p0 : Option Addr) (p1 : Sl) (h : H) (Q : Int → H → Prop) : Prop :=
  nn p0 fun a1 =>
  ldL h (a1.add 0) fun y3 =>
  ((((y3.len : Int) == 0)) = true →
  Q 0 h) ∧
  ((((y3.len : Int) == 0)) = false →
  runL PP (Instr.makeSlice 77 (.int .i64 (y3.len : Int)) (.int .i64 (y3.len : Int))) h fun s7 h6 =>
  idxA s7 (IntKind.wrap .i64 ((y3.len : Int) - 1)) 1 fun a8 =>
  stH h6 a8 [(.bool true)] fun h10 =>
  ∃ m, F.chain_Chain_spatelaw5_Wide_Prune.l1 Q m p0 (y3.len : Int) s7 p1 (p1.len : Int) 0 h10)
theorem F.chain_Chain_spatelaw5_Wide_Prune_ok {p0 : Option Addr} {p1 : Sl} {h : H} {Q : Int → H → Prop} (H : F.chain_Chain_spatelaw5_Wide_Prune p0 p1 h Q) : Fn PP 49 ([(.pointer p0), p1.enc] : List Value).toArray h fun r h' => ∃ r0, r = (.int .i64 r0) ∧ Q r0 h' := by
  unfold F.chain_Chain_spatelaw5_Wide_Prune at H
  refine fn_of Try.func49 Try.ntmps49 rfl rfl fun w0 => ?_
  refine tr_sub [(0, (.pointer p0)), (1, p1.enc)] ⟨rfl, rfl, trivial⟩ ?_
  refine tr_seq ?_
  refine tr_region ?_
  refine tr_p (y_assign rfl) rfl rfl ?_
  refine tr_nil ?_
  refine tr_thenN ?_
  refine tr_seq ?_
  refine tr_region ?_
  refine tr_p (y_move rfl) rfl rfl ?_
  obtain ⟨a1, e2, H⟩ := H
  refine tr_p (f_nn rfl e2) rfl rfl ?_
  refine tr_p (y_fa (off := 0) Try.runUnderlying86 fo_86_0 rfl) rfl rfl ?_
  obtain ⟨y3, k4, H⟩ := H
  refine tr_h (y_ld Try.isAgg84 rfl) k4 rfl rfl ?_
  refine tr_p (y_len (ts := #[]) Try.runUnderlying84 (o := y3.ptr) (n := y3.len) (cap := y3.cap) rfl) rfl rfl ?_
  refine tr_p (y_assign rfl) rfl rfl ?_
  refine tr_nil ?_
  refine tr_thenN ?_
  refine tr_seq ?_
  refine tr_seq ?_
  refine tr_region ?_
  refine tr_p (y_move rfl) rfl rfl ?_
  refine tr_p (y_eql rfl rfl) rfl rfl ?_
  refine tr_nil ?_
  refine tr_thenN ?_
  refine tr_cond rfl (fun g5 => ?_) (fun g5 => ?_)
  · replace H := H.1 g5
    refine tr_seq ?_
    refine tr_region ?_
    refine tr_p (y_assign rfl) rfl rfl ?_
    refine tr_nil ?_
    refine tr_thenN ?_
    refine tr_ret ?_
    refine tr_thenR ?_
    exact tr_ret1 rfl rfl ⟨_, rfl, H⟩
  · replace H := H.2 g5
    refine tr_skip ?_
    refine tr_thenN ?_
    refine tr_seq ?_
    refine tr_region ?_
    refine tr_p (y_move rfl) rfl rfl ?_
    refine tr_e (f_make rfl rfl H) rfl rfl ?_
    rintro _ h6 ⟨s7, rfl, H⟩
    refine tr_p (y_assign rfl) rfl rfl ?_
    refine tr_nil ?_
    refine tr_thenN ?_
    refine tr_seq ?_
    refine tr_region ?_
    refine tr_p (y_move rfl) rfl rfl ?_
    refine tr_p (y_move rfl) rfl rfl ?_
    refine tr_p (y_sub rfl rfl) rfl rfl ?_
    obtain ⟨a8, e9, H⟩ := H
    refine tr_p (f_idx (s := s7) Try.runUnderlying77 Try.sizeOf4 rfl rfl e9) rfl rfl ?_
    refine tr_e (f_store (vs := [(.bool true)]) Try.sizeOf4 rfl rfl rfl rfl (one1 rfl) H) rfl rfl ?_
    rintro _ h10 ⟨rfl, H⟩
    refine tr_nil ?_
    refine tr_thenN ?_
    refine tr_seq ?_
    refine tr_seq ?_
    refine tr_region ?_
    refine tr_p (y_move rfl) rfl rfl ?_
    refine tr_p (y_len (ts := #[]) Try.runUnderlying24 (o := p1.ptr) (n := p1.len) (cap := p1.cap) rfl) rfl rfl ?_
    refine tr_p (y_move rfl) rfl rfl ?_
    refine tr_nil ?_
    refine tr_thenN ?_
    refine tr_block ?_
    obtain ⟨m55, H⟩ := H
    refine tr_sub [(0, (.pointer p0)), (5, (.int .i64 (y3.len : Int))), (6, s7.enc), (26, p1.enc), (27, (.int .i64 (p1.len : Int))), (28, (.int .i64 0))] ⟨rfl, rfl, rfl, rfl, rfl, rfl, trivial⟩ ?_
    refine tr_loop_j (fun m L' h => ∃ (x0 : Option Addr) (x5 : Int) (x6 : Sl) (x26 : Sl) (x27 : Int) (x28 : Int), L' = [(0, (.pointer x0)), (5, (.int .i64 x5)), (6, x6.enc), (26, x26.enc), (27, (.int .i64 x27)), (28, (.int .i64 x28))] ∧ F.chain_Chain_spatelaw5_Wide_Prune.l1 Q m x0 x5 x6 x26 x27 x28 h) ?_ ?_ m55 ⟨_, _, _, _, _, _, rfl, H⟩
    · rintro L' h ⟨_, _, _, _, _, _, _, H⟩; exact H
    · rintro q1 L' h ⟨x0, x5, x6, x26, x27, x28, rfl, H⟩
      unfold F.chain_Chain_spatelaw5_Wide_Prune.l1 at H
      refine tr_seq ?_
      refine tr_region ?_
      refine tr_p (y_lss rfl rfl) rfl rfl ?_
      refine tr_nil ?_
      refine tr_thenN ?_
      refine tr_seq ?_
      refine tr_cond rfl (fun g11 => ?_) (fun g11 => ?_)
      · replace H := H.1 g11
        refine tr_skip ?_
        refine tr_thenN ?_
        refine tr_seq ?_
        refine tr_block ?_
        refine tr_seq ?_
        refine tr_region ?_
        obtain ⟨a12, e13, H⟩ := H
        refine tr_p (f_idx (s := x26) Try.runUnderlying24 Try.sizeOf3 rfl rfl e13) rfl rfl ?_
        obtain ⟨y14, k15, H⟩ := H
        refine tr_h (y_ld Try.isAgg3 rfl) k15 rfl rfl ?_
        refine tr_p (y_assign rfl) rfl rfl ?_
        refine tr_nil ?_
        refine tr_thenN ?_
        refine tr_seq ?_
        refine tr_region ?_
        refine tr_p (y_move rfl) rfl rfl ?_
        refine tr_p (y_move rfl) rfl rfl ?_
        refine tr_e (e_call Try.call66 rfl (F.chain_Chain_spatelaw5_Wide_place_ok H)) rfl rfl ?_
        rintro _ h16 ⟨r17, rfl, H⟩
        refine tr_p (y_assign rfl) rfl rfl ?_
        refine tr_nil ?_
        refine tr_thenN ?_
        refine tr_seq ?_
        refine tr_region ?_
        refine tr_p (y_move rfl) rfl rfl ?_
        refine tr_p (y_geq rfl rfl) rfl rfl ?_
        refine tr_nil ?_
        refine tr_thenN ?_
        refine tr_cond rfl (fun g18 => ?_) (fun g18 => ?_)
        · replace H := H.1 g18
          refine tr_region ?_
          refine tr_p (y_move rfl) rfl rfl ?_
          refine tr_p (y_move rfl) rfl rfl ?_
          obtain ⟨a19, e20, H⟩ := H
          refine tr_p (f_idx (s := x6) Try.runUnderlying77 Try.sizeOf4 rfl rfl e20) rfl rfl ?_
          refine tr_e (f_store (vs := [(.bool true)]) Try.sizeOf4 rfl rfl rfl rfl (one1 rfl) H) rfl rfl ?_
          rintro _ h21 ⟨rfl, H⟩
          refine tr_nil ?_
          refine tr_blockN ?_
          refine tr_thenN ?_
          refine tr_region ?_
          refine tr_p (y_add rfl rfl) rfl rfl ?_
          refine tr_p (y_move rfl) rfl rfl ?_
          refine tr_nil ?_
          refine tr_thenN ?_
          exact tr_join [(0, (.pointer x0)), (5, (.int .i64 x5)), (6, x6.enc), (26, x26.enc), (27, (.int .i64 x27)), (28, (.int .i64 (IntKind.wrap .i64 (x28 + 1))))] ⟨rfl, rfl, rfl, rfl, rfl, rfl, trivial⟩ ⟨_, _, _, _, _, _, rfl, H⟩
        · replace H := H.2 g18
          refine tr_skip ?_
          refine tr_blockN ?_
          refine tr_thenN ?_
          refine tr_region ?_
          refine tr_p (y_add rfl rfl) rfl rfl ?_
          refine tr_p (y_move rfl) rfl rfl ?_
          refine tr_nil ?_
          refine tr_thenN ?_
          exact tr_join [(0, (.pointer x0)), (5, (.int .i64 x5)), (6, x6.enc), (26, x26.enc), (27, (.int .i64 x27)), (28, (.int .i64 (IntKind.wrap .i64 (x28 + 1))))] ⟨rfl, rfl, rfl, rfl, rfl, rfl, trivial⟩ ⟨_, _, _, _, _, _, rfl, H⟩
      · replace H := H.2 g11
        refine tr_exit ?_
        refine tr_thenE ?_
        refine tr_thenE ?_
        refine tr_hit ?_
        refine tr_thenN ?_
        refine tr_seq ?_
        refine tr_region ?_
        refine tr_p (y_assign rfl) rfl rfl ?_
        refine tr_nil ?_
        refine tr_thenN ?_
        refine tr_seq ?_
        refine tr_seq ?_
        refine tr_region ?_
        refine tr_p (y_move rfl) rfl rfl ?_
        obtain ⟨a22, e23, H⟩ := H
        refine tr_p (f_nn rfl e23) rfl rfl ?_
        refine tr_p (y_fa (off := 0) Try.runUnderlying86 fo_86_0 rfl) rfl rfl ?_
        obtain ⟨y24, k25, H⟩ := H
        refine tr_h (y_ld Try.isAgg84 rfl) k25 rfl rfl ?_
        refine tr_p (y_len (ts := #[]) Try.runUnderlying84 (o := y24.ptr) (n := y24.len) (cap := y24.cap) rfl) rfl rfl ?_
        refine tr_p (y_move rfl) rfl rfl ?_
        refine tr_nil ?_
        refine tr_thenN ?_
        refine tr_block ?_
        obtain ⟨m54, H⟩ := H
        refine tr_sub [(0, (.pointer x0)), (5, (.int .i64 x5)), (6, x6.enc), (10, (⟨none, 0, 0⟩ : Sl).enc), (44, y24.enc), (45, (.int .i64 (y24.len : Int))), (46, (.int .i64 0))] ⟨rfl, rfl, rfl, rfl, rfl, rfl, rfl, trivial⟩ ?_
        refine tr_loop_j (fun m L' h => ∃ (x0 : Option Addr) (x5 : Int) (x6 : Sl) (x10 : Sl) (x44 : Sl) (x45 : Int) (x46 : Int), L' = [(0, (.pointer x0)), (5, (.int .i64 x5)), (6, x6.enc), (10, x10.enc), (44, x44.enc), (45, (.int .i64 x45)), (46, (.int .i64 x46))] ∧ F.chain_Chain_spatelaw5_Wide_Prune.l2 Q m x0 x5 x6 x10 x44 x45 x46 h) ?_ ?_ m54 ⟨_, _, _, _, _, _, _, rfl, H⟩
        · rintro L' h ⟨_, _, _, _, _, _, _, _, H⟩; exact H
        · rintro q2 L' h ⟨x0, x5, x6, x10, x44, x45, x46, rfl, H⟩
          unfold F.chain_Chain_spatelaw5_Wide_Prune.l2 at H
          refine tr_seq ?_
          refine tr_region ?_
          refine tr_p (y_lss rfl rfl) rfl rfl ?_
          refine tr_nil ?_
          refine tr_thenN ?_
          refine tr_seq ?_
          refine tr_cond rfl (fun g26 => ?_) (fun g26 => ?_)
          · replace H := H.1 g26
            refine tr_skip ?_
            refine tr_thenN ?_
            refine tr_seq ?_
            refine tr_block ?_
            refine tr_seq ?_
            refine tr_region ?_
            refine tr_p (y_move rfl) rfl rfl ?_
            obtain ⟨a27, e28, H⟩ := H
            refine tr_p (f_idx (s := x44) Try.runUnderlying84 Try.sizeOf103 rfl rfl e28) rfl rfl ?_
            obtain ⟨y29, k30, H⟩ := H
            refine tr_h (y_ldS Try.isAgg103 Try.sizeOf103 rfl rfl) k30 rfl rfl ?_
            refine tr_e (f_alloc (cs := ((⟨0, (⟨0, (⟨#[]⟩ : ByteArray)⟩ : S_spatelaw5_Wide), false⟩ : S_chain_version_spatelaw5_Wide) : S_chain_version_spatelaw5_Wide).cells.toArray) Try.zeroValue103 rfl H) rfl rfl ?_
            rintro _ h31 ⟨a32, rfl, H⟩
            refine tr_p (y_assign rfl) rfl rfl ?_
            refine tr_e (f_store (vs := y29.cells) Try.sizeOf103 rfl rfl cellsOfStruct rfl (by intro v hv; exact ones_S_chain_version_spatelaw5_Wide _ v hv) H) rfl rfl ?_
            rintro _ h33 ⟨rfl, H⟩
            refine tr_nil ?_
            refine tr_thenN ?_
            refine tr_seq ?_
            refine tr_region ?_
            refine tr_p (y_move rfl) rfl rfl ?_
            refine tr_p (y_move rfl) rfl rfl ?_
            obtain ⟨a34, e35, H⟩ := H
            refine tr_p (f_idx (s := x6) Try.runUnderlying77 Try.sizeOf4 rfl rfl e35) rfl rfl ?_
            obtain ⟨y36, k37, H⟩ := H
            refine tr_h (y_ld Try.isAgg4 rfl) k37 rfl rfl ?_
            refine tr_nil ?_
            refine tr_thenN ?_
            refine tr_cond rfl (fun g38 => ?_) (fun g38 => ?_)
            · replace H := H.1 g38
              refine tr_region ?_
              refine tr_p (y_move rfl) rfl rfl ?_
              obtain ⟨y39, k40, H⟩ := H
              refine tr_h (y_ldS Try.isAgg103 Try.sizeOf103 rfl rfl) k40 rfl rfl ?_
              refine tr_e (f_buildL (cs := (y39.cells).toArray) rfl rfl (bl_84_1_0 y39) H) rfl rfl ?_
              rintro _ h41 ⟨s42, rfl, H⟩
              refine tr_e (f_app rfl H) rfl rfl ?_
              rintro _ h43 ⟨s44, rfl, H⟩
              refine tr_p (y_assign rfl) rfl rfl ?_
              refine tr_nil ?_
              refine tr_blockN ?_
              refine tr_thenN ?_
              refine tr_region ?_
              refine tr_p (y_add rfl rfl) rfl rfl ?_
              refine tr_p (y_move rfl) rfl rfl ?_
              refine tr_nil ?_
              refine tr_thenN ?_
              exact tr_join [(0, (.pointer x0)), (5, (.int .i64 x5)), (6, x6.enc), (10, s44.enc), (44, x44.enc), (45, (.int .i64 x45)), (46, (.int .i64 (IntKind.wrap .i64 (x46 + 1))))] ⟨rfl, rfl, rfl, rfl, rfl, rfl, rfl, trivial⟩ ⟨_, _, _, _, _, _, _, rfl, H⟩
            · replace H := H.2 g38
              refine tr_skip ?_
              refine tr_blockN ?_
              refine tr_thenN ?_
              refine tr_region ?_
              refine tr_p (y_add rfl rfl) rfl rfl ?_
              refine tr_p (y_move rfl) rfl rfl ?_
              refine tr_nil ?_
              refine tr_thenN ?_
              exact tr_join [(0, (.pointer x0)), (5, (.int .i64 x5)), (6, x6.enc), (10, x10.enc), (44, x44.enc), (45, (.int .i64 x45)), (46, (.int .i64 (IntKind.wrap .i64 (x46 + 1))))] ⟨rfl, rfl, rfl, rfl, rfl, rfl, rfl, trivial⟩ ⟨_, _, _, _, _, _, _, rfl, H⟩
          · replace H := H.2 g26
            refine tr_exit ?_
            refine tr_thenE ?_
            refine tr_thenE ?_
            refine tr_hit ?_
            refine tr_thenN ?_
            refine tr_seq_j (fun L' h => ∃ (x0 : Option Addr) (x5 : Int) (x10 : Sl), L' = [(0, (.pointer x0)), (5, (.int .i64 x5)), (10, x10.enc)] ∧ F.chain_Chain_spatelaw5_Wide_Prune.j3 Q x0 x5 x10 h) ?_ ?_
            · rintro L' h ⟨x0, x5, x10, rfl, H⟩
              unfold F.chain_Chain_spatelaw5_Wide_Prune.j3 at H
              refine tr_seq ?_
              refine tr_region ?_
              refine tr_p (y_move rfl) rfl rfl ?_
              refine tr_p (y_move rfl) rfl rfl ?_
              obtain ⟨a45, e46, H⟩ := H
              refine tr_p (f_nn rfl e46) rfl rfl ?_
              refine tr_p (y_fa (off := 0) Try.runUnderlying86 fo_86_0 rfl) rfl rfl ?_
              refine tr_e (f_store (vs := [x10.enc]) Try.sizeOf84 rfl rfl rfl rfl (one1 rfl) H) rfl rfl ?_
              rintro _ h47 ⟨rfl, H⟩
              refine tr_nil ?_
              refine tr_thenN ?_
              refine tr_seq ?_
              refine tr_region ?_
              refine tr_p (y_move rfl) rfl rfl ?_
              refine tr_p (y_move rfl) rfl rfl ?_
              refine tr_p (y_len (ts := #[]) Try.runUnderlying84 (o := x10.ptr) (n := x10.len) (cap := x10.cap) rfl) rfl rfl ?_
              refine tr_p (y_sub rfl rfl) rfl rfl ?_
              refine tr_p (y_assign rfl) rfl rfl ?_
              refine tr_nil ?_
              refine tr_thenN ?_
              refine tr_ret ?_
              exact tr_ret1 rfl rfl ⟨_, rfl, H⟩
            · refine tr_seq_j (fun L' h => ∃ (x0 : Option Addr) (x5 : Int) (x10 : Sl) (x68 : Bool), L' = [(0, (.pointer x0)), (5, (.int .i64 x5)), (10, x10.enc), (68, (.bool x68))] ∧ F.chain_Chain_spatelaw5_Wide_Prune.j4 Q x0 x5 x10 x68 h) ?_ ?_
              · rintro L' h ⟨x0, x5, x10, x68, rfl, H⟩
                unfold F.chain_Chain_spatelaw5_Wide_Prune.j4 at H
                refine tr_cond rfl (fun g48 => ?_) (fun g48 => ?_)
                · replace H := H.1 g48
                  refine tr_region ?_
                  refine tr_p (y_assign rfl) rfl rfl ?_
                  refine tr_nil ?_
                  refine tr_thenN ?_
                  exact tr_join [(0, (.pointer x0)), (5, (.int .i64 x5)), (10, (⟨none, 0, 0⟩ : Sl).enc)] ⟨rfl, rfl, rfl, trivial⟩ ⟨_, _, _, rfl, H⟩
                · replace H := H.2 g48
                  refine tr_skip ?_
                  refine tr_thenN ?_
                  exact tr_join [(0, (.pointer x0)), (5, (.int .i64 x5)), (10, x10.enc)] ⟨rfl, rfl, rfl, trivial⟩ ⟨_, _, _, rfl, H⟩
              · refine tr_region ?_
                refine tr_p (y_move rfl) rfl rfl ?_
                refine tr_p (y_len (ts := #[]) Try.runUnderlying84 (o := x10.ptr) (n := x10.len) (cap := x10.cap) rfl) rfl rfl ?_
                refine tr_p (y_eql rfl rfl) rfl rfl ?_
                refine tr_p (y_move rfl) rfl rfl ?_
                refine tr_split (t := 63) rfl (fun g49 => ?_) (fun g49 => ?_)
                · replace H := H.1 g49
                  refine tr_p (y_move rfl) rfl rfl ?_
                  obtain ⟨a50, e51, H⟩ := H
                  refine tr_p (f_idx (s := x10) Try.runUnderlying84 Try.sizeOf103 rfl rfl e51) rfl rfl ?_
                  refine tr_p (y_fa (off := 3) Try.runUnderlying103 fo_103_2 rfl) rfl rfl ?_
                  obtain ⟨y52, k53, H⟩ := H
                  refine tr_h (y_ld Try.isAgg4 rfl) k53 rfl rfl ?_
                  refine tr_p (y_pick_t rfl rfl) rfl rfl ?_
                  refine tr_nil ?_
                  refine tr_thenN ?_
                  exact tr_join [(0, (.pointer x0)), (5, (.int .i64 x5)), (10, x10.enc), (68, (.bool y52))] ⟨rfl, rfl, rfl, rfl, trivial⟩ ⟨_, _, _, _, rfl, H⟩
                · replace H := H.2 g49
                  refine tr_s rfl rfl ?_
                  refine tr_s rfl rfl ?_
                  refine tr_s rfl rfl ?_
                  refine tr_s rfl rfl ?_
                  refine tr_p (y_pick_f rfl rfl) rfl rfl ?_
                  refine tr_nil ?_
                  refine tr_thenN ?_
                  exact tr_join [(0, (.pointer x0)), (5, (.int .i64 x5)), (10, x10.enc), (68, (.bool false))] ⟨rfl, rfl, rfl, rfl, trivial⟩ ⟨_, _, _, _, rfl, H⟩

def F.spateref5_Chain_Prune.j2 (Q : Int → H → Prop) (C1 : (Option Addr) → Sl → Int → Sl → Int → H → Prop) (x0 : Option Addr) (x1 : Sl) (x5 : Int) (x6 : Sl) (x7 : Int) (h : H) : Prop :=
  C1 x0 x1 x5 x6 (IntKind.wrap .i64 (x7 + 1)) h
def F.spateref5_Chain_Prune.j4 (Q : Int → H → Prop) (C1 : (Option Addr) → Int → Sl → Sl → Int → H → Prop) (x0 : Option Addr) (x5 : Int) (x6 : Sl) (x9 : Sl) (x10 : Int) (h : H) : Prop :=
  C1 x0 x5 x6 x9 (IntKind.wrap .i64 (x10 + 1)) h
def F.spateref5_Chain_Prune.j5 (Q : Int → H → Prop) (x0 : Option Addr) (x5 : Int) (x9 : Sl) (h : H) : Prop :=
  nn x0 fun a40 =>
  stH h (a40.add 0) [x9.enc] fun h42 =>
  Q (IntKind.wrap .i64 (x5 - (x9.len : Int))) h42
def F.spateref5_Chain_Prune.j6 (Q : Int → H → Prop) (x0 : Option Addr) (x5 : Int) (x9 : Sl) (x69 : Bool) (h : H) : Prop :=
  (x69 = true →
  F.spateref5_Chain_Prune.j5 Q x0 x5 (⟨none, 0, 0⟩ : Sl) h) ∧
  (x69 = false →
  F.spateref5_Chain_Prune.j5 Q x0 x5 x9 h)
def F.spateref5_Chain_Prune.l3 (Q : Int → H → Prop) : Nat → (Option Addr) → Int → Sl → Sl → Int → H → Prop
  | 0, _, _, _, _, _, _ => False
  | q3 + 1, x0, x5, x6, x9, x10, h =>
    ((decide (x10 < x5)) = true →
    idxA x6 x10 1 fun a23 =>
    ldB h a23 fun y25 =>
    (y25 = true →
    nn x0 fun a28 =>
    ldL h (a28.add 0) fun y30 =>
    idxA y30 x10 3 fun a32 =>
    ld_S_spateref5_Version h a32 fun y34 =>
    newL h ((y34.cells).toArray) ty_89 1 fun s37 h36 =>
    runL PP (Builtin.append_ #[62, 62] 62 #[x9.enc, s37.enc]) h36 fun s39 h38 =>
    F.spateref5_Chain_Prune.j4 Q (F.spateref5_Chain_Prune.l3 Q q3) x0 x5 x6 s39 x10 h38) ∧
    (y25 = false →
    F.spateref5_Chain_Prune.j4 Q (F.spateref5_Chain_Prune.l3 Q q3) x0 x5 x6 x9 x10 h)) ∧
    ((decide (x10 < x5)) = false →
    ((((x9.len : Int) == 1)) = true →
    idxA x9 0 3 fun a45 =>
    ldB h (a45.add 2) fun y47 =>
    F.spateref5_Chain_Prune.j6 Q x0 x5 x9 (!y47) h) ∧
    ((((x9.len : Int) == 1)) = false →
    F.spateref5_Chain_Prune.j6 Q x0 x5 x9 false h))
def F.spateref5_Chain_Prune.l1 (Q : Int → H → Prop) : Nat → (Option Addr) → Sl → Int → Sl → Int → H → Prop
  | 0, _, _, _, _, _, _ => False
  | q1 + 1, x0, x1, x5, x6, x7, h =>
    ((decide (x7 < (x1.len : Int))) = true →
    idxA x1 x7 1 fun a12 =>
    ldI .i64 h a12 fun y14 =>
    F.spateref5_Chain_at x0 y14 h fun r17 h16 =>
    ((decide (r17 ≥ 0)) = true →
    idxA x6 r17 1 fun a19 =>
    stH h16 a19 [(.bool true)] fun h21 =>
    F.spateref5_Chain_Prune.j2 Q (F.spateref5_Chain_Prune.l1 Q q1) x0 x1 x5 x6 x7 h21) ∧
    ((decide (r17 ≥ 0)) = false →
    F.spateref5_Chain_Prune.j2 Q (F.spateref5_Chain_Prune.l1 Q q1) x0 x1 x5 x6 x7 h16)) ∧
    ((decide (x7 < (x1.len : Int))) = false →
    ∃ m, F.spateref5_Chain_Prune.l3 Q m x0 x5 x6 (⟨none, 0, 0⟩ : Sl) 0 h)
/-- (*spate/spateref5.Chain).Prune -/
def F.spateref5_Chain_Prune (p0 : Option Addr) (p1 : Sl) (h : H) (Q : Int → H → Prop) : Prop :=
  nn p0 fun a1 =>
  ldL h (a1.add 0) fun y3 =>
  ((((y3.len : Int) == 0)) = true →
  Q 0 h) ∧
  ((((y3.len : Int) == 0)) = false →
  runL PP (Instr.makeSlice 77 (.int .i64 (y3.len : Int)) (.int .i64 (y3.len : Int))) h fun s7 h6 =>
  idxA s7 (IntKind.wrap .i64 ((y3.len : Int) - 1)) 1 fun a8 =>
  stH h6 a8 [(.bool true)] fun h10 =>
  ∃ m, F.spateref5_Chain_Prune.l1 Q m p0 p1 (y3.len : Int) s7 0 h10)
theorem F.spateref5_Chain_Prune_ok {p0 : Option Addr} {p1 : Sl} {h : H} {Q : Int → H → Prop} (H : F.spateref5_Chain_Prune p0 p1 h Q) : Fn PP 50 ([(.pointer p0), p1.enc] : List Value).toArray h fun r h' => ∃ r0, r = (.int .i64 r0) ∧ Q r0 h' := by
  unfold F.spateref5_Chain_Prune at H
  refine fn_of Try.func50 Try.ntmps50 rfl rfl fun w0 => ?_
  refine tr_sub [(0, (.pointer p0)), (1, p1.enc)] ⟨rfl, rfl, trivial⟩ ?_
  refine tr_seq ?_
  refine tr_region ?_
  refine tr_p (y_assign rfl) rfl rfl ?_
  refine tr_nil ?_
  refine tr_thenN ?_
  refine tr_seq ?_
  refine tr_region ?_
  refine tr_p (y_move rfl) rfl rfl ?_
  obtain ⟨a1, e2, H⟩ := H
  refine tr_p (f_nn rfl e2) rfl rfl ?_
  refine tr_p (y_fa (off := 0) Try.runUnderlying64 fo_64_0 rfl) rfl rfl ?_
  obtain ⟨y3, k4, H⟩ := H
  refine tr_h (y_ld Try.isAgg62 rfl) k4 rfl rfl ?_
  refine tr_p (y_len (ts := #[]) Try.runUnderlying62 (o := y3.ptr) (n := y3.len) (cap := y3.cap) rfl) rfl rfl ?_
  refine tr_p (y_assign rfl) rfl rfl ?_
  refine tr_nil ?_
  refine tr_thenN ?_
  refine tr_seq ?_
  refine tr_seq ?_
  refine tr_region ?_
  refine tr_p (y_move rfl) rfl rfl ?_
  refine tr_p (y_eql rfl rfl) rfl rfl ?_
  refine tr_nil ?_
  refine tr_thenN ?_
  refine tr_cond rfl (fun g5 => ?_) (fun g5 => ?_)
  · replace H := H.1 g5
    refine tr_seq ?_
    refine tr_region ?_
    refine tr_p (y_assign rfl) rfl rfl ?_
    refine tr_nil ?_
    refine tr_thenN ?_
    refine tr_ret ?_
    refine tr_thenR ?_
    exact tr_ret1 rfl rfl ⟨_, rfl, H⟩
  · replace H := H.2 g5
    refine tr_skip ?_
    refine tr_thenN ?_
    refine tr_seq ?_
    refine tr_region ?_
    refine tr_p (y_move rfl) rfl rfl ?_
    refine tr_e (f_make rfl rfl H) rfl rfl ?_
    rintro _ h6 ⟨s7, rfl, H⟩
    refine tr_p (y_assign rfl) rfl rfl ?_
    refine tr_nil ?_
    refine tr_thenN ?_
    refine tr_seq ?_
    refine tr_region ?_
    refine tr_p (y_move rfl) rfl rfl ?_
    refine tr_p (y_move rfl) rfl rfl ?_
    refine tr_p (y_sub rfl rfl) rfl rfl ?_
    obtain ⟨a8, e9, H⟩ := H
    refine tr_p (f_idx (s := s7) Try.runUnderlying77 Try.sizeOf4 rfl rfl e9) rfl rfl ?_
    refine tr_e (f_store (vs := [(.bool true)]) Try.sizeOf4 rfl rfl rfl rfl (one1 rfl) H) rfl rfl ?_
    rintro _ h10 ⟨rfl, H⟩
    refine tr_nil ?_
    refine tr_thenN ?_
    refine tr_seq ?_
    refine tr_seq ?_
    refine tr_region ?_
    refine tr_p (y_assign rfl) rfl rfl ?_
    refine tr_nil ?_
    refine tr_thenN ?_
    refine tr_block ?_
    obtain ⟨m50, H⟩ := H
    refine tr_sub [(0, (.pointer p0)), (1, p1.enc), (5, (.int .i64 (y3.len : Int))), (6, s7.enc), (7, (.int .i64 0))] ⟨rfl, rfl, rfl, rfl, rfl, trivial⟩ ?_
    refine tr_loop_j (fun m L' h => ∃ (x0 : Option Addr) (x1 : Sl) (x5 : Int) (x6 : Sl) (x7 : Int), L' = [(0, (.pointer x0)), (1, x1.enc), (5, (.int .i64 x5)), (6, x6.enc), (7, (.int .i64 x7))] ∧ F.spateref5_Chain_Prune.l1 Q m x0 x1 x5 x6 x7 h) ?_ ?_ m50 ⟨_, _, _, _, _, rfl, H⟩
    · rintro L' h ⟨_, _, _, _, _, _, H⟩; exact H
    · rintro q1 L' h ⟨x0, x1, x5, x6, x7, rfl, H⟩
      unfold F.spateref5_Chain_Prune.l1 at H
      refine tr_seq ?_
      refine tr_seq ?_
      refine tr_region ?_
      refine tr_p (y_move rfl) rfl rfl ?_
      refine tr_p (y_move rfl) rfl rfl ?_
      refine tr_p (y_len (ts := #[]) Try.runUnderlying24 (o := x1.ptr) (n := x1.len) (cap := x1.cap) rfl) rfl rfl ?_
      refine tr_p (y_lss rfl rfl) rfl rfl ?_
      refine tr_nil ?_
      refine tr_thenN ?_
      refine tr_cond rfl (fun g11 => ?_) (fun g11 => ?_)
      · replace H := H.1 g11
        refine tr_skip ?_
        refine tr_thenN ?_
        refine tr_seq_j (fun L' h => ∃ (x0 : Option Addr) (x1 : Sl) (x5 : Int) (x6 : Sl) (x7 : Int), L' = [(0, (.pointer x0)), (1, x1.enc), (5, (.int .i64 x5)), (6, x6.enc), (7, (.int .i64 x7))] ∧ F.spateref5_Chain_Prune.j2 Q (F.spateref5_Chain_Prune.l1 Q q1) x0 x1 x5 x6 x7 h) ?_ ?_
        · rintro L' h ⟨x0, x1, x5, x6, x7, rfl, H⟩
          unfold F.spateref5_Chain_Prune.j2 at H
          refine tr_region ?_
          refine tr_p (y_move rfl) rfl rfl ?_
          refine tr_p (y_add rfl rfl) rfl rfl ?_
          refine tr_p (y_assign rfl) rfl rfl ?_
          refine tr_nil ?_
          refine tr_thenN ?_
          exact tr_join [(0, (.pointer x0)), (1, x1.enc), (5, (.int .i64 x5)), (6, x6.enc), (7, (.int .i64 (IntKind.wrap .i64 (x7 + 1))))] ⟨rfl, rfl, rfl, rfl, rfl, trivial⟩ ⟨_, _, _, _, _, rfl, H⟩
        · refine tr_block ?_
          refine tr_seq ?_
          refine tr_region ?_
          refine tr_p (y_move rfl) rfl rfl ?_
          refine tr_p (y_move rfl) rfl rfl ?_
          refine tr_p (y_move rfl) rfl rfl ?_
          obtain ⟨a12, e13, H⟩ := H
          refine tr_p (f_idx (s := x1) Try.runUnderlying24 Try.sizeOf3 rfl rfl e13) rfl rfl ?_
          obtain ⟨y14, k15, H⟩ := H
          refine tr_h (y_ld Try.isAgg3 rfl) k15 rfl rfl ?_
          refine tr_e (e_call Try.call67 rfl (F.spateref5_Chain_at_ok H)) rfl rfl ?_
          rintro _ h16 ⟨r17, rfl, H⟩
          refine tr_p (y_assign rfl) rfl rfl ?_
          refine tr_nil ?_
          refine tr_thenN ?_
          refine tr_seq ?_
          refine tr_region ?_
          refine tr_p (y_move rfl) rfl rfl ?_
          refine tr_p (y_geq rfl rfl) rfl rfl ?_
          refine tr_nil ?_
          refine tr_thenN ?_
          refine tr_cond rfl (fun g18 => ?_) (fun g18 => ?_)
          · replace H := H.1 g18
            refine tr_region ?_
            refine tr_p (y_move rfl) rfl rfl ?_
            refine tr_p (y_move rfl) rfl rfl ?_
            obtain ⟨a19, e20, H⟩ := H
            refine tr_p (f_idx (s := x6) Try.runUnderlying77 Try.sizeOf4 rfl rfl e20) rfl rfl ?_
            refine tr_e (f_store (vs := [(.bool true)]) Try.sizeOf4 rfl rfl rfl rfl (one1 rfl) H) rfl rfl ?_
            rintro _ h21 ⟨rfl, H⟩
            refine tr_nil ?_
            refine tr_blockN ?_
            refine tr_thenN ?_
            exact tr_join [(0, (.pointer x0)), (1, x1.enc), (5, (.int .i64 x5)), (6, x6.enc), (7, (.int .i64 x7))] ⟨rfl, rfl, rfl, rfl, rfl, trivial⟩ ⟨_, _, _, _, _, rfl, H⟩
          · replace H := H.2 g18
            refine tr_skip ?_
            refine tr_blockN ?_
            refine tr_thenN ?_
            exact tr_join [(0, (.pointer x0)), (1, x1.enc), (5, (.int .i64 x5)), (6, x6.enc), (7, (.int .i64 x7))] ⟨rfl, rfl, rfl, rfl, rfl, trivial⟩ ⟨_, _, _, _, _, rfl, H⟩
      · replace H := H.2 g11
        refine tr_exit ?_
        refine tr_thenE ?_
        refine tr_thenE ?_
        refine tr_hit ?_
        refine tr_thenN ?_
        refine tr_seq ?_
        refine tr_region ?_
        refine tr_p (y_assign rfl) rfl rfl ?_
        refine tr_nil ?_
        refine tr_thenN ?_
        refine tr_seq ?_
        refine tr_seq ?_
        refine tr_region ?_
        refine tr_p (y_assign rfl) rfl rfl ?_
        refine tr_nil ?_
        refine tr_thenN ?_
        refine tr_block ?_
        obtain ⟨m49, H⟩ := H
        refine tr_sub [(0, (.pointer x0)), (5, (.int .i64 x5)), (6, x6.enc), (9, (⟨none, 0, 0⟩ : Sl).enc), (10, (.int .i64 0))] ⟨rfl, rfl, rfl, rfl, rfl, trivial⟩ ?_
        refine tr_loop_j (fun m L' h => ∃ (x0 : Option Addr) (x5 : Int) (x6 : Sl) (x9 : Sl) (x10 : Int), L' = [(0, (.pointer x0)), (5, (.int .i64 x5)), (6, x6.enc), (9, x9.enc), (10, (.int .i64 x10))] ∧ F.spateref5_Chain_Prune.l3 Q m x0 x5 x6 x9 x10 h) ?_ ?_ m49 ⟨_, _, _, _, _, rfl, H⟩
        · rintro L' h ⟨_, _, _, _, _, _, H⟩; exact H
        · rintro q3 L' h ⟨x0, x5, x6, x9, x10, rfl, H⟩
          unfold F.spateref5_Chain_Prune.l3 at H
          refine tr_seq ?_
          refine tr_seq ?_
          refine tr_region ?_
          refine tr_p (y_move rfl) rfl rfl ?_
          refine tr_p (y_move rfl) rfl rfl ?_
          refine tr_p (y_lss rfl rfl) rfl rfl ?_
          refine tr_nil ?_
          refine tr_thenN ?_
          refine tr_cond rfl (fun g22 => ?_) (fun g22 => ?_)
          · replace H := H.1 g22
            refine tr_skip ?_
            refine tr_thenN ?_
            refine tr_seq_j (fun L' h => ∃ (x0 : Option Addr) (x5 : Int) (x6 : Sl) (x9 : Sl) (x10 : Int), L' = [(0, (.pointer x0)), (5, (.int .i64 x5)), (6, x6.enc), (9, x9.enc), (10, (.int .i64 x10))] ∧ F.spateref5_Chain_Prune.j4 Q (F.spateref5_Chain_Prune.l3 Q q3) x0 x5 x6 x9 x10 h) ?_ ?_
            · rintro L' h ⟨x0, x5, x6, x9, x10, rfl, H⟩
              unfold F.spateref5_Chain_Prune.j4 at H
              refine tr_region ?_
              refine tr_p (y_move rfl) rfl rfl ?_
              refine tr_p (y_add rfl rfl) rfl rfl ?_
              refine tr_p (y_assign rfl) rfl rfl ?_
              refine tr_nil ?_
              refine tr_thenN ?_
              exact tr_join [(0, (.pointer x0)), (5, (.int .i64 x5)), (6, x6.enc), (9, x9.enc), (10, (.int .i64 (IntKind.wrap .i64 (x10 + 1))))] ⟨rfl, rfl, rfl, rfl, rfl, trivial⟩ ⟨_, _, _, _, _, rfl, H⟩
            · refine tr_block ?_
              refine tr_seq ?_
              refine tr_region ?_
              refine tr_p (y_move rfl) rfl rfl ?_
              refine tr_p (y_move rfl) rfl rfl ?_
              obtain ⟨a23, e24, H⟩ := H
              refine tr_p (f_idx (s := x6) Try.runUnderlying77 Try.sizeOf4 rfl rfl e24) rfl rfl ?_
              obtain ⟨y25, k26, H⟩ := H
              refine tr_h (y_ld Try.isAgg4 rfl) k26 rfl rfl ?_
              refine tr_nil ?_
              refine tr_thenN ?_
              refine tr_cond rfl (fun g27 => ?_) (fun g27 => ?_)
              · replace H := H.1 g27
                refine tr_region ?_
                refine tr_p (y_move rfl) rfl rfl ?_
                refine tr_p (y_move rfl) rfl rfl ?_
                obtain ⟨a28, e29, H⟩ := H
                refine tr_p (f_nn rfl e29) rfl rfl ?_
                refine tr_p (y_fa (off := 0) Try.runUnderlying64 fo_64_0 rfl) rfl rfl ?_
                obtain ⟨y30, k31, H⟩ := H
                refine tr_h (y_ld Try.isAgg62 rfl) k31 rfl rfl ?_
                refine tr_p (y_move rfl) rfl rfl ?_
                obtain ⟨a32, e33, H⟩ := H
                refine tr_p (f_idx (s := y30) Try.runUnderlying62 Try.sizeOf89 rfl rfl e33) rfl rfl ?_
                obtain ⟨y34, k35, H⟩ := H
                refine tr_h (y_ldS Try.isAgg89 Try.sizeOf89 rfl rfl) k35 rfl rfl ?_
                refine tr_e (f_buildL (cs := (y34.cells).toArray) rfl rfl (bl_62_1_0 y34) H) rfl rfl ?_
                rintro _ h36 ⟨s37, rfl, H⟩
                refine tr_e (f_app rfl H) rfl rfl ?_
                rintro _ h38 ⟨s39, rfl, H⟩
                refine tr_p (y_assign rfl) rfl rfl ?_
                refine tr_nil ?_
                refine tr_blockN ?_
                refine tr_thenN ?_
                exact tr_join [(0, (.pointer x0)), (5, (.int .i64 x5)), (6, x6.enc), (9, s39.enc), (10, (.int .i64 x10))] ⟨rfl, rfl, rfl, rfl, rfl, trivial⟩ ⟨_, _, _, _, _, rfl, H⟩
              · replace H := H.2 g27
                refine tr_skip ?_
                refine tr_blockN ?_
                refine tr_thenN ?_
                exact tr_join [(0, (.pointer x0)), (5, (.int .i64 x5)), (6, x6.enc), (9, x9.enc), (10, (.int .i64 x10))] ⟨rfl, rfl, rfl, rfl, rfl, trivial⟩ ⟨_, _, _, _, _, rfl, H⟩
          · replace H := H.2 g22
            refine tr_exit ?_
            refine tr_thenE ?_
            refine tr_thenE ?_
            refine tr_hit ?_
            refine tr_thenN ?_
            refine tr_seq_j (fun L' h => ∃ (x0 : Option Addr) (x5 : Int) (x9 : Sl), L' = [(0, (.pointer x0)), (5, (.int .i64 x5)), (9, x9.enc)] ∧ F.spateref5_Chain_Prune.j5 Q x0 x5 x9 h) ?_ ?_
            · rintro L' h ⟨x0, x5, x9, rfl, H⟩
              unfold F.spateref5_Chain_Prune.j5 at H
              refine tr_seq ?_
              refine tr_region ?_
              refine tr_p (y_move rfl) rfl rfl ?_
              refine tr_p (y_move rfl) rfl rfl ?_
              obtain ⟨a40, e41, H⟩ := H
              refine tr_p (f_nn rfl e41) rfl rfl ?_
              refine tr_p (y_fa (off := 0) Try.runUnderlying64 fo_64_0 rfl) rfl rfl ?_
              refine tr_e (f_store (vs := [x9.enc]) Try.sizeOf62 rfl rfl rfl rfl (one1 rfl) H) rfl rfl ?_
              rintro _ h42 ⟨rfl, H⟩
              refine tr_nil ?_
              refine tr_thenN ?_
              refine tr_seq ?_
              refine tr_region ?_
              refine tr_p (y_move rfl) rfl rfl ?_
              refine tr_p (y_move rfl) rfl rfl ?_
              refine tr_p (y_len (ts := #[]) Try.runUnderlying62 (o := x9.ptr) (n := x9.len) (cap := x9.cap) rfl) rfl rfl ?_
              refine tr_p (y_sub rfl rfl) rfl rfl ?_
              refine tr_p (y_assign rfl) rfl rfl ?_
              refine tr_nil ?_
              refine tr_thenN ?_
              refine tr_ret ?_
              exact tr_ret1 rfl rfl ⟨_, rfl, H⟩
            · refine tr_seq_j (fun L' h => ∃ (x0 : Option Addr) (x5 : Int) (x9 : Sl) (x69 : Bool), L' = [(0, (.pointer x0)), (5, (.int .i64 x5)), (9, x9.enc), (69, (.bool x69))] ∧ F.spateref5_Chain_Prune.j6 Q x0 x5 x9 x69 h) ?_ ?_
              · rintro L' h ⟨x0, x5, x9, x69, rfl, H⟩
                unfold F.spateref5_Chain_Prune.j6 at H
                refine tr_cond rfl (fun g43 => ?_) (fun g43 => ?_)
                · replace H := H.1 g43
                  refine tr_region ?_
                  refine tr_p (y_assign rfl) rfl rfl ?_
                  refine tr_nil ?_
                  refine tr_thenN ?_
                  exact tr_join [(0, (.pointer x0)), (5, (.int .i64 x5)), (9, (⟨none, 0, 0⟩ : Sl).enc)] ⟨rfl, rfl, rfl, trivial⟩ ⟨_, _, _, rfl, H⟩
                · replace H := H.2 g43
                  refine tr_skip ?_
                  refine tr_thenN ?_
                  exact tr_join [(0, (.pointer x0)), (5, (.int .i64 x5)), (9, x9.enc)] ⟨rfl, rfl, rfl, trivial⟩ ⟨_, _, _, rfl, H⟩
              · refine tr_region ?_
                refine tr_p (y_move rfl) rfl rfl ?_
                refine tr_p (y_len (ts := #[]) Try.runUnderlying62 (o := x9.ptr) (n := x9.len) (cap := x9.cap) rfl) rfl rfl ?_
                refine tr_p (y_eql rfl rfl) rfl rfl ?_
                refine tr_p (y_move rfl) rfl rfl ?_
                refine tr_split (t := 63) rfl (fun g44 => ?_) (fun g44 => ?_)
                · replace H := H.1 g44
                  refine tr_p (y_move rfl) rfl rfl ?_
                  obtain ⟨a45, e46, H⟩ := H
                  refine tr_p (f_idx (s := x9) Try.runUnderlying62 Try.sizeOf89 rfl rfl e46) rfl rfl ?_
                  refine tr_p (y_fa (off := 2) Try.runUnderlying89 fo_89_2 rfl) rfl rfl ?_
                  obtain ⟨y47, k48, H⟩ := H
                  refine tr_h (y_ld Try.isAgg4 rfl) k48 rfl rfl ?_
                  refine tr_p (y_not rfl) rfl rfl ?_
                  refine tr_p (y_pick_t rfl rfl) rfl rfl ?_
                  refine tr_nil ?_
                  refine tr_thenN ?_
                  exact tr_join [(0, (.pointer x0)), (5, (.int .i64 x5)), (9, x9.enc), (69, (.bool (!y47)))] ⟨rfl, rfl, rfl, rfl, trivial⟩ ⟨_, _, _, _, rfl, H⟩
                · replace H := H.2 g44
                  refine tr_s rfl rfl ?_
                  refine tr_s rfl rfl ?_
                  refine tr_s rfl rfl ?_
                  refine tr_s rfl rfl ?_
                  refine tr_s rfl rfl ?_
                  refine tr_p (y_pick_f rfl rfl) rfl rfl ?_
                  refine tr_nil ?_
                  refine tr_thenN ?_
                  exact tr_join [(0, (.pointer x0)), (5, (.int .i64 x5)), (9, x9.enc), (69, (.bool false))] ⟨rfl, rfl, rfl, rfl, trivial⟩ ⟨_, _, _, _, rfl, H⟩

/-- slices.Clone[[]spate/chain.version[spate/spatelaw5.Wide],spate/chain.version[spate/spatelaw5.Wide]] -/
def F.slices_Clone_Slchain_version_spatelaw5_Wide_chain_version_spatelaw5_Wide (p0 : Sl) (h : H) (Q : Sl → H → Prop) : Prop :=
  (p0.ptr.isNone = true →
  Q (⟨none, 0, 0⟩ : Sl) h) ∧
  (p0.ptr.isNone = false →
  newL h (([]).toArray) ty_103 0 fun s3 h2 =>
  runL PP (Builtin.append_ #[84, 84] 84 #[s3.enc, p0.enc]) h2 fun s5 h4 =>
  Q s5 h4)
theorem F.slices_Clone_Slchain_version_spatelaw5_Wide_chain_version_spatelaw5_Wide_ok {p0 : Sl} {h : H} {Q : Sl → H → Prop} (H : F.slices_Clone_Slchain_version_spatelaw5_Wide_chain_version_spatelaw5_Wide p0 h Q) : Fn PP 68 ([p0.enc] : List Value).toArray h fun r h' => ∃ r0, r = r0.enc ∧ Q r0 h' := by
  unfold F.slices_Clone_Slchain_version_spatelaw5_Wide_chain_version_spatelaw5_Wide at H
  refine fn_of Try.func68 Try.ntmps68 rfl rfl fun w0 => ?_
  refine tr_sub [(0, p0.enc)] ⟨rfl, trivial⟩ ?_
  refine tr_seq ?_
  refine tr_region ?_
  refine tr_p (y_assign rfl) rfl rfl ?_
  refine tr_nil ?_
  refine tr_thenN ?_
  refine tr_seq ?_
  refine tr_seq ?_
  refine tr_region ?_
  refine tr_p (y_move rfl) rfl rfl ?_
  refine tr_p (y_lnil_eql Try.runUnderlying84 (s := p0) rfl rfl) rfl rfl ?_
  refine tr_nil ?_
  refine tr_thenN ?_
  refine tr_cond rfl (fun g1 => ?_) (fun g1 => ?_)
  · replace H := H.1 g1
    refine tr_seq ?_
    refine tr_region ?_
    refine tr_p (y_assign rfl) rfl rfl ?_
    refine tr_nil ?_
    refine tr_thenN ?_
    refine tr_ret ?_
    refine tr_thenR ?_
    exact tr_ret1 rfl rfl ⟨_, rfl, H⟩
  · replace H := H.2 g1
    refine tr_skip ?_
    refine tr_thenN ?_
    refine tr_seq ?_
    refine tr_region ?_
    refine tr_e (f_buildL (cs := ([]).toArray) rfl rfl (bl_84_0_) H) rfl rfl ?_
    rintro _ h2 ⟨s3, rfl, H⟩
    refine tr_p (y_move rfl) rfl rfl ?_
    refine tr_e (f_app rfl H) rfl rfl ?_
    rintro _ h4 ⟨s5, rfl, H⟩
    refine tr_p (y_assign rfl) rfl rfl ?_
    refine tr_nil ?_
    refine tr_thenN ?_
    refine tr_ret ?_
    exact tr_ret1 rfl rfl ⟨_, rfl, H⟩

end Go.Proofs.Ytapomjhjpejimaa.V
