/- Printed by a program of this session (gen.py): Go functions as Lean functions over the heap, and that the Go code does what they say; no condition. -/
import Derived.Test.YtapomjhjpejimaaGlx2
namespace Go.Proofs.Ytapomjhjpejimaa.V
open Go
set_option linter.unusedVariables false
set_option maxRecDepth 100000
def F.chain_Chain_spatelaw5_Wide_All_1.l1 (Q : H → Prop) : Nat → Value → Sl → Int → Int → H → Prop
  | 0, _, _, _, _, _ => False
  | q1 + 1, x0, x5, x6, x7, h =>
    ((decide (x7 < x6)) = true →
    idxA x5 x7 4 fun a4 =>
    ld_S_chain_version_spatelaw5_Wide h a4 fun y6 =>
    new h (((⟨0, (⟨0, (⟨#[]⟩ : ByteArray)⟩ : S_spatelaw5_Wide), false⟩ : S_chain_version_spatelaw5_Wide) : S_chain_version_spatelaw5_Wide).cells.toArray) ty_103 fun a9 h8 =>
    stH h8 a9 y6.cells fun h10 =>
    ldI .i64 h10 (a9.add 0) fun y11 =>
    ldB h10 (a9.add 3) fun y13 =>
    CV PP x0 [(.int .i64 y11), (.bool (!y13))] h10 fun u h15 => ∃ (r16 : Bool), u = (.bool r16) ∧
    ((!r16) = true →
    Q h15) ∧
    ((!r16) = false →
    (F.chain_Chain_spatelaw5_Wide_All_1.l1 Q q1) x0 x5 x6 (IntKind.wrap .i64 (x7 + 1)) h15)) ∧
    ((decide (x7 < x6)) = false →
    Q h)
/-- (*spate/chain.Chain[spate/spatelaw5.Wide]).All$1 -/
def F.chain_Chain_spatelaw5_Wide_All_1 (p0 : Value) (p1 : Addr) (h : H) (Q : H → Prop) : Prop :=
  ldL h p1 fun y1 =>
  ∃ m, F.chain_Chain_spatelaw5_Wide_All_1.l1 Q m p0 y1 (y1.len : Int) 0 h
theorem F.chain_Chain_spatelaw5_Wide_All_1_ok {p0 : Value} {p1 : Addr} {h : H} {Q : H → Prop} (H : F.chain_Chain_spatelaw5_Wide_All_1 p0 p1 h Q) : Fn PP 69 ([p0, (.pointer (some p1))] : List Value).toArray h fun r h' => r = .tuple #[] ∧ Q  h' := by
  unfold F.chain_Chain_spatelaw5_Wide_All_1 at H
  refine fn_of Try.func69 Try.ntmps69 rfl rfl fun w0 => ?_
  refine tr_sub [(0, p0), (1, (.pointer (some p1)))] ⟨rfl, rfl, trivial⟩ ?_
  refine tr_seq ?_
  refine tr_region ?_
  obtain ⟨y1, k2, H⟩ := H
  refine tr_h (y_ld Try.isAgg84 rfl) k2 rfl rfl ?_
  refine tr_p (y_len (ts := #[]) Try.runUnderlying84 (o := y1.ptr) (n := y1.len) (cap := y1.cap) rfl) rfl rfl ?_
  refine tr_p (y_move rfl) rfl rfl ?_
  refine tr_nil ?_
  refine tr_thenN ?_
  refine tr_block ?_
  obtain ⟨m18, H⟩ := H
  refine tr_sub [(0, p0), (5, y1.enc), (6, (.int .i64 (y1.len : Int))), (7, (.int .i64 0))] ⟨rfl, rfl, rfl, rfl, trivial⟩ ?_
  refine tr_loop_j (fun m L' h => ∃ (x0 : Value) (x5 : Sl) (x6 : Int) (x7 : Int), L' = [(0, x0), (5, x5.enc), (6, (.int .i64 x6)), (7, (.int .i64 x7))] ∧ F.chain_Chain_spatelaw5_Wide_All_1.l1 Q m x0 x5 x6 x7 h) ?_ ?_ m18 ⟨_, _, _, _, rfl, H⟩
  · rintro L' h ⟨_, _, _, _, _, H⟩; exact H
  · rintro q1 L' h ⟨x0, x5, x6, x7, rfl, H⟩
    unfold F.chain_Chain_spatelaw5_Wide_All_1.l1 at H
    refine tr_seq ?_
    refine tr_region ?_
    refine tr_p (y_lss rfl rfl) rfl rfl ?_
    refine tr_nil ?_
    refine tr_thenN ?_
    refine tr_seq ?_
    refine tr_cond rfl (fun g3 => ?_) (fun g3 => ?_)
    · replace H := H.1 g3
      refine tr_skip ?_
      refine tr_thenN ?_
      refine tr_seq ?_
      refine tr_block ?_
      refine tr_seq ?_
      refine tr_region ?_
      obtain ⟨a4, e5, H⟩ := H
      refine tr_p (f_idx (s := x5) Try.runUnderlying84 Try.sizeOf103 rfl rfl e5) rfl rfl ?_
      obtain ⟨y6, k7, H⟩ := H
      refine tr_h (y_ldS Try.isAgg103 Try.sizeOf103 rfl rfl) k7 rfl rfl ?_
      refine tr_e (f_alloc (cs := ((⟨0, (⟨0, (⟨#[]⟩ : ByteArray)⟩ : S_spatelaw5_Wide), false⟩ : S_chain_version_spatelaw5_Wide) : S_chain_version_spatelaw5_Wide).cells.toArray) Try.zeroValue103 rfl H) rfl rfl ?_
      rintro _ h8 ⟨a9, rfl, H⟩
      refine tr_e (f_store (vs := y6.cells) Try.sizeOf103 rfl rfl cellsOfStruct rfl (by intro v hv; exact ones_S_chain_version_spatelaw5_Wide _ v hv) H) rfl rfl ?_
      rintro _ h10 ⟨rfl, H⟩
      refine tr_nil ?_
      refine tr_thenN ?_
      refine tr_seq ?_
      refine tr_region ?_
      refine tr_p (y_move rfl) rfl rfl ?_
      refine tr_p (y_fa (off := 0) Try.runUnderlying103 fo_103_0 rfl) rfl rfl ?_
      obtain ⟨y11, k12, H⟩ := H
      refine tr_h (y_ld Try.isAgg3 rfl) k12 rfl rfl ?_
      refine tr_p (y_fa (off := 3) Try.runUnderlying103 fo_103_2 rfl) rfl rfl ?_
      obtain ⟨y13, k14, H⟩ := H
      refine tr_h (y_ld Try.isAgg4 rfl) k14 rfl rfl ?_
      refine tr_p (y_not rfl) rfl rfl ?_
      refine tr_e (e_callD rfl rfl H) rfl rfl ?_
      rintro _ h15 ⟨r16, rfl, H⟩
      refine tr_p (y_not rfl) rfl rfl ?_
      refine tr_nil ?_
      refine tr_thenN ?_
      refine tr_cond rfl (fun g17 => ?_) (fun g17 => ?_)
      · replace H := H.1 g17
        refine tr_ret ?_
        refine tr_blockR ?_
        refine tr_thenR ?_
        refine tr_thenR ?_
        refine tr_blockR ?_
        exact tr_ret0 rfl ⟨rfl, H⟩
      · replace H := H.2 g17
        refine tr_skip ?_
        refine tr_blockN ?_
        refine tr_thenN ?_
        refine tr_region ?_
        refine tr_p (y_add rfl rfl) rfl rfl ?_
        refine tr_p (y_move rfl) rfl rfl ?_
        refine tr_nil ?_
        refine tr_thenN ?_
        exact tr_join [(0, x0), (5, x5.enc), (6, (.int .i64 x6)), (7, (.int .i64 (IntKind.wrap .i64 (x7 + 1))))] ⟨rfl, rfl, rfl, rfl, trivial⟩ ⟨_, _, _, _, rfl, H⟩
    · replace H := H.2 g3
      refine tr_exit ?_
      refine tr_thenE ?_
      refine tr_thenE ?_
      refine tr_hit ?_
      exact tr_end0 rfl ⟨rfl, H⟩

/-- (*spate/chain.Chain[spate/spatelaw5.Wide]).All -/
def F.chain_Chain_spatelaw5_Wide_All (p0 : Option Addr) (h : H) (Q : Value → H → Prop) : Prop :=
  nn p0 fun a1 =>
  ldL h (a1.add 0) fun y3 =>
  F.slices_Clone_Slchain_version_spatelaw5_Wide_chain_version_spatelaw5_Wide y3 h fun r6 h5 =>
  new h5 #[(⟨none, 0, 0⟩ : Sl).enc] ty_84 fun a8 h7 =>
  stH h7 a8 [r6.enc] fun h9 =>
  Q (.func (.func 69) #[] #[(.pointer (some a8))]) h9
theorem F.chain_Chain_spatelaw5_Wide_All_ok {p0 : Option Addr} {h : H} {Q : Value → H → Prop} (H : F.chain_Chain_spatelaw5_Wide_All p0 h Q) : Fn PP 52 ([(.pointer p0)] : List Value).toArray h fun r h' => ∃ r0, r = r0 ∧ Q r0 h' := by
  unfold F.chain_Chain_spatelaw5_Wide_All at H
  refine fn_of Try.func52 Try.ntmps52 rfl rfl fun w0 => ?_
  refine tr_sub [(0, (.pointer p0))] ⟨rfl, trivial⟩ ?_
  refine tr_seq ?_
  refine tr_region ?_
  refine tr_p (y_assign rfl) rfl rfl ?_
  refine tr_nil ?_
  refine tr_thenN ?_
  refine tr_seq ?_
  refine tr_region ?_
  refine tr_p (y_move rfl) rfl rfl ?_
  obtain ⟨a1, e2, H⟩ := H
  refine tr_p (f_nn rfl e2) rfl rfl ?_
  refine tr_p (y_fa (off := 0) Try.runUnderlying86 fo_86_0 rfl) rfl rfl ?_
  obtain ⟨y3, k4, H⟩ := H
  refine tr_h (y_ld Try.isAgg84 rfl) k4 rfl rfl ?_
  refine tr_e (e_call Try.call68 rfl (F.slices_Clone_Slchain_version_spatelaw5_Wide_chain_version_spatelaw5_Wide_ok H)) rfl rfl ?_
  rintro _ h5 ⟨r6, rfl, H⟩
  refine tr_e (f_alloc (cs := #[(⟨none, 0, 0⟩ : Sl).enc]) Try.zeroValue84 rfl H) rfl rfl ?_
  rintro _ h7 ⟨a8, rfl, H⟩
  refine tr_e (f_store (vs := [r6.enc]) Try.sizeOf84 rfl rfl rfl rfl (one1 rfl) H) rfl rfl ?_
  rintro _ h9 ⟨rfl, H⟩
  refine tr_nil ?_
  refine tr_thenN ?_
  refine tr_seq ?_
  refine tr_region ?_
  refine tr_p (y_fn rfl rfl) rfl rfl ?_
  refine tr_p (y_assign rfl) rfl rfl ?_
  refine tr_nil ?_
  refine tr_thenN ?_
  refine tr_ret ?_
  exact tr_ret1 rfl rfl ⟨_, rfl, H⟩

def F.spatelaw5_World_all.j3 (Q : Bool → H → Prop) (C1 : List Nat → Addr → Addr → Value → Value → Int → H → Prop) (ds : List Nat) (x1 : Addr) (x2 : Addr) (x3 : Value) (x4 : Value) (x5 : Int) (h : H) : Prop :=
  C1 ds x1 x2 x3 x4 (IntKind.wrap .i64 (x5 + 1)) h
def F.spatelaw5_World_all.j4 (Q : Bool → H → Prop) (K1 : H → Prop) (J1 : Nat → H → Prop) (l1 : Nat) (x6 : Addr) (h : H) : Prop :=
  ldI .i64 h x6 fun y26 =>
  stH h x6 [(.int .i64 (IntKind.wrap .i64 (y26 + 1)))] fun h28 =>
  K1 h28
def F.spatelaw5_World_all.j5 (Q : Bool → H → Prop) (K1 : H → Prop) (J1 : Nat → H → Prop) (l1 : Nat) (x2 : Addr) (x6 : Addr) (x74 : Bool) (h : H) : Prop :=
  (x74 = true →
  stH h x2 [(.bool false)] fun h30 =>
  J1 0 h30) ∧
  (x74 = false →
  F.spatelaw5_World_all.j4 Q K1 J1 l1 x6 h)
def F.spatelaw5_World_all.j6 (Q : Bool → H → Prop) (K2 : H → Prop) (J2 : Nat → H → Prop) (l2 : Nat) (x9 : Addr) (h : H) : Prop :=
  ldI .i64 h x9 fun y82 =>
  stH h x9 [(.int .i64 (IntKind.wrap .i64 (y82 + 1)))] fun h84 =>
  K2 h84
def F.spatelaw5_World_all.j7 (Q : Bool → H → Prop) (K2 : H → Prop) (J2 : Nat → H → Prop) (l2 : Nat) (x2 : Addr) (x9 : Addr) (x119 : Bool) (h : H) : Prop :=
  (x119 = true →
  stH h x2 [(.bool false)] fun h86 =>
  J2 0 h86) ∧
  (x119 = false →
  F.spatelaw5_World_all.j6 Q K2 J2 l2 x9 h)
def F.spatelaw5_World_all.j8 (Q : Bool → H → Prop) (C1 : List Nat → Addr → Addr → Value → Value → Int → H → Prop) (ds : List Nat) (x1 : Addr) (x2 : Addr) (x3 : Value) (x4 : Value) (x5 : Int) (x143 : Bool) (h : H) : Prop :=
  (x143 = true →
  stH h x2 [(.bool false)] fun h135 =>
  shuts ds h135 fun h136 =>
  ldB h136 x2 fun y137 =>
  Q y137 h136) ∧
  (x143 = false →
  F.spatelaw5_World_all.j3 Q C1 ds x1 x2 x3 x4 x5 h)
def F.spatelaw5_World_all.l2 (Q : Bool → H → Prop) : Nat → List Nat → Addr → Addr → Value → Value → Int → H → Prop
  | 0, _, _, _, _, _, _, _ => False
  | q2 + 1, ds, x1, x2, x3, x4, x5, h =>
    ((decide (x5 < 2)) = true →
    new h #[(.int .i64 0)] ty_3 fun a23 h22 =>
    stH h22 a23 [(.int .i64 0)] fun h24 =>
    rng PP x3 h24 [Code.ret] (fun bg1 l1 args h K1 J1 => ∃ (y1_33 : Int), ∃ (y1_34 : Bool), args = [(.int .i64 y1_33), (.bool y1_34)] ∧
      bg1 h fun h25 =>
      ldI .i64 h25 a23 fun y31 =>
      ldP h25 x1 fun y33 =>
      nn y33 fun a35 =>
      ldP h25 (a35.add 2) fun y37 =>
      nn y37 fun a39 =>
      ldL h25 (a39.add 0) fun y41 =>
      ((decide (y31 ≥ (y41.len : Int))) = true →
      F.spatelaw5_World_all.j5 Q K1 J1 l1 x2 a23 true h25) ∧
      ((decide (y31 ≥ (y41.len : Int))) = false →
      ldP h25 x1 fun y44 =>
      nn y44 fun a46 =>
      ldP h25 (a46.add 2) fun y48 =>
      nn y48 fun a50 =>
      ldL h25 (a50.add 0) fun y52 =>
      ldI .i64 h25 a23 fun y54 =>
      idxA y52 y54 3 fun a56 =>
      ldI .i64 h25 (a56.add 0) fun y58 =>
      (((y58 != y1_33)) = true →
      F.spatelaw5_World_all.j5 Q K1 J1 l1 x2 a23 true h25) ∧
      (((y58 != y1_33)) = false →
      ldP h25 x1 fun y61 =>
      nn y61 fun a63 =>
      ldP h25 (a63.add 2) fun y65 =>
      nn y65 fun a67 =>
      ldL h25 (a67.add 0) fun y69 =>
      ldI .i64 h25 a23 fun y71 =>
      idxA y69 y71 3 fun a73 =>
      ldB h25 (a73.add 2) fun y75 =>
      F.spatelaw5_World_all.j5 Q K1 J1 l1 x2 a23 (!(y75 == y1_34)) h25))) (fun h77 =>
      new h77 #[(.int .i64 0)] ty_3 fun a79 h78 =>
      stH h78 a79 [(.int .i64 0)] fun h80 =>
      rng PP x4 h80 [Code.ret] (fun bg2 l2 args h K2 J2 => ∃ (y2_78 : Int), ∃ (y2_79 : Bool), args = [(.int .i64 y2_78), (.bool y2_79)] ∧
        bg2 h fun h81 =>
        ldI .i64 h81 a79 fun y87 =>
        ldP h81 x1 fun y89 =>
        nn y89 fun a91 =>
        ldP h81 (a91.add 2) fun y93 =>
        nn y93 fun a95 =>
        ldL h81 (a95.add 0) fun y97 =>
        ((decide (y87 ≥ (y97.len : Int))) = true →
        F.spatelaw5_World_all.j7 Q K2 J2 l2 x2 a79 true h81) ∧
        ((decide (y87 ≥ (y97.len : Int))) = false →
        ldP h81 x1 fun y100 =>
        nn y100 fun a102 =>
        ldP h81 (a102.add 2) fun y104 =>
        nn y104 fun a106 =>
        ldL h81 (a106.add 0) fun y108 =>
        ldI .i64 h81 a79 fun y110 =>
        idxA y108 y110 3 fun a112 =>
        ldI .i64 h81 (a112.add 0) fun y114 =>
        (((y114 != y2_78)) = true →
        F.spatelaw5_World_all.j7 Q K2 J2 l2 x2 a79 true h81) ∧
        (((y114 != y2_78)) = false →
        ldP h81 x1 fun y117 =>
        nn y117 fun a119 =>
        ldP h81 (a119.add 2) fun y121 =>
        nn y121 fun a123 =>
        ldL h81 (a123.add 0) fun y125 =>
        ldI .i64 h81 a79 fun y127 =>
        idxA y125 y127 3 fun a129 =>
        ldB h81 (a129.add 2) fun y131 =>
        F.spatelaw5_World_all.j7 Q K2 J2 l2 x2 a79 (!(y131 == y2_79)) h81))) (fun h133 =>
        ldI .i64 h133 a23 fun y139 =>
        ldP h133 x1 fun y141 =>
        nn y141 fun a143 =>
        ldP h133 (a143.add 2) fun y145 =>
        nn y145 fun a147 =>
        ldL h133 (a147.add 0) fun y149 =>
        (((y139 != (y149.len : Int))) = true →
        F.spatelaw5_World_all.j8 Q (F.spatelaw5_World_all.l2 Q q2) (h80.size :: (h24.size :: ds)) x1 x2 x3 x4 x5 true h133) ∧
        (((y139 != (y149.len : Int))) = false →
        ldI .i64 h133 a79 fun y152 =>
        ldP h133 x1 fun y154 =>
        nn y154 fun a156 =>
        ldP h133 (a156.add 2) fun y158 =>
        nn y158 fun a160 =>
        ldL h133 (a160.add 0) fun y162 =>
        F.spatelaw5_World_all.j8 Q (F.spatelaw5_World_all.l2 Q q2) (h80.size :: (h24.size :: ds)) x1 x2 x3 x4 x5 ((y152 != (y162.len : Int))) h133)) (fun jj h164 =>
        (jj = 0 →
          shuts (h80.size :: (h24.size :: ds)) h164 fun h165 =>
          ldB h165 x2 fun y166 =>
          Q y166 h165))) (fun jj h168 =>
      (jj = 0 →
        shuts (h24.size :: ds) h168 fun h169 =>
        ldB h169 x2 fun y170 =>
        Q y170 h169))) ∧
    ((decide (x5 < 2)) = false →
    stH h x2 [(.bool true)] fun h172 =>
    shuts ds h172 fun h173 =>
    ldB h173 x2 fun y174 =>
    Q y174 h173)
def F.spatelaw5_World_all.j1 (Q : Bool → H → Prop) (ds : List Nat) (x1 : Addr) (x2 : Addr) (x3 : Value) (x4 : Value) (h : H) : Prop :=
  ∃ m, F.spatelaw5_World_all.l2 Q m ds x1 x2 x3 x4 0 h
def F.spatelaw5_World_all.j9 (Q : Bool → H → Prop) (ds : List Nat) (x1 : Addr) (x2 : Addr) (x3 : Value) (x4 : Value) (x27 : Bool) (h : H) : Prop :=
  (x27 = true →
  stH h x2 [(.bool false)] fun h178 =>
  shuts ds h178 fun h179 =>
  ldB h179 x2 fun y180 =>
  Q y180 h179) ∧
  (x27 = false →
  F.spatelaw5_World_all.j1 Q ds x1 x2 x3 x4 h)
/-- (*spate/spatelaw5.World).all -/
def F.spatelaw5_World_all (p0 : Option Addr) (h : H) (Q : Bool → H → Prop) : Prop :=
  new h #[(.pointer p0)] ty_56 fun a2 h1 =>
  new h1 #[(.bool false)] ty_4 fun a4 h3 =>
  ldP h3 a2 fun y5 =>
  nn y5 fun a7 =>
  ldP h3 (a7.add 0) fun y9 =>
  F.chain_Chain_int_All y9 h3 fun r12 h11 =>
  ldP h11 a2 fun y13 =>
  nn y13 fun a15 =>
  ldP h11 (a15.add 1) fun y17 =>
  F.chain_Chain_spatelaw5_Wide_All y17 h11 fun r20 h19 =>
  (r12 = .nilFunc ∨ isF r12) ∧
  ((isNilF r12) = true →
  F.spatelaw5_World_all.j9 Q ([] : List Nat) a2 a4 r12 r20 true h19) ∧
  ((isNilF r12) = false →
  (r20 = .nilFunc ∨ isF r20) ∧
  F.spatelaw5_World_all.j9 Q ([] : List Nat) a2 a4 r12 r20 (isNilF r20) h19)
theorem F.spatelaw5_World_all_ok {p0 : Option Addr} {h : H} {Q : Bool → H → Prop} (H : F.spatelaw5_World_all p0 h Q) : Fn PP 34 ([(.pointer p0)] : List Value).toArray h fun r h' => ∃ r0, r = (.bool r0) ∧ Q r0 h' := by
  unfold F.spatelaw5_World_all at H
  refine fn_ofM Try.func34 Try.ntmps34 rfl rfl fun w0 => ?_
  refine tr_sub [(0, (.pointer p0))] ⟨rfl, trivial⟩ ?_
  refine tr_seq ?_
  refine tr_region ?_
  refine tr_e (f_box (cs := #[(.pointer p0)]) rfl rfl H) rfl rfl ?_
  rintro _ h1 ⟨a2, rfl, H⟩
  refine tr_e (f_alloc (cs := #[(.bool false)]) Try.zeroValue4 rfl H) rfl rfl ?_
  rintro _ h3 ⟨a4, rfl, H⟩
  refine tr_nil ?_
  refine tr_thenN ?_
  refine tr_seq ?_
  refine tr_region ?_
  obtain ⟨y5, k6, H⟩ := H
  refine tr_h (y_ld Try.isAgg56 rfl) k6 rfl rfl ?_
  obtain ⟨a7, e8, H⟩ := H
  refine tr_p (f_nn rfl e8) rfl rfl ?_
  refine tr_p (y_fa (off := 0) Try.runUnderlying66 fo_66_0 rfl) rfl rfl ?_
  obtain ⟨y9, k10, H⟩ := H
  refine tr_h (y_ld Try.isAgg25 rfl) k10 rfl rfl ?_
  refine tr_e (e_call Try.call26 rfl (F.chain_Chain_int_All_ok H)) rfl rfl ?_
  rintro r12 h11 ⟨_, rfl, H⟩
  refine tr_p (y_assign rfl) rfl rfl ?_
  refine tr_nil ?_
  refine tr_thenN ?_
  refine tr_seq ?_
  refine tr_region ?_
  obtain ⟨y13, k14, H⟩ := H
  refine tr_h (y_ld Try.isAgg56 rfl) k14 rfl rfl ?_
  obtain ⟨a15, e16, H⟩ := H
  refine tr_p (f_nn rfl e16) rfl rfl ?_
  refine tr_p (y_fa (off := 1) Try.runUnderlying66 fo_66_1 rfl) rfl rfl ?_
  obtain ⟨y17, k18, H⟩ := H
  refine tr_h (y_ld Try.isAgg57 rfl) k18 rfl rfl ?_
  refine tr_e (e_call Try.call52 rfl (F.chain_Chain_spatelaw5_Wide_All_ok H)) rfl rfl ?_
  rintro r20 h19 ⟨_, rfl, H⟩
  refine tr_p (y_assign rfl) rfl rfl ?_
  refine tr_nil ?_
  refine tr_thenN ?_
  refine tr_seq_jD (fun ds L' h => ∃ (x1 : Addr) (x2 : Addr) (x3 : Value) (x4 : Value), L' = [(1, (.pointer (some x1))), (2, (.pointer (some x2))), (3, x3), (4, x4)] ∧ F.spatelaw5_World_all.j1 Q ds x1 x2 x3 x4 h) ?_ ?_
  · rintro ds L' h ⟨x1, x2, x3, x4, rfl, H⟩
    unfold F.spatelaw5_World_all.j1 at H
    refine tr_seq ?_
    refine tr_seq ?_
    refine tr_region ?_
    refine tr_p (y_assign rfl) rfl rfl ?_
    refine tr_nil ?_
    refine tr_thenN ?_
    refine tr_block ?_
    obtain ⟨m176, H⟩ := H
    refine tr_sub [(1, (.pointer (some x1))), (2, (.pointer (some x2))), (3, x3), (4, x4), (5, (.int .i64 0))] ⟨rfl, rfl, rfl, rfl, rfl, trivial⟩ ?_
    refine tr_loop_jD (fun m ds L' h => ∃ (x1 : Addr) (x2 : Addr) (x3 : Value) (x4 : Value) (x5 : Int), L' = [(1, (.pointer (some x1))), (2, (.pointer (some x2))), (3, x3), (4, x4), (5, (.int .i64 x5))] ∧ F.spatelaw5_World_all.l2 Q m ds x1 x2 x3 x4 x5 h) ?_ ?_ m176 ds rfl ⟨_, _, _, _, _, rfl, H⟩
    · rintro ds L' h ⟨_, _, _, _, _, _, H⟩; exact H
    · rintro q2 ds L' h ⟨x1, x2, x3, x4, x5, rfl, H⟩
      unfold F.spatelaw5_World_all.l2 at H
      refine tr_seq ?_
      refine tr_seq ?_
      refine tr_region ?_
      refine tr_p (y_move rfl) rfl rfl ?_
      refine tr_p (y_lss rfl rfl) rfl rfl ?_
      refine tr_nil ?_
      refine tr_thenN ?_
      refine tr_cond rfl (fun g21 => ?_) (fun g21 => ?_)
      · replace H := H.1 g21
        refine tr_skip ?_
        refine tr_thenN ?_
        refine tr_seq_jD (fun ds L' h => ∃ (x1 : Addr) (x2 : Addr) (x3 : Value) (x4 : Value) (x5 : Int), L' = [(1, (.pointer (some x1))), (2, (.pointer (some x2))), (3, x3), (4, x4), (5, (.int .i64 x5))] ∧ F.spatelaw5_World_all.j3 Q (F.spatelaw5_World_all.l2 Q q2) ds x1 x2 x3 x4 x5 h) ?_ ?_
        · rintro ds L' h ⟨x1, x2, x3, x4, x5, rfl, H⟩
          unfold F.spatelaw5_World_all.j3 at H
          refine tr_region ?_
          refine tr_p (y_move rfl) rfl rfl ?_
          refine tr_p (y_add rfl rfl) rfl rfl ?_
          refine tr_p (y_assign rfl) rfl rfl ?_
          refine tr_nil ?_
          refine tr_thenN ?_
          exact tr_joinD ds [(1, (.pointer (some x1))), (2, (.pointer (some x2))), (3, x3), (4, x4), (5, (.int .i64 (IntKind.wrap .i64 (x5 + 1))))] rfl ⟨rfl, rfl, rfl, rfl, rfl, trivial⟩ ⟨_, _, _, _, _, rfl, H⟩
        · refine tr_block ?_
          refine tr_seq ?_
          refine tr_region ?_
          refine tr_e (f_alloc (cs := #[(.int .i64 0)]) Try.zeroValue3 rfl H) rfl rfl ?_
          rintro _ h22 ⟨a23, rfl, H⟩
          refine tr_e (f_store (vs := [(.int .i64 0)]) Try.sizeOf3 rfl rfl rfl rfl (one1 rfl) H) rfl rfl ?_
          rintro _ h24 ⟨rfl, H⟩
          refine tr_nil ?_
          refine tr_thenN ?_
          refine tr_seq ?_
          refine tr_seq ?_
          refine tr_region ?_
          refine tr_p (y_move rfl) rfl rfl ?_
          refine tr_nil ?_
          refine tr_thenN ?_
          refine tr_block ?_
          refine tr_range rfl (by kernel_rfl) H ?_ ?_ ?_
          · intro bg1 l1 args h K1 J1 w1 hbg1 H
            obtain ⟨y1_33, y1_34, rfl, H⟩ := H
            refine ⟨rfl, ?_⟩
            refine tr_sub [(1, (.pointer (some x1))), (2, (.pointer (some x2))), (3, x3), (4, x4), (5, (.int .i64 x5)), (28, (.int .i64 x5)), (29, (.bool (decide (x5 < 2)))), (6, (.pointer (some a23))), (32, x3), (33, (.int .i64 y1_33)), (34, (.bool y1_34))] ⟨rfl, rfl, rfl, rfl, rfl, rfl, rfl, rfl, rfl, rfl, rfl, trivial⟩ ?_
            refine tr_seq ?_
            refine tr_region ?_
            refine tr_p (y_assign rfl) rfl rfl ?_
            refine tr_nil ?_
            refine tr_thenN ?_
            refine tr_region ?_
            refine tr_p (y_assign rfl) rfl rfl ?_
            refine tr_nil ?_
            refine tr_thenN ?_
            refine tr_bgn hbg1 H fun h25 H => ?_
            refine tr_block ?_
            refine tr_seq_j (fun L' h => ∃ (x6 : Addr), L' = [(6, (.pointer (some x6)))] ∧ F.spatelaw5_World_all.j4 Q K1 J1 l1 x6 h) ?_ ?_
            · rintro L' h ⟨x6, rfl, H⟩
              unfold F.spatelaw5_World_all.j4 at H
              refine tr_region ?_
              obtain ⟨y26, k27, H⟩ := H
              refine tr_h (y_ld Try.isAgg3 rfl) k27 rfl rfl ?_
              refine tr_p (y_add rfl rfl) rfl rfl ?_
              refine tr_e (f_store (vs := [(.int .i64 (IntKind.wrap .i64 (y26 + 1)))]) Try.sizeOf3 rfl rfl rfl rfl (one1 rfl) H) rfl rfl ?_
              rintro _ h28 ⟨rfl, H⟩
              refine tr_nil ?_
              refine tr_blockN ?_
              exact tr_rN H
            · refine tr_seq_j (fun L' h => ∃ (x2 : Addr) (x6 : Addr) (x74 : Bool), L' = [(2, (.pointer (some x2))), (6, (.pointer (some x6))), (74, (.bool x74))] ∧ F.spatelaw5_World_all.j5 Q K1 J1 l1 x2 x6 x74 h) ?_ ?_
              · rintro L' h ⟨x2, x6, x74, rfl, H⟩
                unfold F.spatelaw5_World_all.j5 at H
                refine tr_cond rfl (fun g29 => ?_) (fun g29 => ?_)
                · replace H := H.1 g29
                  refine tr_seq ?_
                  refine tr_region ?_
                  refine tr_e (f_store (vs := [(.bool false)]) Try.sizeOf4 rfl rfl rfl rfl (one1 rfl) H) rfl rfl ?_
                  rintro _ h30 ⟨rfl, H⟩
                  refine tr_nil ?_
                  refine tr_thenN ?_
                  refine tr_ret ?_
                  refine tr_thenR ?_
                  refine tr_blockR ?_
                  exact tr_rR 0 rfl H
                · replace H := H.2 g29
                  refine tr_skip ?_
                  refine tr_thenN ?_
                  exact tr_join [(6, (.pointer (some x6)))] ⟨rfl, trivial⟩ ⟨_, rfl, H⟩
              · refine tr_draw mixed [0, 0, 2, 6, 14, 30, 62, 126, 254, 511, 1023, 2047, 4095, 8191, 16383, 32767, 65535, 131071, 2047, 524287, 1048575, 2097151, 2047, 8388607, 16777215, 33554431, 67108863, 134217727, 268435455, 536870911, 1073741823, 2147483647, 4294967295, 67108863, 17179869183, 34359738367, 68719476735, 67108863, 274877906943, 549755813887] (by kernel_rfl) ?_
                obtain ⟨y31, k32, H⟩ := H
                refine g_h 0 1 rfl (by kernel_rfl) (y_ld Try.isAgg3 rfl) k32 rfl rfl ?_
                obtain ⟨y33, k34, H⟩ := H
                refine g_h 1 3 rfl (by kernel_rfl) (y_ld Try.isAgg56 rfl) k34 rfl rfl ?_
                obtain ⟨a35, e36, H⟩ := H
                refine g_p 2 7 rfl (by kernel_rfl) (f_nn rfl e36) rfl rfl ?_
                refine g_p 3 15 rfl (by kernel_rfl) (y_fa (off := 2) Try.runUnderlying66 fo_66_2 rfl) rfl rfl ?_
                obtain ⟨y37, k38, H⟩ := H
                refine g_h 4 31 rfl (by kernel_rfl) (y_ld Try.isAgg61 rfl) k38 rfl rfl ?_
                obtain ⟨a39, e40, H⟩ := H
                refine g_p 5 63 rfl (by kernel_rfl) (f_nn rfl e40) rfl rfl ?_
                refine g_p 6 127 rfl (by kernel_rfl) (y_fa (off := 0) Try.runUnderlying64 fo_64_0 rfl) rfl rfl ?_
                obtain ⟨y41, k42, H⟩ := H
                refine g_h 7 255 rfl (by kernel_rfl) (y_ld Try.isAgg62 rfl) k42 rfl rfl ?_
                refine g_p 8 511 rfl (by kernel_rfl) (y_len (ts := #[]) Try.runUnderlying62 (o := y41.ptr) (n := y41.len) (cap := y41.cap) rfl) rfl rfl ?_
                refine g_p 9 1023 rfl (by kernel_rfl) (y_geq rfl rfl) rfl rfl ?_
                refine g_p 10 2047 rfl (by kernel_rfl) (y_move rfl) rfl rfl ?_
                refine g_split (t := 45) rfl (fun g43 => ?_) (fun g43 => ?_)
                · replace H := H.1 g43
                  refine g_s 11 4095 rfl (by kernel_rfl) rfl rfl ?_
                  refine g_s 12 8191 rfl (by kernel_rfl) rfl rfl ?_
                  refine g_s 13 16383 rfl (by kernel_rfl) rfl rfl ?_
                  refine g_s 14 32767 rfl (by kernel_rfl) rfl rfl ?_
                  refine g_s 15 65535 rfl (by kernel_rfl) rfl rfl ?_
                  refine g_s 16 131071 rfl (by kernel_rfl) rfl rfl ?_
                  refine g_s 17 262143 rfl (by kernel_rfl) rfl rfl ?_
                  refine g_s 18 524287 rfl (by kernel_rfl) rfl rfl ?_
                  refine g_s 19 1048575 rfl (by kernel_rfl) rfl rfl ?_
                  refine g_s 20 2097151 rfl (by kernel_rfl) rfl rfl ?_
                  refine g_s 21 4194303 rfl (by kernel_rfl) rfl rfl ?_
                  refine g_s 22 8388607 rfl (by kernel_rfl) rfl rfl ?_
                  refine g_s 23 16777215 rfl (by kernel_rfl) rfl rfl ?_
                  refine g_p 24 33554431 rfl (by kernel_rfl) (y_pick_t rfl rfl) rfl rfl ?_
                  refine g_p 25 67108863 rfl (by kernel_rfl) (y_move rfl) rfl rfl ?_
                  refine g_s 26 134217727 rfl (by kernel_rfl) rfl rfl ?_
                  refine g_s 27 268435455 rfl (by kernel_rfl) rfl rfl ?_
                  refine g_s 28 536870911 rfl (by kernel_rfl) rfl rfl ?_
                  refine g_s 29 1073741823 rfl (by kernel_rfl) rfl rfl ?_
                  refine g_s 30 2147483647 rfl (by kernel_rfl) rfl rfl ?_
                  refine g_s 31 4294967295 rfl (by kernel_rfl) rfl rfl ?_
                  refine g_s 32 8589934591 rfl (by kernel_rfl) rfl rfl ?_
                  refine g_s 33 17179869183 rfl (by kernel_rfl) rfl rfl ?_
                  refine g_s 34 34359738367 rfl (by kernel_rfl) rfl rfl ?_
                  refine g_s 35 68719476735 rfl (by kernel_rfl) rfl rfl ?_
                  refine g_s 36 137438953471 rfl (by kernel_rfl) rfl rfl ?_
                  refine g_s 37 274877906943 rfl (by kernel_rfl) rfl rfl ?_
                  refine g_s 38 549755813887 rfl (by kernel_rfl) rfl rfl ?_
                  refine g_p 39 1099511627775 rfl (by kernel_rfl) (y_pick_t rfl rfl) rfl rfl ?_
                  refine g_d (by kernel_rfl) ?_
                  refine tr_thenN ?_
                  exact tr_join [(2, (.pointer (some x2))), (6, (.pointer (some a23))), (74, (.bool true))] ⟨rfl, rfl, rfl, trivial⟩ ⟨_, _, _, rfl, H⟩
                · replace H := H.2 g43
                  obtain ⟨y44, k45, H⟩ := H
                  refine g_h 11 4095 rfl (by kernel_rfl) (y_ld Try.isAgg56 rfl) k45 rfl rfl ?_
                  obtain ⟨a46, e47, H⟩ := H
                  refine g_p 12 8191 rfl (by kernel_rfl) (f_nn rfl e47) rfl rfl ?_
                  refine g_p 13 16383 rfl (by kernel_rfl) (y_fa (off := 2) Try.runUnderlying66 fo_66_2 rfl) rfl rfl ?_
                  obtain ⟨y48, k49, H⟩ := H
                  refine g_h 14 32767 rfl (by kernel_rfl) (y_ld Try.isAgg61 rfl) k49 rfl rfl ?_
                  obtain ⟨a50, e51, H⟩ := H
                  refine g_p 15 65535 rfl (by kernel_rfl) (f_nn rfl e51) rfl rfl ?_
                  refine g_p 16 131071 rfl (by kernel_rfl) (y_fa (off := 0) Try.runUnderlying64 fo_64_0 rfl) rfl rfl ?_
                  obtain ⟨y52, k53, H⟩ := H
                  refine g_h 17 262143 rfl (by kernel_rfl) (y_ld Try.isAgg62 rfl) k53 rfl rfl ?_
                  obtain ⟨y54, k55, H⟩ := H
                  refine g_h 18 524287 rfl (by kernel_rfl) (y_ld Try.isAgg3 rfl) k55 rfl rfl ?_
                  obtain ⟨a56, e57, H⟩ := H
                  refine g_p 19 1048575 rfl (by kernel_rfl) (f_idx (s := y52) Try.runUnderlying62 Try.sizeOf89 rfl rfl e57) rfl rfl ?_
                  refine g_p 20 2097151 rfl (by kernel_rfl) (y_fa (off := 0) Try.runUnderlying89 fo_89_0 rfl) rfl rfl ?_
                  obtain ⟨y58, k59, H⟩ := H
                  refine g_h 21 4194303 rfl (by kernel_rfl) (y_ld Try.isAgg3 rfl) k59 rfl rfl ?_
                  refine g_p 22 8388607 rfl (by kernel_rfl) (y_move rfl) rfl rfl ?_
                  refine g_p 23 16777215 rfl (by kernel_rfl) (y_neq rfl rfl) rfl rfl ?_
                  refine g_p 24 33554431 rfl (by kernel_rfl) (y_pick_f rfl rfl) rfl rfl ?_
                  refine g_p 25 67108863 rfl (by kernel_rfl) (y_move rfl) rfl rfl ?_
                  refine g_split (t := 60) rfl (fun g60 => ?_) (fun g60 => ?_)
                  · replace H := H.1 g60
                    refine g_s 26 134217727 rfl (by kernel_rfl) rfl rfl ?_
                    refine g_s 27 268435455 rfl (by kernel_rfl) rfl rfl ?_
                    refine g_s 28 536870911 rfl (by kernel_rfl) rfl rfl ?_
                    refine g_s 29 1073741823 rfl (by kernel_rfl) rfl rfl ?_
                    refine g_s 30 2147483647 rfl (by kernel_rfl) rfl rfl ?_
                    refine g_s 31 4294967295 rfl (by kernel_rfl) rfl rfl ?_
                    refine g_s 32 8589934591 rfl (by kernel_rfl) rfl rfl ?_
                    refine g_s 33 17179869183 rfl (by kernel_rfl) rfl rfl ?_
                    refine g_s 34 34359738367 rfl (by kernel_rfl) rfl rfl ?_
                    refine g_s 35 68719476735 rfl (by kernel_rfl) rfl rfl ?_
                    refine g_s 36 137438953471 rfl (by kernel_rfl) rfl rfl ?_
                    refine g_s 37 274877906943 rfl (by kernel_rfl) rfl rfl ?_
                    refine g_s 38 549755813887 rfl (by kernel_rfl) rfl rfl ?_
                    refine g_p 39 1099511627775 rfl (by kernel_rfl) (y_pick_t rfl rfl) rfl rfl ?_
                    refine g_d (by kernel_rfl) ?_
                    refine tr_thenN ?_
                    exact tr_join [(2, (.pointer (some x2))), (6, (.pointer (some a23))), (74, (.bool true))] ⟨rfl, rfl, rfl, trivial⟩ ⟨_, _, _, rfl, H⟩
                  · replace H := H.2 g60
                    obtain ⟨y61, k62, H⟩ := H
                    refine g_h 26 134217727 rfl (by kernel_rfl) (y_ld Try.isAgg56 rfl) k62 rfl rfl ?_
                    obtain ⟨a63, e64, H⟩ := H
                    refine g_p 27 268435455 rfl (by kernel_rfl) (f_nn rfl e64) rfl rfl ?_
                    refine g_p 28 536870911 rfl (by kernel_rfl) (y_fa (off := 2) Try.runUnderlying66 fo_66_2 rfl) rfl rfl ?_
                    obtain ⟨y65, k66, H⟩ := H
                    refine g_h 29 1073741823 rfl (by kernel_rfl) (y_ld Try.isAgg61 rfl) k66 rfl rfl ?_
                    obtain ⟨a67, e68, H⟩ := H
                    refine g_p 30 2147483647 rfl (by kernel_rfl) (f_nn rfl e68) rfl rfl ?_
                    refine g_p 31 4294967295 rfl (by kernel_rfl) (y_fa (off := 0) Try.runUnderlying64 fo_64_0 rfl) rfl rfl ?_
                    obtain ⟨y69, k70, H⟩ := H
                    refine g_h 32 8589934591 rfl (by kernel_rfl) (y_ld Try.isAgg62 rfl) k70 rfl rfl ?_
                    obtain ⟨y71, k72, H⟩ := H
                    refine g_h 33 17179869183 rfl (by kernel_rfl) (y_ld Try.isAgg3 rfl) k72 rfl rfl ?_
                    obtain ⟨a73, e74, H⟩ := H
                    refine g_p 34 34359738367 rfl (by kernel_rfl) (f_idx (s := y69) Try.runUnderlying62 Try.sizeOf89 rfl rfl e74) rfl rfl ?_
                    refine g_p 35 68719476735 rfl (by kernel_rfl) (y_fa (off := 2) Try.runUnderlying89 fo_89_2 rfl) rfl rfl ?_
                    obtain ⟨y75, k76, H⟩ := H
                    refine g_h 36 137438953471 rfl (by kernel_rfl) (y_ld Try.isAgg4 rfl) k76 rfl rfl ?_
                    refine g_p 37 274877906943 rfl (by kernel_rfl) (y_move rfl) rfl rfl ?_
                    refine g_p 38 549755813887 rfl (by kernel_rfl) (y_bneq Try.underlying4 rfl rfl) rfl rfl ?_
                    refine g_p 39 1099511627775 rfl (by kernel_rfl) (y_pick_f rfl rfl) rfl rfl ?_
                    refine g_d (by kernel_rfl) ?_
                    refine tr_thenN ?_
                    exact tr_join [(2, (.pointer (some x2))), (6, (.pointer (some a23))), (74, (.bool (!(y75 == y1_34))))] ⟨rfl, rfl, rfl, trivial⟩ ⟨_, _, _, rfl, H⟩
          · intro h77 H
            refine tr_blockN ?_
            refine tr_thenN ?_
            refine tr_seq ?_
            refine tr_region ?_
            refine tr_e (f_alloc (cs := #[(.int .i64 0)]) Try.zeroValue3 rfl H) rfl rfl ?_
            rintro _ h78 ⟨a79, rfl, H⟩
            refine tr_e (f_store (vs := [(.int .i64 0)]) Try.sizeOf3 rfl rfl rfl rfl (one1 rfl) H) rfl rfl ?_
            rintro _ h80 ⟨rfl, H⟩
            refine tr_nil ?_
            refine tr_thenN ?_
            refine tr_seq ?_
            refine tr_seq ?_
            refine tr_region ?_
            refine tr_p (y_move rfl) rfl rfl ?_
            refine tr_nil ?_
            refine tr_thenN ?_
            refine tr_block ?_
            refine tr_range rfl (by kernel_rfl) H ?_ ?_ ?_
            · intro bg2 l2 args h K2 J2 w2 hbg2 H
              obtain ⟨y2_78, y2_79, rfl, H⟩ := H
              refine ⟨rfl, ?_⟩
              refine tr_sub [(1, (.pointer (some x1))), (2, (.pointer (some x2))), (3, x3), (4, x4), (5, (.int .i64 x5)), (28, (.int .i64 x5)), (29, (.bool (decide (x5 < 2)))), (6, (.pointer (some a23))), (32, x3), (9, (.pointer (some a79))), (77, x4), (78, (.int .i64 y2_78)), (79, (.bool y2_79))] ⟨rfl, rfl, rfl, rfl, rfl, rfl, rfl, rfl, rfl, rfl, rfl, rfl, rfl, trivial⟩ ?_
              refine tr_seq ?_
              refine tr_region ?_
              refine tr_p (y_assign rfl) rfl rfl ?_
              refine tr_nil ?_
              refine tr_thenN ?_
              refine tr_region ?_
              refine tr_p (y_assign rfl) rfl rfl ?_
              refine tr_nil ?_
              refine tr_thenN ?_
              refine tr_bgn hbg2 H fun h81 H => ?_
              refine tr_block ?_
              refine tr_seq_j (fun L' h => ∃ (x9 : Addr), L' = [(9, (.pointer (some x9)))] ∧ F.spatelaw5_World_all.j6 Q K2 J2 l2 x9 h) ?_ ?_
              · rintro L' h ⟨x9, rfl, H⟩
                unfold F.spatelaw5_World_all.j6 at H
                refine tr_region ?_
                obtain ⟨y82, k83, H⟩ := H
                refine tr_h (y_ld Try.isAgg3 rfl) k83 rfl rfl ?_
                refine tr_p (y_add rfl rfl) rfl rfl ?_
                refine tr_e (f_store (vs := [(.int .i64 (IntKind.wrap .i64 (y82 + 1)))]) Try.sizeOf3 rfl rfl rfl rfl (one1 rfl) H) rfl rfl ?_
                rintro _ h84 ⟨rfl, H⟩
                refine tr_nil ?_
                refine tr_blockN ?_
                exact tr_rN H
              · refine tr_seq_j (fun L' h => ∃ (x2 : Addr) (x9 : Addr) (x119 : Bool), L' = [(2, (.pointer (some x2))), (9, (.pointer (some x9))), (119, (.bool x119))] ∧ F.spatelaw5_World_all.j7 Q K2 J2 l2 x2 x9 x119 h) ?_ ?_
                · rintro L' h ⟨x2, x9, x119, rfl, H⟩
                  unfold F.spatelaw5_World_all.j7 at H
                  refine tr_cond rfl (fun g85 => ?_) (fun g85 => ?_)
                  · replace H := H.1 g85
                    refine tr_seq ?_
                    refine tr_region ?_
                    refine tr_e (f_store (vs := [(.bool false)]) Try.sizeOf4 rfl rfl rfl rfl (one1 rfl) H) rfl rfl ?_
                    rintro _ h86 ⟨rfl, H⟩
                    refine tr_nil ?_
                    refine tr_thenN ?_
                    refine tr_ret ?_
                    refine tr_thenR ?_
                    refine tr_blockR ?_
                    exact tr_rR 0 rfl H
                  · replace H := H.2 g85
                    refine tr_skip ?_
                    refine tr_thenN ?_
                    exact tr_join [(9, (.pointer (some x9)))] ⟨rfl, trivial⟩ ⟨_, rfl, H⟩
                · refine tr_draw mixed [0, 0, 2, 6, 14, 30, 62, 126, 254, 511, 1023, 2047, 4095, 8191, 16383, 32767, 65535, 131071, 2047, 524287, 1048575, 2097151, 2047, 8388607, 16777215, 33554431, 67108863, 134217727, 268435455, 536870911, 1073741823, 2147483647, 4294967295, 67108863, 17179869183, 34359738367, 68719476735, 67108863, 274877906943, 549755813887] (by kernel_rfl) ?_
                  obtain ⟨y87, k88, H⟩ := H
                  refine g_h 0 1 rfl (by kernel_rfl) (y_ld Try.isAgg3 rfl) k88 rfl rfl ?_
                  obtain ⟨y89, k90, H⟩ := H
                  refine g_h 1 3 rfl (by kernel_rfl) (y_ld Try.isAgg56 rfl) k90 rfl rfl ?_
                  obtain ⟨a91, e92, H⟩ := H
                  refine g_p 2 7 rfl (by kernel_rfl) (f_nn rfl e92) rfl rfl ?_
                  refine g_p 3 15 rfl (by kernel_rfl) (y_fa (off := 2) Try.runUnderlying66 fo_66_2 rfl) rfl rfl ?_
                  obtain ⟨y93, k94, H⟩ := H
                  refine g_h 4 31 rfl (by kernel_rfl) (y_ld Try.isAgg61 rfl) k94 rfl rfl ?_
                  obtain ⟨a95, e96, H⟩ := H
                  refine g_p 5 63 rfl (by kernel_rfl) (f_nn rfl e96) rfl rfl ?_
                  refine g_p 6 127 rfl (by kernel_rfl) (y_fa (off := 0) Try.runUnderlying64 fo_64_0 rfl) rfl rfl ?_
                  obtain ⟨y97, k98, H⟩ := H
                  refine g_h 7 255 rfl (by kernel_rfl) (y_ld Try.isAgg62 rfl) k98 rfl rfl ?_
                  refine g_p 8 511 rfl (by kernel_rfl) (y_len (ts := #[]) Try.runUnderlying62 (o := y97.ptr) (n := y97.len) (cap := y97.cap) rfl) rfl rfl ?_
                  refine g_p 9 1023 rfl (by kernel_rfl) (y_geq rfl rfl) rfl rfl ?_
                  refine g_p 10 2047 rfl (by kernel_rfl) (y_move rfl) rfl rfl ?_
                  refine g_split (t := 90) rfl (fun g99 => ?_) (fun g99 => ?_)
                  · replace H := H.1 g99
                    refine g_s 11 4095 rfl (by kernel_rfl) rfl rfl ?_
                    refine g_s 12 8191 rfl (by kernel_rfl) rfl rfl ?_
                    refine g_s 13 16383 rfl (by kernel_rfl) rfl rfl ?_
                    refine g_s 14 32767 rfl (by kernel_rfl) rfl rfl ?_
                    refine g_s 15 65535 rfl (by kernel_rfl) rfl rfl ?_
                    refine g_s 16 131071 rfl (by kernel_rfl) rfl rfl ?_
                    refine g_s 17 262143 rfl (by kernel_rfl) rfl rfl ?_
                    refine g_s 18 524287 rfl (by kernel_rfl) rfl rfl ?_
                    refine g_s 19 1048575 rfl (by kernel_rfl) rfl rfl ?_
                    refine g_s 20 2097151 rfl (by kernel_rfl) rfl rfl ?_
                    refine g_s 21 4194303 rfl (by kernel_rfl) rfl rfl ?_
                    refine g_s 22 8388607 rfl (by kernel_rfl) rfl rfl ?_
                    refine g_s 23 16777215 rfl (by kernel_rfl) rfl rfl ?_
                    refine g_p 24 33554431 rfl (by kernel_rfl) (y_pick_t rfl rfl) rfl rfl ?_
                    refine g_p 25 67108863 rfl (by kernel_rfl) (y_move rfl) rfl rfl ?_
                    refine g_s 26 134217727 rfl (by kernel_rfl) rfl rfl ?_
                    refine g_s 27 268435455 rfl (by kernel_rfl) rfl rfl ?_
                    refine g_s 28 536870911 rfl (by kernel_rfl) rfl rfl ?_
                    refine g_s 29 1073741823 rfl (by kernel_rfl) rfl rfl ?_
                    refine g_s 30 2147483647 rfl (by kernel_rfl) rfl rfl ?_
                    refine g_s 31 4294967295 rfl (by kernel_rfl) rfl rfl ?_
                    refine g_s 32 8589934591 rfl (by kernel_rfl) rfl rfl ?_
                    refine g_s 33 17179869183 rfl (by kernel_rfl) rfl rfl ?_
                    refine g_s 34 34359738367 rfl (by kernel_rfl) rfl rfl ?_
                    refine g_s 35 68719476735 rfl (by kernel_rfl) rfl rfl ?_
                    refine g_s 36 137438953471 rfl (by kernel_rfl) rfl rfl ?_
                    refine g_s 37 274877906943 rfl (by kernel_rfl) rfl rfl ?_
                    refine g_s 38 549755813887 rfl (by kernel_rfl) rfl rfl ?_
                    refine g_p 39 1099511627775 rfl (by kernel_rfl) (y_pick_t rfl rfl) rfl rfl ?_
                    refine g_d (by kernel_rfl) ?_
                    refine tr_thenN ?_
                    exact tr_join [(2, (.pointer (some x2))), (9, (.pointer (some a79))), (119, (.bool true))] ⟨rfl, rfl, rfl, trivial⟩ ⟨_, _, _, rfl, H⟩
                  · replace H := H.2 g99
                    obtain ⟨y100, k101, H⟩ := H
                    refine g_h 11 4095 rfl (by kernel_rfl) (y_ld Try.isAgg56 rfl) k101 rfl rfl ?_
                    obtain ⟨a102, e103, H⟩ := H
                    refine g_p 12 8191 rfl (by kernel_rfl) (f_nn rfl e103) rfl rfl ?_
                    refine g_p 13 16383 rfl (by kernel_rfl) (y_fa (off := 2) Try.runUnderlying66 fo_66_2 rfl) rfl rfl ?_
                    obtain ⟨y104, k105, H⟩ := H
                    refine g_h 14 32767 rfl (by kernel_rfl) (y_ld Try.isAgg61 rfl) k105 rfl rfl ?_
                    obtain ⟨a106, e107, H⟩ := H
                    refine g_p 15 65535 rfl (by kernel_rfl) (f_nn rfl e107) rfl rfl ?_
                    refine g_p 16 131071 rfl (by kernel_rfl) (y_fa (off := 0) Try.runUnderlying64 fo_64_0 rfl) rfl rfl ?_
                    obtain ⟨y108, k109, H⟩ := H
                    refine g_h 17 262143 rfl (by kernel_rfl) (y_ld Try.isAgg62 rfl) k109 rfl rfl ?_
                    obtain ⟨y110, k111, H⟩ := H
                    refine g_h 18 524287 rfl (by kernel_rfl) (y_ld Try.isAgg3 rfl) k111 rfl rfl ?_
                    obtain ⟨a112, e113, H⟩ := H
                    refine g_p 19 1048575 rfl (by kernel_rfl) (f_idx (s := y108) Try.runUnderlying62 Try.sizeOf89 rfl rfl e113) rfl rfl ?_
                    refine g_p 20 2097151 rfl (by kernel_rfl) (y_fa (off := 0) Try.runUnderlying89 fo_89_0 rfl) rfl rfl ?_
                    obtain ⟨y114, k115, H⟩ := H
                    refine g_h 21 4194303 rfl (by kernel_rfl) (y_ld Try.isAgg3 rfl) k115 rfl rfl ?_
                    refine g_p 22 8388607 rfl (by kernel_rfl) (y_move rfl) rfl rfl ?_
                    refine g_p 23 16777215 rfl (by kernel_rfl) (y_neq rfl rfl) rfl rfl ?_
                    refine g_p 24 33554431 rfl (by kernel_rfl) (y_pick_f rfl rfl) rfl rfl ?_
                    refine g_p 25 67108863 rfl (by kernel_rfl) (y_move rfl) rfl rfl ?_
                    refine g_split (t := 105) rfl (fun g116 => ?_) (fun g116 => ?_)
                    · replace H := H.1 g116
                      refine g_s 26 134217727 rfl (by kernel_rfl) rfl rfl ?_
                      refine g_s 27 268435455 rfl (by kernel_rfl) rfl rfl ?_
                      refine g_s 28 536870911 rfl (by kernel_rfl) rfl rfl ?_
                      refine g_s 29 1073741823 rfl (by kernel_rfl) rfl rfl ?_
                      refine g_s 30 2147483647 rfl (by kernel_rfl) rfl rfl ?_
                      refine g_s 31 4294967295 rfl (by kernel_rfl) rfl rfl ?_
                      refine g_s 32 8589934591 rfl (by kernel_rfl) rfl rfl ?_
                      refine g_s 33 17179869183 rfl (by kernel_rfl) rfl rfl ?_
                      refine g_s 34 34359738367 rfl (by kernel_rfl) rfl rfl ?_
                      refine g_s 35 68719476735 rfl (by kernel_rfl) rfl rfl ?_
                      refine g_s 36 137438953471 rfl (by kernel_rfl) rfl rfl ?_
                      refine g_s 37 274877906943 rfl (by kernel_rfl) rfl rfl ?_
                      refine g_s 38 549755813887 rfl (by kernel_rfl) rfl rfl ?_
                      refine g_p 39 1099511627775 rfl (by kernel_rfl) (y_pick_t rfl rfl) rfl rfl ?_
                      refine g_d (by kernel_rfl) ?_
                      refine tr_thenN ?_
                      exact tr_join [(2, (.pointer (some x2))), (9, (.pointer (some a79))), (119, (.bool true))] ⟨rfl, rfl, rfl, trivial⟩ ⟨_, _, _, rfl, H⟩
                    · replace H := H.2 g116
                      obtain ⟨y117, k118, H⟩ := H
                      refine g_h 26 134217727 rfl (by kernel_rfl) (y_ld Try.isAgg56 rfl) k118 rfl rfl ?_
                      obtain ⟨a119, e120, H⟩ := H
                      refine g_p 27 268435455 rfl (by kernel_rfl) (f_nn rfl e120) rfl rfl ?_
                      refine g_p 28 536870911 rfl (by kernel_rfl) (y_fa (off := 2) Try.runUnderlying66 fo_66_2 rfl) rfl rfl ?_
                      obtain ⟨y121, k122, H⟩ := H
                      refine g_h 29 1073741823 rfl (by kernel_rfl) (y_ld Try.isAgg61 rfl) k122 rfl rfl ?_
                      obtain ⟨a123, e124, H⟩ := H
                      refine g_p 30 2147483647 rfl (by kernel_rfl) (f_nn rfl e124) rfl rfl ?_
                      refine g_p 31 4294967295 rfl (by kernel_rfl) (y_fa (off := 0) Try.runUnderlying64 fo_64_0 rfl) rfl rfl ?_
                      obtain ⟨y125, k126, H⟩ := H
                      refine g_h 32 8589934591 rfl (by kernel_rfl) (y_ld Try.isAgg62 rfl) k126 rfl rfl ?_
                      obtain ⟨y127, k128, H⟩ := H
                      refine g_h 33 17179869183 rfl (by kernel_rfl) (y_ld Try.isAgg3 rfl) k128 rfl rfl ?_
                      obtain ⟨a129, e130, H⟩ := H
                      refine g_p 34 34359738367 rfl (by kernel_rfl) (f_idx (s := y125) Try.runUnderlying62 Try.sizeOf89 rfl rfl e130) rfl rfl ?_
                      refine g_p 35 68719476735 rfl (by kernel_rfl) (y_fa (off := 2) Try.runUnderlying89 fo_89_2 rfl) rfl rfl ?_
                      obtain ⟨y131, k132, H⟩ := H
                      refine g_h 36 137438953471 rfl (by kernel_rfl) (y_ld Try.isAgg4 rfl) k132 rfl rfl ?_
                      refine g_p 37 274877906943 rfl (by kernel_rfl) (y_move rfl) rfl rfl ?_
                      refine g_p 38 549755813887 rfl (by kernel_rfl) (y_bneq Try.underlying4 rfl rfl) rfl rfl ?_
                      refine g_p 39 1099511627775 rfl (by kernel_rfl) (y_pick_f rfl rfl) rfl rfl ?_
                      refine g_d (by kernel_rfl) ?_
                      refine tr_thenN ?_
                      exact tr_join [(2, (.pointer (some x2))), (9, (.pointer (some a79))), (119, (.bool (!(y131 == y2_79))))] ⟨rfl, rfl, rfl, trivial⟩ ⟨_, _, _, rfl, H⟩
            · intro h133 H
              refine tr_blockN ?_
              refine tr_thenN ?_
              refine tr_seq_jD (fun ds L' h => ∃ (x1 : Addr) (x2 : Addr) (x3 : Value) (x4 : Value) (x5 : Int) (x143 : Bool), L' = [(1, (.pointer (some x1))), (2, (.pointer (some x2))), (3, x3), (4, x4), (5, (.int .i64 x5)), (143, (.bool x143))] ∧ F.spatelaw5_World_all.j8 Q (F.spatelaw5_World_all.l2 Q q2) ds x1 x2 x3 x4 x5 x143 h) ?_ ?_
              · rintro ds L' h ⟨x1, x2, x3, x4, x5, x143, rfl, H⟩
                unfold F.spatelaw5_World_all.j8 at H
                refine tr_cond rfl (fun g134 => ?_) (fun g134 => ?_)
                · replace H := H.1 g134
                  refine tr_seq ?_
                  refine tr_region ?_
                  refine tr_e (f_store (vs := [(.bool false)]) Try.sizeOf4 rfl rfl rfl rfl (one1 rfl) H) rfl rfl ?_
                  rintro _ h135 ⟨rfl, H⟩
                  refine tr_nil ?_
                  refine tr_thenN ?_
                  refine tr_ret ?_
                  refine tr_blockR ?_
                  refine tr_thenR ?_
                  refine tr_thenR ?_
                  refine tr_blockR ?_
                  refine tr_thenR ?_
                  refine tr_shut ds rfl H fun h136 H => ?_
                  obtain ⟨y137, k138, H⟩ := H
                  exact tr_rv1 rfl (rv_cell Try.isAgg4 rfl k138) ⟨_, rfl, H⟩
                · replace H := H.2 g134
                  refine tr_skip ?_
                  refine tr_blockN ?_
                  refine tr_thenN ?_
                  exact tr_joinD ds [(1, (.pointer (some x1))), (2, (.pointer (some x2))), (3, x3), (4, x4), (5, (.int .i64 x5))] rfl ⟨rfl, rfl, rfl, rfl, rfl, trivial⟩ ⟨_, _, _, _, _, rfl, H⟩
              · refine tr_draw mixed [0, 0, 2, 6, 14, 30, 62, 126, 254, 511, 1023, 2047, 2047, 6143, 14335, 30719, 63487, 129023, 260095, 522239, 1048575, 2097151] (by kernel_rfl) ?_
                obtain ⟨y139, k140, H⟩ := H
                refine g_h 0 1 rfl (by kernel_rfl) (y_ld Try.isAgg3 rfl) k140 rfl rfl ?_
                obtain ⟨y141, k142, H⟩ := H
                refine g_h 1 3 rfl (by kernel_rfl) (y_ld Try.isAgg56 rfl) k142 rfl rfl ?_
                obtain ⟨a143, e144, H⟩ := H
                refine g_p 2 7 rfl (by kernel_rfl) (f_nn rfl e144) rfl rfl ?_
                refine g_p 3 15 rfl (by kernel_rfl) (y_fa (off := 2) Try.runUnderlying66 fo_66_2 rfl) rfl rfl ?_
                obtain ⟨y145, k146, H⟩ := H
                refine g_h 4 31 rfl (by kernel_rfl) (y_ld Try.isAgg61 rfl) k146 rfl rfl ?_
                obtain ⟨a147, e148, H⟩ := H
                refine g_p 5 63 rfl (by kernel_rfl) (f_nn rfl e148) rfl rfl ?_
                refine g_p 6 127 rfl (by kernel_rfl) (y_fa (off := 0) Try.runUnderlying64 fo_64_0 rfl) rfl rfl ?_
                obtain ⟨y149, k150, H⟩ := H
                refine g_h 7 255 rfl (by kernel_rfl) (y_ld Try.isAgg62 rfl) k150 rfl rfl ?_
                refine g_p 8 511 rfl (by kernel_rfl) (y_len (ts := #[]) Try.runUnderlying62 (o := y149.ptr) (n := y149.len) (cap := y149.cap) rfl) rfl rfl ?_
                refine g_p 9 1023 rfl (by kernel_rfl) (y_neq rfl rfl) rfl rfl ?_
                refine g_p 10 2047 rfl (by kernel_rfl) (y_move rfl) rfl rfl ?_
                refine g_split (t := 132) rfl (fun g151 => ?_) (fun g151 => ?_)
                · replace H := H.1 g151
                  refine g_s 11 4095 rfl (by kernel_rfl) rfl rfl ?_
                  refine g_s 12 8191 rfl (by kernel_rfl) rfl rfl ?_
                  refine g_s 13 16383 rfl (by kernel_rfl) rfl rfl ?_
                  refine g_s 14 32767 rfl (by kernel_rfl) rfl rfl ?_
                  refine g_s 15 65535 rfl (by kernel_rfl) rfl rfl ?_
                  refine g_s 16 131071 rfl (by kernel_rfl) rfl rfl ?_
                  refine g_s 17 262143 rfl (by kernel_rfl) rfl rfl ?_
                  refine g_s 18 524287 rfl (by kernel_rfl) rfl rfl ?_
                  refine g_s 19 1048575 rfl (by kernel_rfl) rfl rfl ?_
                  refine g_s 20 2097151 rfl (by kernel_rfl) rfl rfl ?_
                  refine g_p 21 4194303 rfl (by kernel_rfl) (y_pick_t rfl rfl) rfl rfl ?_
                  refine g_d (by kernel_rfl) ?_
                  refine tr_thenN ?_
                  exact tr_joinD (h80.size :: (h24.size :: ds)) [(1, (.pointer (some x1))), (2, (.pointer (some x2))), (3, x3), (4, x4), (5, (.int .i64 x5)), (143, (.bool true))] rfl ⟨rfl, rfl, rfl, rfl, rfl, rfl, trivial⟩ ⟨_, _, _, _, _, _, rfl, H⟩
                · replace H := H.2 g151
                  obtain ⟨y152, k153, H⟩ := H
                  refine g_h 11 4095 rfl (by kernel_rfl) (y_ld Try.isAgg3 rfl) k153 rfl rfl ?_
                  obtain ⟨y154, k155, H⟩ := H
                  refine g_h 12 8191 rfl (by kernel_rfl) (y_ld Try.isAgg56 rfl) k155 rfl rfl ?_
                  obtain ⟨a156, e157, H⟩ := H
                  refine g_p 13 16383 rfl (by kernel_rfl) (f_nn rfl e157) rfl rfl ?_
                  refine g_p 14 32767 rfl (by kernel_rfl) (y_fa (off := 2) Try.runUnderlying66 fo_66_2 rfl) rfl rfl ?_
                  obtain ⟨y158, k159, H⟩ := H
                  refine g_h 15 65535 rfl (by kernel_rfl) (y_ld Try.isAgg61 rfl) k159 rfl rfl ?_
                  obtain ⟨a160, e161, H⟩ := H
                  refine g_p 16 131071 rfl (by kernel_rfl) (f_nn rfl e161) rfl rfl ?_
                  refine g_p 17 262143 rfl (by kernel_rfl) (y_fa (off := 0) Try.runUnderlying64 fo_64_0 rfl) rfl rfl ?_
                  obtain ⟨y162, k163, H⟩ := H
                  refine g_h 18 524287 rfl (by kernel_rfl) (y_ld Try.isAgg62 rfl) k163 rfl rfl ?_
                  refine g_p 19 1048575 rfl (by kernel_rfl) (y_len (ts := #[]) Try.runUnderlying62 (o := y162.ptr) (n := y162.len) (cap := y162.cap) rfl) rfl rfl ?_
                  refine g_p 20 2097151 rfl (by kernel_rfl) (y_neq rfl rfl) rfl rfl ?_
                  refine g_p 21 4194303 rfl (by kernel_rfl) (y_pick_f rfl rfl) rfl rfl ?_
                  refine g_d (by kernel_rfl) ?_
                  refine tr_thenN ?_
                  exact tr_joinD (h80.size :: (h24.size :: ds)) [(1, (.pointer (some x1))), (2, (.pointer (some x2))), (3, x3), (4, x4), (5, (.int .i64 x5)), (143, (.bool ((y152 != (y162.len : Int)))))] rfl ⟨rfl, rfl, rfl, rfl, rfl, rfl, trivial⟩ ⟨_, _, _, _, _, _, rfl, H⟩
            · intro jj c h164 hjc H
              rcases jj with _ | jj
              · obtain rfl : Code.ret = c := by simpa using hjc
                replace H := H rfl
                refine tr_ret ?_
                refine tr_blockR ?_
                refine tr_thenR ?_
                refine tr_blockR ?_
                refine tr_thenR ?_
                refine tr_thenR ?_
                refine tr_blockR ?_
                refine tr_thenR ?_
                refine tr_shut (h80.size :: (h24.size :: ds)) rfl H fun h165 H => ?_
                obtain ⟨y166, k167, H⟩ := H
                exact tr_rv1 rfl (rv_cell Try.isAgg4 rfl k167) ⟨_, rfl, H⟩
              · simp at hjc
          · intro jj c h168 hjc H
            rcases jj with _ | jj
            · obtain rfl : Code.ret = c := by simpa using hjc
              replace H := H rfl
              refine tr_ret ?_
              refine tr_blockR ?_
              refine tr_thenR ?_
              refine tr_blockR ?_
              refine tr_thenR ?_
              refine tr_thenR ?_
              refine tr_blockR ?_
              refine tr_thenR ?_
              refine tr_shut (h24.size :: ds) rfl H fun h169 H => ?_
              obtain ⟨y170, k171, H⟩ := H
              exact tr_rv1 rfl (rv_cell Try.isAgg4 rfl k171) ⟨_, rfl, H⟩
            · simp at hjc
      · replace H := H.2 g21
        refine tr_exit ?_
        refine tr_thenE ?_
        refine tr_thenE ?_
        refine tr_hit ?_
        refine tr_thenN ?_
        refine tr_seq ?_
        refine tr_region ?_
        refine tr_e (f_store (vs := [(.bool true)]) Try.sizeOf4 rfl rfl rfl rfl (one1 rfl) H) rfl rfl ?_
        rintro _ h172 ⟨rfl, H⟩
        refine tr_nil ?_
        refine tr_thenN ?_
        refine tr_ret ?_
        refine tr_shut ds rfl H fun h173 H => ?_
        obtain ⟨y174, k175, H⟩ := H
        exact tr_rv1 rfl (rv_cell Try.isAgg4 rfl k175) ⟨_, rfl, H⟩
  · refine tr_seq_jD (fun ds L' h => ∃ (x1 : Addr) (x2 : Addr) (x3 : Value) (x4 : Value) (x27 : Bool), L' = [(1, (.pointer (some x1))), (2, (.pointer (some x2))), (3, x3), (4, x4), (27, (.bool x27))] ∧ F.spatelaw5_World_all.j9 Q ds x1 x2 x3 x4 x27 h) ?_ ?_
    · rintro ds L' h ⟨x1, x2, x3, x4, x27, rfl, H⟩
      unfold F.spatelaw5_World_all.j9 at H
      refine tr_cond rfl (fun g177 => ?_) (fun g177 => ?_)
      · replace H := H.1 g177
        refine tr_seq ?_
        refine tr_region ?_
        refine tr_e (f_store (vs := [(.bool false)]) Try.sizeOf4 rfl rfl rfl rfl (one1 rfl) H) rfl rfl ?_
        rintro _ h178 ⟨rfl, H⟩
        refine tr_nil ?_
        refine tr_thenN ?_
        refine tr_ret ?_
        refine tr_thenR ?_
        refine tr_shut ds rfl H fun h179 H => ?_
        obtain ⟨y180, k181, H⟩ := H
        exact tr_rv1 rfl (rv_cell Try.isAgg4 rfl k181) ⟨_, rfl, H⟩
      · replace H := H.2 g177
        refine tr_skip ?_
        refine tr_thenN ?_
        exact tr_joinD ds [(1, (.pointer (some x1))), (2, (.pointer (some x2))), (3, x3), (4, x4)] rfl ⟨rfl, rfl, rfl, rfl, trivial⟩ ⟨_, _, _, _, rfl, H⟩
    · refine tr_region ?_
      refine tr_p (y_move rfl) rfl rfl ?_
      obtain ⟨e182, H⟩ := H
      refine tr_p (y_vnil_eql Try.runUnderlying45 rfl rfl e182) rfl rfl ?_
      refine tr_p (y_move rfl) rfl rfl ?_
      refine tr_split (t := 24) rfl (fun g183 => ?_) (fun g183 => ?_)
      · replace H := H.1 g183
        refine tr_s rfl rfl ?_
        refine tr_s rfl rfl ?_
        refine tr_p (y_pick_t rfl rfl) rfl rfl ?_
        refine tr_nil ?_
        refine tr_thenN ?_
        exact tr_joinD ([] : List Nat) [(1, (.pointer (some a2))), (2, (.pointer (some a4))), (3, r12), (4, r20), (27, (.bool true))] rfl ⟨rfl, rfl, rfl, rfl, rfl, trivial⟩ ⟨_, _, _, _, _, rfl, H⟩
      · replace H := H.2 g183
        refine tr_p (y_move rfl) rfl rfl ?_
        obtain ⟨e184, H⟩ := H
        refine tr_p (y_vnil_eql Try.runUnderlying45 rfl rfl e184) rfl rfl ?_
        refine tr_p (y_pick_f rfl rfl) rfl rfl ?_
        refine tr_nil ?_
        refine tr_thenN ?_
        exact tr_joinD ([] : List Nat) [(1, (.pointer (some a2))), (2, (.pointer (some a4))), (3, r12), (4, r20), (27, (.bool (isNilF r20)))] rfl ⟨rfl, rfl, rfl, rfl, rfl, trivial⟩ ⟨_, _, _, _, _, rfl, H⟩

/-- (*spate/chain.Chain[int]).Twin -/
def F.chain_Chain_int_Twin (p0 : Option Addr) (h : H) (Q : (Option Addr) → H → Prop) : Prop :=
  nn p0 fun a1 =>
  ldL h (a1.add 0) fun y3 =>
  F.slices_Clone_Slchain_version_int_chain_version_int y3 h fun r6 h5 =>
  new h5 ((⟨r6⟩ : S_chain_Chain_int).cells.toArray) ty_74 fun a8 h7 =>
  Q (some a8) h7
theorem F.chain_Chain_int_Twin_ok {p0 : Option Addr} {h : H} {Q : (Option Addr) → H → Prop} (H : F.chain_Chain_int_Twin p0 h Q) : Fn PP 36 ([(.pointer p0)] : List Value).toArray h fun r h' => ∃ r0, r = (.pointer r0) ∧ Q r0 h' := by
  unfold F.chain_Chain_int_Twin at H
  refine fn_of Try.func36 Try.ntmps36 rfl rfl fun w0 => ?_
  refine tr_sub [(0, (.pointer p0))] ⟨rfl, trivial⟩ ?_
  refine tr_seq ?_
  refine tr_region ?_
  refine tr_p (y_assign rfl) rfl rfl ?_
  refine tr_nil ?_
  refine tr_thenN ?_
  refine tr_seq ?_
  refine tr_region ?_
  refine tr_p (y_move rfl) rfl rfl ?_
  obtain ⟨a1, e2, H⟩ := H
  refine tr_p (f_nn rfl e2) rfl rfl ?_
  refine tr_p (y_fa (off := 0) Try.runUnderlying74 fo_74_0 rfl) rfl rfl ?_
  obtain ⟨y3, k4, H⟩ := H
  refine tr_h (y_ld Try.isAgg72 rfl) k4 rfl rfl ?_
  refine tr_e (e_call Try.call42 rfl (F.slices_Clone_Slchain_version_int_chain_version_int_ok H)) rfl rfl ?_
  rintro _ h5 ⟨r6, rfl, H⟩
  refine tr_p (f_build rfl (bd_74_0 r6)) rfl rfl ?_
  refine tr_e (f_box (cs := (⟨r6⟩ : S_chain_Chain_int).cells.toArray) rfl rfl H) rfl rfl ?_
  rintro _ h7 ⟨a8, rfl, H⟩
  refine tr_p (y_assign rfl) rfl rfl ?_
  refine tr_nil ?_
  refine tr_thenN ?_
  refine tr_ret ?_
  exact tr_ret1 rfl rfl ⟨_, rfl, H⟩

/-- (*spate/chain.Chain[spate/spatelaw5.Wide]).Twin -/
def F.chain_Chain_spatelaw5_Wide_Twin (p0 : Option Addr) (h : H) (Q : (Option Addr) → H → Prop) : Prop :=
  nn p0 fun a1 =>
  ldL h (a1.add 0) fun y3 =>
  F.slices_Clone_Slchain_version_spatelaw5_Wide_chain_version_spatelaw5_Wide y3 h fun r6 h5 =>
  new h5 ((⟨r6⟩ : S_chain_Chain_spatelaw5_Wide).cells.toArray) ty_86 fun a8 h7 =>
  Q (some a8) h7
theorem F.chain_Chain_spatelaw5_Wide_Twin_ok {p0 : Option Addr} {h : H} {Q : (Option Addr) → H → Prop} (H : F.chain_Chain_spatelaw5_Wide_Twin p0 h Q) : Fn PP 51 ([(.pointer p0)] : List Value).toArray h fun r h' => ∃ r0, r = (.pointer r0) ∧ Q r0 h' := by
  unfold F.chain_Chain_spatelaw5_Wide_Twin at H
  refine fn_of Try.func51 Try.ntmps51 rfl rfl fun w0 => ?_
  refine tr_sub [(0, (.pointer p0))] ⟨rfl, trivial⟩ ?_
  refine tr_seq ?_
  refine tr_region ?_
  refine tr_p (y_assign rfl) rfl rfl ?_
  refine tr_nil ?_
  refine tr_thenN ?_
  refine tr_seq ?_
  refine tr_region ?_
  refine tr_p (y_move rfl) rfl rfl ?_
  obtain ⟨a1, e2, H⟩ := H
  refine tr_p (f_nn rfl e2) rfl rfl ?_
  refine tr_p (y_fa (off := 0) Try.runUnderlying86 fo_86_0 rfl) rfl rfl ?_
  obtain ⟨y3, k4, H⟩ := H
  refine tr_h (y_ld Try.isAgg84 rfl) k4 rfl rfl ?_
  refine tr_e (e_call Try.call68 rfl (F.slices_Clone_Slchain_version_spatelaw5_Wide_chain_version_spatelaw5_Wide_ok H)) rfl rfl ?_
  rintro _ h5 ⟨r6, rfl, H⟩
  refine tr_p (f_build rfl (bd_86_0 r6)) rfl rfl ?_
  refine tr_e (f_box (cs := (⟨r6⟩ : S_chain_Chain_spatelaw5_Wide).cells.toArray) rfl rfl H) rfl rfl ?_
  rintro _ h7 ⟨a8, rfl, H⟩
  refine tr_p (y_assign rfl) rfl rfl ?_
  refine tr_nil ?_
  refine tr_thenN ?_
  refine tr_ret ?_
  exact tr_ret1 rfl rfl ⟨_, rfl, H⟩

/-- (*spate/spatelaw5.World).step -/
def F.spatelaw5_World_step (p0 : Option Addr) (p1 : S_spatelaw5_Step) (h : H) (Q : Bool → H → Prop) : Prop :=
  new h p1.cells.toArray ty_50 fun a2 h1 =>
  ldI .i64 h1 (a2.add 0) fun y3 =>
  (((y3 == 1)) = true →
  ldI .i64 h1 (a2.add 1) fun y6 =>
  ldI .i64 h1 (a2.add 2) fun y8 =>
  F.spatelaw5_World_put p0 y6 y8 h1 fun r11 h10 =>
  Q r11 h10) ∧
  (((y3 == 1)) = false →
  (((y3 == 2)) = true →
  ldI .i64 h1 (a2.add 1) fun y13 =>
  F.spatelaw5_World_kill p0 y13 h1 fun r16 h15 =>
  Q r16 h15) ∧
  (((y3 == 2)) = false →
  (((y3 == 7)) = true →
  ldI .i64 h1 (a2.add 1) fun y18 =>
  ldI .i64 h1 (a2.add 2) fun y20 =>
  F.spatelaw5_World_near p0 y18 h1 fun r23 h22 =>
  cellH h22 (a2.add 2) = some (.int .i64 y20) ∧
  F.spatelaw5_World_put p0 r23 y20 h22 fun r26 h25 =>
  Q r26 h25) ∧
  (((y3 == 7)) = false →
  (((y3 == 8)) = true →
  ldI .i64 h1 (a2.add 1) fun y28 =>
  F.spatelaw5_World_near p0 y28 h1 fun r31 h30 =>
  F.spatelaw5_World_kill p0 r31 h30 fun r33 h32 =>
  Q r33 h32) ∧
  (((y3 == 8)) = false →
  (((y3 == 3)) = true →
  ldI .i64 h1 (a2.add 1) fun y35 =>
  F.spatelaw5_World_asks p0 y35 h1 fun r38 h37 =>
  Q r38 h37) ∧
  (((y3 == 3)) = false →
  (((y3 == 4)) = true →
  ldL h1 (a2.add 3) fun y40 =>
  F.spatelaw5_held y40 h1 fun r43 h42 =>
  F.spatelaw5_lent r43 h42 fun r45 h44 =>
  nn p0 fun a46 =>
  ldP h44 (a46.add 0) fun y48 =>
  F.chain_Chain_int_Prune y48 r45 h44 fun r51 h50 =>
  F.spatelaw5_kept r45 r43 h50 fun r53 h52 =>
  nn p0 fun a54 =>
  ldP h52 (a54.add 1) fun y56 =>
  F.spatelaw5_lent r43 h52 fun r59 h58 =>
  cellH h58 (a54.add 1) = some (.pointer y56) ∧
  F.chain_Chain_spatelaw5_Wide_Prune y56 r59 h58 fun r62 h61 =>
  nn p0 fun a63 =>
  ldP h61 (a63.add 2) fun y65 =>
  F.spateref5_Chain_Prune y65 r43 h61 fun r68 h67 =>
  (r53 = true →
  (((r51 == r68)) = true →
  Q ((r62 == r68)) h67) ∧
  (((r51 == r68)) = false →
  Q false h67)) ∧
  (r53 = false →
  Q false h67)) ∧
  (((y3 == 4)) = false →
  (((y3 == 5)) = true →
  F.spatelaw5_World_all p0 h1 fun r73 h72 =>
  Q r73 h72) ∧
  (((y3 == 5)) = false →
  (((y3 == 6)) = true →
  nn p0 fun a75 =>
  ldP h1 (a75.add 0) fun y77 =>
  F.chain_Chain_int_Twin y77 h1 fun r80 h79 =>
  nn p0 fun a81 =>
  stH h79 (a81.add 0) [(.pointer r80)] fun h83 =>
  nn p0 fun a84 =>
  ldP h83 (a84.add 1) fun y86 =>
  F.chain_Chain_spatelaw5_Wide_Twin y86 h83 fun r89 h88 =>
  nn p0 fun a90 =>
  stH h88 (a90.add 1) [(.pointer r89)] fun h92 =>
  nn p0 fun a93 =>
  ldP h92 (a93.add 0) fun y95 =>
  ((!y95.isNone) = true →
  nn p0 fun a98 =>
  ldP h92 (a98.add 1) fun y100 =>
  Q (!y100.isNone) h92) ∧
  ((!y95.isNone) = false →
  Q false h92)) ∧
  (((y3 == 6)) = false →
  Q true h1))))))))
theorem F.spatelaw5_World_step_ok {p0 : Option Addr} {p1 : S_spatelaw5_Step} {h : H} {Q : Bool → H → Prop} (H : F.spatelaw5_World_step p0 p1 h Q) : Fn PP 33 ([(.pointer p0), (.agg p1.cells.toArray)] : List Value).toArray h fun r h' => ∃ r0, r = (.bool r0) ∧ Q r0 h' := by
  unfold F.spatelaw5_World_step at H
  refine fn_of Try.func33 Try.ntmps33 rfl rfl fun w0 => ?_
  refine tr_sub [(0, (.pointer p0)), (1, (.agg p1.cells.toArray))] ⟨rfl, rfl, trivial⟩ ?_
  refine tr_seq ?_
  refine tr_region ?_
  refine tr_e (f_box (cs := p1.cells.toArray) rfl rfl H) rfl rfl ?_
  rintro _ h1 ⟨a2, rfl, H⟩
  refine tr_p (y_assign rfl) rfl rfl ?_
  refine tr_nil ?_
  refine tr_thenN ?_
  refine tr_seq ?_
  refine tr_seq ?_
  refine tr_region ?_
  refine tr_p (y_fa (off := 0) Try.runUnderlying50 fo_50_0 rfl) rfl rfl ?_
  obtain ⟨y3, k4, H⟩ := H
  refine tr_h (y_ld Try.isAgg3 rfl) k4 rfl rfl ?_
  refine tr_nil ?_
  refine tr_thenN ?_
  refine tr_block ?_
  refine tr_seq ?_
  refine tr_region ?_
  refine tr_p (y_eql rfl rfl) rfl rfl ?_
  refine tr_p (y_assign rfl) rfl rfl ?_
  refine tr_nil ?_
  refine tr_thenN ?_
  refine tr_cond rfl (fun g5 => ?_) (fun g5 => ?_)
  · replace H := H.1 g5
    refine tr_seq ?_
    refine tr_region ?_
    refine tr_p (y_move rfl) rfl rfl ?_
    refine tr_p (y_fa (off := 1) Try.runUnderlying50 fo_50_1 rfl) rfl rfl ?_
    obtain ⟨y6, k7, H⟩ := H
    refine tr_h (y_ld Try.isAgg3 rfl) k7 rfl rfl ?_
    refine tr_p (y_fa (off := 2) Try.runUnderlying50 fo_50_2 rfl) rfl rfl ?_
    obtain ⟨y8, k9, H⟩ := H
    refine tr_h (y_ld Try.isAgg3 rfl) k9 rfl rfl ?_
    refine tr_e (e_call Try.call44 rfl (F.spatelaw5_World_put_ok H)) rfl rfl ?_
    rintro _ h10 ⟨r11, rfl, H⟩
    refine tr_p (y_assign rfl) rfl rfl ?_
    refine tr_nil ?_
    refine tr_thenN ?_
    refine tr_ret ?_
    refine tr_blockR ?_
    refine tr_thenR ?_
    exact tr_ret1 rfl rfl ⟨_, rfl, H⟩
  · replace H := H.2 g5
    refine tr_seq ?_
    refine tr_region ?_
    refine tr_p (y_eql rfl rfl) rfl rfl ?_
    refine tr_p (y_assign rfl) rfl rfl ?_
    refine tr_nil ?_
    refine tr_thenN ?_
    refine tr_cond rfl (fun g12 => ?_) (fun g12 => ?_)
    · replace H := H.1 g12
      refine tr_seq ?_
      refine tr_region ?_
      refine tr_p (y_move rfl) rfl rfl ?_
      refine tr_p (y_fa (off := 1) Try.runUnderlying50 fo_50_1 rfl) rfl rfl ?_
      obtain ⟨y13, k14, H⟩ := H
      refine tr_h (y_ld Try.isAgg3 rfl) k14 rfl rfl ?_
      refine tr_e (e_call Try.call45 rfl (F.spatelaw5_World_kill_ok H)) rfl rfl ?_
      rintro _ h15 ⟨r16, rfl, H⟩
      refine tr_p (y_assign rfl) rfl rfl ?_
      refine tr_nil ?_
      refine tr_thenN ?_
      refine tr_ret ?_
      refine tr_blockR ?_
      refine tr_thenR ?_
      exact tr_ret1 rfl rfl ⟨_, rfl, H⟩
    · replace H := H.2 g12
      refine tr_seq ?_
      refine tr_region ?_
      refine tr_p (y_eql rfl rfl) rfl rfl ?_
      refine tr_p (y_assign rfl) rfl rfl ?_
      refine tr_nil ?_
      refine tr_thenN ?_
      refine tr_cond rfl (fun g17 => ?_) (fun g17 => ?_)
      · replace H := H.1 g17
        refine tr_seq ?_
        refine tr_draw mixed [0, 0, 0, 4, 14, 0, 32, 127, 255] (by kernel_rfl) ?_
        refine g_p 0 1 rfl (by kernel_rfl) (y_move rfl) rfl rfl ?_
        refine g_p 1 3 rfl (by kernel_rfl) (y_move rfl) rfl rfl ?_
        refine g_p 2 7 rfl (by kernel_rfl) (y_fa (off := 1) Try.runUnderlying50 fo_50_1 rfl) rfl rfl ?_
        obtain ⟨y18, k19, H⟩ := H
        refine g_h 3 15 rfl (by kernel_rfl) (y_ld Try.isAgg3 rfl) k19 rfl rfl ?_
        refine g_p 5 47 rfl (by kernel_rfl) (y_fa (off := 2) Try.runUnderlying50 fo_50_2 rfl) rfl rfl ?_
        obtain ⟨y20, k21, H⟩ := H
        refine g_h 6 111 rfl (by kernel_rfl) (y_ld Try.isAgg3 rfl) k21 rfl rfl ?_
        refine g_e 4 127 [(6, fun h => cellH h (a2.add 2) = some (.int .i64 y20))] (by kernel_rfl) rfl (by kernel_rfl) (e_call Try.call46 rfl (F.spatelaw5_World_near_ok H)) rfl rfl ?_
        rintro _ h22 ⟨r23, rfl, H⟩
        obtain ⟨k24, H⟩ := H
        refine ⟨And.intro k24 trivial, ?_⟩
        refine g_e 7 255 [] (by kernel_rfl) rfl (by kernel_rfl) (e_call Try.call44 rfl (F.spatelaw5_World_put_ok H)) rfl rfl ?_
        rintro _ h25 ⟨r26, rfl, H⟩
        refine ⟨trivial, ?_⟩
        refine g_p 8 511 rfl (by kernel_rfl) (y_assign rfl) rfl rfl ?_
        refine g_d (by kernel_rfl) ?_
        refine tr_thenN ?_
        refine tr_ret ?_
        refine tr_blockR ?_
        refine tr_thenR ?_
        exact tr_ret1 rfl rfl ⟨_, rfl, H⟩
      · replace H := H.2 g17
        refine tr_seq ?_
        refine tr_region ?_
        refine tr_p (y_eql rfl rfl) rfl rfl ?_
        refine tr_p (y_assign rfl) rfl rfl ?_
        refine tr_nil ?_
        refine tr_thenN ?_
        refine tr_cond rfl (fun g27 => ?_) (fun g27 => ?_)
        · replace H := H.1 g27
          refine tr_seq ?_
          refine tr_region ?_
          refine tr_p (y_move rfl) rfl rfl ?_
          refine tr_p (y_move rfl) rfl rfl ?_
          refine tr_p (y_fa (off := 1) Try.runUnderlying50 fo_50_1 rfl) rfl rfl ?_
          obtain ⟨y28, k29, H⟩ := H
          refine tr_h (y_ld Try.isAgg3 rfl) k29 rfl rfl ?_
          refine tr_e (e_call Try.call46 rfl (F.spatelaw5_World_near_ok H)) rfl rfl ?_
          rintro _ h30 ⟨r31, rfl, H⟩
          refine tr_e (e_call Try.call45 rfl (F.spatelaw5_World_kill_ok H)) rfl rfl ?_
          rintro _ h32 ⟨r33, rfl, H⟩
          refine tr_p (y_assign rfl) rfl rfl ?_
          refine tr_nil ?_
          refine tr_thenN ?_
          refine tr_ret ?_
          refine tr_blockR ?_
          refine tr_thenR ?_
          exact tr_ret1 rfl rfl ⟨_, rfl, H⟩
        · replace H := H.2 g27
          refine tr_seq ?_
          refine tr_region ?_
          refine tr_p (y_eql rfl rfl) rfl rfl ?_
          refine tr_p (y_assign rfl) rfl rfl ?_
          refine tr_nil ?_
          refine tr_thenN ?_
          refine tr_cond rfl (fun g34 => ?_) (fun g34 => ?_)
          · replace H := H.1 g34
            refine tr_seq ?_
            refine tr_region ?_
            refine tr_p (y_move rfl) rfl rfl ?_
            refine tr_p (y_fa (off := 1) Try.runUnderlying50 fo_50_1 rfl) rfl rfl ?_
            obtain ⟨y35, k36, H⟩ := H
            refine tr_h (y_ld Try.isAgg3 rfl) k36 rfl rfl ?_
            refine tr_e (e_call Try.call35 rfl (F.spatelaw5_World_asks_ok H)) rfl rfl ?_
            rintro _ h37 ⟨r38, rfl, H⟩
            refine tr_p (y_assign rfl) rfl rfl ?_
            refine tr_nil ?_
            refine tr_thenN ?_
            refine tr_ret ?_
            refine tr_blockR ?_
            refine tr_thenR ?_
            exact tr_ret1 rfl rfl ⟨_, rfl, H⟩
          · replace H := H.2 g34
            refine tr_seq ?_
            refine tr_region ?_
            refine tr_p (y_eql rfl rfl) rfl rfl ?_
            refine tr_p (y_assign rfl) rfl rfl ?_
            refine tr_nil ?_
            refine tr_thenN ?_
            refine tr_cond rfl (fun g39 => ?_) (fun g39 => ?_)
            · replace H := H.1 g39
              refine tr_seq ?_
              refine tr_region ?_
              refine tr_p (y_fa (off := 3) Try.runUnderlying50 fo_50_3 rfl) rfl rfl ?_
              obtain ⟨y40, k41, H⟩ := H
              refine tr_h (y_ld Try.isAgg24 rfl) k41 rfl rfl ?_
              refine tr_e (e_call Try.call13 rfl (F.spatelaw5_held_ok H)) rfl rfl ?_
              rintro _ h42 ⟨r43, rfl, H⟩
              refine tr_p (y_assign rfl) rfl rfl ?_
              refine tr_nil ?_
              refine tr_thenN ?_
              refine tr_seq ?_
              refine tr_region ?_
              refine tr_p (y_move rfl) rfl rfl ?_
              refine tr_e (e_call Try.call47 rfl (F.spatelaw5_lent_ok H)) rfl rfl ?_
              rintro _ h44 ⟨r45, rfl, H⟩
              refine tr_p (y_assign rfl) rfl rfl ?_
              refine tr_nil ?_
              refine tr_thenN ?_
              refine tr_seq ?_
              refine tr_region ?_
              refine tr_p (y_move rfl) rfl rfl ?_
              obtain ⟨a46, e47, H⟩ := H
              refine tr_p (f_nn rfl e47) rfl rfl ?_
              refine tr_p (y_fa (off := 0) Try.runUnderlying66 fo_66_0 rfl) rfl rfl ?_
              obtain ⟨y48, k49, H⟩ := H
              refine tr_h (y_ld Try.isAgg25 rfl) k49 rfl rfl ?_
              refine tr_p (y_move rfl) rfl rfl ?_
              refine tr_e (e_call Try.call17 rfl (F.chain_Chain_int_Prune_ok H)) rfl rfl ?_
              rintro _ h50 ⟨r51, rfl, H⟩
              refine tr_p (y_assign rfl) rfl rfl ?_
              refine tr_nil ?_
              refine tr_thenN ?_
              refine tr_seq ?_
              refine tr_region ?_
              refine tr_p (y_move rfl) rfl rfl ?_
              refine tr_p (y_move rfl) rfl rfl ?_
              refine tr_e (e_call Try.call48 rfl (F.spatelaw5_kept_ok H)) rfl rfl ?_
              rintro _ h52 ⟨r53, rfl, H⟩
              refine tr_p (y_assign rfl) rfl rfl ?_
              refine tr_nil ?_
              refine tr_thenN ?_
              refine tr_seq ?_
              refine tr_draw mixed [0, 1, 3, 7, 0, 16, 63, 127] (by kernel_rfl) ?_
              refine g_p 0 1 rfl (by kernel_rfl) (y_move rfl) rfl rfl ?_
              obtain ⟨a54, e55, H⟩ := H
              refine g_p 1 3 rfl (by kernel_rfl) (f_nn rfl e55) rfl rfl ?_
              refine g_p 2 7 rfl (by kernel_rfl) (y_fa (off := 1) Try.runUnderlying66 fo_66_1 rfl) rfl rfl ?_
              obtain ⟨y56, k57, H⟩ := H
              refine g_h 3 15 rfl (by kernel_rfl) (y_ld Try.isAgg57 rfl) k57 rfl rfl ?_
              refine g_p 4 31 rfl (by kernel_rfl) (y_move rfl) rfl rfl ?_
              refine g_e 5 63 [(3, fun h => cellH h (a54.add 1) = some (.pointer y56))] (by kernel_rfl) rfl (by kernel_rfl) (e_call Try.call47 rfl (F.spatelaw5_lent_ok H)) rfl rfl ?_
              rintro _ h58 ⟨r59, rfl, H⟩
              obtain ⟨k60, H⟩ := H
              refine ⟨And.intro k60 trivial, ?_⟩
              refine g_e 6 127 [] (by kernel_rfl) rfl (by kernel_rfl) (e_call Try.call49 rfl (F.chain_Chain_spatelaw5_Wide_Prune_ok H)) rfl rfl ?_
              rintro _ h61 ⟨r62, rfl, H⟩
              refine ⟨trivial, ?_⟩
              refine g_p 7 255 rfl (by kernel_rfl) (y_assign rfl) rfl rfl ?_
              refine g_d (by kernel_rfl) ?_
              refine tr_thenN ?_
              refine tr_seq ?_
              refine tr_region ?_
              refine tr_p (y_move rfl) rfl rfl ?_
              obtain ⟨a63, e64, H⟩ := H
              refine tr_p (f_nn rfl e64) rfl rfl ?_
              refine tr_p (y_fa (off := 2) Try.runUnderlying66 fo_66_2 rfl) rfl rfl ?_
              obtain ⟨y65, k66, H⟩ := H
              refine tr_h (y_ld Try.isAgg61 rfl) k66 rfl rfl ?_
              refine tr_p (y_move rfl) rfl rfl ?_
              refine tr_e (e_call Try.call50 rfl (F.spateref5_Chain_Prune_ok H)) rfl rfl ?_
              rintro _ h67 ⟨r68, rfl, H⟩
              refine tr_p (y_assign rfl) rfl rfl ?_
              refine tr_nil ?_
              refine tr_thenN ?_
              refine tr_seq ?_
              refine tr_region ?_
              refine tr_p (y_move rfl) rfl rfl ?_
              refine tr_p (y_move rfl) rfl rfl ?_
              refine tr_split (t := 81) rfl (fun g69 => ?_) (fun g69 => ?_)
              · replace H := H.1 g69
                refine tr_p (y_move rfl) rfl rfl ?_
                refine tr_p (y_move rfl) rfl rfl ?_
                refine tr_p (y_eql rfl rfl) rfl rfl ?_
                refine tr_p (y_pick_t rfl rfl) rfl rfl ?_
                refine tr_p (y_move rfl) rfl rfl ?_
                refine tr_split (t := 86) rfl (fun g70 => ?_) (fun g70 => ?_)
                · replace H := H.1 g70
                  refine tr_p (y_move rfl) rfl rfl ?_
                  refine tr_p (y_move rfl) rfl rfl ?_
                  refine tr_p (y_eql rfl rfl) rfl rfl ?_
                  refine tr_p (y_pick_t rfl rfl) rfl rfl ?_
                  refine tr_p (y_assign rfl) rfl rfl ?_
                  refine tr_nil ?_
                  refine tr_thenN ?_
                  refine tr_ret ?_
                  refine tr_blockR ?_
                  refine tr_thenR ?_
                  exact tr_ret1 rfl rfl ⟨_, rfl, H⟩
                · replace H := H.2 g70
                  refine tr_s rfl rfl ?_
                  refine tr_s rfl rfl ?_
                  refine tr_s rfl rfl ?_
                  refine tr_p (y_pick_f rfl rfl) rfl rfl ?_
                  refine tr_p (y_assign rfl) rfl rfl ?_
                  refine tr_nil ?_
                  refine tr_thenN ?_
                  refine tr_ret ?_
                  refine tr_blockR ?_
                  refine tr_thenR ?_
                  exact tr_ret1 rfl rfl ⟨_, rfl, H⟩
              · replace H := H.2 g69
                refine tr_s rfl rfl ?_
                refine tr_s rfl rfl ?_
                refine tr_s rfl rfl ?_
                refine tr_p (y_pick_f rfl rfl) rfl rfl ?_
                refine tr_p (y_move rfl) rfl rfl ?_
                refine tr_s rfl rfl ?_
                refine tr_s rfl rfl ?_
                refine tr_s rfl rfl ?_
                refine tr_p (y_pick_f rfl rfl) rfl rfl ?_
                refine tr_p (y_assign rfl) rfl rfl ?_
                refine tr_nil ?_
                refine tr_thenN ?_
                refine tr_ret ?_
                refine tr_blockR ?_
                refine tr_thenR ?_
                exact tr_ret1 rfl rfl ⟨_, rfl, H⟩
            · replace H := H.2 g39
              refine tr_seq ?_
              refine tr_region ?_
              refine tr_p (y_eql rfl rfl) rfl rfl ?_
              refine tr_p (y_assign rfl) rfl rfl ?_
              refine tr_nil ?_
              refine tr_thenN ?_
              refine tr_cond rfl (fun g71 => ?_) (fun g71 => ?_)
              · replace H := H.1 g71
                refine tr_seq ?_
                refine tr_region ?_
                refine tr_p (y_move rfl) rfl rfl ?_
                refine tr_e (e_call Try.call34 rfl (F.spatelaw5_World_all_ok H)) rfl rfl ?_
                rintro _ h72 ⟨r73, rfl, H⟩
                refine tr_p (y_assign rfl) rfl rfl ?_
                refine tr_nil ?_
                refine tr_thenN ?_
                refine tr_ret ?_
                refine tr_blockR ?_
                refine tr_thenR ?_
                exact tr_ret1 rfl rfl ⟨_, rfl, H⟩
              · replace H := H.2 g71
                refine tr_seq ?_
                refine tr_region ?_
                refine tr_p (y_eql rfl rfl) rfl rfl ?_
                refine tr_p (y_assign rfl) rfl rfl ?_
                refine tr_nil ?_
                refine tr_thenN ?_
                refine tr_cond rfl (fun g74 => ?_) (fun g74 => ?_)
                · replace H := H.1 g74
                  refine tr_seq ?_
                  refine tr_region ?_
                  refine tr_p (y_move rfl) rfl rfl ?_
                  refine tr_p (y_move rfl) rfl rfl ?_
                  obtain ⟨a75, e76, H⟩ := H
                  refine tr_p (f_nn rfl e76) rfl rfl ?_
                  refine tr_p (y_fa (off := 0) Try.runUnderlying66 fo_66_0 rfl) rfl rfl ?_
                  obtain ⟨y77, k78, H⟩ := H
                  refine tr_h (y_ld Try.isAgg25 rfl) k78 rfl rfl ?_
                  refine tr_e (e_call Try.call36 rfl (F.chain_Chain_int_Twin_ok H)) rfl rfl ?_
                  rintro _ h79 ⟨r80, rfl, H⟩
                  obtain ⟨a81, e82, H⟩ := H
                  refine tr_p (f_nn rfl e82) rfl rfl ?_
                  refine tr_p (y_fa (off := 0) Try.runUnderlying66 fo_66_0 rfl) rfl rfl ?_
                  refine tr_e (f_store (vs := [(.pointer r80)]) Try.sizeOf25 rfl rfl rfl rfl (one1 rfl) H) rfl rfl ?_
                  rintro _ h83 ⟨rfl, H⟩
                  refine tr_nil ?_
                  refine tr_thenN ?_
                  refine tr_seq ?_
                  refine tr_region ?_
                  refine tr_p (y_move rfl) rfl rfl ?_
                  refine tr_p (y_move rfl) rfl rfl ?_
                  obtain ⟨a84, e85, H⟩ := H
                  refine tr_p (f_nn rfl e85) rfl rfl ?_
                  refine tr_p (y_fa (off := 1) Try.runUnderlying66 fo_66_1 rfl) rfl rfl ?_
                  obtain ⟨y86, k87, H⟩ := H
                  refine tr_h (y_ld Try.isAgg57 rfl) k87 rfl rfl ?_
                  refine tr_e (e_call Try.call51 rfl (F.chain_Chain_spatelaw5_Wide_Twin_ok H)) rfl rfl ?_
                  rintro _ h88 ⟨r89, rfl, H⟩
                  obtain ⟨a90, e91, H⟩ := H
                  refine tr_p (f_nn rfl e91) rfl rfl ?_
                  refine tr_p (y_fa (off := 1) Try.runUnderlying66 fo_66_1 rfl) rfl rfl ?_
                  refine tr_e (f_store (vs := [(.pointer r89)]) Try.sizeOf57 rfl rfl rfl rfl (one1 rfl) H) rfl rfl ?_
                  rintro _ h92 ⟨rfl, H⟩
                  refine tr_nil ?_
                  refine tr_thenN ?_
                  refine tr_seq ?_
                  refine tr_region ?_
                  refine tr_p (y_move rfl) rfl rfl ?_
                  obtain ⟨a93, e94, H⟩ := H
                  refine tr_p (f_nn rfl e94) rfl rfl ?_
                  refine tr_p (y_fa (off := 0) Try.runUnderlying66 fo_66_0 rfl) rfl rfl ?_
                  obtain ⟨y95, k96, H⟩ := H
                  refine tr_h (y_ld Try.isAgg25 rfl) k96 rfl rfl ?_
                  refine tr_p (y_pnil_neq Try.runUnderlying25 rfl rfl) rfl rfl ?_
                  refine tr_p (y_move rfl) rfl rfl ?_
                  refine tr_split (t := 118) rfl (fun g97 => ?_) (fun g97 => ?_)
                  · replace H := H.1 g97
                    refine tr_p (y_move rfl) rfl rfl ?_
                    obtain ⟨a98, e99, H⟩ := H
                    refine tr_p (f_nn rfl e99) rfl rfl ?_
                    refine tr_p (y_fa (off := 1) Try.runUnderlying66 fo_66_1 rfl) rfl rfl ?_
                    obtain ⟨y100, k101, H⟩ := H
                    refine tr_h (y_ld Try.isAgg57 rfl) k101 rfl rfl ?_
                    refine tr_p (y_pnil_neq Try.runUnderlying57 rfl rfl) rfl rfl ?_
                    refine tr_p (y_pick_t rfl rfl) rfl rfl ?_
                    refine tr_p (y_assign rfl) rfl rfl ?_
                    refine tr_nil ?_
                    refine tr_thenN ?_
                    refine tr_ret ?_
                    refine tr_blockR ?_
                    refine tr_thenR ?_
                    exact tr_ret1 rfl rfl ⟨_, rfl, H⟩
                  · replace H := H.2 g97
                    refine tr_s rfl rfl ?_
                    refine tr_s rfl rfl ?_
                    refine tr_s rfl rfl ?_
                    refine tr_s rfl rfl ?_
                    refine tr_s rfl rfl ?_
                    refine tr_p (y_pick_f rfl rfl) rfl rfl ?_
                    refine tr_p (y_assign rfl) rfl rfl ?_
                    refine tr_nil ?_
                    refine tr_thenN ?_
                    refine tr_ret ?_
                    refine tr_blockR ?_
                    refine tr_thenR ?_
                    exact tr_ret1 rfl rfl ⟨_, rfl, H⟩
                · replace H := H.2 g74
                  refine tr_skip ?_
                  refine tr_blockN ?_
                  refine tr_thenN ?_
                  refine tr_seq ?_
                  refine tr_region ?_
                  refine tr_p (y_assign rfl) rfl rfl ?_
                  refine tr_nil ?_
                  refine tr_thenN ?_
                  refine tr_ret ?_
                  exact tr_ret1 rfl rfl ⟨_, rfl, H⟩

def F.spatelaw5_ChainPlays.j2 (Q : Bool → H → Prop) (C1 : Sl → Addr → Int → H → Prop) (x0 : Sl) (x3 : Addr) (x4 : Int) (h : H) : Prop :=
  idxA x0 x4 4 fun a12 =>
  ld_S_spatelaw5_Step h a12 fun y14 =>
  F.spatelaw5_World_step (some x3) y14 h fun r17 h16 =>
  ((!r17) = true →
  Q false h16) ∧
  ((!r17) = false →
  C1 x0 x3 (IntKind.wrap .i64 (x4 + 1)) h16)
def F.spatelaw5_ChainPlays.j3 (Q : Bool → H → Prop) (C1 : Sl → Addr → Int → H → Prop) (x0 : Sl) (x3 : Addr) (x4 : Int) (x20 : Bool) (h : H) : Prop :=
  (x20 = true →
  F.spatelaw5_ChainPlays.j2 Q C1 x0 x3 x4 h) ∧
  (x20 = false →
  F.spatelaw5_World_all (some x3) h fun r21 h20 =>
  (r21 = true →
  F.spatelaw5_World_asks (some x3) 4611686018427387904 h20 fun r24 h23 =>
  Q r24 h23) ∧
  (r21 = false →
  Q false h20))
def F.spatelaw5_ChainPlays.l1 (Q : Bool → H → Prop) : Nat → Sl → Addr → Int → H → Prop
  | 0, _, _, _, _ => False
  | q1 + 1, x0, x3, x4, h =>
    ((decide (x4 < (x0.len : Int))) = true →
    F.spatelaw5_ChainPlays.j3 Q (F.spatelaw5_ChainPlays.l1 Q q1) x0 x3 x4 (decide (x4 < 2000)) h) ∧
    ((decide (x4 < (x0.len : Int))) = false →
    F.spatelaw5_ChainPlays.j3 Q (F.spatelaw5_ChainPlays.l1 Q q1) x0 x3 x4 false h)
/-- spate/spatelaw5.ChainPlays -/
def F.spatelaw5_ChainPlays (p0 : Sl) (h : H) (Q : Bool → H → Prop) : Prop :=
  F.spatelaw5_known  h fun r2 h1 =>
  ((!r2) = true →
  Q false h1) ∧
  ((!r2) = false →
  F.chain_New_int  h1 fun r5 h4 =>
  F.chain_New_spatelaw5_Wide  h4 fun r7 h6 =>
  new h6 ((⟨(⟨none, 0, 0⟩ : Sl)⟩ : S_spateref5_Chain).cells.toArray) ty_64 fun a9 h8 =>
  new h8 ((⟨r5, r7, (some a9)⟩ : S_spatelaw5_World).cells.toArray) ty_66 fun a11 h10 =>
  ∃ m, F.spatelaw5_ChainPlays.l1 Q m p0 a11 0 h10)
theorem F.spatelaw5_ChainPlays_ok {p0 : Sl} {h : H} {Q : Bool → H → Prop} (H : F.spatelaw5_ChainPlays p0 h Q) : Fn PP 9 ([p0.enc] : List Value).toArray h fun r h' => ∃ r0, r = (.bool r0) ∧ Q r0 h' := by
  unfold F.spatelaw5_ChainPlays at H
  refine fn_of Try.func9 Try.ntmps9 rfl rfl fun w0 => ?_
  refine tr_sub [(0, p0.enc)] ⟨rfl, trivial⟩ ?_
  refine tr_seq ?_
  refine tr_region ?_
  refine tr_p (y_assign rfl) rfl rfl ?_
  refine tr_nil ?_
  refine tr_thenN ?_
  refine tr_seq ?_
  refine tr_seq ?_
  refine tr_region ?_
  refine tr_e (e_call Try.call11 rfl (F.spatelaw5_known_ok H)) rfl rfl ?_
  rintro _ h1 ⟨r2, rfl, H⟩
  refine tr_p (y_not rfl) rfl rfl ?_
  refine tr_nil ?_
  refine tr_thenN ?_
  refine tr_cond rfl (fun g3 => ?_) (fun g3 => ?_)
  · replace H := H.1 g3
    refine tr_seq ?_
    refine tr_region ?_
    refine tr_p (y_assign rfl) rfl rfl ?_
    refine tr_nil ?_
    refine tr_thenN ?_
    refine tr_ret ?_
    refine tr_thenR ?_
    exact tr_ret1 rfl rfl ⟨_, rfl, H⟩
  · replace H := H.2 g3
    refine tr_skip ?_
    refine tr_thenN ?_
    refine tr_seq ?_
    refine tr_region ?_
    refine tr_e (e_call Try.call29 rfl (F.chain_New_int_ok H)) rfl rfl ?_
    rintro _ h4 ⟨r5, rfl, H⟩
    refine tr_e (e_call Try.call32 rfl (F.chain_New_spatelaw5_Wide_ok H)) rfl rfl ?_
    rintro _ h6 ⟨r7, rfl, H⟩
    refine tr_p (f_build rfl (bd_64_ )) rfl rfl ?_
    refine tr_e (f_box (cs := (⟨(⟨none, 0, 0⟩ : Sl)⟩ : S_spateref5_Chain).cells.toArray) rfl rfl H) rfl rfl ?_
    rintro _ h8 ⟨a9, rfl, H⟩
    refine tr_p (f_build rfl (bd_66_0_1_2 r5 r7 (some a9))) rfl rfl ?_
    refine tr_e (f_box (cs := (⟨r5, r7, (some a9)⟩ : S_spatelaw5_World).cells.toArray) rfl rfl H) rfl rfl ?_
    rintro _ h10 ⟨a11, rfl, H⟩
    refine tr_p (y_assign rfl) rfl rfl ?_
    refine tr_nil ?_
    refine tr_thenN ?_
    refine tr_seq ?_
    refine tr_seq ?_
    refine tr_region ?_
    refine tr_p (y_assign rfl) rfl rfl ?_
    refine tr_nil ?_
    refine tr_thenN ?_
    refine tr_block ?_
    obtain ⟨m26, H⟩ := H
    refine tr_sub [(0, p0.enc), (3, (.pointer (some a11))), (4, (.int .i64 0))] ⟨rfl, rfl, rfl, trivial⟩ ?_
    refine tr_loop_j (fun m L' h => ∃ (x0 : Sl) (x3 : Addr) (x4 : Int), L' = [(0, x0.enc), (3, (.pointer (some x3))), (4, (.int .i64 x4))] ∧ F.spatelaw5_ChainPlays.l1 Q m x0 x3 x4 h) ?_ ?_ m26 ⟨_, _, _, rfl, H⟩
    · rintro L' h ⟨_, _, _, _, H⟩; exact H
    · rintro q1 L' h ⟨x0, x3, x4, rfl, H⟩
      unfold F.spatelaw5_ChainPlays.l1 at H
      refine tr_seq_j (fun L' h => ∃ (x0 : Sl) (x3 : Addr) (x4 : Int), L' = [(0, x0.enc), (3, (.pointer (some x3))), (4, (.int .i64 x4))] ∧ F.spatelaw5_ChainPlays.j2 Q (F.spatelaw5_ChainPlays.l1 Q q1) x0 x3 x4 h) ?_ ?_
      · rintro L' h ⟨x0, x3, x4, rfl, H⟩
        unfold F.spatelaw5_ChainPlays.j2 at H
        refine tr_seq ?_
        refine tr_block ?_
        refine tr_seq ?_
        refine tr_region ?_
        refine tr_p (y_move rfl) rfl rfl ?_
        refine tr_p (y_move rfl) rfl rfl ?_
        refine tr_p (y_move rfl) rfl rfl ?_
        obtain ⟨a12, e13, H⟩ := H
        refine tr_p (f_idx (s := x0) Try.runUnderlying23 Try.sizeOf50 rfl rfl e13) rfl rfl ?_
        obtain ⟨y14, k15, H⟩ := H
        refine tr_h (y_ldS Try.isAgg50 Try.sizeOf50 rfl rfl) k15 rfl rfl ?_
        refine tr_e (e_call Try.call33 rfl (F.spatelaw5_World_step_ok H)) rfl rfl ?_
        rintro _ h16 ⟨r17, rfl, H⟩
        refine tr_p (y_not rfl) rfl rfl ?_
        refine tr_nil ?_
        refine tr_thenN ?_
        refine tr_cond rfl (fun g18 => ?_) (fun g18 => ?_)
        · replace H := H.1 g18
          refine tr_seq ?_
          refine tr_region ?_
          refine tr_p (y_assign rfl) rfl rfl ?_
          refine tr_nil ?_
          refine tr_thenN ?_
          refine tr_ret ?_
          refine tr_blockR ?_
          refine tr_thenR ?_
          refine tr_thenR ?_
          refine tr_blockR ?_
          refine tr_thenR ?_
          exact tr_ret1 rfl rfl ⟨_, rfl, H⟩
        · replace H := H.2 g18
          refine tr_skip ?_
          refine tr_blockN ?_
          refine tr_thenN ?_
          refine tr_region ?_
          refine tr_p (y_move rfl) rfl rfl ?_
          refine tr_p (y_add rfl rfl) rfl rfl ?_
          refine tr_p (y_assign rfl) rfl rfl ?_
          refine tr_nil ?_
          refine tr_thenN ?_
          exact tr_join [(0, x0.enc), (3, (.pointer (some x3))), (4, (.int .i64 (IntKind.wrap .i64 (x4 + 1))))] ⟨rfl, rfl, rfl, trivial⟩ ⟨_, _, _, rfl, H⟩
      · refine tr_seq_j (fun L' h => ∃ (x0 : Sl) (x3 : Addr) (x4 : Int) (x20 : Bool), L' = [(0, x0.enc), (3, (.pointer (some x3))), (4, (.int .i64 x4)), (20, (.bool x20))] ∧ F.spatelaw5_ChainPlays.j3 Q (F.spatelaw5_ChainPlays.l1 Q q1) x0 x3 x4 x20 h) ?_ ?_
        · rintro L' h ⟨x0, x3, x4, x20, rfl, H⟩
          unfold F.spatelaw5_ChainPlays.j3 at H
          refine tr_cond rfl (fun g19 => ?_) (fun g19 => ?_)
          · replace H := H.1 g19
            refine tr_skip ?_
            refine tr_thenN ?_
            exact tr_join [(0, x0.enc), (3, (.pointer (some x3))), (4, (.int .i64 x4))] ⟨rfl, rfl, rfl, trivial⟩ ⟨_, _, _, rfl, H⟩
          · replace H := H.2 g19
            refine tr_exit ?_
            refine tr_thenE ?_
            refine tr_thenE ?_
            refine tr_hit ?_
            refine tr_thenN ?_
            refine tr_seq ?_
            refine tr_region ?_
            refine tr_p (y_move rfl) rfl rfl ?_
            refine tr_e (e_call Try.call34 rfl (F.spatelaw5_World_all_ok H)) rfl rfl ?_
            rintro _ h20 ⟨r21, rfl, H⟩
            refine tr_p (y_move rfl) rfl rfl ?_
            refine tr_split (t := 32) rfl (fun g22 => ?_) (fun g22 => ?_)
            · replace H := H.1 g22
              refine tr_p (y_move rfl) rfl rfl ?_
              refine tr_e (e_call Try.call35 rfl (F.spatelaw5_World_asks_ok H)) rfl rfl ?_
              rintro _ h23 ⟨r24, rfl, H⟩
              refine tr_p (y_pick_t rfl rfl) rfl rfl ?_
              refine tr_p (y_assign rfl) rfl rfl ?_
              refine tr_nil ?_
              refine tr_thenN ?_
              refine tr_ret ?_
              exact tr_ret1 rfl rfl ⟨_, rfl, H⟩
            · replace H := H.2 g22
              refine tr_s rfl rfl ?_
              refine tr_s rfl rfl ?_
              refine tr_p (y_pick_f rfl rfl) rfl rfl ?_
              refine tr_p (y_assign rfl) rfl rfl ?_
              refine tr_nil ?_
              refine tr_thenN ?_
              refine tr_ret ?_
              exact tr_ret1 rfl rfl ⟨_, rfl, H⟩
        · refine tr_region ?_
          refine tr_p (y_move rfl) rfl rfl ?_
          refine tr_p (y_move rfl) rfl rfl ?_
          refine tr_p (y_len (ts := #[]) Try.runUnderlying23 (o := x0.ptr) (n := x0.len) (cap := x0.cap) rfl) rfl rfl ?_
          refine tr_p (y_lss rfl rfl) rfl rfl ?_
          refine tr_p (y_move rfl) rfl rfl ?_
          refine tr_split (t := 17) rfl (fun g25 => ?_) (fun g25 => ?_)
          · replace H := H.1 g25
            refine tr_p (y_move rfl) rfl rfl ?_
            refine tr_p (y_lss rfl rfl) rfl rfl ?_
            refine tr_p (y_pick_t rfl rfl) rfl rfl ?_
            refine tr_nil ?_
            refine tr_thenN ?_
            exact tr_join [(0, x0.enc), (3, (.pointer (some x3))), (4, (.int .i64 x4)), (20, (.bool (decide (x4 < 2000))))] ⟨rfl, rfl, rfl, rfl, trivial⟩ ⟨_, _, _, _, rfl, H⟩
          · replace H := H.2 g25
            refine tr_s rfl rfl ?_
            refine tr_s rfl rfl ?_
            refine tr_p (y_pick_f rfl rfl) rfl rfl ?_
            refine tr_nil ?_
            refine tr_thenN ?_
            exact tr_join [(0, x0.enc), (3, (.pointer (some x3))), (4, (.int .i64 x4)), (20, (.bool false))] ⟨rfl, rfl, rfl, rfl, trivial⟩ ⟨_, _, _, _, rfl, H⟩

/-- spate/spatelaw5.alike -/
def F.spatelaw5_alike (p0 : Option Addr) (p1 : Option Addr) (h : H) (Q : Bool → H → Prop) : Prop :=
  F.spatelaw5_epochs p0 h fun r2 h1 =>
  F.chain_Chain_int_Newest p0 h1 fun r4 r5 r6 h3 =>
  F.chain_Chain_int_Newest p1 h3 fun r8 r9 r10 h7 =>
  F.spatelaw5_epochs p1 h7 fun r12 h11 =>
  F.spatelaw5_same r2 r12 h11 fun r14 h13 =>
  (r14 = true →
  F.spatelaw5_at p0 r2 h13 fun r17 h16 =>
  F.spatelaw5_at p1 r2 h16 fun r19 h18 =>
  F.spatelaw5_same r17 r19 h18 fun r21 h20 =>
  (r21 = true →
  (((r4 == r8)) = true →
  (((r5 == r9)) = true →
  ((r6 == r10) = true →
  F.chain_Chain_int_Len p0 h20 fun r27 h26 =>
  F.chain_Chain_int_Len p1 h26 fun r29 h28 =>
  Q ((r27 == r29)) h28) ∧
  ((r6 == r10) = false →
  Q false h20)) ∧
  (((r5 == r9)) = false →
  Q false h20)) ∧
  (((r4 == r8)) = false →
  Q false h20)) ∧
  (r21 = false →
  Q false h20)) ∧
  (r14 = false →
  Q false h13)
theorem F.spatelaw5_alike_ok {p0 : Option Addr} {p1 : Option Addr} {h : H} {Q : Bool → H → Prop} (H : F.spatelaw5_alike p0 p1 h Q) : Fn PP 37 ([(.pointer p0), (.pointer p1)] : List Value).toArray h fun r h' => ∃ r0, r = (.bool r0) ∧ Q r0 h' := by
  unfold F.spatelaw5_alike at H
  refine fn_of Try.func37 Try.ntmps37 rfl rfl fun w0 => ?_
  refine tr_sub [(0, (.pointer p0)), (1, (.pointer p1))] ⟨rfl, rfl, trivial⟩ ?_
  refine tr_seq ?_
  refine tr_region ?_
  refine tr_p (y_assign rfl) rfl rfl ?_
  refine tr_nil ?_
  refine tr_thenN ?_
  refine tr_seq ?_
  refine tr_region ?_
  refine tr_p (y_move rfl) rfl rfl ?_
  refine tr_e (e_call Try.call20 rfl (F.spatelaw5_epochs_ok H)) rfl rfl ?_
  rintro _ h1 ⟨r2, rfl, H⟩
  refine tr_p (y_assign rfl) rfl rfl ?_
  refine tr_nil ?_
  refine tr_thenN ?_
  refine tr_seq ?_
  refine tr_region ?_
  refine tr_p (y_move rfl) rfl rfl ?_
  refine tr_e (e_call Try.call14 rfl (F.chain_Chain_int_Newest_ok H)) rfl rfl ?_
  rintro _ h3 ⟨r4, r5, r6, rfl, H⟩
  refine tr_p (y_move rfl) rfl rfl ?_
  refine tr_p (y_ext rfl rfl) rfl rfl ?_
  refine tr_p (y_ext rfl rfl) rfl rfl ?_
  refine tr_p (y_ext rfl rfl) rfl rfl ?_
  refine tr_p (y_assign rfl) rfl rfl ?_
  refine tr_p (y_assign rfl) rfl rfl ?_
  refine tr_p (y_assign rfl) rfl rfl ?_
  refine tr_nil ?_
  refine tr_thenN ?_
  refine tr_seq ?_
  refine tr_region ?_
  refine tr_p (y_move rfl) rfl rfl ?_
  refine tr_e (e_call Try.call14 rfl (F.chain_Chain_int_Newest_ok H)) rfl rfl ?_
  rintro _ h7 ⟨r8, r9, r10, rfl, H⟩
  refine tr_p (y_move rfl) rfl rfl ?_
  refine tr_p (y_ext rfl rfl) rfl rfl ?_
  refine tr_p (y_ext rfl rfl) rfl rfl ?_
  refine tr_p (y_ext rfl rfl) rfl rfl ?_
  refine tr_p (y_assign rfl) rfl rfl ?_
  refine tr_p (y_assign rfl) rfl rfl ?_
  refine tr_p (y_assign rfl) rfl rfl ?_
  refine tr_nil ?_
  refine tr_thenN ?_
  refine tr_seq ?_
  refine tr_region ?_
  refine tr_p (y_move rfl) rfl rfl ?_
  refine tr_p (y_move rfl) rfl rfl ?_
  refine tr_e (e_call Try.call20 rfl (F.spatelaw5_epochs_ok H)) rfl rfl ?_
  rintro _ h11 ⟨r12, rfl, H⟩
  refine tr_e (e_call Try.call18 rfl (F.spatelaw5_same_ok H)) rfl rfl ?_
  rintro _ h13 ⟨r14, rfl, H⟩
  refine tr_p (y_move rfl) rfl rfl ?_
  refine tr_split (t := 30) rfl (fun g15 => ?_) (fun g15 => ?_)
  · replace H := H.1 g15
    refine tr_p (y_move rfl) rfl rfl ?_
    refine tr_p (y_move rfl) rfl rfl ?_
    refine tr_e (e_call Try.call15 rfl (F.spatelaw5_at_ok H)) rfl rfl ?_
    rintro _ h16 ⟨r17, rfl, H⟩
    refine tr_p (y_move rfl) rfl rfl ?_
    refine tr_p (y_move rfl) rfl rfl ?_
    refine tr_e (e_call Try.call15 rfl (F.spatelaw5_at_ok H)) rfl rfl ?_
    rintro _ h18 ⟨r19, rfl, H⟩
    refine tr_e (e_call Try.call18 rfl (F.spatelaw5_same_ok H)) rfl rfl ?_
    rintro _ h20 ⟨r21, rfl, H⟩
    refine tr_p (y_pick_t rfl rfl) rfl rfl ?_
    refine tr_p (y_move rfl) rfl rfl ?_
    refine tr_split (t := 39) rfl (fun g22 => ?_) (fun g22 => ?_)
    · replace H := H.1 g22
      refine tr_p (y_move rfl) rfl rfl ?_
      refine tr_p (y_move rfl) rfl rfl ?_
      refine tr_p (y_eql rfl rfl) rfl rfl ?_
      refine tr_p (y_pick_t rfl rfl) rfl rfl ?_
      refine tr_p (y_move rfl) rfl rfl ?_
      refine tr_split (t := 44) rfl (fun g23 => ?_) (fun g23 => ?_)
      · replace H := H.1 g23
        refine tr_p (y_move rfl) rfl rfl ?_
        refine tr_p (y_move rfl) rfl rfl ?_
        refine tr_p (y_eql rfl rfl) rfl rfl ?_
        refine tr_p (y_pick_t rfl rfl) rfl rfl ?_
        refine tr_p (y_move rfl) rfl rfl ?_
        refine tr_split (t := 49) rfl (fun g24 => ?_) (fun g24 => ?_)
        · replace H := H.1 g24
          refine tr_p (y_move rfl) rfl rfl ?_
          refine tr_p (y_move rfl) rfl rfl ?_
          refine tr_p (y_beql Try.underlying4 rfl rfl) rfl rfl ?_
          refine tr_p (y_pick_t rfl rfl) rfl rfl ?_
          refine tr_p (y_move rfl) rfl rfl ?_
          refine tr_split (t := 54) rfl (fun g25 => ?_) (fun g25 => ?_)
          · replace H := H.1 g25
            refine tr_p (y_move rfl) rfl rfl ?_
            refine tr_e (e_call Try.call16 rfl (F.chain_Chain_int_Len_ok H)) rfl rfl ?_
            rintro _ h26 ⟨r27, rfl, H⟩
            refine tr_p (y_move rfl) rfl rfl ?_
            refine tr_e (e_call Try.call16 rfl (F.chain_Chain_int_Len_ok H)) rfl rfl ?_
            rintro _ h28 ⟨r29, rfl, H⟩
            refine tr_p (y_eql rfl rfl) rfl rfl ?_
            refine tr_p (y_pick_t rfl rfl) rfl rfl ?_
            refine tr_p (y_assign rfl) rfl rfl ?_
            refine tr_nil ?_
            refine tr_thenN ?_
            refine tr_ret ?_
            exact tr_ret1 rfl rfl ⟨_, rfl, H⟩
          · replace H := H.2 g25
            refine tr_s rfl rfl ?_
            refine tr_s rfl rfl ?_
            refine tr_s rfl rfl ?_
            refine tr_s rfl rfl ?_
            refine tr_s rfl rfl ?_
            refine tr_p (y_pick_f rfl rfl) rfl rfl ?_
            refine tr_p (y_assign rfl) rfl rfl ?_
            refine tr_nil ?_
            refine tr_thenN ?_
            refine tr_ret ?_
            exact tr_ret1 rfl rfl ⟨_, rfl, H⟩
        · replace H := H.2 g24
          refine tr_s rfl rfl ?_
          refine tr_s rfl rfl ?_
          refine tr_s rfl rfl ?_
          refine tr_p (y_pick_f rfl rfl) rfl rfl ?_
          refine tr_p (y_move rfl) rfl rfl ?_
          refine tr_s rfl rfl ?_
          refine tr_s rfl rfl ?_
          refine tr_s rfl rfl ?_
          refine tr_s rfl rfl ?_
          refine tr_s rfl rfl ?_
          refine tr_p (y_pick_f rfl rfl) rfl rfl ?_
          refine tr_p (y_assign rfl) rfl rfl ?_
          refine tr_nil ?_
          refine tr_thenN ?_
          refine tr_ret ?_
          exact tr_ret1 rfl rfl ⟨_, rfl, H⟩
      · replace H := H.2 g23
        refine tr_s rfl rfl ?_
        refine tr_s rfl rfl ?_
        refine tr_s rfl rfl ?_
        refine tr_p (y_pick_f rfl rfl) rfl rfl ?_
        refine tr_p (y_move rfl) rfl rfl ?_
        refine tr_s rfl rfl ?_
        refine tr_s rfl rfl ?_
        refine tr_s rfl rfl ?_
        refine tr_p (y_pick_f rfl rfl) rfl rfl ?_
        refine tr_p (y_move rfl) rfl rfl ?_
        refine tr_s rfl rfl ?_
        refine tr_s rfl rfl ?_
        refine tr_s rfl rfl ?_
        refine tr_s rfl rfl ?_
        refine tr_s rfl rfl ?_
        refine tr_p (y_pick_f rfl rfl) rfl rfl ?_
        refine tr_p (y_assign rfl) rfl rfl ?_
        refine tr_nil ?_
        refine tr_thenN ?_
        refine tr_ret ?_
        exact tr_ret1 rfl rfl ⟨_, rfl, H⟩
    · replace H := H.2 g22
      refine tr_s rfl rfl ?_
      refine tr_s rfl rfl ?_
      refine tr_s rfl rfl ?_
      refine tr_p (y_pick_f rfl rfl) rfl rfl ?_
      refine tr_p (y_move rfl) rfl rfl ?_
      refine tr_s rfl rfl ?_
      refine tr_s rfl rfl ?_
      refine tr_s rfl rfl ?_
      refine tr_p (y_pick_f rfl rfl) rfl rfl ?_
      refine tr_p (y_move rfl) rfl rfl ?_
      refine tr_s rfl rfl ?_
      refine tr_s rfl rfl ?_
      refine tr_s rfl rfl ?_
      refine tr_p (y_pick_f rfl rfl) rfl rfl ?_
      refine tr_p (y_move rfl) rfl rfl ?_
      refine tr_s rfl rfl ?_
      refine tr_s rfl rfl ?_
      refine tr_s rfl rfl ?_
      refine tr_s rfl rfl ?_
      refine tr_s rfl rfl ?_
      refine tr_p (y_pick_f rfl rfl) rfl rfl ?_
      refine tr_p (y_assign rfl) rfl rfl ?_
      refine tr_nil ?_
      refine tr_thenN ?_
      refine tr_ret ?_
      exact tr_ret1 rfl rfl ⟨_, rfl, H⟩
  · replace H := H.2 g15
    refine tr_s rfl rfl ?_
    refine tr_s rfl rfl ?_
    refine tr_s rfl rfl ?_
    refine tr_s rfl rfl ?_
    refine tr_s rfl rfl ?_
    refine tr_s rfl rfl ?_
    refine tr_s rfl rfl ?_
    refine tr_p (y_pick_f rfl rfl) rfl rfl ?_
    refine tr_p (y_move rfl) rfl rfl ?_
    refine tr_s rfl rfl ?_
    refine tr_s rfl rfl ?_
    refine tr_s rfl rfl ?_
    refine tr_p (y_pick_f rfl rfl) rfl rfl ?_
    refine tr_p (y_move rfl) rfl rfl ?_
    refine tr_s rfl rfl ?_
    refine tr_s rfl rfl ?_
    refine tr_s rfl rfl ?_
    refine tr_p (y_pick_f rfl rfl) rfl rfl ?_
    refine tr_p (y_move rfl) rfl rfl ?_
    refine tr_s rfl rfl ?_
    refine tr_s rfl rfl ?_
    refine tr_s rfl rfl ?_
    refine tr_p (y_pick_f rfl rfl) rfl rfl ?_
    refine tr_p (y_move rfl) rfl rfl ?_
    refine tr_s rfl rfl ?_
    refine tr_s rfl rfl ?_
    refine tr_s rfl rfl ?_
    refine tr_s rfl rfl ?_
    refine tr_s rfl rfl ?_
    refine tr_p (y_pick_f rfl rfl) rfl rfl ?_
    refine tr_p (y_assign rfl) rfl rfl ?_
    refine tr_nil ?_
    refine tr_thenN ?_
    refine tr_ret ?_
    exact tr_ret1 rfl rfl ⟨_, rfl, H⟩

def F.spatelaw5_ChainApart.j3 (Q : Bool → H → Prop) (C1 : Sl → Sl → Sl → (Option Addr) → (Option Addr) → Int → H → Prop) (x0 : Sl) (x1 : Sl) (x2 : Sl) (x7 : Option Addr) (x8 : Option Addr) (x9 : Int) (h : H) : Prop :=
  C1 x0 x1 x2 x7 x8 (IntKind.wrap .i64 (x9 + 1)) h
def F.spatelaw5_ChainApart.j4 (Q : Bool → H → Prop) (C1 : Sl → Sl → Sl → (Option Addr) → (Option Addr) → Int → H → Prop) (x0 : Sl) (x1 : Sl) (x2 : Sl) (x7 : Option Addr) (x8 : Option Addr) (x9 : Int) (h : H) : Prop :=
  ((decide (x9 < (x2.len : Int))) = true →
  idxA x2 x9 4 fun a10 =>
  ld_S_spatelaw5_Step h a10 fun y12 =>
  F.spatelaw5_do x8 y12 h fun h14 =>
  F.spatelaw5_ChainApart.j3 Q C1 x0 x1 x2 x7 x8 x9 h14) ∧
  ((decide (x9 < (x2.len : Int))) = false →
  F.spatelaw5_ChainApart.j3 Q C1 x0 x1 x2 x7 x8 x9 h)
def F.spatelaw5_ChainApart.j2 (Q : Bool → H → Prop) (C1 : Sl → Sl → Sl → (Option Addr) → (Option Addr) → Int → H → Prop) (x0 : Sl) (x1 : Sl) (x2 : Sl) (x7 : Option Addr) (x8 : Option Addr) (x9 : Int) (h : H) : Prop :=
  ((decide (x9 < (x1.len : Int))) = true →
  idxA x1 x9 4 fun a16 =>
  ld_S_spatelaw5_Step h a16 fun y18 =>
  F.spatelaw5_do x7 y18 h fun h20 =>
  F.spatelaw5_ChainApart.j4 Q C1 x0 x1 x2 x7 x8 x9 h20) ∧
  ((decide (x9 < (x1.len : Int))) = false →
  F.spatelaw5_ChainApart.j4 Q C1 x0 x1 x2 x7 x8 x9 h)
def F.spatelaw5_ChainApart.j7 (Q : Bool → H → Prop) (C1 : Sl → Sl → (Option Addr) → (Option Addr) → (Option Addr) → (Option Addr) → Int → H → Prop) (x1 : Sl) (x2 : Sl) (x7 : Option Addr) (x8 : Option Addr) (x10 : Option Addr) (x11 : Option Addr) (x12 : Int) (h : H) : Prop :=
  idxA x1 x12 4 fun a26 =>
  ld_S_spatelaw5_Step h a26 fun y28 =>
  F.spatelaw5_do x10 y28 h fun h30 =>
  C1 x1 x2 x7 x8 x10 x11 (IntKind.wrap .i64 (x12 + 1)) h30
def F.spatelaw5_ChainApart.j10 (Q : Bool → H → Prop) (C1 : Sl → (Option Addr) → (Option Addr) → (Option Addr) → (Option Addr) → Int → H → Prop) (x2 : Sl) (x7 : Option Addr) (x8 : Option Addr) (x10 : Option Addr) (x11 : Option Addr) (x13 : Int) (h : H) : Prop :=
  idxA x2 x13 4 fun a32 =>
  ld_S_spatelaw5_Step h a32 fun y34 =>
  F.spatelaw5_do x11 y34 h fun h36 =>
  C1 x2 x7 x8 x10 x11 (IntKind.wrap .i64 (x13 + 1)) h36
def F.spatelaw5_ChainApart.j11 (Q : Bool → H → Prop) (C1 : Sl → (Option Addr) → (Option Addr) → (Option Addr) → (Option Addr) → Int → H → Prop) (x2 : Sl) (x7 : Option Addr) (x8 : Option Addr) (x10 : Option Addr) (x11 : Option Addr) (x13 : Int) (x85 : Bool) (h : H) : Prop :=
  (x85 = true →
  F.spatelaw5_ChainApart.j10 Q C1 x2 x7 x8 x10 x11 x13 h) ∧
  (x85 = false →
  F.spatelaw5_alike x7 x10 h fun r39 h38 =>
  (r39 = true →
  F.spatelaw5_alike x8 x11 h38 fun r42 h41 =>
  Q r42 h41) ∧
  (r39 = false →
  Q false h38))
def F.spatelaw5_ChainApart.l9 (Q : Bool → H → Prop) : Nat → Sl → (Option Addr) → (Option Addr) → (Option Addr) → (Option Addr) → Int → H → Prop
  | 0, _, _, _, _, _, _, _ => False
  | q9 + 1, x2, x7, x8, x10, x11, x13, h =>
    ((decide (x13 < (x2.len : Int))) = true →
    F.spatelaw5_ChainApart.j11 Q (F.spatelaw5_ChainApart.l9 Q q9) x2 x7 x8 x10 x11 x13 (decide (x13 < 2000)) h) ∧
    ((decide (x13 < (x2.len : Int))) = false →
    F.spatelaw5_ChainApart.j11 Q (F.spatelaw5_ChainApart.l9 Q q9) x2 x7 x8 x10 x11 x13 false h)
def F.spatelaw5_ChainApart.j8 (Q : Bool → H → Prop) (C1 : Sl → Sl → (Option Addr) → (Option Addr) → (Option Addr) → (Option Addr) → Int → H → Prop) (x1 : Sl) (x2 : Sl) (x7 : Option Addr) (x8 : Option Addr) (x10 : Option Addr) (x11 : Option Addr) (x12 : Int) (x69 : Bool) (h : H) : Prop :=
  (x69 = true →
  F.spatelaw5_ChainApart.j7 Q C1 x1 x2 x7 x8 x10 x11 x12 h) ∧
  (x69 = false →
  ∃ m, F.spatelaw5_ChainApart.l9 Q m x2 x7 x8 x10 x11 0 h)
def F.spatelaw5_ChainApart.l6 (Q : Bool → H → Prop) : Nat → Sl → Sl → (Option Addr) → (Option Addr) → (Option Addr) → (Option Addr) → Int → H → Prop
  | 0, _, _, _, _, _, _, _, _ => False
  | q6 + 1, x1, x2, x7, x8, x10, x11, x12, h =>
    ((decide (x12 < (x1.len : Int))) = true →
    F.spatelaw5_ChainApart.j8 Q (F.spatelaw5_ChainApart.l6 Q q6) x1 x2 x7 x8 x10 x11 x12 (decide (x12 < 2000)) h) ∧
    ((decide (x12 < (x1.len : Int))) = false →
    F.spatelaw5_ChainApart.j8 Q (F.spatelaw5_ChainApart.l6 Q q6) x1 x2 x7 x8 x10 x11 x12 false h)
def F.spatelaw5_ChainApart.j5 (Q : Bool → H → Prop) (C1 : Sl → Sl → Sl → (Option Addr) → (Option Addr) → Int → H → Prop) (x0 : Sl) (x1 : Sl) (x2 : Sl) (x7 : Option Addr) (x8 : Option Addr) (x9 : Int) (x35 : Bool) (h : H) : Prop :=
  (x35 = true →
  F.spatelaw5_ChainApart.j2 Q C1 x0 x1 x2 x7 x8 x9 h) ∧
  (x35 = false →
  F.spatelaw5_open x0 h fun r23 h22 =>
  F.spatelaw5_open x0 h22 fun r25 h24 =>
  ∃ m, F.spatelaw5_ChainApart.l6 Q m x1 x2 x7 x8 r23 r25 0 h24)
def F.spatelaw5_ChainApart.l1 (Q : Bool → H → Prop) : Nat → Sl → Sl → Sl → (Option Addr) → (Option Addr) → Int → H → Prop
  | 0, _, _, _, _, _, _, _ => False
  | q1 + 1, x0, x1, x2, x7, x8, x9, h =>
    ((decide (x9 < (x1.len : Int))) = true →
    F.spatelaw5_ChainApart.j5 Q (F.spatelaw5_ChainApart.l1 Q q1) x0 x1 x2 x7 x8 x9 (decide (x9 < 2000)) h) ∧
    ((decide (x9 < (x1.len : Int))) = false →
    ((decide (x9 < (x2.len : Int))) = true →
    F.spatelaw5_ChainApart.j5 Q (F.spatelaw5_ChainApart.l1 Q q1) x0 x1 x2 x7 x8 x9 (decide (x9 < 2000)) h) ∧
    ((decide (x9 < (x2.len : Int))) = false →
    F.spatelaw5_ChainApart.j5 Q (F.spatelaw5_ChainApart.l1 Q q1) x0 x1 x2 x7 x8 x9 false h))
/-- spate/spatelaw5.ChainApart -/
def F.spatelaw5_ChainApart (p0 : Sl) (p1 : Sl) (p2 : Sl) (h : H) (Q : Bool → H → Prop) : Prop :=
  F.spatelaw5_known  h fun r2 h1 =>
  ((!r2) = true →
  Q false h1) ∧
  ((!r2) = false →
  F.spatelaw5_open p0 h1 fun r5 h4 =>
  F.chain_Chain_int_Twin r5 h4 fun r7 h6 =>
  (r7.isNone = true →
  Q false h6) ∧
  (r7.isNone = false →
  ∃ m, F.spatelaw5_ChainApart.l1 Q m p0 p1 p2 r5 r7 0 h6))
theorem F.spatelaw5_ChainApart_ok {p0 : Sl} {p1 : Sl} {p2 : Sl} {h : H} {Q : Bool → H → Prop} (H : F.spatelaw5_ChainApart p0 p1 p2 h Q) : Fn PP 10 ([p0.enc, p1.enc, p2.enc] : List Value).toArray h fun r h' => ∃ r0, r = (.bool r0) ∧ Q r0 h' := by
  unfold F.spatelaw5_ChainApart at H
  refine fn_of Try.func10 Try.ntmps10 rfl rfl fun w0 => ?_
  refine tr_sub [(0, p0.enc), (1, p1.enc), (2, p2.enc)] ⟨rfl, rfl, rfl, trivial⟩ ?_
  refine tr_seq ?_
  refine tr_region ?_
  refine tr_p (y_assign rfl) rfl rfl ?_
  refine tr_nil ?_
  refine tr_thenN ?_
  refine tr_seq ?_
  refine tr_seq ?_
  refine tr_region ?_
  refine tr_e (e_call Try.call11 rfl (F.spatelaw5_known_ok H)) rfl rfl ?_
  rintro _ h1 ⟨r2, rfl, H⟩
  refine tr_p (y_not rfl) rfl rfl ?_
  refine tr_nil ?_
  refine tr_thenN ?_
  refine tr_cond rfl (fun g3 => ?_) (fun g3 => ?_)
  · replace H := H.1 g3
    refine tr_seq ?_
    refine tr_region ?_
    refine tr_p (y_assign rfl) rfl rfl ?_
    refine tr_nil ?_
    refine tr_thenN ?_
    refine tr_ret ?_
    refine tr_thenR ?_
    exact tr_ret1 rfl rfl ⟨_, rfl, H⟩
  · replace H := H.2 g3
    refine tr_skip ?_
    refine tr_thenN ?_
    refine tr_seq ?_
    refine tr_region ?_
    refine tr_p (y_move rfl) rfl rfl ?_
    refine tr_e (e_call Try.call12 rfl (F.spatelaw5_open_ok H)) rfl rfl ?_
    rintro _ h4 ⟨r5, rfl, H⟩
    refine tr_p (y_assign rfl) rfl rfl ?_
    refine tr_nil ?_
    refine tr_thenN ?_
    refine tr_seq ?_
    refine tr_region ?_
    refine tr_p (y_move rfl) rfl rfl ?_
    refine tr_e (e_call Try.call36 rfl (F.chain_Chain_int_Twin_ok H)) rfl rfl ?_
    rintro _ h6 ⟨r7, rfl, H⟩
    refine tr_p (y_assign rfl) rfl rfl ?_
    refine tr_nil ?_
    refine tr_thenN ?_
    refine tr_seq ?_
    refine tr_seq ?_
    refine tr_region ?_
    refine tr_p (y_move rfl) rfl rfl ?_
    refine tr_p (y_pnil_eql Try.runUnderlying25 rfl rfl) rfl rfl ?_
    refine tr_nil ?_
    refine tr_thenN ?_
    refine tr_cond rfl (fun g8 => ?_) (fun g8 => ?_)
    · replace H := H.1 g8
      refine tr_seq ?_
      refine tr_region ?_
      refine tr_p (y_assign rfl) rfl rfl ?_
      refine tr_nil ?_
      refine tr_thenN ?_
      refine tr_ret ?_
      refine tr_thenR ?_
      exact tr_ret1 rfl rfl ⟨_, rfl, H⟩
    · replace H := H.2 g8
      refine tr_skip ?_
      refine tr_thenN ?_
      refine tr_seq ?_
      refine tr_seq ?_
      refine tr_region ?_
      refine tr_p (y_assign rfl) rfl rfl ?_
      refine tr_nil ?_
      refine tr_thenN ?_
      refine tr_block ?_
      obtain ⟨m49, H⟩ := H
      refine tr_sub [(0, p0.enc), (1, p1.enc), (2, p2.enc), (7, (.pointer r5)), (8, (.pointer r7)), (9, (.int .i64 0))] ⟨rfl, rfl, rfl, rfl, rfl, rfl, trivial⟩ ?_
      refine tr_loop_j (fun m L' h => ∃ (x0 : Sl) (x1 : Sl) (x2 : Sl) (x7 : Option Addr) (x8 : Option Addr) (x9 : Int), L' = [(0, x0.enc), (1, x1.enc), (2, x2.enc), (7, (.pointer x7)), (8, (.pointer x8)), (9, (.int .i64 x9))] ∧ F.spatelaw5_ChainApart.l1 Q m x0 x1 x2 x7 x8 x9 h) ?_ ?_ m49 ⟨_, _, _, _, _, _, rfl, H⟩
      · rintro L' h ⟨_, _, _, _, _, _, _, H⟩; exact H
      · rintro q1 L' h ⟨x0, x1, x2, x7, x8, x9, rfl, H⟩
        unfold F.spatelaw5_ChainApart.l1 at H
        refine tr_seq_j (fun L' h => ∃ (x0 : Sl) (x1 : Sl) (x2 : Sl) (x7 : Option Addr) (x8 : Option Addr) (x9 : Int), L' = [(0, x0.enc), (1, x1.enc), (2, x2.enc), (7, (.pointer x7)), (8, (.pointer x8)), (9, (.int .i64 x9))] ∧ F.spatelaw5_ChainApart.j2 Q (F.spatelaw5_ChainApart.l1 Q q1) x0 x1 x2 x7 x8 x9 h) ?_ ?_
        · rintro L' h ⟨x0, x1, x2, x7, x8, x9, rfl, H⟩
          unfold F.spatelaw5_ChainApart.j2 at H
          refine tr_seq_j (fun L' h => ∃ (x0 : Sl) (x1 : Sl) (x2 : Sl) (x7 : Option Addr) (x8 : Option Addr) (x9 : Int), L' = [(0, x0.enc), (1, x1.enc), (2, x2.enc), (7, (.pointer x7)), (8, (.pointer x8)), (9, (.int .i64 x9))] ∧ F.spatelaw5_ChainApart.j3 Q (F.spatelaw5_ChainApart.l1 Q q1) x0 x1 x2 x7 x8 x9 h) ?_ ?_
          · rintro L' h ⟨x0, x1, x2, x7, x8, x9, rfl, H⟩
            unfold F.spatelaw5_ChainApart.j3 at H
            refine tr_region ?_
            refine tr_p (y_move rfl) rfl rfl ?_
            refine tr_p (y_add rfl rfl) rfl rfl ?_
            refine tr_p (y_assign rfl) rfl rfl ?_
            refine tr_nil ?_
            refine tr_thenN ?_
            exact tr_join [(0, x0.enc), (1, x1.enc), (2, x2.enc), (7, (.pointer x7)), (8, (.pointer x8)), (9, (.int .i64 (IntKind.wrap .i64 (x9 + 1))))] ⟨rfl, rfl, rfl, rfl, rfl, rfl, trivial⟩ ⟨_, _, _, _, _, _, rfl, H⟩
          · refine tr_block ?_
            refine tr_seq_j (fun L' h => ∃ (x0 : Sl) (x1 : Sl) (x2 : Sl) (x7 : Option Addr) (x8 : Option Addr) (x9 : Int), L' = [(0, x0.enc), (1, x1.enc), (2, x2.enc), (7, (.pointer x7)), (8, (.pointer x8)), (9, (.int .i64 x9))] ∧ F.spatelaw5_ChainApart.j4 Q (F.spatelaw5_ChainApart.l1 Q q1) x0 x1 x2 x7 x8 x9 h) ?_ ?_
            · rintro L' h ⟨x0, x1, x2, x7, x8, x9, rfl, H⟩
              unfold F.spatelaw5_ChainApart.j4 at H
              refine tr_seq ?_
              refine tr_region ?_
              refine tr_p (y_move rfl) rfl rfl ?_
              refine tr_p (y_move rfl) rfl rfl ?_
              refine tr_p (y_len (ts := #[]) Try.runUnderlying23 (o := x2.ptr) (n := x2.len) (cap := x2.cap) rfl) rfl rfl ?_
              refine tr_p (y_lss rfl rfl) rfl rfl ?_
              refine tr_nil ?_
              refine tr_thenN ?_
              refine tr_cond rfl (fun g9 => ?_) (fun g9 => ?_)
              · replace H := H.1 g9
                refine tr_region ?_
                refine tr_p (y_move rfl) rfl rfl ?_
                refine tr_p (y_move rfl) rfl rfl ?_
                refine tr_p (y_move rfl) rfl rfl ?_
                obtain ⟨a10, e11, H⟩ := H
                refine tr_p (f_idx (s := x2) Try.runUnderlying23 Try.sizeOf50 rfl rfl e11) rfl rfl ?_
                obtain ⟨y12, k13, H⟩ := H
                refine tr_h (y_ldS Try.isAgg50 Try.sizeOf50 rfl rfl) k13 rfl rfl ?_
                refine tr_e (e_call Try.call28 rfl (F.spatelaw5_do_ok H)) rfl rfl ?_
                rintro _ h14 ⟨rfl, H⟩
                refine tr_nil ?_
                refine tr_blockN ?_
                refine tr_thenN ?_
                exact tr_join [(0, x0.enc), (1, x1.enc), (2, x2.enc), (7, (.pointer x7)), (8, (.pointer x8)), (9, (.int .i64 x9))] ⟨rfl, rfl, rfl, rfl, rfl, rfl, trivial⟩ ⟨_, _, _, _, _, _, rfl, H⟩
              · replace H := H.2 g9
                refine tr_skip ?_
                refine tr_blockN ?_
                refine tr_thenN ?_
                exact tr_join [(0, x0.enc), (1, x1.enc), (2, x2.enc), (7, (.pointer x7)), (8, (.pointer x8)), (9, (.int .i64 x9))] ⟨rfl, rfl, rfl, rfl, rfl, rfl, trivial⟩ ⟨_, _, _, _, _, _, rfl, H⟩
            · refine tr_seq ?_
              refine tr_region ?_
              refine tr_p (y_move rfl) rfl rfl ?_
              refine tr_p (y_move rfl) rfl rfl ?_
              refine tr_p (y_len (ts := #[]) Try.runUnderlying23 (o := x1.ptr) (n := x1.len) (cap := x1.cap) rfl) rfl rfl ?_
              refine tr_p (y_lss rfl rfl) rfl rfl ?_
              refine tr_nil ?_
              refine tr_thenN ?_
              refine tr_cond rfl (fun g15 => ?_) (fun g15 => ?_)
              · replace H := H.1 g15
                refine tr_region ?_
                refine tr_p (y_move rfl) rfl rfl ?_
                refine tr_p (y_move rfl) rfl rfl ?_
                refine tr_p (y_move rfl) rfl rfl ?_
                obtain ⟨a16, e17, H⟩ := H
                refine tr_p (f_idx (s := x1) Try.runUnderlying23 Try.sizeOf50 rfl rfl e17) rfl rfl ?_
                obtain ⟨y18, k19, H⟩ := H
                refine tr_h (y_ldS Try.isAgg50 Try.sizeOf50 rfl rfl) k19 rfl rfl ?_
                refine tr_e (e_call Try.call28 rfl (F.spatelaw5_do_ok H)) rfl rfl ?_
                rintro _ h20 ⟨rfl, H⟩
                refine tr_nil ?_
                refine tr_thenN ?_
                exact tr_join [(0, x0.enc), (1, x1.enc), (2, x2.enc), (7, (.pointer x7)), (8, (.pointer x8)), (9, (.int .i64 x9))] ⟨rfl, rfl, rfl, rfl, rfl, rfl, trivial⟩ ⟨_, _, _, _, _, _, rfl, H⟩
              · replace H := H.2 g15
                refine tr_skip ?_
                refine tr_thenN ?_
                exact tr_join [(0, x0.enc), (1, x1.enc), (2, x2.enc), (7, (.pointer x7)), (8, (.pointer x8)), (9, (.int .i64 x9))] ⟨rfl, rfl, rfl, rfl, rfl, rfl, trivial⟩ ⟨_, _, _, _, _, _, rfl, H⟩
        · refine tr_seq_j (fun L' h => ∃ (x0 : Sl) (x1 : Sl) (x2 : Sl) (x7 : Option Addr) (x8 : Option Addr) (x9 : Int) (x35 : Bool), L' = [(0, x0.enc), (1, x1.enc), (2, x2.enc), (7, (.pointer x7)), (8, (.pointer x8)), (9, (.int .i64 x9)), (35, (.bool x35))] ∧ F.spatelaw5_ChainApart.j5 Q (F.spatelaw5_ChainApart.l1 Q q1) x0 x1 x2 x7 x8 x9 x35 h) ?_ ?_
          · rintro L' h ⟨x0, x1, x2, x7, x8, x9, x35, rfl, H⟩
            unfold F.spatelaw5_ChainApart.j5 at H
            refine tr_cond rfl (fun g21 => ?_) (fun g21 => ?_)
            · replace H := H.1 g21
              refine tr_skip ?_
              refine tr_thenN ?_
              exact tr_join [(0, x0.enc), (1, x1.enc), (2, x2.enc), (7, (.pointer x7)), (8, (.pointer x8)), (9, (.int .i64 x9))] ⟨rfl, rfl, rfl, rfl, rfl, rfl, trivial⟩ ⟨_, _, _, _, _, _, rfl, H⟩
            · replace H := H.2 g21
              refine tr_exit ?_
              refine tr_thenE ?_
              refine tr_thenE ?_
              refine tr_hit ?_
              refine tr_thenN ?_
              refine tr_seq ?_
              refine tr_region ?_
              refine tr_p (y_move rfl) rfl rfl ?_
              refine tr_e (e_call Try.call12 rfl (F.spatelaw5_open_ok H)) rfl rfl ?_
              rintro _ h22 ⟨r23, rfl, H⟩
              refine tr_p (y_assign rfl) rfl rfl ?_
              refine tr_nil ?_
              refine tr_thenN ?_
              refine tr_seq ?_
              refine tr_region ?_
              refine tr_p (y_move rfl) rfl rfl ?_
              refine tr_e (e_call Try.call12 rfl (F.spatelaw5_open_ok H)) rfl rfl ?_
              rintro _ h24 ⟨r25, rfl, H⟩
              refine tr_p (y_assign rfl) rfl rfl ?_
              refine tr_nil ?_
              refine tr_thenN ?_
              refine tr_seq ?_
              refine tr_seq ?_
              refine tr_region ?_
              refine tr_p (y_assign rfl) rfl rfl ?_
              refine tr_nil ?_
              refine tr_thenN ?_
              refine tr_block ?_
              obtain ⟨m46, H⟩ := H
              refine tr_sub [(1, x1.enc), (2, x2.enc), (7, (.pointer x7)), (8, (.pointer x8)), (10, (.pointer r23)), (11, (.pointer r25)), (12, (.int .i64 0))] ⟨rfl, rfl, rfl, rfl, rfl, rfl, rfl, trivial⟩ ?_
              refine tr_loop_j (fun m L' h => ∃ (x1 : Sl) (x2 : Sl) (x7 : Option Addr) (x8 : Option Addr) (x10 : Option Addr) (x11 : Option Addr) (x12 : Int), L' = [(1, x1.enc), (2, x2.enc), (7, (.pointer x7)), (8, (.pointer x8)), (10, (.pointer x10)), (11, (.pointer x11)), (12, (.int .i64 x12))] ∧ F.spatelaw5_ChainApart.l6 Q m x1 x2 x7 x8 x10 x11 x12 h) ?_ ?_ m46 ⟨_, _, _, _, _, _, _, rfl, H⟩
              · rintro L' h ⟨_, _, _, _, _, _, _, _, H⟩; exact H
              · rintro q6 L' h ⟨x1, x2, x7, x8, x10, x11, x12, rfl, H⟩
                unfold F.spatelaw5_ChainApart.l6 at H
                refine tr_seq_j (fun L' h => ∃ (x1 : Sl) (x2 : Sl) (x7 : Option Addr) (x8 : Option Addr) (x10 : Option Addr) (x11 : Option Addr) (x12 : Int), L' = [(1, x1.enc), (2, x2.enc), (7, (.pointer x7)), (8, (.pointer x8)), (10, (.pointer x10)), (11, (.pointer x11)), (12, (.int .i64 x12))] ∧ F.spatelaw5_ChainApart.j7 Q (F.spatelaw5_ChainApart.l6 Q q6) x1 x2 x7 x8 x10 x11 x12 h) ?_ ?_
                · rintro L' h ⟨x1, x2, x7, x8, x10, x11, x12, rfl, H⟩
                  unfold F.spatelaw5_ChainApart.j7 at H
                  refine tr_seq ?_
                  refine tr_block ?_
                  refine tr_region ?_
                  refine tr_p (y_move rfl) rfl rfl ?_
                  refine tr_p (y_move rfl) rfl rfl ?_
                  refine tr_p (y_move rfl) rfl rfl ?_
                  obtain ⟨a26, e27, H⟩ := H
                  refine tr_p (f_idx (s := x1) Try.runUnderlying23 Try.sizeOf50 rfl rfl e27) rfl rfl ?_
                  obtain ⟨y28, k29, H⟩ := H
                  refine tr_h (y_ldS Try.isAgg50 Try.sizeOf50 rfl rfl) k29 rfl rfl ?_
                  refine tr_e (e_call Try.call28 rfl (F.spatelaw5_do_ok H)) rfl rfl ?_
                  rintro _ h30 ⟨rfl, H⟩
                  refine tr_nil ?_
                  refine tr_blockN ?_
                  refine tr_thenN ?_
                  refine tr_region ?_
                  refine tr_p (y_move rfl) rfl rfl ?_
                  refine tr_p (y_add rfl rfl) rfl rfl ?_
                  refine tr_p (y_assign rfl) rfl rfl ?_
                  refine tr_nil ?_
                  refine tr_thenN ?_
                  exact tr_join [(1, x1.enc), (2, x2.enc), (7, (.pointer x7)), (8, (.pointer x8)), (10, (.pointer x10)), (11, (.pointer x11)), (12, (.int .i64 (IntKind.wrap .i64 (x12 + 1))))] ⟨rfl, rfl, rfl, rfl, rfl, rfl, rfl, trivial⟩ ⟨_, _, _, _, _, _, _, rfl, H⟩
                · refine tr_seq_j (fun L' h => ∃ (x1 : Sl) (x2 : Sl) (x7 : Option Addr) (x8 : Option Addr) (x10 : Option Addr) (x11 : Option Addr) (x12 : Int) (x69 : Bool), L' = [(1, x1.enc), (2, x2.enc), (7, (.pointer x7)), (8, (.pointer x8)), (10, (.pointer x10)), (11, (.pointer x11)), (12, (.int .i64 x12)), (69, (.bool x69))] ∧ F.spatelaw5_ChainApart.j8 Q (F.spatelaw5_ChainApart.l6 Q q6) x1 x2 x7 x8 x10 x11 x12 x69 h) ?_ ?_
                  · rintro L' h ⟨x1, x2, x7, x8, x10, x11, x12, x69, rfl, H⟩
                    unfold F.spatelaw5_ChainApart.j8 at H
                    refine tr_cond rfl (fun g31 => ?_) (fun g31 => ?_)
                    · replace H := H.1 g31
                      refine tr_skip ?_
                      refine tr_thenN ?_
                      exact tr_join [(1, x1.enc), (2, x2.enc), (7, (.pointer x7)), (8, (.pointer x8)), (10, (.pointer x10)), (11, (.pointer x11)), (12, (.int .i64 x12))] ⟨rfl, rfl, rfl, rfl, rfl, rfl, rfl, trivial⟩ ⟨_, _, _, _, _, _, _, rfl, H⟩
                    · replace H := H.2 g31
                      refine tr_exit ?_
                      refine tr_thenE ?_
                      refine tr_thenE ?_
                      refine tr_hit ?_
                      refine tr_thenN ?_
                      refine tr_seq ?_
                      refine tr_seq ?_
                      refine tr_region ?_
                      refine tr_p (y_assign rfl) rfl rfl ?_
                      refine tr_nil ?_
                      refine tr_thenN ?_
                      refine tr_block ?_
                      obtain ⟨m44, H⟩ := H
                      refine tr_sub [(2, x2.enc), (7, (.pointer x7)), (8, (.pointer x8)), (10, (.pointer x10)), (11, (.pointer x11)), (13, (.int .i64 0))] ⟨rfl, rfl, rfl, rfl, rfl, rfl, trivial⟩ ?_
                      refine tr_loop_j (fun m L' h => ∃ (x2 : Sl) (x7 : Option Addr) (x8 : Option Addr) (x10 : Option Addr) (x11 : Option Addr) (x13 : Int), L' = [(2, x2.enc), (7, (.pointer x7)), (8, (.pointer x8)), (10, (.pointer x10)), (11, (.pointer x11)), (13, (.int .i64 x13))] ∧ F.spatelaw5_ChainApart.l9 Q m x2 x7 x8 x10 x11 x13 h) ?_ ?_ m44 ⟨_, _, _, _, _, _, rfl, H⟩
                      · rintro L' h ⟨_, _, _, _, _, _, _, H⟩; exact H
                      · rintro q9 L' h ⟨x2, x7, x8, x10, x11, x13, rfl, H⟩
                        unfold F.spatelaw5_ChainApart.l9 at H
                        refine tr_seq_j (fun L' h => ∃ (x2 : Sl) (x7 : Option Addr) (x8 : Option Addr) (x10 : Option Addr) (x11 : Option Addr) (x13 : Int), L' = [(2, x2.enc), (7, (.pointer x7)), (8, (.pointer x8)), (10, (.pointer x10)), (11, (.pointer x11)), (13, (.int .i64 x13))] ∧ F.spatelaw5_ChainApart.j10 Q (F.spatelaw5_ChainApart.l9 Q q9) x2 x7 x8 x10 x11 x13 h) ?_ ?_
                        · rintro L' h ⟨x2, x7, x8, x10, x11, x13, rfl, H⟩
                          unfold F.spatelaw5_ChainApart.j10 at H
                          refine tr_seq ?_
                          refine tr_block ?_
                          refine tr_region ?_
                          refine tr_p (y_move rfl) rfl rfl ?_
                          refine tr_p (y_move rfl) rfl rfl ?_
                          refine tr_p (y_move rfl) rfl rfl ?_
                          obtain ⟨a32, e33, H⟩ := H
                          refine tr_p (f_idx (s := x2) Try.runUnderlying23 Try.sizeOf50 rfl rfl e33) rfl rfl ?_
                          obtain ⟨y34, k35, H⟩ := H
                          refine tr_h (y_ldS Try.isAgg50 Try.sizeOf50 rfl rfl) k35 rfl rfl ?_
                          refine tr_e (e_call Try.call28 rfl (F.spatelaw5_do_ok H)) rfl rfl ?_
                          rintro _ h36 ⟨rfl, H⟩
                          refine tr_nil ?_
                          refine tr_blockN ?_
                          refine tr_thenN ?_
                          refine tr_region ?_
                          refine tr_p (y_move rfl) rfl rfl ?_
                          refine tr_p (y_add rfl rfl) rfl rfl ?_
                          refine tr_p (y_assign rfl) rfl rfl ?_
                          refine tr_nil ?_
                          refine tr_thenN ?_
                          exact tr_join [(2, x2.enc), (7, (.pointer x7)), (8, (.pointer x8)), (10, (.pointer x10)), (11, (.pointer x11)), (13, (.int .i64 (IntKind.wrap .i64 (x13 + 1))))] ⟨rfl, rfl, rfl, rfl, rfl, rfl, trivial⟩ ⟨_, _, _, _, _, _, rfl, H⟩
                        · refine tr_seq_j (fun L' h => ∃ (x2 : Sl) (x7 : Option Addr) (x8 : Option Addr) (x10 : Option Addr) (x11 : Option Addr) (x13 : Int) (x85 : Bool), L' = [(2, x2.enc), (7, (.pointer x7)), (8, (.pointer x8)), (10, (.pointer x10)), (11, (.pointer x11)), (13, (.int .i64 x13)), (85, (.bool x85))] ∧ F.spatelaw5_ChainApart.j11 Q (F.spatelaw5_ChainApart.l9 Q q9) x2 x7 x8 x10 x11 x13 x85 h) ?_ ?_
                          · rintro L' h ⟨x2, x7, x8, x10, x11, x13, x85, rfl, H⟩
                            unfold F.spatelaw5_ChainApart.j11 at H
                            refine tr_cond rfl (fun g37 => ?_) (fun g37 => ?_)
                            · replace H := H.1 g37
                              refine tr_skip ?_
                              refine tr_thenN ?_
                              exact tr_join [(2, x2.enc), (7, (.pointer x7)), (8, (.pointer x8)), (10, (.pointer x10)), (11, (.pointer x11)), (13, (.int .i64 x13))] ⟨rfl, rfl, rfl, rfl, rfl, rfl, trivial⟩ ⟨_, _, _, _, _, _, rfl, H⟩
                            · replace H := H.2 g37
                              refine tr_exit ?_
                              refine tr_thenE ?_
                              refine tr_thenE ?_
                              refine tr_hit ?_
                              refine tr_thenN ?_
                              refine tr_seq ?_
                              refine tr_region ?_
                              refine tr_p (y_move rfl) rfl rfl ?_
                              refine tr_p (y_move rfl) rfl rfl ?_
                              refine tr_e (e_call Try.call37 rfl (F.spatelaw5_alike_ok H)) rfl rfl ?_
                              rintro _ h38 ⟨r39, rfl, H⟩
                              refine tr_p (y_move rfl) rfl rfl ?_
                              refine tr_split (t := 97) rfl (fun g40 => ?_) (fun g40 => ?_)
                              · replace H := H.1 g40
                                refine tr_p (y_move rfl) rfl rfl ?_
                                refine tr_p (y_move rfl) rfl rfl ?_
                                refine tr_e (e_call Try.call37 rfl (F.spatelaw5_alike_ok H)) rfl rfl ?_
                                rintro _ h41 ⟨r42, rfl, H⟩
                                refine tr_p (y_pick_t rfl rfl) rfl rfl ?_
                                refine tr_p (y_assign rfl) rfl rfl ?_
                                refine tr_nil ?_
                                refine tr_thenN ?_
                                refine tr_ret ?_
                                exact tr_ret1 rfl rfl ⟨_, rfl, H⟩
                              · replace H := H.2 g40
                                refine tr_s rfl rfl ?_
                                refine tr_s rfl rfl ?_
                                refine tr_s rfl rfl ?_
                                refine tr_p (y_pick_f rfl rfl) rfl rfl ?_
                                refine tr_p (y_assign rfl) rfl rfl ?_
                                refine tr_nil ?_
                                refine tr_thenN ?_
                                refine tr_ret ?_
                                exact tr_ret1 rfl rfl ⟨_, rfl, H⟩
                          · refine tr_region ?_
                            refine tr_p (y_move rfl) rfl rfl ?_
                            refine tr_p (y_move rfl) rfl rfl ?_
                            refine tr_p (y_len (ts := #[]) Try.runUnderlying23 (o := x2.ptr) (n := x2.len) (cap := x2.cap) rfl) rfl rfl ?_
                            refine tr_p (y_lss rfl rfl) rfl rfl ?_
                            refine tr_p (y_move rfl) rfl rfl ?_
                            refine tr_split (t := 82) rfl (fun g43 => ?_) (fun g43 => ?_)
                            · replace H := H.1 g43
                              refine tr_p (y_move rfl) rfl rfl ?_
                              refine tr_p (y_lss rfl rfl) rfl rfl ?_
                              refine tr_p (y_pick_t rfl rfl) rfl rfl ?_
                              refine tr_nil ?_
                              refine tr_thenN ?_
                              exact tr_join [(2, x2.enc), (7, (.pointer x7)), (8, (.pointer x8)), (10, (.pointer x10)), (11, (.pointer x11)), (13, (.int .i64 x13)), (85, (.bool (decide (x13 < 2000))))] ⟨rfl, rfl, rfl, rfl, rfl, rfl, rfl, trivial⟩ ⟨_, _, _, _, _, _, _, rfl, H⟩
                            · replace H := H.2 g43
                              refine tr_s rfl rfl ?_
                              refine tr_s rfl rfl ?_
                              refine tr_p (y_pick_f rfl rfl) rfl rfl ?_
                              refine tr_nil ?_
                              refine tr_thenN ?_
                              exact tr_join [(2, x2.enc), (7, (.pointer x7)), (8, (.pointer x8)), (10, (.pointer x10)), (11, (.pointer x11)), (13, (.int .i64 x13)), (85, (.bool false))] ⟨rfl, rfl, rfl, rfl, rfl, rfl, rfl, trivial⟩ ⟨_, _, _, _, _, _, _, rfl, H⟩
                  · refine tr_region ?_
                    refine tr_p (y_move rfl) rfl rfl ?_
                    refine tr_p (y_move rfl) rfl rfl ?_
                    refine tr_p (y_len (ts := #[]) Try.runUnderlying23 (o := x1.ptr) (n := x1.len) (cap := x1.cap) rfl) rfl rfl ?_
                    refine tr_p (y_lss rfl rfl) rfl rfl ?_
                    refine tr_p (y_move rfl) rfl rfl ?_
                    refine tr_split (t := 66) rfl (fun g45 => ?_) (fun g45 => ?_)
                    · replace H := H.1 g45
                      refine tr_p (y_move rfl) rfl rfl ?_
                      refine tr_p (y_lss rfl rfl) rfl rfl ?_
                      refine tr_p (y_pick_t rfl rfl) rfl rfl ?_
                      refine tr_nil ?_
                      refine tr_thenN ?_
                      exact tr_join [(1, x1.enc), (2, x2.enc), (7, (.pointer x7)), (8, (.pointer x8)), (10, (.pointer x10)), (11, (.pointer x11)), (12, (.int .i64 x12)), (69, (.bool (decide (x12 < 2000))))] ⟨rfl, rfl, rfl, rfl, rfl, rfl, rfl, rfl, trivial⟩ ⟨_, _, _, _, _, _, _, _, rfl, H⟩
                    · replace H := H.2 g45
                      refine tr_s rfl rfl ?_
                      refine tr_s rfl rfl ?_
                      refine tr_p (y_pick_f rfl rfl) rfl rfl ?_
                      refine tr_nil ?_
                      refine tr_thenN ?_
                      exact tr_join [(1, x1.enc), (2, x2.enc), (7, (.pointer x7)), (8, (.pointer x8)), (10, (.pointer x10)), (11, (.pointer x11)), (12, (.int .i64 x12)), (69, (.bool false))] ⟨rfl, rfl, rfl, rfl, rfl, rfl, rfl, rfl, trivial⟩ ⟨_, _, _, _, _, _, _, _, rfl, H⟩
          · refine tr_region ?_
            refine tr_p (y_move rfl) rfl rfl ?_
            refine tr_p (y_move rfl) rfl rfl ?_
            refine tr_p (y_len (ts := #[]) Try.runUnderlying23 (o := x1.ptr) (n := x1.len) (cap := x1.cap) rfl) rfl rfl ?_
            refine tr_p (y_lss rfl rfl) rfl rfl ?_
            refine tr_p (y_move rfl) rfl rfl ?_
            refine tr_split (t := 26) rfl (fun g47 => ?_) (fun g47 => ?_)
            · replace H := H.1 g47
              refine tr_s rfl rfl ?_
              refine tr_s rfl rfl ?_
              refine tr_s rfl rfl ?_
              refine tr_s rfl rfl ?_
              refine tr_p (y_pick_t rfl rfl) rfl rfl ?_
              refine tr_p (y_move rfl) rfl rfl ?_
              refine tr_p (y_move rfl) rfl rfl ?_
              refine tr_p (y_lss rfl rfl) rfl rfl ?_
              refine tr_p (y_pick_t rfl rfl) rfl rfl ?_
              refine tr_nil ?_
              refine tr_thenN ?_
              exact tr_join [(0, x0.enc), (1, x1.enc), (2, x2.enc), (7, (.pointer x7)), (8, (.pointer x8)), (9, (.int .i64 x9)), (35, (.bool (decide (x9 < 2000))))] ⟨rfl, rfl, rfl, rfl, rfl, rfl, rfl, trivial⟩ ⟨_, _, _, _, _, _, _, rfl, H⟩
            · replace H := H.2 g47
              refine tr_p (y_move rfl) rfl rfl ?_
              refine tr_p (y_move rfl) rfl rfl ?_
              refine tr_p (y_len (ts := #[]) Try.runUnderlying23 (o := x2.ptr) (n := x2.len) (cap := x2.cap) rfl) rfl rfl ?_
              refine tr_p (y_lss rfl rfl) rfl rfl ?_
              refine tr_p (y_pick_f rfl rfl) rfl rfl ?_
              refine tr_p (y_move rfl) rfl rfl ?_
              refine tr_split (t := 32) rfl (fun g48 => ?_) (fun g48 => ?_)
              · replace H := H.1 g48
                refine tr_p (y_move rfl) rfl rfl ?_
                refine tr_p (y_lss rfl rfl) rfl rfl ?_
                refine tr_p (y_pick_t rfl rfl) rfl rfl ?_
                refine tr_nil ?_
                refine tr_thenN ?_
                exact tr_join [(0, x0.enc), (1, x1.enc), (2, x2.enc), (7, (.pointer x7)), (8, (.pointer x8)), (9, (.int .i64 x9)), (35, (.bool (decide (x9 < 2000))))] ⟨rfl, rfl, rfl, rfl, rfl, rfl, rfl, trivial⟩ ⟨_, _, _, _, _, _, _, rfl, H⟩
              · replace H := H.2 g48
                refine tr_s rfl rfl ?_
                refine tr_s rfl rfl ?_
                refine tr_p (y_pick_f rfl rfl) rfl rfl ?_
                refine tr_nil ?_
                refine tr_thenN ?_
                exact tr_join [(0, x0.enc), (1, x1.enc), (2, x2.enc), (7, (.pointer x7)), (8, (.pointer x8)), (9, (.int .i64 x9)), (35, (.bool false))] ⟨rfl, rfl, rfl, rfl, rfl, rfl, rfl, trivial⟩ ⟨_, _, _, _, _, _, _, rfl, H⟩

end Go.Proofs.Ytapomjhjpejimaa.V
