/- Printed by a program of this session (gen.py): Go functions as Lean functions over the heap, and that the Go code does what they say; no condition. -/
import Derived.Test.YtapomjhjpejimaaGlx0
namespace Go.Proofs.Ytapomjhjpejimaa.V
open Go
set_option linter.unusedVariables false
set_option maxRecDepth 100000
def F.spatelaw5_ChainSeqs.j2 (Q : Bool → H → Prop) (K1 : H → Prop) (J1 : Nat → H → Prop) (l1 : Nat) (x10 : Addr) (h : H) : Prop :=
  ldI .i64 h x10 fun y47 =>
  stH h x10 [(.int .i64 (IntKind.wrap .i64 (y47 + 1)))] fun h49 =>
  K1 h49
def F.spatelaw5_ChainSeqs.j1 (Q : Bool → H → Prop) (K1 : H → Prop) (J1 : Nat → H → Prop) (l1 : Nat) (x4 : Addr) (x7 : Addr) (x10 : Addr) (h : H) : Prop :=
  ldI .i64 h x10 fun y50 =>
  ldL h x4 fun y52 =>
  ((decide (y50 < (y52.len : Int))) = true →
  ldP h x7 fun y55 =>
  ldL h x4 fun y57 =>
  ldI .i64 h x10 fun y59 =>
  idxA y57 y59 4 fun a61 =>
  ld_S_spatelaw5_Step h a61 fun y63 =>
  F.spatelaw5_do y55 y63 h fun h65 =>
  F.spatelaw5_ChainSeqs.j2 Q K1 J1 l1 x10 h65) ∧
  ((decide (y50 < (y52.len : Int))) = false →
  F.spatelaw5_ChainSeqs.j2 Q K1 J1 l1 x10 h)
def F.spatelaw5_ChainSeqs.j3 (Q : Bool → H → Prop) (K1 : H → Prop) (J1 : Nat → H → Prop) (l1 : Nat) (x4 : Addr) (x6 : Addr) (x7 : Addr) (x10 : Addr) (x47 : Bool) (h : H) : Prop :=
  (x47 = true →
  stH h x6 [(.bool false)] fun h67 =>
  J1 0 h67) ∧
  (x47 = false →
  F.spatelaw5_ChainSeqs.j1 Q K1 J1 l1 x4 x7 x10 h)
def F.spatelaw5_ChainSeqs.j5 (Q : Bool → H → Prop) (C1 : List Nat → Addr → Addr → Addr → Addr → Addr → Addr → Addr → Int → H → Prop) (ds : List Nat) (x4 : Addr) (x5 : Addr) (x6 : Addr) (x7 : Addr) (x8 : Addr) (x9 : Addr) (x10 : Addr) (x13 : Int) (h : H) : Prop :=
  ldP h x7 fun y96 =>
  ldL h x4 fun y98 =>
  idxA y98 x13 4 fun a100 =>
  ld_S_spatelaw5_Step h a100 fun y102 =>
  F.spatelaw5_do y96 y102 h fun h104 =>
  C1 ds x4 x5 x6 x7 x8 x9 x10 (IntKind.wrap .i64 (x13 + 1)) h104
def F.spatelaw5_ChainSeqs.j8 (Q : Bool → H → Prop) (K2 : H → Prop) (J2 : Nat → H → Prop) (l2 : Nat) (x10 : Addr) (h : H) : Prop :=
  ldI .i64 h x10 fun y111 =>
  stH h x10 [(.int .i64 (IntKind.wrap .i64 (y111 + 1)))] fun h113 =>
  K2 h113
def F.spatelaw5_ChainSeqs.j9 (Q : Bool → H → Prop) (K2 : H → Prop) (J2 : Nat → H → Prop) (l2 : Nat) (x6 : Addr) (x10 : Addr) (x142 : Bool) (h : H) : Prop :=
  (x142 = true →
  stH h x6 [(.bool false)] fun h115 =>
  J2 0 h115) ∧
  (x142 = false →
  F.spatelaw5_ChainSeqs.j8 Q K2 J2 l2 x10 h)
def F.spatelaw5_ChainSeqs.j7 (Q : Bool → H → Prop) (ds : List Nat) (x6 : Addr) (x8 : Addr) (x9 : Addr) (x10 : Addr) (h : H) : Prop :=
  stH h x10 [(.int .i64 0)] fun h107 =>
  ldV h107 x9 fun y108 =>
  rng PP y108 h107 [Code.ret] (fun bg2 l2 args h K2 J2 => ∃ (y2_127 : Int), ∃ (y2_128 : Bool), args = [(.int .i64 y2_127), (.bool y2_128)] ∧
    bg2 h fun h110 =>
    ldI .i64 h110 x10 fun y116 =>
    ldL h110 x8 fun y118 =>
    ((decide (y116 ≥ (y118.len : Int))) = true →
    F.spatelaw5_ChainSeqs.j9 Q K2 J2 l2 x6 x10 true h110) ∧
    ((decide (y116 ≥ (y118.len : Int))) = false →
    ldL h110 x8 fun y121 =>
    ldI .i64 h110 x10 fun y123 =>
    idxA y121 y123 1 fun a125 =>
    ldI .i64 h110 a125 fun y127 =>
    F.spatelaw5_coded y2_127 y2_128 h110 fun r130 h129 =>
    cellH h129 a125 = some (.int .i64 y127) ∧
    cellH h129 x10 = some (.int .i64 y123) ∧
    cellH h129 x8 = some y121.enc ∧
    F.spatelaw5_ChainSeqs.j9 Q K2 J2 l2 x6 x10 ((y127 != r130)) h129)) (fun h134 =>
    ldI .i64 h134 x10 fun y135 =>
    ldL h134 x8 fun y137 =>
    stH h134 x6 [(.bool ((y135 == (y137.len : Int))))] fun h139 =>
    shuts (h107.size :: ds) h139 fun h140 =>
    ldB h140 x6 fun y141 =>
    Q y141 h140) (fun jj h143 =>
    (jj = 0 →
      shuts (h107.size :: ds) h143 fun h144 =>
      ldB h144 x6 fun y145 =>
      Q y145 h144))
def F.spatelaw5_ChainSeqs.j11 (Q : Bool → H → Prop) (K4 : H → Prop) (J4 : Nat → H → Prop) (l4 : Nat) (x16 : Addr) (h : H) : Prop :=
  ldI .i64 h x16 fun y156 =>
  stH h x16 [(.int .i64 (IntKind.wrap .i64 (y156 + 1)))] fun h158 =>
  K4 h158
def F.spatelaw5_ChainSeqs.j12 (Q : Bool → H → Prop) (K4 : H → Prop) (J4 : Nat → H → Prop) (l4 : Nat) (x6 : Addr) (x16 : Addr) (x113 : Bool) (h : H) : Prop :=
  (x113 = true →
  stH h x6 [(.bool false)] fun h160 =>
  J4 0 h160) ∧
  (x113 = false →
  F.spatelaw5_ChainSeqs.j11 Q K4 J4 l4 x16 h)
def F.spatelaw5_ChainSeqs.j10 (Q : Bool → H → Prop) (K3 : H → Prop) (J3 : Nat → H → Prop) (l3 : Nat) (x5 : Addr) (x6 : Addr) (x8 : Addr) (x9 : Addr) (x10 : Addr) (h : H) : Prop :=
  new h #[(.int .i64 0)] ty_3 fun a151 h150 =>
  stH h150 a151 [(.int .i64 0)] fun h152 =>
  ldV h152 x9 fun y153 =>
  rngN PP l3 y153 h152 [Code.ret] (fun bg4 l4 args h K4 J4 => ∃ (y4_98 : Int), ∃ (y4_99 : Bool), args = [(.int .i64 y4_98), (.bool y4_99)] ∧
    bg4 h fun h155 =>
    ldI .i64 h155 a151 fun y161 =>
    ldL h155 x8 fun y163 =>
    ((decide (y161 ≥ (y163.len : Int))) = true →
    F.spatelaw5_ChainSeqs.j12 Q K4 J4 l4 x6 a151 true h155) ∧
    ((decide (y161 ≥ (y163.len : Int))) = false →
    ldL h155 x8 fun y166 =>
    ldI .i64 h155 a151 fun y168 =>
    idxA y166 y168 1 fun a170 =>
    ldI .i64 h155 a170 fun y172 =>
    F.spatelaw5_coded y4_98 y4_99 h155 fun r175 h174 =>
    cellH h174 a170 = some (.int .i64 y172) ∧
    cellH h174 a151 = some (.int .i64 y168) ∧
    cellH h174 x8 = some y166.enc ∧
    F.spatelaw5_ChainSeqs.j12 Q K4 J4 l4 x6 a151 ((y172 != r175)) h174)) (fun h179 =>
    ldI .i64 h179 a151 fun y180 =>
    ldL h179 x8 fun y182 =>
    (((y180 != (y182.len : Int))) = true →
    stH h179 x6 [(.bool false)] fun h185 =>
    J3 0 h185) ∧
    (((y180 != (y182.len : Int))) = false →
    ldI .i64 h179 x10 fun y186 =>
    stH h179 x10 [(.int .i64 (IntKind.wrap .i64 (y186 + 1)))] fun h188 =>
    ldI .i64 h188 x10 fun y189 =>
    ldI .i64 h188 x5 fun y191 =>
    F.spatelaw5_within y191 5 h188 fun r194 h193 =>
    cellH h193 x10 = some (.int .i64 y189) ∧
    ((decide (y189 > r194)) = true →
    J3 1 h193) ∧
    ((decide (y189 > r194)) = false →
    K3 h193))) (fun jj h197 =>
    (jj = 0 →
      J3 0 h197))
def F.spatelaw5_ChainSeqs.j13 (Q : Bool → H → Prop) (K3 : H → Prop) (J3 : Nat → H → Prop) (l3 : Nat) (x5 : Addr) (x6 : Addr) (x8 : Addr) (x9 : Addr) (x10 : Addr) (x96 : Bool) (h : H) : Prop :=
  (x96 = true →
  stH h x6 [(.bool false)] fun h199 =>
  J3 0 h199) ∧
  (x96 = false →
  F.spatelaw5_ChainSeqs.j10 Q K3 J3 l3 x5 x6 x8 x9 x10 h)
def F.spatelaw5_ChainSeqs.j6 (Q : Bool → H → Prop) (C1 : List Nat → Addr → Addr → Addr → Addr → Addr → Addr → Addr → Int → H → Prop) (ds : List Nat) (x4 : Addr) (x5 : Addr) (x6 : Addr) (x7 : Addr) (x8 : Addr) (x9 : Addr) (x10 : Addr) (x13 : Int) (x71 : Bool) (h : H) : Prop :=
  (x71 = true →
  F.spatelaw5_ChainSeqs.j5 Q C1 ds x4 x5 x6 x7 x8 x9 x10 x13 h) ∧
  (x71 = false →
  stH h x10 [(.int .i64 0)] fun h106 =>
  ldV h106 x9 fun y147 =>
  rng PP y147 h106 [Code.ret, Code.exit 4] (fun bg3 l3 args h K3 J3 => ∃ (y3_81 : Int), ∃ (y3_82 : Bool), args = [(.int .i64 y3_81), (.bool y3_82)] ∧
    bg3 h fun h149 =>
    ldI .i64 h149 x10 fun y200 =>
    ldL h149 x8 fun y202 =>
    ((decide (y200 ≥ (y202.len : Int))) = true →
    F.spatelaw5_ChainSeqs.j13 Q K3 J3 l3 x5 x6 x8 x9 x10 true h149) ∧
    ((decide (y200 ≥ (y202.len : Int))) = false →
    ldL h149 x8 fun y205 =>
    ldI .i64 h149 x10 fun y207 =>
    idxA y205 y207 1 fun a209 =>
    ldI .i64 h149 a209 fun y211 =>
    F.spatelaw5_coded y3_81 y3_82 h149 fun r214 h213 =>
    cellH h213 a209 = some (.int .i64 y211) ∧
    cellH h213 x10 = some (.int .i64 y207) ∧
    cellH h213 x8 = some y205.enc ∧
    F.spatelaw5_ChainSeqs.j13 Q K3 J3 l3 x5 x6 x8 x9 x10 ((y211 != r214)) h213)) (fun h218 =>
    F.spatelaw5_ChainSeqs.j7 Q (h106.size :: ds) x6 x8 x9 x10 h218) (fun jj h219 =>
    (jj = 0 →
      shuts (h106.size :: ds) h219 fun h220 =>
      ldB h220 x6 fun y221 =>
      Q y221 h220) ∧
    (jj = 1 →
      F.spatelaw5_ChainSeqs.j7 Q (h106.size :: ds) x6 x8 x9 x10 h219)))
def F.spatelaw5_ChainSeqs.l4 (Q : Bool → H → Prop) : Nat → List Nat → Addr → Addr → Addr → Addr → Addr → Addr → Addr → Int → H → Prop
  | 0, _, _, _, _, _, _, _, _, _, _ => False
  | q4 + 1, ds, x4, x5, x6, x7, x8, x9, x10, x13, h =>
    ldL h x4 fun y223 =>
    ((decide (x13 < (y223.len : Int))) = true →
    F.spatelaw5_ChainSeqs.j6 Q (F.spatelaw5_ChainSeqs.l4 Q q4) ds x4 x5 x6 x7 x8 x9 x10 x13 (decide (x13 < 2000)) h) ∧
    ((decide (x13 < (y223.len : Int))) = false →
    F.spatelaw5_ChainSeqs.j6 Q (F.spatelaw5_ChainSeqs.l4 Q q4) ds x4 x5 x6 x7 x8 x9 x10 x13 false h)
/-- spate/spatelaw5.ChainSeqs -/
def F.spatelaw5_ChainSeqs (p0 : Sl) (p1 : Sl) (p2 : Int) (h : H) (Q : Bool → H → Prop) : Prop :=
  new h #[p1.enc] ty_23 fun a2 h1 =>
  new h1 #[(.int .i64 p2)] ty_3 fun a4 h3 =>
  new h3 #[(.bool false)] ty_4 fun a6 h5 =>
  F.spatelaw5_known  h5 fun r8 h7 =>
  ((!r8) = true →
  stH h7 a6 [(.bool false)] fun h10 =>
  shuts ([] : List Nat) h10 fun h11 =>
  ldB h11 a6 fun y12 =>
  Q y12 h11) ∧
  ((!r8) = false →
  F.spatelaw5_open p0 h7 fun r15 h14 =>
  new h14 #[(.pointer none)] ty_25 fun a17 h16 =>
  stH h16 a17 [(.pointer r15)] fun h18 =>
  ldP h18 a17 fun y19 =>
  F.spatelaw5_told y19 h18 fun r22 h21 =>
  new h21 #[(⟨none, 0, 0⟩ : Sl).enc] ty_24 fun a24 h23 =>
  stH h23 a24 [r22.enc] fun h25 =>
  ldP h25 a17 fun y26 =>
  F.chain_Chain_int_All y26 h25 fun r29 h28 =>
  new h28 #[.nilFunc] ty_45 fun a31 h30 =>
  r29.cells = #[r29] ∧
  r29.oneCell' = true ∧
  stH h30 a31 [r29] fun h32 =>
  ldV h32 a31 fun y33 =>
  (y33 = .nilFunc ∨ isF y33) ∧
  ((isNilF y33) = true →
  stH h32 a6 [(.bool false)] fun h37 =>
  shuts ([] : List Nat) h37 fun h38 =>
  ldB h38 a6 fun y39 =>
  Q y39 h38) ∧
  ((isNilF y33) = false →
  new h32 #[(.int .i64 0)] ty_3 fun a42 h41 =>
  stH h41 a42 [(.int .i64 0)] fun h43 =>
  ldV h43 a31 fun y44 =>
  rng PP y44 h43 [Code.ret] (fun bg1 l1 args h K1 J1 => ∃ (y1_32 : Int), ∃ (y1_33 : Bool), args = [(.int .i64 y1_32), (.bool y1_33)] ∧
    bg1 h fun h46 =>
    ldI .i64 h46 a42 fun y68 =>
    ldL h46 a24 fun y70 =>
    ((decide (y68 ≥ (y70.len : Int))) = true →
    F.spatelaw5_ChainSeqs.j3 Q K1 J1 l1 a2 a6 a17 a42 true h46) ∧
    ((decide (y68 ≥ (y70.len : Int))) = false →
    ldL h46 a24 fun y73 =>
    ldI .i64 h46 a42 fun y75 =>
    idxA y73 y75 1 fun a77 =>
    ldI .i64 h46 a77 fun y79 =>
    F.spatelaw5_coded y1_32 y1_33 h46 fun r82 h81 =>
    cellH h81 a77 = some (.int .i64 y79) ∧
    cellH h81 a42 = some (.int .i64 y75) ∧
    cellH h81 a24 = some y73.enc ∧
    F.spatelaw5_ChainSeqs.j3 Q K1 J1 l1 a2 a6 a17 a42 ((y79 != r82)) h81)) (fun h86 =>
    ldI .i64 h86 a42 fun y87 =>
    ldL h86 a24 fun y89 =>
    (((y87 != (y89.len : Int))) = true →
    stH h86 a6 [(.bool false)] fun h92 =>
    shuts (h43.size :: ([] : List Nat)) h92 fun h93 =>
    ldB h93 a6 fun y94 =>
    Q y94 h93) ∧
    (((y87 != (y89.len : Int))) = false →
    ∃ m, F.spatelaw5_ChainSeqs.l4 Q m (h43.size :: ([] : List Nat)) a2 a4 a6 a17 a24 a31 a42 0 h86)) (fun jj h227 =>
    (jj = 0 →
      shuts (h43.size :: ([] : List Nat)) h227 fun h228 =>
      ldB h228 a6 fun y229 =>
      Q y229 h228))))
theorem F.spatelaw5_ChainSeqs_ok {p0 : Sl} {p1 : Sl} {p2 : Int} {h : H} {Q : Bool → H → Prop} (H : F.spatelaw5_ChainSeqs p0 p1 p2 h Q) : Fn PP 6 ([p0.enc, p1.enc, (.int .i64 p2)] : List Value).toArray h fun r h' => ∃ r0, r = (.bool r0) ∧ Q r0 h' := by
  unfold F.spatelaw5_ChainSeqs at H
  refine fn_ofM Try.func6 Try.ntmps6 rfl rfl fun w0 => ?_
  refine tr_sub [(0, p0.enc), (1, p1.enc), (2, (.int .i64 p2))] ⟨rfl, rfl, rfl, trivial⟩ ?_
  refine tr_seq ?_
  refine tr_region ?_
  refine tr_e (f_box (cs := #[p1.enc]) rfl rfl H) rfl rfl ?_
  rintro _ h1 ⟨a2, rfl, H⟩
  refine tr_e (f_box (cs := #[(.int .i64 p2)]) rfl rfl H) rfl rfl ?_
  rintro _ h3 ⟨a4, rfl, H⟩
  refine tr_e (f_alloc (cs := #[(.bool false)]) Try.zeroValue4 rfl H) rfl rfl ?_
  rintro _ h5 ⟨a6, rfl, H⟩
  refine tr_nil ?_
  refine tr_thenN ?_
  refine tr_seq ?_
  refine tr_seq ?_
  refine tr_region ?_
  refine tr_e (e_call Try.call11 rfl (F.spatelaw5_known_ok H)) rfl rfl ?_
  rintro _ h7 ⟨r8, rfl, H⟩
  refine tr_p (y_not rfl) rfl rfl ?_
  refine tr_nil ?_
  refine tr_thenN ?_
  refine tr_cond rfl (fun g9 => ?_) (fun g9 => ?_)
  · replace H := H.1 g9
    refine tr_seq ?_
    refine tr_region ?_
    refine tr_e (f_store (vs := [(.bool false)]) Try.sizeOf4 rfl rfl rfl rfl (one1 rfl) H) rfl rfl ?_
    rintro _ h10 ⟨rfl, H⟩
    refine tr_nil ?_
    refine tr_thenN ?_
    refine tr_ret ?_
    refine tr_thenR ?_
    refine tr_shut ([] : List Nat) rfl H fun h11 H => ?_
    obtain ⟨y12, k13, H⟩ := H
    exact tr_rv1 rfl (rv_cell Try.isAgg4 rfl k13) ⟨_, rfl, H⟩
  · replace H := H.2 g9
    refine tr_skip ?_
    refine tr_thenN ?_
    refine tr_seq ?_
    refine tr_region ?_
    refine tr_p (y_move rfl) rfl rfl ?_
    refine tr_e (e_call Try.call12 rfl (F.spatelaw5_open_ok H)) rfl rfl ?_
    rintro _ h14 ⟨r15, rfl, H⟩
    refine tr_e (f_alloc (cs := #[(.pointer none)]) Try.zeroValue25 rfl H) rfl rfl ?_
    rintro _ h16 ⟨a17, rfl, H⟩
    refine tr_e (f_store (vs := [(.pointer r15)]) Try.sizeOf25 rfl rfl rfl rfl (one1 rfl) H) rfl rfl ?_
    rintro _ h18 ⟨rfl, H⟩
    refine tr_nil ?_
    refine tr_thenN ?_
    refine tr_seq ?_
    refine tr_region ?_
    obtain ⟨y19, k20, H⟩ := H
    refine tr_h (y_ld Try.isAgg25 rfl) k20 rfl rfl ?_
    refine tr_e (e_call Try.call25 rfl (F.spatelaw5_told_ok H)) rfl rfl ?_
    rintro _ h21 ⟨r22, rfl, H⟩
    refine tr_e (f_alloc (cs := #[(⟨none, 0, 0⟩ : Sl).enc]) Try.zeroValue24 rfl H) rfl rfl ?_
    rintro _ h23 ⟨a24, rfl, H⟩
    refine tr_e (f_store (vs := [r22.enc]) Try.sizeOf24 rfl rfl rfl rfl (one1 rfl) H) rfl rfl ?_
    rintro _ h25 ⟨rfl, H⟩
    refine tr_nil ?_
    refine tr_thenN ?_
    refine tr_seq ?_
    refine tr_region ?_
    obtain ⟨y26, k27, H⟩ := H
    refine tr_h (y_ld Try.isAgg25 rfl) k27 rfl rfl ?_
    refine tr_e (e_call Try.call26 rfl (F.chain_Chain_int_All_ok H)) rfl rfl ?_
    rintro r29 h28 ⟨_, rfl, H⟩
    refine tr_e (f_alloc (cs := #[.nilFunc]) Try.zeroValue45 rfl H) rfl rfl ?_
    rintro _ h30 ⟨a31, rfl, H⟩
    refine tr_e (f_store (vs := [r29]) Try.sizeOf45 rfl rfl (congrArg Array.toList H.1) rfl (one1 H.2.1) H.2.2) rfl rfl ?_
    rintro _ h32 ⟨rfl, H⟩
    refine tr_nil ?_
    refine tr_thenN ?_
    refine tr_seq ?_
    refine tr_seq ?_
    refine tr_region ?_
    obtain ⟨y33, k34, H⟩ := H
    refine tr_h (y_ld Try.isAgg45 rfl) k34 rfl rfl ?_
    obtain ⟨e35, H⟩ := H
    refine tr_p (y_vnil_eql Try.runUnderlying45 rfl rfl e35) rfl rfl ?_
    refine tr_nil ?_
    refine tr_thenN ?_
    refine tr_cond rfl (fun g36 => ?_) (fun g36 => ?_)
    · replace H := H.1 g36
      refine tr_seq ?_
      refine tr_region ?_
      refine tr_e (f_store (vs := [(.bool false)]) Try.sizeOf4 rfl rfl rfl rfl (one1 rfl) H) rfl rfl ?_
      rintro _ h37 ⟨rfl, H⟩
      refine tr_nil ?_
      refine tr_thenN ?_
      refine tr_ret ?_
      refine tr_thenR ?_
      refine tr_shut ([] : List Nat) rfl H fun h38 H => ?_
      obtain ⟨y39, k40, H⟩ := H
      exact tr_rv1 rfl (rv_cell Try.isAgg4 rfl k40) ⟨_, rfl, H⟩
    · replace H := H.2 g36
      refine tr_skip ?_
      refine tr_thenN ?_
      refine tr_seq ?_
      refine tr_region ?_
      refine tr_e (f_alloc (cs := #[(.int .i64 0)]) Try.zeroValue3 rfl H) rfl rfl ?_
      rintro _ h41 ⟨a42, rfl, H⟩
      refine tr_e (f_store (vs := [(.int .i64 0)]) Try.sizeOf3 rfl rfl rfl rfl (one1 rfl) H) rfl rfl ?_
      rintro _ h43 ⟨rfl, H⟩
      refine tr_nil ?_
      refine tr_thenN ?_
      refine tr_seq ?_
      refine tr_seq ?_
      refine tr_region ?_
      obtain ⟨y44, k45, H⟩ := H
      refine tr_h (y_ld Try.isAgg45 rfl) k45 rfl rfl ?_
      refine tr_nil ?_
      refine tr_thenN ?_
      refine tr_block ?_
      refine tr_range rfl (by kernel_rfl) H ?_ ?_ ?_
      · intro bg1 l1 args h K1 J1 w1 hbg1 H
        obtain ⟨y1_32, y1_33, rfl, H⟩ := H
        refine ⟨rfl, ?_⟩
        refine tr_sub [(0, p0.enc), (1, p1.enc), (2, (.int .i64 p2)), (4, (.pointer (some a2))), (5, (.pointer (some a4))), (6, (.pointer (some a6))), (21, (.bool r8)), (22, (.bool (!r8))), (23, p0.enc), (24, (.pointer r15)), (7, (.pointer (some a17))), (25, (.pointer y19)), (26, r22.enc), (8, (.pointer (some a24))), (27, (.pointer y26)), (28, r29), (9, (.pointer (some a31))), (29, y33), (30, (.bool (isNilF y33))), (10, (.pointer (some a42))), (31, y44), (32, (.int .i64 y1_32)), (33, (.bool y1_33))] ⟨rfl, rfl, rfl, rfl, rfl, rfl, rfl, rfl, rfl, rfl, rfl, rfl, rfl, rfl, rfl, rfl, rfl, rfl, rfl, rfl, rfl, rfl, rfl, trivial⟩ ?_
        refine tr_seq ?_
        refine tr_region ?_
        refine tr_p (y_assign rfl) rfl rfl ?_
        refine tr_nil ?_
        refine tr_thenN ?_
        refine tr_region ?_
        refine tr_p (y_assign rfl) rfl rfl ?_
        refine tr_nil ?_
        refine tr_thenN ?_
        refine tr_bgn hbg1 H fun h46 H => ?_
        refine tr_block ?_
        refine tr_seq_j (fun L' h => ∃ (x4 : Addr) (x7 : Addr) (x10 : Addr), L' = [(4, (.pointer (some x4))), (7, (.pointer (some x7))), (10, (.pointer (some x10)))] ∧ F.spatelaw5_ChainSeqs.j1 Q K1 J1 l1 x4 x7 x10 h) ?_ ?_
        · rintro L' h ⟨x4, x7, x10, rfl, H⟩
          unfold F.spatelaw5_ChainSeqs.j1 at H
          refine tr_seq_j (fun L' h => ∃ (x10 : Addr), L' = [(10, (.pointer (some x10)))] ∧ F.spatelaw5_ChainSeqs.j2 Q K1 J1 l1 x10 h) ?_ ?_
          · rintro L' h ⟨x10, rfl, H⟩
            unfold F.spatelaw5_ChainSeqs.j2 at H
            refine tr_region ?_
            obtain ⟨y47, k48, H⟩ := H
            refine tr_h (y_ld Try.isAgg3 rfl) k48 rfl rfl ?_
            refine tr_p (y_add rfl rfl) rfl rfl ?_
            refine tr_e (f_store (vs := [(.int .i64 (IntKind.wrap .i64 (y47 + 1)))]) Try.sizeOf3 rfl rfl rfl rfl (one1 rfl) H) rfl rfl ?_
            rintro _ h49 ⟨rfl, H⟩
            refine tr_nil ?_
            refine tr_blockN ?_
            exact tr_rN H
          · refine tr_seq ?_
            refine tr_region ?_
            obtain ⟨y50, k51, H⟩ := H
            refine tr_h (y_ld Try.isAgg3 rfl) k51 rfl rfl ?_
            obtain ⟨y52, k53, H⟩ := H
            refine tr_h (y_ld Try.isAgg23 rfl) k53 rfl rfl ?_
            refine tr_p (y_len (ts := #[]) Try.runUnderlying23 (o := y52.ptr) (n := y52.len) (cap := y52.cap) rfl) rfl rfl ?_
            refine tr_p (y_lss rfl rfl) rfl rfl ?_
            refine tr_nil ?_
            refine tr_thenN ?_
            refine tr_cond rfl (fun g54 => ?_) (fun g54 => ?_)
            · replace H := H.1 g54
              refine tr_draw mixed [0, 0, 0, 6, 14, 31] (by kernel_rfl) ?_
              obtain ⟨y55, k56, H⟩ := H
              refine g_h 0 1 rfl (by kernel_rfl) (y_ld Try.isAgg25 rfl) k56 rfl rfl ?_
              obtain ⟨y57, k58, H⟩ := H
              refine g_h 1 3 rfl (by kernel_rfl) (y_ld Try.isAgg23 rfl) k58 rfl rfl ?_
              obtain ⟨y59, k60, H⟩ := H
              refine g_h 2 7 rfl (by kernel_rfl) (y_ld Try.isAgg3 rfl) k60 rfl rfl ?_
              obtain ⟨a61, e62, H⟩ := H
              refine g_p 3 15 rfl (by kernel_rfl) (f_idx (s := y57) Try.runUnderlying23 Try.sizeOf50 rfl rfl e62) rfl rfl ?_
              obtain ⟨y63, k64, H⟩ := H
              refine g_h 4 31 rfl (by kernel_rfl) (y_ldS Try.isAgg50 Try.sizeOf50 rfl rfl) k64 rfl rfl ?_
              refine g_e 5 63 [] (by kernel_rfl) rfl (by kernel_rfl) (e_call Try.call28 rfl (F.spatelaw5_do_ok H)) rfl rfl ?_
              rintro _ h65 ⟨rfl, H⟩
              refine ⟨trivial, ?_⟩
              refine g_d (by kernel_rfl) ?_
              refine tr_thenN ?_
              exact tr_join [(10, (.pointer (some x10)))] ⟨rfl, trivial⟩ ⟨_, rfl, H⟩
            · replace H := H.2 g54
              refine tr_skip ?_
              refine tr_thenN ?_
              exact tr_join [(10, (.pointer (some x10)))] ⟨rfl, trivial⟩ ⟨_, rfl, H⟩
        · refine tr_seq_j (fun L' h => ∃ (x4 : Addr) (x6 : Addr) (x7 : Addr) (x10 : Addr) (x47 : Bool), L' = [(4, (.pointer (some x4))), (6, (.pointer (some x6))), (7, (.pointer (some x7))), (10, (.pointer (some x10))), (47, (.bool x47))] ∧ F.spatelaw5_ChainSeqs.j3 Q K1 J1 l1 x4 x6 x7 x10 x47 h) ?_ ?_
          · rintro L' h ⟨x4, x6, x7, x10, x47, rfl, H⟩
            unfold F.spatelaw5_ChainSeqs.j3 at H
            refine tr_cond rfl (fun g66 => ?_) (fun g66 => ?_)
            · replace H := H.1 g66
              refine tr_seq ?_
              refine tr_region ?_
              refine tr_e (f_store (vs := [(.bool false)]) Try.sizeOf4 rfl rfl rfl rfl (one1 rfl) H) rfl rfl ?_
              rintro _ h67 ⟨rfl, H⟩
              refine tr_nil ?_
              refine tr_thenN ?_
              refine tr_ret ?_
              refine tr_thenR ?_
              refine tr_blockR ?_
              exact tr_rR 0 rfl H
            · replace H := H.2 g66
              refine tr_skip ?_
              refine tr_thenN ?_
              exact tr_join [(4, (.pointer (some x4))), (7, (.pointer (some x7))), (10, (.pointer (some x10)))] ⟨rfl, rfl, rfl, trivial⟩ ⟨_, _, _, rfl, H⟩
          · refine tr_draw mixed [0, 0, 2, 7, 15, 31, 31, 127, 255, 31, 31, 1567, 4095, 8191] (by kernel_rfl) ?_
            obtain ⟨y68, k69, H⟩ := H
            refine g_h 0 1 rfl (by kernel_rfl) (y_ld Try.isAgg3 rfl) k69 rfl rfl ?_
            obtain ⟨y70, k71, H⟩ := H
            refine g_h 1 3 rfl (by kernel_rfl) (y_ld Try.isAgg24 rfl) k71 rfl rfl ?_
            refine g_p 2 7 rfl (by kernel_rfl) (y_len (ts := #[]) Try.runUnderlying24 (o := y70.ptr) (n := y70.len) (cap := y70.cap) rfl) rfl rfl ?_
            refine g_p 3 15 rfl (by kernel_rfl) (y_geq rfl rfl) rfl rfl ?_
            refine g_p 4 31 rfl (by kernel_rfl) (y_move rfl) rfl rfl ?_
            refine g_split (t := 38) rfl (fun g72 => ?_) (fun g72 => ?_)
            · replace H := H.1 g72
              refine g_s 5 63 rfl (by kernel_rfl) rfl rfl ?_
              refine g_s 6 127 rfl (by kernel_rfl) rfl rfl ?_
              refine g_s 7 255 rfl (by kernel_rfl) rfl rfl ?_
              refine g_s 8 511 rfl (by kernel_rfl) rfl rfl ?_
              refine g_s 9 1023 rfl (by kernel_rfl) rfl rfl ?_
              refine g_s 10 2047 rfl (by kernel_rfl) rfl rfl ?_
              refine g_s 11 4095 rfl (by kernel_rfl) rfl rfl ?_
              refine g_s 12 8191 rfl (by kernel_rfl) rfl rfl ?_
              refine g_p 13 16383 rfl (by kernel_rfl) (y_pick_t rfl rfl) rfl rfl ?_
              refine g_d (by kernel_rfl) ?_
              refine tr_thenN ?_
              exact tr_join [(4, (.pointer (some a2))), (6, (.pointer (some a6))), (7, (.pointer (some a17))), (10, (.pointer (some a42))), (47, (.bool true))] ⟨rfl, rfl, rfl, rfl, rfl, trivial⟩ ⟨_, _, _, _, _, rfl, H⟩
            · replace H := H.2 g72
              obtain ⟨y73, k74, H⟩ := H
              refine g_h 5 63 rfl (by kernel_rfl) (y_ld Try.isAgg24 rfl) k74 rfl rfl ?_
              obtain ⟨y75, k76, H⟩ := H
              refine g_h 6 127 rfl (by kernel_rfl) (y_ld Try.isAgg3 rfl) k76 rfl rfl ?_
              obtain ⟨a77, e78, H⟩ := H
              refine g_p 7 255 rfl (by kernel_rfl) (f_idx (s := y73) Try.runUnderlying24 Try.sizeOf3 rfl rfl e78) rfl rfl ?_
              obtain ⟨y79, k80, H⟩ := H
              refine g_h 8 511 rfl (by kernel_rfl) (y_ld Try.isAgg3 rfl) k80 rfl rfl ?_
              refine g_p 9 1023 rfl (by kernel_rfl) (y_move rfl) rfl rfl ?_
              refine g_p 10 2047 rfl (by kernel_rfl) (y_move rfl) rfl rfl ?_
              refine g_e 11 4095 [(8, fun h => cellH h a77 = some (.int .i64 y79)), (6, fun h => cellH h a42 = some (.int .i64 y75)), (5, fun h => cellH h a24 = some y73.enc)] (by kernel_rfl) rfl (by kernel_rfl) (e_call Try.call27 rfl (F.spatelaw5_coded_ok H)) rfl rfl ?_
              rintro _ h81 ⟨r82, rfl, H⟩
              obtain ⟨k83, k84, k85, H⟩ := H
              refine ⟨And.intro k83 (And.intro k84 (And.intro k85 trivial)), ?_⟩
              refine g_p 12 8191 rfl (by kernel_rfl) (y_neq rfl rfl) rfl rfl ?_
              refine g_p 13 16383 rfl (by kernel_rfl) (y_pick_f rfl rfl) rfl rfl ?_
              refine g_d (by kernel_rfl) ?_
              refine tr_thenN ?_
              exact tr_join [(4, (.pointer (some a2))), (6, (.pointer (some a6))), (7, (.pointer (some a17))), (10, (.pointer (some a42))), (47, (.bool ((y79 != r82))))] ⟨rfl, rfl, rfl, rfl, rfl, trivial⟩ ⟨_, _, _, _, _, rfl, H⟩
      · intro h86 H
        refine tr_blockN ?_
        refine tr_thenN ?_
        refine tr_seq ?_
        refine tr_seq ?_
        refine tr_region ?_
        obtain ⟨y87, k88, H⟩ := H
        refine tr_h (y_ld Try.isAgg3 rfl) k88 rfl rfl ?_
        obtain ⟨y89, k90, H⟩ := H
        refine tr_h (y_ld Try.isAgg24 rfl) k90 rfl rfl ?_
        refine tr_p (y_len (ts := #[]) Try.runUnderlying24 (o := y89.ptr) (n := y89.len) (cap := y89.cap) rfl) rfl rfl ?_
        refine tr_p (y_neq rfl rfl) rfl rfl ?_
        refine tr_nil ?_
        refine tr_thenN ?_
        refine tr_cond rfl (fun g91 => ?_) (fun g91 => ?_)
        · replace H := H.1 g91
          refine tr_seq ?_
          refine tr_region ?_
          refine tr_e (f_store (vs := [(.bool false)]) Try.sizeOf4 rfl rfl rfl rfl (one1 rfl) H) rfl rfl ?_
          rintro _ h92 ⟨rfl, H⟩
          refine tr_nil ?_
          refine tr_thenN ?_
          refine tr_ret ?_
          refine tr_thenR ?_
          refine tr_shut (h43.size :: ([] : List Nat)) rfl H fun h93 H => ?_
          obtain ⟨y94, k95, H⟩ := H
          exact tr_rv1 rfl (rv_cell Try.isAgg4 rfl k95) ⟨_, rfl, H⟩
        · replace H := H.2 g91
          refine tr_skip ?_
          refine tr_thenN ?_
          refine tr_seq ?_
          refine tr_seq ?_
          refine tr_region ?_
          refine tr_p (y_assign rfl) rfl rfl ?_
          refine tr_nil ?_
          refine tr_thenN ?_
          refine tr_block ?_
          obtain ⟨m226, H⟩ := H
          refine tr_sub [(4, (.pointer (some a2))), (5, (.pointer (some a4))), (6, (.pointer (some a6))), (7, (.pointer (some a17))), (8, (.pointer (some a24))), (9, (.pointer (some a31))), (10, (.pointer (some a42))), (13, (.int .i64 0))] ⟨rfl, rfl, rfl, rfl, rfl, rfl, rfl, rfl, trivial⟩ ?_
          refine tr_loop_jD (fun m ds L' h => ∃ (x4 : Addr) (x5 : Addr) (x6 : Addr) (x7 : Addr) (x8 : Addr) (x9 : Addr) (x10 : Addr) (x13 : Int), L' = [(4, (.pointer (some x4))), (5, (.pointer (some x5))), (6, (.pointer (some x6))), (7, (.pointer (some x7))), (8, (.pointer (some x8))), (9, (.pointer (some x9))), (10, (.pointer (some x10))), (13, (.int .i64 x13))] ∧ F.spatelaw5_ChainSeqs.l4 Q m ds x4 x5 x6 x7 x8 x9 x10 x13 h) ?_ ?_ m226 (h43.size :: ([] : List Nat)) rfl ⟨_, _, _, _, _, _, _, _, rfl, H⟩
          · rintro ds L' h ⟨_, _, _, _, _, _, _, _, _, H⟩; exact H
          · rintro q4 ds L' h ⟨x4, x5, x6, x7, x8, x9, x10, x13, rfl, H⟩
            unfold F.spatelaw5_ChainSeqs.l4 at H
            refine tr_seq_jD (fun ds L' h => ∃ (x4 : Addr) (x5 : Addr) (x6 : Addr) (x7 : Addr) (x8 : Addr) (x9 : Addr) (x10 : Addr) (x13 : Int), L' = [(4, (.pointer (some x4))), (5, (.pointer (some x5))), (6, (.pointer (some x6))), (7, (.pointer (some x7))), (8, (.pointer (some x8))), (9, (.pointer (some x9))), (10, (.pointer (some x10))), (13, (.int .i64 x13))] ∧ F.spatelaw5_ChainSeqs.j5 Q (F.spatelaw5_ChainSeqs.l4 Q q4) ds x4 x5 x6 x7 x8 x9 x10 x13 h) ?_ ?_
            · rintro ds L' h ⟨x4, x5, x6, x7, x8, x9, x10, x13, rfl, H⟩
              unfold F.spatelaw5_ChainSeqs.j5 at H
              refine tr_seq ?_
              refine tr_block ?_
              refine tr_draw mixed [0, 0, 0, 6, 14, 31] (by kernel_rfl) ?_
              obtain ⟨y96, k97, H⟩ := H
              refine g_h 0 1 rfl (by kernel_rfl) (y_ld Try.isAgg25 rfl) k97 rfl rfl ?_
              obtain ⟨y98, k99, H⟩ := H
              refine g_h 1 3 rfl (by kernel_rfl) (y_ld Try.isAgg23 rfl) k99 rfl rfl ?_
              refine g_p 2 7 rfl (by kernel_rfl) (y_move rfl) rfl rfl ?_
              obtain ⟨a100, e101, H⟩ := H
              refine g_p 3 15 rfl (by kernel_rfl) (f_idx (s := y98) Try.runUnderlying23 Try.sizeOf50 rfl rfl e101) rfl rfl ?_
              obtain ⟨y102, k103, H⟩ := H
              refine g_h 4 31 rfl (by kernel_rfl) (y_ldS Try.isAgg50 Try.sizeOf50 rfl rfl) k103 rfl rfl ?_
              refine g_e 5 63 [] (by kernel_rfl) rfl (by kernel_rfl) (e_call Try.call28 rfl (F.spatelaw5_do_ok H)) rfl rfl ?_
              rintro _ h104 ⟨rfl, H⟩
              refine ⟨trivial, ?_⟩
              refine g_d (by kernel_rfl) ?_
              refine tr_blockN ?_
              refine tr_thenN ?_
              refine tr_region ?_
              refine tr_p (y_move rfl) rfl rfl ?_
              refine tr_p (y_add rfl rfl) rfl rfl ?_
              refine tr_p (y_assign rfl) rfl rfl ?_
              refine tr_nil ?_
              refine tr_thenN ?_
              exact tr_joinD ds [(4, (.pointer (some x4))), (5, (.pointer (some x5))), (6, (.pointer (some x6))), (7, (.pointer (some x7))), (8, (.pointer (some x8))), (9, (.pointer (some x9))), (10, (.pointer (some x10))), (13, (.int .i64 (IntKind.wrap .i64 (x13 + 1))))] rfl ⟨rfl, rfl, rfl, rfl, rfl, rfl, rfl, rfl, trivial⟩ ⟨_, _, _, _, _, _, _, _, rfl, H⟩
            · refine tr_seq_jD (fun ds L' h => ∃ (x4 : Addr) (x5 : Addr) (x6 : Addr) (x7 : Addr) (x8 : Addr) (x9 : Addr) (x10 : Addr) (x13 : Int) (x71 : Bool), L' = [(4, (.pointer (some x4))), (5, (.pointer (some x5))), (6, (.pointer (some x6))), (7, (.pointer (some x7))), (8, (.pointer (some x8))), (9, (.pointer (some x9))), (10, (.pointer (some x10))), (13, (.int .i64 x13)), (71, (.bool x71))] ∧ F.spatelaw5_ChainSeqs.j6 Q (F.spatelaw5_ChainSeqs.l4 Q q4) ds x4 x5 x6 x7 x8 x9 x10 x13 x71 h) ?_ ?_
              · rintro ds L' h ⟨x4, x5, x6, x7, x8, x9, x10, x13, x71, rfl, H⟩
                unfold F.spatelaw5_ChainSeqs.j6 at H
                refine tr_cond rfl (fun g105 => ?_) (fun g105 => ?_)
                · replace H := H.1 g105
                  refine tr_skip ?_
                  refine tr_thenN ?_
                  exact tr_joinD ds [(4, (.pointer (some x4))), (5, (.pointer (some x5))), (6, (.pointer (some x6))), (7, (.pointer (some x7))), (8, (.pointer (some x8))), (9, (.pointer (some x9))), (10, (.pointer (some x10))), (13, (.int .i64 x13))] rfl ⟨rfl, rfl, rfl, rfl, rfl, rfl, rfl, rfl, trivial⟩ ⟨_, _, _, _, _, _, _, _, rfl, H⟩
                · replace H := H.2 g105
                  refine tr_exit ?_
                  refine tr_thenE ?_
                  refine tr_thenE ?_
                  refine tr_hit ?_
                  refine tr_thenN ?_
                  refine tr_seq ?_
                  refine tr_region ?_
                  refine tr_e (f_store (vs := [(.int .i64 0)]) Try.sizeOf3 rfl rfl rfl rfl (one1 rfl) H) rfl rfl ?_
                  rintro _ h106 ⟨rfl, H⟩
                  refine tr_nil ?_
                  refine tr_thenN ?_
                  refine tr_seq_jD (fun ds L' h => ∃ (x6 : Addr) (x8 : Addr) (x9 : Addr) (x10 : Addr), L' = [(6, (.pointer (some x6))), (8, (.pointer (some x8))), (9, (.pointer (some x9))), (10, (.pointer (some x10)))] ∧ F.spatelaw5_ChainSeqs.j7 Q ds x6 x8 x9 x10 h) ?_ ?_
                  · rintro ds L' h ⟨x6, x8, x9, x10, rfl, H⟩
                    unfold F.spatelaw5_ChainSeqs.j7 at H
                    refine tr_seq ?_
                    refine tr_region ?_
                    refine tr_e (f_store (vs := [(.int .i64 0)]) Try.sizeOf3 rfl rfl rfl rfl (one1 rfl) H) rfl rfl ?_
                    rintro _ h107 ⟨rfl, H⟩
                    refine tr_nil ?_
                    refine tr_thenN ?_
                    refine tr_seq ?_
                    refine tr_seq ?_
                    refine tr_region ?_
                    obtain ⟨y108, k109, H⟩ := H
                    refine tr_h (y_ld Try.isAgg45 rfl) k109 rfl rfl ?_
                    refine tr_nil ?_
                    refine tr_thenN ?_
                    refine tr_block ?_
                    refine tr_range rfl (by kernel_rfl) H ?_ ?_ ?_
                    · intro bg2 l2 args h K2 J2 w2 hbg2 H
                      obtain ⟨y2_127, y2_128, rfl, H⟩ := H
                      refine ⟨rfl, ?_⟩
                      refine tr_sub [(6, (.pointer (some x6))), (8, (.pointer (some x8))), (9, (.pointer (some x9))), (10, (.pointer (some x10))), (126, y108), (127, (.int .i64 y2_127)), (128, (.bool y2_128))] ⟨rfl, rfl, rfl, rfl, rfl, rfl, rfl, trivial⟩ ?_
                      refine tr_seq ?_
                      refine tr_region ?_
                      refine tr_p (y_assign rfl) rfl rfl ?_
                      refine tr_nil ?_
                      refine tr_thenN ?_
                      refine tr_region ?_
                      refine tr_p (y_assign rfl) rfl rfl ?_
                      refine tr_nil ?_
                      refine tr_thenN ?_
                      refine tr_bgn hbg2 H fun h110 H => ?_
                      refine tr_block ?_
                      refine tr_seq_j (fun L' h => ∃ (x10 : Addr), L' = [(10, (.pointer (some x10)))] ∧ F.spatelaw5_ChainSeqs.j8 Q K2 J2 l2 x10 h) ?_ ?_
                      · rintro L' h ⟨x10, rfl, H⟩
                        unfold F.spatelaw5_ChainSeqs.j8 at H
                        refine tr_region ?_
                        obtain ⟨y111, k112, H⟩ := H
                        refine tr_h (y_ld Try.isAgg3 rfl) k112 rfl rfl ?_
                        refine tr_p (y_add rfl rfl) rfl rfl ?_
                        refine tr_e (f_store (vs := [(.int .i64 (IntKind.wrap .i64 (y111 + 1)))]) Try.sizeOf3 rfl rfl rfl rfl (one1 rfl) H) rfl rfl ?_
                        rintro _ h113 ⟨rfl, H⟩
                        refine tr_nil ?_
                        refine tr_blockN ?_
                        exact tr_rN H
                      · refine tr_seq_j (fun L' h => ∃ (x6 : Addr) (x10 : Addr) (x142 : Bool), L' = [(6, (.pointer (some x6))), (10, (.pointer (some x10))), (142, (.bool x142))] ∧ F.spatelaw5_ChainSeqs.j9 Q K2 J2 l2 x6 x10 x142 h) ?_ ?_
                        · rintro L' h ⟨x6, x10, x142, rfl, H⟩
                          unfold F.spatelaw5_ChainSeqs.j9 at H
                          refine tr_cond rfl (fun g114 => ?_) (fun g114 => ?_)
                          · replace H := H.1 g114
                            refine tr_seq ?_
                            refine tr_region ?_
                            refine tr_e (f_store (vs := [(.bool false)]) Try.sizeOf4 rfl rfl rfl rfl (one1 rfl) H) rfl rfl ?_
                            rintro _ h115 ⟨rfl, H⟩
                            refine tr_nil ?_
                            refine tr_thenN ?_
                            refine tr_ret ?_
                            refine tr_thenR ?_
                            refine tr_blockR ?_
                            exact tr_rR 0 rfl H
                          · replace H := H.2 g114
                            refine tr_skip ?_
                            refine tr_thenN ?_
                            exact tr_join [(10, (.pointer (some x10)))] ⟨rfl, trivial⟩ ⟨_, rfl, H⟩
                        · refine tr_draw mixed [0, 0, 2, 7, 15, 31, 31, 127, 255, 31, 31, 1567, 4095, 8191] (by kernel_rfl) ?_
                          obtain ⟨y116, k117, H⟩ := H
                          refine g_h 0 1 rfl (by kernel_rfl) (y_ld Try.isAgg3 rfl) k117 rfl rfl ?_
                          obtain ⟨y118, k119, H⟩ := H
                          refine g_h 1 3 rfl (by kernel_rfl) (y_ld Try.isAgg24 rfl) k119 rfl rfl ?_
                          refine g_p 2 7 rfl (by kernel_rfl) (y_len (ts := #[]) Try.runUnderlying24 (o := y118.ptr) (n := y118.len) (cap := y118.cap) rfl) rfl rfl ?_
                          refine g_p 3 15 rfl (by kernel_rfl) (y_geq rfl rfl) rfl rfl ?_
                          refine g_p 4 31 rfl (by kernel_rfl) (y_move rfl) rfl rfl ?_
                          refine g_split (t := 133) rfl (fun g120 => ?_) (fun g120 => ?_)
                          · replace H := H.1 g120
                            refine g_s 5 63 rfl (by kernel_rfl) rfl rfl ?_
                            refine g_s 6 127 rfl (by kernel_rfl) rfl rfl ?_
                            refine g_s 7 255 rfl (by kernel_rfl) rfl rfl ?_
                            refine g_s 8 511 rfl (by kernel_rfl) rfl rfl ?_
                            refine g_s 9 1023 rfl (by kernel_rfl) rfl rfl ?_
                            refine g_s 10 2047 rfl (by kernel_rfl) rfl rfl ?_
                            refine g_s 11 4095 rfl (by kernel_rfl) rfl rfl ?_
                            refine g_s 12 8191 rfl (by kernel_rfl) rfl rfl ?_
                            refine g_p 13 16383 rfl (by kernel_rfl) (y_pick_t rfl rfl) rfl rfl ?_
                            refine g_d (by kernel_rfl) ?_
                            refine tr_thenN ?_
                            exact tr_join [(6, (.pointer (some x6))), (10, (.pointer (some x10))), (142, (.bool true))] ⟨rfl, rfl, rfl, trivial⟩ ⟨_, _, _, rfl, H⟩
                          · replace H := H.2 g120
                            obtain ⟨y121, k122, H⟩ := H
                            refine g_h 5 63 rfl (by kernel_rfl) (y_ld Try.isAgg24 rfl) k122 rfl rfl ?_
                            obtain ⟨y123, k124, H⟩ := H
                            refine g_h 6 127 rfl (by kernel_rfl) (y_ld Try.isAgg3 rfl) k124 rfl rfl ?_
                            obtain ⟨a125, e126, H⟩ := H
                            refine g_p 7 255 rfl (by kernel_rfl) (f_idx (s := y121) Try.runUnderlying24 Try.sizeOf3 rfl rfl e126) rfl rfl ?_
                            obtain ⟨y127, k128, H⟩ := H
                            refine g_h 8 511 rfl (by kernel_rfl) (y_ld Try.isAgg3 rfl) k128 rfl rfl ?_
                            refine g_p 9 1023 rfl (by kernel_rfl) (y_move rfl) rfl rfl ?_
                            refine g_p 10 2047 rfl (by kernel_rfl) (y_move rfl) rfl rfl ?_
                            refine g_e 11 4095 [(8, fun h => cellH h a125 = some (.int .i64 y127)), (6, fun h => cellH h x10 = some (.int .i64 y123)), (5, fun h => cellH h x8 = some y121.enc)] (by kernel_rfl) rfl (by kernel_rfl) (e_call Try.call27 rfl (F.spatelaw5_coded_ok H)) rfl rfl ?_
                            rintro _ h129 ⟨r130, rfl, H⟩
                            obtain ⟨k131, k132, k133, H⟩ := H
                            refine ⟨And.intro k131 (And.intro k132 (And.intro k133 trivial)), ?_⟩
                            refine g_p 12 8191 rfl (by kernel_rfl) (y_neq rfl rfl) rfl rfl ?_
                            refine g_p 13 16383 rfl (by kernel_rfl) (y_pick_f rfl rfl) rfl rfl ?_
                            refine g_d (by kernel_rfl) ?_
                            refine tr_thenN ?_
                            exact tr_join [(6, (.pointer (some x6))), (10, (.pointer (some x10))), (142, (.bool ((y127 != r130))))] ⟨rfl, rfl, rfl, trivial⟩ ⟨_, _, _, rfl, H⟩
                    · intro h134 H
                      refine tr_blockN ?_
                      refine tr_thenN ?_
                      refine tr_seq ?_
                      refine tr_region ?_
                      obtain ⟨y135, k136, H⟩ := H
                      refine tr_h (y_ld Try.isAgg3 rfl) k136 rfl rfl ?_
                      obtain ⟨y137, k138, H⟩ := H
                      refine tr_h (y_ld Try.isAgg24 rfl) k138 rfl rfl ?_
                      refine tr_p (y_len (ts := #[]) Try.runUnderlying24 (o := y137.ptr) (n := y137.len) (cap := y137.cap) rfl) rfl rfl ?_
                      refine tr_p (y_eql rfl rfl) rfl rfl ?_
                      refine tr_e (f_store (vs := [(.bool ((y135 == (y137.len : Int))))]) Try.sizeOf4 rfl rfl rfl rfl (one1 rfl) H) rfl rfl ?_
                      rintro _ h139 ⟨rfl, H⟩
                      refine tr_nil ?_
                      refine tr_thenN ?_
                      refine tr_ret ?_
                      refine tr_shut (h107.size :: ds) rfl H fun h140 H => ?_
                      obtain ⟨y141, k142, H⟩ := H
                      exact tr_rv1 rfl (rv_cell Try.isAgg4 rfl k142) ⟨_, rfl, H⟩
                    · intro jj c h143 hjc H
                      rcases jj with _ | jj
                      · obtain rfl : Code.ret = c := by simpa using hjc
                        replace H := H rfl
                        refine tr_ret ?_
                        refine tr_blockR ?_
                        refine tr_thenR ?_
                        refine tr_shut (h107.size :: ds) rfl H fun h144 H => ?_
                        obtain ⟨y145, k146, H⟩ := H
                        exact tr_rv1 rfl (rv_cell Try.isAgg4 rfl k146) ⟨_, rfl, H⟩
                      · simp at hjc
                  · refine tr_seq ?_
                    refine tr_region ?_
                    obtain ⟨y147, k148, H⟩ := H
                    refine tr_h (y_ld Try.isAgg45 rfl) k148 rfl rfl ?_
                    refine tr_nil ?_
                    refine tr_thenN ?_
                    refine tr_block ?_
                    refine tr_range rfl (by kernel_rfl) H ?_ ?_ ?_
                    · intro bg3 l3 args h K3 J3 w3 hbg3 H
                      obtain ⟨y3_81, y3_82, rfl, H⟩ := H
                      refine ⟨rfl, ?_⟩
                      refine tr_sub [(4, (.pointer (some x4))), (5, (.pointer (some x5))), (6, (.pointer (some x6))), (7, (.pointer (some x7))), (8, (.pointer (some x8))), (9, (.pointer (some x9))), (10, (.pointer (some x10))), (13, (.int .i64 x13)), (71, (.bool x71)), (80, y147), (81, (.int .i64 y3_81)), (82, (.bool y3_82))] ⟨rfl, rfl, rfl, rfl, rfl, rfl, rfl, rfl, rfl, rfl, rfl, rfl, trivial⟩ ?_
                      refine tr_seq ?_
                      refine tr_region ?_
                      refine tr_p (y_assign rfl) rfl rfl ?_
                      refine tr_nil ?_
                      refine tr_thenN ?_
                      refine tr_region ?_
                      refine tr_p (y_assign rfl) rfl rfl ?_
                      refine tr_nil ?_
                      refine tr_thenN ?_
                      refine tr_bgn hbg3 H fun h149 H => ?_
                      refine tr_block ?_
                      refine tr_seq_j (fun L' h => ∃ (x5 : Addr) (x6 : Addr) (x8 : Addr) (x9 : Addr) (x10 : Addr), L' = [(5, (.pointer (some x5))), (6, (.pointer (some x6))), (8, (.pointer (some x8))), (9, (.pointer (some x9))), (10, (.pointer (some x10)))] ∧ F.spatelaw5_ChainSeqs.j10 Q K3 J3 l3 x5 x6 x8 x9 x10 h) ?_ ?_
                      · rintro L' h ⟨x5, x6, x8, x9, x10, rfl, H⟩
                        unfold F.spatelaw5_ChainSeqs.j10 at H
                        refine tr_seq ?_
                        refine tr_region ?_
                        refine tr_e (f_alloc (cs := #[(.int .i64 0)]) Try.zeroValue3 rfl H) rfl rfl ?_
                        rintro _ h150 ⟨a151, rfl, H⟩
                        refine tr_e (f_store (vs := [(.int .i64 0)]) Try.sizeOf3 rfl rfl rfl rfl (one1 rfl) H) rfl rfl ?_
                        rintro _ h152 ⟨rfl, H⟩
                        refine tr_nil ?_
                        refine tr_thenN ?_
                        refine tr_seq ?_
                        refine tr_seq ?_
                        refine tr_region ?_
                        obtain ⟨y153, k154, H⟩ := H
                        refine tr_h (y_ld Try.isAgg45 rfl) k154 rfl rfl ?_
                        refine tr_nil ?_
                        refine tr_thenN ?_
                        refine tr_block ?_
                        refine tr_rangeN (l0 := l3) rfl (by kernel_rfl) H ?_ ?_ ?_
                        · intro bg4 l4 args h K4 J4 w4 hbg4 H
                          obtain ⟨y4_98, y4_99, rfl, H⟩ := H
                          refine ⟨rfl, ?_⟩
                          refine tr_sub [(5, (.pointer (some x5))), (6, (.pointer (some x6))), (8, (.pointer (some x8))), (9, (.pointer (some x9))), (10, (.pointer (some x10))), (16, (.pointer (some a151))), (97, y153), (98, (.int .i64 y4_98)), (99, (.bool y4_99))] ⟨rfl, rfl, rfl, rfl, rfl, rfl, rfl, rfl, rfl, trivial⟩ ?_
                          refine tr_seq ?_
                          refine tr_region ?_
                          refine tr_p (y_assign rfl) rfl rfl ?_
                          refine tr_nil ?_
                          refine tr_thenN ?_
                          refine tr_region ?_
                          refine tr_p (y_assign rfl) rfl rfl ?_
                          refine tr_nil ?_
                          refine tr_thenN ?_
                          refine tr_bgn hbg4 H fun h155 H => ?_
                          refine tr_block ?_
                          refine tr_seq_j (fun L' h => ∃ (x16 : Addr), L' = [(16, (.pointer (some x16)))] ∧ F.spatelaw5_ChainSeqs.j11 Q K4 J4 l4 x16 h) ?_ ?_
                          · rintro L' h ⟨x16, rfl, H⟩
                            unfold F.spatelaw5_ChainSeqs.j11 at H
                            refine tr_region ?_
                            obtain ⟨y156, k157, H⟩ := H
                            refine tr_h (y_ld Try.isAgg3 rfl) k157 rfl rfl ?_
                            refine tr_p (y_add rfl rfl) rfl rfl ?_
                            refine tr_e (f_store (vs := [(.int .i64 (IntKind.wrap .i64 (y156 + 1)))]) Try.sizeOf3 rfl rfl rfl rfl (one1 rfl) H) rfl rfl ?_
                            rintro _ h158 ⟨rfl, H⟩
                            refine tr_nil ?_
                            refine tr_blockN ?_
                            exact tr_rN H
                          · refine tr_seq_j (fun L' h => ∃ (x6 : Addr) (x16 : Addr) (x113 : Bool), L' = [(6, (.pointer (some x6))), (16, (.pointer (some x16))), (113, (.bool x113))] ∧ F.spatelaw5_ChainSeqs.j12 Q K4 J4 l4 x6 x16 x113 h) ?_ ?_
                            · rintro L' h ⟨x6, x16, x113, rfl, H⟩
                              unfold F.spatelaw5_ChainSeqs.j12 at H
                              refine tr_cond rfl (fun g159 => ?_) (fun g159 => ?_)
                              · replace H := H.1 g159
                                refine tr_seq ?_
                                refine tr_region ?_
                                refine tr_e (f_store (vs := [(.bool false)]) Try.sizeOf4 rfl rfl rfl rfl (one1 rfl) H) rfl rfl ?_
                                rintro _ h160 ⟨rfl, H⟩
                                refine tr_nil ?_
                                refine tr_thenN ?_
                                refine tr_ret ?_
                                refine tr_thenR ?_
                                refine tr_blockR ?_
                                exact tr_rR 0 rfl H
                              · replace H := H.2 g159
                                refine tr_skip ?_
                                refine tr_thenN ?_
                                exact tr_join [(16, (.pointer (some x16)))] ⟨rfl, trivial⟩ ⟨_, rfl, H⟩
                            · refine tr_draw mixed [0, 0, 2, 7, 15, 31, 31, 127, 255, 31, 31, 1567, 4095, 8191] (by kernel_rfl) ?_
                              obtain ⟨y161, k162, H⟩ := H
                              refine g_h 0 1 rfl (by kernel_rfl) (y_ld Try.isAgg3 rfl) k162 rfl rfl ?_
                              obtain ⟨y163, k164, H⟩ := H
                              refine g_h 1 3 rfl (by kernel_rfl) (y_ld Try.isAgg24 rfl) k164 rfl rfl ?_
                              refine g_p 2 7 rfl (by kernel_rfl) (y_len (ts := #[]) Try.runUnderlying24 (o := y163.ptr) (n := y163.len) (cap := y163.cap) rfl) rfl rfl ?_
                              refine g_p 3 15 rfl (by kernel_rfl) (y_geq rfl rfl) rfl rfl ?_
                              refine g_p 4 31 rfl (by kernel_rfl) (y_move rfl) rfl rfl ?_
                              refine g_split (t := 104) rfl (fun g165 => ?_) (fun g165 => ?_)
                              · replace H := H.1 g165
                                refine g_s 5 63 rfl (by kernel_rfl) rfl rfl ?_
                                refine g_s 6 127 rfl (by kernel_rfl) rfl rfl ?_
                                refine g_s 7 255 rfl (by kernel_rfl) rfl rfl ?_
                                refine g_s 8 511 rfl (by kernel_rfl) rfl rfl ?_
                                refine g_s 9 1023 rfl (by kernel_rfl) rfl rfl ?_
                                refine g_s 10 2047 rfl (by kernel_rfl) rfl rfl ?_
                                refine g_s 11 4095 rfl (by kernel_rfl) rfl rfl ?_
                                refine g_s 12 8191 rfl (by kernel_rfl) rfl rfl ?_
                                refine g_p 13 16383 rfl (by kernel_rfl) (y_pick_t rfl rfl) rfl rfl ?_
                                refine g_d (by kernel_rfl) ?_
                                refine tr_thenN ?_
                                exact tr_join [(6, (.pointer (some x6))), (16, (.pointer (some a151))), (113, (.bool true))] ⟨rfl, rfl, rfl, trivial⟩ ⟨_, _, _, rfl, H⟩
                              · replace H := H.2 g165
                                obtain ⟨y166, k167, H⟩ := H
                                refine g_h 5 63 rfl (by kernel_rfl) (y_ld Try.isAgg24 rfl) k167 rfl rfl ?_
                                obtain ⟨y168, k169, H⟩ := H
                                refine g_h 6 127 rfl (by kernel_rfl) (y_ld Try.isAgg3 rfl) k169 rfl rfl ?_
                                obtain ⟨a170, e171, H⟩ := H
                                refine g_p 7 255 rfl (by kernel_rfl) (f_idx (s := y166) Try.runUnderlying24 Try.sizeOf3 rfl rfl e171) rfl rfl ?_
                                obtain ⟨y172, k173, H⟩ := H
                                refine g_h 8 511 rfl (by kernel_rfl) (y_ld Try.isAgg3 rfl) k173 rfl rfl ?_
                                refine g_p 9 1023 rfl (by kernel_rfl) (y_move rfl) rfl rfl ?_
                                refine g_p 10 2047 rfl (by kernel_rfl) (y_move rfl) rfl rfl ?_
                                refine g_e 11 4095 [(8, fun h => cellH h a170 = some (.int .i64 y172)), (6, fun h => cellH h a151 = some (.int .i64 y168)), (5, fun h => cellH h x8 = some y166.enc)] (by kernel_rfl) rfl (by kernel_rfl) (e_call Try.call27 rfl (F.spatelaw5_coded_ok H)) rfl rfl ?_
                                rintro _ h174 ⟨r175, rfl, H⟩
                                obtain ⟨k176, k177, k178, H⟩ := H
                                refine ⟨And.intro k176 (And.intro k177 (And.intro k178 trivial)), ?_⟩
                                refine g_p 12 8191 rfl (by kernel_rfl) (y_neq rfl rfl) rfl rfl ?_
                                refine g_p 13 16383 rfl (by kernel_rfl) (y_pick_f rfl rfl) rfl rfl ?_
                                refine g_d (by kernel_rfl) ?_
                                refine tr_thenN ?_
                                exact tr_join [(6, (.pointer (some x6))), (16, (.pointer (some a151))), (113, (.bool ((y172 != r175))))] ⟨rfl, rfl, rfl, trivial⟩ ⟨_, _, _, rfl, H⟩
                        · intro h179 H
                          refine tr_blockN ?_
                          refine tr_thenN ?_
                          refine tr_seq ?_
                          refine tr_seq ?_
                          refine tr_region ?_
                          obtain ⟨y180, k181, H⟩ := H
                          refine tr_h (y_ld Try.isAgg3 rfl) k181 rfl rfl ?_
                          obtain ⟨y182, k183, H⟩ := H
                          refine tr_h (y_ld Try.isAgg24 rfl) k183 rfl rfl ?_
                          refine tr_p (y_len (ts := #[]) Try.runUnderlying24 (o := y182.ptr) (n := y182.len) (cap := y182.cap) rfl) rfl rfl ?_
                          refine tr_p (y_neq rfl rfl) rfl rfl ?_
                          refine tr_nil ?_
                          refine tr_thenN ?_
                          refine tr_cond rfl (fun g184 => ?_) (fun g184 => ?_)
                          · replace H := H.1 g184
                            refine tr_seq ?_
                            refine tr_region ?_
                            refine tr_e (f_store (vs := [(.bool false)]) Try.sizeOf4 rfl rfl rfl rfl (one1 rfl) H) rfl rfl ?_
                            rintro _ h185 ⟨rfl, H⟩
                            refine tr_nil ?_
                            refine tr_thenN ?_
                            refine tr_ret ?_
                            refine tr_thenR ?_
                            refine tr_blockR ?_
                            exact tr_rR 0 rfl H
                          · replace H := H.2 g184
                            refine tr_skip ?_
                            refine tr_thenN ?_
                            refine tr_seq ?_
                            refine tr_region ?_
                            obtain ⟨y186, k187, H⟩ := H
                            refine tr_h (y_ld Try.isAgg3 rfl) k187 rfl rfl ?_
                            refine tr_p (y_add rfl rfl) rfl rfl ?_
                            refine tr_e (f_store (vs := [(.int .i64 (IntKind.wrap .i64 (y186 + 1)))]) Try.sizeOf3 rfl rfl rfl rfl (one1 rfl) H) rfl rfl ?_
                            rintro _ h188 ⟨rfl, H⟩
                            refine tr_nil ?_
                            refine tr_thenN ?_
                            refine tr_seq ?_
                            refine tr_draw mixed [0, 0, 2, 7] (by kernel_rfl) ?_
                            obtain ⟨y189, k190, H⟩ := H
                            refine g_h 0 1 rfl (by kernel_rfl) (y_ld Try.isAgg3 rfl) k190 rfl rfl ?_
                            obtain ⟨y191, k192, H⟩ := H
                            refine g_h 1 3 rfl (by kernel_rfl) (y_ld Try.isAgg3 rfl) k192 rfl rfl ?_
                            refine g_e 2 7 [(0, fun h => cellH h x10 = some (.int .i64 y189))] (by kernel_rfl) rfl (by kernel_rfl) (e_call Try.call21 rfl (F.spatelaw5_within_ok H)) rfl rfl ?_
                            rintro _ h193 ⟨r194, rfl, H⟩
                            obtain ⟨k195, H⟩ := H
                            refine ⟨And.intro k195 trivial, ?_⟩
                            refine g_p 3 15 rfl (by kernel_rfl) (y_gtr rfl rfl) rfl rfl ?_
                            refine g_d (by kernel_rfl) ?_
                            refine tr_thenN ?_
                            refine tr_cond rfl (fun g196 => ?_) (fun g196 => ?_)
                            · replace H := H.1 g196
                              refine tr_exit ?_
                              refine tr_miss rfl ?_
                              exact tr_rE 1 rfl H
                            · replace H := H.2 g196
                              refine tr_skip ?_
                              refine tr_blockN ?_
                              exact tr_rN H
                        · intro jj c h197 hjc H
                          rcases jj with _ | jj
                          · obtain rfl : Code.ret = c := by simpa using hjc
                            replace H := H rfl
                            refine tr_ret ?_
                            refine tr_blockR ?_
                            refine tr_thenR ?_
                            refine tr_blockR ?_
                            exact tr_rR 0 rfl H
                          · simp at hjc
                      · refine tr_seq_j (fun L' h => ∃ (x5 : Addr) (x6 : Addr) (x8 : Addr) (x9 : Addr) (x10 : Addr) (x96 : Bool), L' = [(5, (.pointer (some x5))), (6, (.pointer (some x6))), (8, (.pointer (some x8))), (9, (.pointer (some x9))), (10, (.pointer (some x10))), (96, (.bool x96))] ∧ F.spatelaw5_ChainSeqs.j13 Q K3 J3 l3 x5 x6 x8 x9 x10 x96 h) ?_ ?_
                        · rintro L' h ⟨x5, x6, x8, x9, x10, x96, rfl, H⟩
                          unfold F.spatelaw5_ChainSeqs.j13 at H
                          refine tr_cond rfl (fun g198 => ?_) (fun g198 => ?_)
                          · replace H := H.1 g198
                            refine tr_seq ?_
                            refine tr_region ?_
                            refine tr_e (f_store (vs := [(.bool false)]) Try.sizeOf4 rfl rfl rfl rfl (one1 rfl) H) rfl rfl ?_
                            rintro _ h199 ⟨rfl, H⟩
                            refine tr_nil ?_
                            refine tr_thenN ?_
                            refine tr_ret ?_
                            refine tr_thenR ?_
                            refine tr_blockR ?_
                            exact tr_rR 0 rfl H
                          · replace H := H.2 g198
                            refine tr_skip ?_
                            refine tr_thenN ?_
                            exact tr_join [(5, (.pointer (some x5))), (6, (.pointer (some x6))), (8, (.pointer (some x8))), (9, (.pointer (some x9))), (10, (.pointer (some x10)))] ⟨rfl, rfl, rfl, rfl, rfl, trivial⟩ ⟨_, _, _, _, _, rfl, H⟩
                        · refine tr_draw mixed [0, 0, 2, 7, 15, 31, 31, 127, 255, 31, 31, 1567, 4095, 8191] (by kernel_rfl) ?_
                          obtain ⟨y200, k201, H⟩ := H
                          refine g_h 0 1 rfl (by kernel_rfl) (y_ld Try.isAgg3 rfl) k201 rfl rfl ?_
                          obtain ⟨y202, k203, H⟩ := H
                          refine g_h 1 3 rfl (by kernel_rfl) (y_ld Try.isAgg24 rfl) k203 rfl rfl ?_
                          refine g_p 2 7 rfl (by kernel_rfl) (y_len (ts := #[]) Try.runUnderlying24 (o := y202.ptr) (n := y202.len) (cap := y202.cap) rfl) rfl rfl ?_
                          refine g_p 3 15 rfl (by kernel_rfl) (y_geq rfl rfl) rfl rfl ?_
                          refine g_p 4 31 rfl (by kernel_rfl) (y_move rfl) rfl rfl ?_
                          refine g_split (t := 87) rfl (fun g204 => ?_) (fun g204 => ?_)
                          · replace H := H.1 g204
                            refine g_s 5 63 rfl (by kernel_rfl) rfl rfl ?_
                            refine g_s 6 127 rfl (by kernel_rfl) rfl rfl ?_
                            refine g_s 7 255 rfl (by kernel_rfl) rfl rfl ?_
                            refine g_s 8 511 rfl (by kernel_rfl) rfl rfl ?_
                            refine g_s 9 1023 rfl (by kernel_rfl) rfl rfl ?_
                            refine g_s 10 2047 rfl (by kernel_rfl) rfl rfl ?_
                            refine g_s 11 4095 rfl (by kernel_rfl) rfl rfl ?_
                            refine g_s 12 8191 rfl (by kernel_rfl) rfl rfl ?_
                            refine g_p 13 16383 rfl (by kernel_rfl) (y_pick_t rfl rfl) rfl rfl ?_
                            refine g_d (by kernel_rfl) ?_
                            refine tr_thenN ?_
                            exact tr_join [(5, (.pointer (some x5))), (6, (.pointer (some x6))), (8, (.pointer (some x8))), (9, (.pointer (some x9))), (10, (.pointer (some x10))), (96, (.bool true))] ⟨rfl, rfl, rfl, rfl, rfl, rfl, trivial⟩ ⟨_, _, _, _, _, _, rfl, H⟩
                          · replace H := H.2 g204
                            obtain ⟨y205, k206, H⟩ := H
                            refine g_h 5 63 rfl (by kernel_rfl) (y_ld Try.isAgg24 rfl) k206 rfl rfl ?_
                            obtain ⟨y207, k208, H⟩ := H
                            refine g_h 6 127 rfl (by kernel_rfl) (y_ld Try.isAgg3 rfl) k208 rfl rfl ?_
                            obtain ⟨a209, e210, H⟩ := H
                            refine g_p 7 255 rfl (by kernel_rfl) (f_idx (s := y205) Try.runUnderlying24 Try.sizeOf3 rfl rfl e210) rfl rfl ?_
                            obtain ⟨y211, k212, H⟩ := H
                            refine g_h 8 511 rfl (by kernel_rfl) (y_ld Try.isAgg3 rfl) k212 rfl rfl ?_
                            refine g_p 9 1023 rfl (by kernel_rfl) (y_move rfl) rfl rfl ?_
                            refine g_p 10 2047 rfl (by kernel_rfl) (y_move rfl) rfl rfl ?_
                            refine g_e 11 4095 [(8, fun h => cellH h a209 = some (.int .i64 y211)), (6, fun h => cellH h x10 = some (.int .i64 y207)), (5, fun h => cellH h x8 = some y205.enc)] (by kernel_rfl) rfl (by kernel_rfl) (e_call Try.call27 rfl (F.spatelaw5_coded_ok H)) rfl rfl ?_
                            rintro _ h213 ⟨r214, rfl, H⟩
                            obtain ⟨k215, k216, k217, H⟩ := H
                            refine ⟨And.intro k215 (And.intro k216 (And.intro k217 trivial)), ?_⟩
                            refine g_p 12 8191 rfl (by kernel_rfl) (y_neq rfl rfl) rfl rfl ?_
                            refine g_p 13 16383 rfl (by kernel_rfl) (y_pick_f rfl rfl) rfl rfl ?_
                            refine g_d (by kernel_rfl) ?_
                            refine tr_thenN ?_
                            exact tr_join [(5, (.pointer (some x5))), (6, (.pointer (some x6))), (8, (.pointer (some x8))), (9, (.pointer (some x9))), (10, (.pointer (some x10))), (96, (.bool ((y211 != r214))))] ⟨rfl, rfl, rfl, rfl, rfl, rfl, trivial⟩ ⟨_, _, _, _, _, _, rfl, H⟩
                    · intro h218 H
                      refine tr_blockN ?_
                      refine tr_thenN ?_
                      exact tr_joinD (h106.size :: ds) [(6, (.pointer (some x6))), (8, (.pointer (some x8))), (9, (.pointer (some x9))), (10, (.pointer (some x10)))] rfl ⟨rfl, rfl, rfl, rfl, trivial⟩ ⟨_, _, _, _, rfl, H⟩
                    · intro jj c h219 hjc H
                      rcases jj with _ | jj
                      · obtain rfl : Code.ret = c := by simpa using hjc
                        replace H := H.1 rfl
                        refine tr_ret ?_
                        refine tr_blockR ?_
                        refine tr_thenR ?_
                        refine tr_shut (h106.size :: ds) rfl H fun h220 H => ?_
                        obtain ⟨y221, k222, H⟩ := H
                        exact tr_rv1 rfl (rv_cell Try.isAgg4 rfl k222) ⟨_, rfl, H⟩
                      · rcases jj with _ | jj
                        · obtain rfl : Code.exit 4 = c := by simpa using hjc
                          replace H := H.2 rfl
                          refine tr_exit ?_
                          refine tr_hit ?_
                          refine tr_thenN ?_
                          exact tr_joinD (h106.size :: ds) [(6, (.pointer (some x6))), (8, (.pointer (some x8))), (9, (.pointer (some x9))), (10, (.pointer (some x10)))] rfl ⟨rfl, rfl, rfl, rfl, trivial⟩ ⟨_, _, _, _, rfl, H⟩
                        · simp at hjc
              · refine tr_region ?_
                refine tr_p (y_move rfl) rfl rfl ?_
                obtain ⟨y223, k224, H⟩ := H
                refine tr_h (y_ld Try.isAgg23 rfl) k224 rfl rfl ?_
                refine tr_p (y_len (ts := #[]) Try.runUnderlying23 (o := y223.ptr) (n := y223.len) (cap := y223.cap) rfl) rfl rfl ?_
                refine tr_p (y_lss rfl rfl) rfl rfl ?_
                refine tr_p (y_move rfl) rfl rfl ?_
                refine tr_split (t := 68) rfl (fun g225 => ?_) (fun g225 => ?_)
                · replace H := H.1 g225
                  refine tr_p (y_move rfl) rfl rfl ?_
                  refine tr_p (y_lss rfl rfl) rfl rfl ?_
                  refine tr_p (y_pick_t rfl rfl) rfl rfl ?_
                  refine tr_nil ?_
                  refine tr_thenN ?_
                  exact tr_joinD ds [(4, (.pointer (some x4))), (5, (.pointer (some x5))), (6, (.pointer (some x6))), (7, (.pointer (some x7))), (8, (.pointer (some x8))), (9, (.pointer (some x9))), (10, (.pointer (some x10))), (13, (.int .i64 x13)), (71, (.bool (decide (x13 < 2000))))] rfl ⟨rfl, rfl, rfl, rfl, rfl, rfl, rfl, rfl, rfl, trivial⟩ ⟨_, _, _, _, _, _, _, _, _, rfl, H⟩
                · replace H := H.2 g225
                  refine tr_s rfl rfl ?_
                  refine tr_s rfl rfl ?_
                  refine tr_p (y_pick_f rfl rfl) rfl rfl ?_
                  refine tr_nil ?_
                  refine tr_thenN ?_
                  exact tr_joinD ds [(4, (.pointer (some x4))), (5, (.pointer (some x5))), (6, (.pointer (some x6))), (7, (.pointer (some x7))), (8, (.pointer (some x8))), (9, (.pointer (some x9))), (10, (.pointer (some x10))), (13, (.int .i64 x13)), (71, (.bool false))] rfl ⟨rfl, rfl, rfl, rfl, rfl, rfl, rfl, rfl, rfl, trivial⟩ ⟨_, _, _, _, _, _, _, _, _, rfl, H⟩
      · intro jj c h227 hjc H
        rcases jj with _ | jj
        · obtain rfl : Code.ret = c := by simpa using hjc
          replace H := H rfl
          refine tr_ret ?_
          refine tr_blockR ?_
          refine tr_thenR ?_
          refine tr_shut (h43.size :: ([] : List Nat)) rfl H fun h228 H => ?_
          obtain ⟨y229, k230, H⟩ := H
          exact tr_rv1 rfl (rv_cell Try.isAgg4 rfl k230) ⟨_, rfl, H⟩
        · simp at hjc

def F.spatelaw5_was.j2 (Q : Bool → H → Prop) (x9 : Int) (x10 : Int) (x11 : Bool) (h : H) : Prop :=
  (x11 = true →
  Q ((x10 == x9)) h) ∧
  (x11 = false →
  Q false h)
def F.spatelaw5_was.j3 (Q : Bool → H → Prop) (x9 : Int) (x10 : Int) (x11 : Bool) (x49 : Bool) (h : H) : Prop :=
  (x49 = true →
  ((!x11) = true →
  Q ((x10 == 0)) h) ∧
  ((!x11) = false →
  Q false h)) ∧
  (x49 = false →
  F.spatelaw5_was.j2 Q x9 x10 x11 h)
def F.spatelaw5_was.j1 (Q : Bool → H → Prop) (x3 : Int) (x9 : Int) (x10 : Int) (x11 : Bool) (h : H) : Prop :=
  (((x9 == 0)) = true →
  F.spatelaw5_was.j3 Q x9 x10 x11 true h) ∧
  (((x9 == 0)) = false →
  (x3 : Int) ≠ 0 ∧
  F.spatelaw5_was.j3 Q x9 x10 x11 (((Int.tmod x9 x3) == 0)) h)
def F.spatelaw5_was.j4 (Q : Bool → H → Prop) (x2 : Int) (x3 : Int) (x9 : Int) (x10 : Int) (x11 : Bool) (x13 : Int) (x38 : Bool) (h : H) : Prop :=
  (x38 = true →
  (x2 : Int) ≠ 0 ∧
  F.spatelaw5_was.j1 Q x3 (IntKind.wrap .i64 (Int.tdiv x13 x2)) x10 x11 h) ∧
  (x38 = false →
  F.spatelaw5_was.j1 Q x3 x9 x10 x11 h)
/-- spate/spatelaw5.was -/
def F.spatelaw5_was (p0 : Option Addr) (p1 : Int) (p2 : Int) (p3 : Int) (h : H) (Q : Bool → H → Prop) : Prop :=
  (p2 : Int) ≠ 0 ∧
  F.chain_Chain_int_At p0 p1 h fun r3 r4 h2 =>
  F.chain_Chain_int_Newest p0 h2 fun r6 r7 r8 h5 =>
  ((decide (r7 > 0)) = true →
  (p2 : Int) ≠ 0 ∧
  F.spatelaw5_was.j4 Q p2 p3 (IntKind.wrap .i64 (Int.tdiv p1 p2)) r3 r4 r7 (decide ((IntKind.wrap .i64 (Int.tdiv p1 p2)) > (IntKind.wrap .i64 (Int.tdiv r7 p2)))) h5) ∧
  ((decide (r7 > 0)) = false →
  F.spatelaw5_was.j4 Q p2 p3 (IntKind.wrap .i64 (Int.tdiv p1 p2)) r3 r4 r7 false h5)
theorem F.spatelaw5_was_ok {p0 : Option Addr} {p1 : Int} {p2 : Int} {p3 : Int} {h : H} {Q : Bool → H → Prop} (H : F.spatelaw5_was p0 p1 p2 p3 h Q) : Fn PP 30 ([(.pointer p0), (.int .i64 p1), (.int .i64 p2), (.int .i64 p3)] : List Value).toArray h fun r h' => ∃ r0, r = (.bool r0) ∧ Q r0 h' := by
  unfold F.spatelaw5_was at H
  refine fn_of Try.func30 Try.ntmps30 rfl rfl fun w0 => ?_
  refine tr_sub [(0, (.pointer p0)), (1, (.int .i64 p1)), (2, (.int .i64 p2)), (3, (.int .i64 p3))] ⟨rfl, rfl, rfl, rfl, trivial⟩ ?_
  refine tr_seq ?_
  refine tr_region ?_
  refine tr_p (y_assign rfl) rfl rfl ?_
  refine tr_nil ?_
  refine tr_thenN ?_
  refine tr_seq ?_
  refine tr_region ?_
  refine tr_p (y_move rfl) rfl rfl ?_
  refine tr_p (y_move rfl) rfl rfl ?_
  obtain ⟨e1, H⟩ := H
  refine tr_p (y_quo rfl rfl e1) rfl rfl ?_
  refine tr_p (y_assign rfl) rfl rfl ?_
  refine tr_nil ?_
  refine tr_thenN ?_
  refine tr_seq ?_
  refine tr_region ?_
  refine tr_p (y_move rfl) rfl rfl ?_
  refine tr_p (y_move rfl) rfl rfl ?_
  refine tr_e (e_call Try.call24 rfl (F.chain_Chain_int_At_ok H)) rfl rfl ?_
  rintro _ h2 ⟨r3, r4, rfl, H⟩
  refine tr_p (y_move rfl) rfl rfl ?_
  refine tr_p (y_ext rfl rfl) rfl rfl ?_
  refine tr_p (y_ext rfl rfl) rfl rfl ?_
  refine tr_p (y_assign rfl) rfl rfl ?_
  refine tr_p (y_assign rfl) rfl rfl ?_
  refine tr_nil ?_
  refine tr_thenN ?_
  refine tr_seq ?_
  refine tr_region ?_
  refine tr_p (y_move rfl) rfl rfl ?_
  refine tr_e (e_call Try.call14 rfl (F.chain_Chain_int_Newest_ok H)) rfl rfl ?_
  rintro _ h5 ⟨r6, r7, r8, rfl, H⟩
  refine tr_p (y_move rfl) rfl rfl ?_
  refine tr_p (y_ext rfl rfl) rfl rfl ?_
  refine tr_p (y_ext rfl rfl) rfl rfl ?_
  refine tr_p (y_ext rfl rfl) rfl rfl ?_
  refine tr_p (y_assign rfl) rfl rfl ?_
  refine tr_p (y_assign rfl) rfl rfl ?_
  refine tr_p (y_assign rfl) rfl rfl ?_
  refine tr_nil ?_
  refine tr_thenN ?_
  refine tr_seq_j (fun L' h => ∃ (x3 : Int) (x9 : Int) (x10 : Int) (x11 : Bool), L' = [(3, (.int .i64 x3)), (9, (.int .i64 x9)), (10, (.int .i64 x10)), (11, (.bool x11))] ∧ F.spatelaw5_was.j1 Q x3 x9 x10 x11 h) ?_ ?_
  · rintro L' h ⟨x3, x9, x10, x11, rfl, H⟩
    unfold F.spatelaw5_was.j1 at H
    refine tr_seq_j (fun L' h => ∃ (x9 : Int) (x10 : Int) (x11 : Bool), L' = [(9, (.int .i64 x9)), (10, (.int .i64 x10)), (11, (.bool x11))] ∧ F.spatelaw5_was.j2 Q x9 x10 x11 h) ?_ ?_
    · rintro L' h ⟨x9, x10, x11, rfl, H⟩
      unfold F.spatelaw5_was.j2 at H
      refine tr_seq ?_
      refine tr_region ?_
      refine tr_p (y_move rfl) rfl rfl ?_
      refine tr_p (y_move rfl) rfl rfl ?_
      refine tr_split (t := 57) rfl (fun g9 => ?_) (fun g9 => ?_)
      · replace H := H.1 g9
        refine tr_p (y_move rfl) rfl rfl ?_
        refine tr_p (y_move rfl) rfl rfl ?_
        refine tr_p (y_eql rfl rfl) rfl rfl ?_
        refine tr_p (y_pick_t rfl rfl) rfl rfl ?_
        refine tr_p (y_assign rfl) rfl rfl ?_
        refine tr_nil ?_
        refine tr_thenN ?_
        refine tr_ret ?_
        exact tr_ret1 rfl rfl ⟨_, rfl, H⟩
      · replace H := H.2 g9
        refine tr_s rfl rfl ?_
        refine tr_s rfl rfl ?_
        refine tr_s rfl rfl ?_
        refine tr_p (y_pick_f rfl rfl) rfl rfl ?_
        refine tr_p (y_assign rfl) rfl rfl ?_
        refine tr_nil ?_
        refine tr_thenN ?_
        refine tr_ret ?_
        exact tr_ret1 rfl rfl ⟨_, rfl, H⟩
    · refine tr_seq_j (fun L' h => ∃ (x9 : Int) (x10 : Int) (x11 : Bool) (x49 : Bool), L' = [(9, (.int .i64 x9)), (10, (.int .i64 x10)), (11, (.bool x11)), (49, (.bool x49))] ∧ F.spatelaw5_was.j3 Q x9 x10 x11 x49 h) ?_ ?_
      · rintro L' h ⟨x9, x10, x11, x49, rfl, H⟩
        unfold F.spatelaw5_was.j3 at H
        refine tr_cond rfl (fun g10 => ?_) (fun g10 => ?_)
        · replace H := H.1 g10
          refine tr_seq ?_
          refine tr_region ?_
          refine tr_p (y_move rfl) rfl rfl ?_
          refine tr_p (y_not rfl) rfl rfl ?_
          refine tr_p (y_move rfl) rfl rfl ?_
          refine tr_split (t := 52) rfl (fun g11 => ?_) (fun g11 => ?_)
          · replace H := H.1 g11
            refine tr_p (y_move rfl) rfl rfl ?_
            refine tr_p (y_eql rfl rfl) rfl rfl ?_
            refine tr_p (y_pick_t rfl rfl) rfl rfl ?_
            refine tr_p (y_assign rfl) rfl rfl ?_
            refine tr_nil ?_
            refine tr_thenN ?_
            refine tr_ret ?_
            refine tr_thenR ?_
            exact tr_ret1 rfl rfl ⟨_, rfl, H⟩
          · replace H := H.2 g11
            refine tr_s rfl rfl ?_
            refine tr_s rfl rfl ?_
            refine tr_p (y_pick_f rfl rfl) rfl rfl ?_
            refine tr_p (y_assign rfl) rfl rfl ?_
            refine tr_nil ?_
            refine tr_thenN ?_
            refine tr_ret ?_
            refine tr_thenR ?_
            exact tr_ret1 rfl rfl ⟨_, rfl, H⟩
        · replace H := H.2 g10
          refine tr_skip ?_
          refine tr_thenN ?_
          exact tr_join [(9, (.int .i64 x9)), (10, (.int .i64 x10)), (11, (.bool x11))] ⟨rfl, rfl, rfl, trivial⟩ ⟨_, _, _, rfl, H⟩
      · refine tr_region ?_
        refine tr_p (y_move rfl) rfl rfl ?_
        refine tr_p (y_eql rfl rfl) rfl rfl ?_
        refine tr_p (y_move rfl) rfl rfl ?_
        refine tr_split (t := 44) rfl (fun g12 => ?_) (fun g12 => ?_)
        · replace H := H.1 g12
          refine tr_s rfl rfl ?_
          refine tr_s rfl rfl ?_
          refine tr_s rfl rfl ?_
          refine tr_s rfl rfl ?_
          refine tr_p (y_pick_t rfl rfl) rfl rfl ?_
          refine tr_nil ?_
          refine tr_thenN ?_
          exact tr_join [(9, (.int .i64 x9)), (10, (.int .i64 x10)), (11, (.bool x11)), (49, (.bool true))] ⟨rfl, rfl, rfl, rfl, trivial⟩ ⟨_, _, _, _, rfl, H⟩
        · replace H := H.2 g12
          refine tr_p (y_move rfl) rfl rfl ?_
          refine tr_p (y_move rfl) rfl rfl ?_
          obtain ⟨e13, H⟩ := H
          refine tr_p (y_rem rfl rfl e13) rfl rfl ?_
          refine tr_p (y_eql rfl rfl) rfl rfl ?_
          refine tr_p (y_pick_f rfl rfl) rfl rfl ?_
          refine tr_nil ?_
          refine tr_thenN ?_
          exact tr_join [(9, (.int .i64 x9)), (10, (.int .i64 x10)), (11, (.bool x11)), (49, (.bool (((Int.tmod x9 x3) == 0))))] ⟨rfl, rfl, rfl, rfl, trivial⟩ ⟨_, _, _, _, rfl, H⟩
  · refine tr_seq_j (fun L' h => ∃ (x2 : Int) (x3 : Int) (x9 : Int) (x10 : Int) (x11 : Bool) (x13 : Int) (x38 : Bool), L' = [(2, (.int .i64 x2)), (3, (.int .i64 x3)), (9, (.int .i64 x9)), (10, (.int .i64 x10)), (11, (.bool x11)), (13, (.int .i64 x13)), (38, (.bool x38))] ∧ F.spatelaw5_was.j4 Q x2 x3 x9 x10 x11 x13 x38 h) ?_ ?_
    · rintro L' h ⟨x2, x3, x9, x10, x11, x13, x38, rfl, H⟩
      unfold F.spatelaw5_was.j4 at H
      refine tr_cond rfl (fun g14 => ?_) (fun g14 => ?_)
      · replace H := H.1 g14
        refine tr_region ?_
        refine tr_p (y_move rfl) rfl rfl ?_
        refine tr_p (y_move rfl) rfl rfl ?_
        obtain ⟨e15, H⟩ := H
        refine tr_p (y_quo rfl rfl e15) rfl rfl ?_
        refine tr_p (y_assign rfl) rfl rfl ?_
        refine tr_nil ?_
        refine tr_thenN ?_
        exact tr_join [(3, (.int .i64 x3)), (9, (.int .i64 (IntKind.wrap .i64 (Int.tdiv x13 x2)))), (10, (.int .i64 x10)), (11, (.bool x11))] ⟨rfl, rfl, rfl, rfl, trivial⟩ ⟨_, _, _, _, rfl, H⟩
      · replace H := H.2 g14
        refine tr_skip ?_
        refine tr_thenN ?_
        exact tr_join [(3, (.int .i64 x3)), (9, (.int .i64 x9)), (10, (.int .i64 x10)), (11, (.bool x11))] ⟨rfl, rfl, rfl, rfl, trivial⟩ ⟨_, _, _, _, rfl, H⟩
    · refine tr_region ?_
      refine tr_p (y_move rfl) rfl rfl ?_
      refine tr_p (y_gtr rfl rfl) rfl rfl ?_
      refine tr_p (y_move rfl) rfl rfl ?_
      refine tr_split (t := 32) rfl (fun g16 => ?_) (fun g16 => ?_)
      · replace H := H.1 g16
        refine tr_p (y_move rfl) rfl rfl ?_
        refine tr_p (y_move rfl) rfl rfl ?_
        refine tr_p (y_move rfl) rfl rfl ?_
        obtain ⟨e17, H⟩ := H
        refine tr_p (y_quo rfl rfl e17) rfl rfl ?_
        refine tr_p (y_gtr rfl rfl) rfl rfl ?_
        refine tr_p (y_pick_t rfl rfl) rfl rfl ?_
        refine tr_nil ?_
        refine tr_thenN ?_
        exact tr_join [(2, (.int .i64 p2)), (3, (.int .i64 p3)), (9, (.int .i64 (IntKind.wrap .i64 (Int.tdiv p1 p2)))), (10, (.int .i64 r3)), (11, (.bool r4)), (13, (.int .i64 r7)), (38, (.bool (decide ((IntKind.wrap .i64 (Int.tdiv p1 p2)) > (IntKind.wrap .i64 (Int.tdiv r7 p2))))))] ⟨rfl, rfl, rfl, rfl, rfl, rfl, rfl, trivial⟩ ⟨_, _, _, _, _, _, _, rfl, H⟩
      · replace H := H.2 g16
        refine tr_s rfl rfl ?_
        refine tr_s rfl rfl ?_
        refine tr_s rfl rfl ?_
        refine tr_s rfl rfl ?_
        refine tr_s rfl rfl ?_
        refine tr_p (y_pick_f rfl rfl) rfl rfl ?_
        refine tr_nil ?_
        refine tr_thenN ?_
        exact tr_join [(2, (.int .i64 p2)), (3, (.int .i64 p3)), (9, (.int .i64 (IntKind.wrap .i64 (Int.tdiv p1 p2)))), (10, (.int .i64 r3)), (11, (.bool r4)), (13, (.int .i64 r7)), (38, (.bool false))] ⟨rfl, rfl, rfl, rfl, rfl, rfl, rfl, trivial⟩ ⟨_, _, _, _, _, _, _, rfl, H⟩

def F.spatelaw5_ChainLong.j2 (Q : Bool → H → Prop) (C1 : Int → Int → Int → Int → Int → (Option Addr) → Int → H → Prop) (x0 : Int) (x1 : Int) (x2 : Int) (x3 : Int) (x4 : Int) (x11 : Option Addr) (x12 : Int) (h : H) : Prop :=
  C1 x0 x1 x2 x3 x4 x11 (IntKind.wrap .i64 (x12 + 1)) h
def F.spatelaw5_ChainLong.j4 (Q : Bool → H → Prop) (C1 : Int → Int → Int → Int → Int → (Option Addr) → Int → H → Prop) (x0 : Int) (x1 : Int) (x2 : Int) (x3 : Int) (x4 : Int) (x11 : Option Addr) (x12 : Int) (x73 : Bool) (h : H) : Prop :=
  (x73 = true →
  Q false h) ∧
  (x73 = false →
  F.spatelaw5_ChainLong.j2 Q C1 x0 x1 x2 x3 x4 x11 x12 h)
def F.spatelaw5_ChainLong.j3 (Q : Bool → H → Prop) (C1 : Int → Int → Int → Int → Int → (Option Addr) → Int → H → Prop) (x0 : Int) (x1 : Int) (x2 : Int) (x3 : Int) (x4 : Int) (x11 : Option Addr) (x12 : Int) (h : H) : Prop :=
  (x2 : Int) ≠ 0 ∧
  ((((Int.tmod x12 x2) == 0)) = true →
  F.chain_Chain_int_Kill x11 (IntKind.wrap .i64 (x12 * x1)) h fun r23 r24 h22 =>
  (((r23 != 0)) = true →
  F.spatelaw5_ChainLong.j4 Q C1 x0 x1 x2 x3 x4 x11 x12 true h22) ∧
  (((r23 != 0)) = false →
  F.spatelaw5_ChainLong.j4 Q C1 x0 x1 x2 x3 x4 x11 x12 ((r24 != 0)) h22)) ∧
  ((((Int.tmod x12 x2) == 0)) = false →
  F.spatelaw5_ChainLong.j2 Q C1 x0 x1 x2 x3 x4 x11 x12 h)
def F.spatelaw5_ChainLong.j5 (Q : Bool → H → Prop) (C1 : Int → Int → Int → Int → Int → (Option Addr) → Int → H → Prop) (x0 : Int) (x1 : Int) (x2 : Int) (x3 : Int) (x4 : Int) (x11 : Option Addr) (x12 : Int) (x55 : Bool) (h : H) : Prop :=
  (x55 = true →
  Q false h) ∧
  (x55 = false →
  F.spatelaw5_ChainLong.j3 Q C1 x0 x1 x2 x3 x4 x11 x12 h)
def F.spatelaw5_ChainLong.l9 (Q : Bool → H → Prop) : Nat → Int → Int → Int → (Option Addr) → Sl → Int → H → Prop
  | 0, _, _, _, _, _, _, _ => False
  | q9 + 1, x0, x1, x2, x11, x15, x19, h =>
    ((decide (x19 < (x15.len : Int))) = true →
    idxA x15 x19 1 fun a48 =>
    ldI .i64 h a48 fun y50 =>
    F.spatelaw5_was x11 y50 x1 x2 h fun r53 h52 =>
    ((!r53) = true →
    Q false h52) ∧
    ((!r53) = false →
    (F.spatelaw5_ChainLong.l9 Q q9) x0 x1 x2 x11 x15 (IntKind.wrap .i64 (x19 + 1)) h52)) ∧
    ((decide (x19 < (x15.len : Int))) = false →
    (((x0 == 0)) = true →
    Q true h) ∧
    (((x0 == 0)) = false →
    F.chain_Chain_int_Len x11 h fun r57 h56 =>
    (((r57 == 0)) = true →
    (x2 : Int) ≠ 0 ∧
    ((((Int.tmod x0 x2) == 0)) = true →
    Q true h56) ∧
    ((((Int.tmod x0 x2) == 0)) = false →
    F.spatelaw5_was x11 (IntKind.wrap .i64 ((IntKind.wrap .i64 (x0 * x1)) + 7)) x1 x2 h56 fun r62 h61 =>
    (r62 = true →
    Q true h61) ∧
    (r62 = false →
    (x2 : Int) ≠ 0 ∧
    Q (((Int.tmod x0 x2) == 0)) h61))) ∧
    (((r57 == 0)) = false →
    F.spatelaw5_was x11 (IntKind.wrap .i64 ((IntKind.wrap .i64 (x0 * x1)) + 7)) x1 x2 h56 fun r66 h65 =>
    (r66 = true →
    Q true h65) ∧
    (r66 = false →
    (x2 : Int) ≠ 0 ∧
    Q (((Int.tmod x0 x2) == 0)) h65))))
def F.spatelaw5_ChainLong.j8 (Q : Bool → H → Prop) (x0 : Int) (x1 : Int) (x2 : Int) (x11 : Option Addr) (x15 : Sl) (h : H) : Prop :=
  ∃ m, F.spatelaw5_ChainLong.l9 Q m x0 x1 x2 x11 x15 0 h
def F.spatelaw5_ChainLong.j10 (Q : Bool → H → Prop) (x0 : Int) (x1 : Int) (x2 : Int) (x11 : Option Addr) (x15 : Sl) (x122 : Bool) (h : H) : Prop :=
  (x122 = true →
  Q false h) ∧
  (x122 = false →
  F.spatelaw5_ChainLong.j8 Q x0 x1 x2 x11 x15 h)
def F.spatelaw5_ChainLong.l7 (Q : Bool → H → Prop) : Nat → Int → Int → Int → (Option Addr) → Sl → Int → H → Prop
  | 0, _, _, _, _, _, _, _ => False
  | q7 + 1, x0, x1, x2, x11, x15, x17, h =>
    ((decide (x17 < (x15.len : Int))) = true →
    idxA x15 x17 1 fun a38 =>
    ldI .i64 h a38 fun y40 =>
    F.spatelaw5_was x11 y40 x1 x2 h fun r43 h42 =>
    ((!r43) = true →
    Q false h42) ∧
    ((!r43) = false →
    (F.spatelaw5_ChainLong.l7 Q q7) x0 x1 x2 x11 x15 (IntKind.wrap .i64 (x17 + 1)) h42)) ∧
    ((decide (x17 < (x15.len : Int))) = false →
    F.chain_Chain_int_Prune x11 x15 h fun r46 h45 =>
    F.chain_Chain_int_Len x11 h45 fun r72 h71 =>
    (((r72 != (IntKind.wrap .i64 (x0 - r46)))) = true →
    F.spatelaw5_ChainLong.j10 Q x0 x1 x2 x11 x15 true h71) ∧
    (((r72 != (IntKind.wrap .i64 (x0 - r46)))) = false →
    F.chain_Chain_int_Len x11 h71 fun r75 h74 =>
    F.spatelaw5_ChainLong.j10 Q x0 x1 x2 x11 x15 (decide (r75 > (IntKind.wrap .i64 ((x15.len : Int) + 1)))) h74))
def F.spatelaw5_ChainLong.l6 (Q : Bool → H → Prop) : Nat → Int → Int → Int → Int → (Option Addr) → Sl → Int → H → Prop
  | 0, _, _, _, _, _, _, _, _ => False
  | q6 + 1, x0, x1, x2, x3, x11, x15, x16, h =>
    ((decide (x16 < (IntKind.wrap .i64 (x0 * x1)))) = true →
    newL h #[(.int .i64 x16)] ty_3 1 fun s34 h33 =>
    runL PP (Builtin.append_ #[24, 24] 24 #[x15.enc, s34.enc]) h33 fun s36 h35 =>
    (F.spatelaw5_ChainLong.l6 Q q6) x0 x1 x2 x3 x11 s36 (IntKind.wrap .i64 (x16 + x3)) h35) ∧
    ((decide (x16 < (IntKind.wrap .i64 (x0 * x1)))) = false →
    ∃ m, F.spatelaw5_ChainLong.l7 Q m x0 x1 x2 x11 x15 0 h)
def F.spatelaw5_ChainLong.l1 (Q : Bool → H → Prop) : Nat → Int → Int → Int → Int → Int → (Option Addr) → Int → H → Prop
  | 0, _, _, _, _, _, _, _, _ => False
  | q1 + 1, x0, x1, x2, x3, x4, x11, x12, h =>
    ((decide (x12 ≤ x0)) = true →
    F.chain_Chain_int_Put x11 (IntKind.wrap .i64 (x12 * x1)) x12 h fun r18 r19 h17 =>
    (((r18 != 1)) = true →
    F.spatelaw5_ChainLong.j5 Q (F.spatelaw5_ChainLong.l1 Q q1) x0 x1 x2 x3 x4 x11 x12 true h17) ∧
    (((r18 != 1)) = false →
    F.spatelaw5_ChainLong.j5 Q (F.spatelaw5_ChainLong.l1 Q q1) x0 x1 x2 x3 x4 x11 x12 ((r19 != 0)) h17)) ∧
    ((decide (x12 ≤ x0)) = false →
    F.chain_Chain_int_Len x11 h fun r30 h29 =>
    (((r30 != x0)) = true →
    Q false h29) ∧
    (((r30 != x0)) = false →
    ∃ m, F.spatelaw5_ChainLong.l6 Q m x0 x1 x2 x3 x11 (⟨none, 0, 0⟩ : Sl) x4 h29))
/-- spate/spatelaw5.ChainLong -/
def F.spatelaw5_ChainLong (p0 : Int) (p1 : Int) (p2 : Int) (p3 : Int) (p4 : Int) (h : H) (Q : Bool → H → Prop) : Prop :=
  F.spatelaw5_known  h fun r2 h1 =>
  ((!r2) = true →
  Q false h1) ∧
  ((!r2) = false →
  F.spatelaw5_within p0 3000 h1 fun r5 h4 =>
  F.spatelaw5_within p1 5 h4 fun r7 h6 =>
  F.spatelaw5_within p2 9 h6 fun r9 h8 =>
  F.spatelaw5_within p3 400 h8 fun r11 h10 =>
  F.spatelaw5_within p4 400 h10 fun r13 h12 =>
  F.chain_New_int  h12 fun r15 h14 =>
  ∃ m, F.spatelaw5_ChainLong.l1 Q m r5 (IntKind.wrap .i64 (1 + r7)) (IntKind.wrap .i64 (2 + r9)) (IntKind.wrap .i64 (1 + r11)) r13 r15 1 h14)
theorem F.spatelaw5_ChainLong_ok {p0 : Int} {p1 : Int} {p2 : Int} {p3 : Int} {p4 : Int} {h : H} {Q : Bool → H → Prop} (H : F.spatelaw5_ChainLong p0 p1 p2 p3 p4 h Q) : Fn PP 7 ([(.int .i64 p0), (.int .i64 p1), (.int .i64 p2), (.int .i64 p3), (.int .i64 p4)] : List Value).toArray h fun r h' => ∃ r0, r = (.bool r0) ∧ Q r0 h' := by
  unfold F.spatelaw5_ChainLong at H
  refine fn_of Try.func7 Try.ntmps7 rfl rfl fun w0 => ?_
  refine tr_sub [(0, (.int .i64 p0)), (1, (.int .i64 p1)), (2, (.int .i64 p2)), (3, (.int .i64 p3)), (4, (.int .i64 p4))] ⟨rfl, rfl, rfl, rfl, rfl, trivial⟩ ?_
  refine tr_seq ?_
  refine tr_region ?_
  refine tr_p (y_assign rfl) rfl rfl ?_
  refine tr_nil ?_
  refine tr_thenN ?_
  refine tr_seq ?_
  refine tr_seq ?_
  refine tr_region ?_
  refine tr_e (e_call Try.call11 rfl (F.spatelaw5_known_ok H)) rfl rfl ?_
  rintro _ h1 ⟨r2, rfl, H⟩
  refine tr_p (y_not rfl) rfl rfl ?_
  refine tr_nil ?_
  refine tr_thenN ?_
  refine tr_cond rfl (fun g3 => ?_) (fun g3 => ?_)
  · replace H := H.1 g3
    refine tr_seq ?_
    refine tr_region ?_
    refine tr_p (y_assign rfl) rfl rfl ?_
    refine tr_nil ?_
    refine tr_thenN ?_
    refine tr_ret ?_
    refine tr_thenR ?_
    exact tr_ret1 rfl rfl ⟨_, rfl, H⟩
  · replace H := H.2 g3
    refine tr_skip ?_
    refine tr_thenN ?_
    refine tr_seq ?_
    refine tr_region ?_
    refine tr_p (y_move rfl) rfl rfl ?_
    refine tr_e (e_call Try.call21 rfl (F.spatelaw5_within_ok H)) rfl rfl ?_
    rintro _ h4 ⟨r5, rfl, H⟩
    refine tr_p (y_assign rfl) rfl rfl ?_
    refine tr_nil ?_
    refine tr_thenN ?_
    refine tr_seq ?_
    refine tr_region ?_
    refine tr_p (y_move rfl) rfl rfl ?_
    refine tr_e (e_call Try.call21 rfl (F.spatelaw5_within_ok H)) rfl rfl ?_
    rintro _ h6 ⟨r7, rfl, H⟩
    refine tr_p (y_add rfl rfl) rfl rfl ?_
    refine tr_p (y_assign rfl) rfl rfl ?_
    refine tr_nil ?_
    refine tr_thenN ?_
    refine tr_seq ?_
    refine tr_region ?_
    refine tr_p (y_move rfl) rfl rfl ?_
    refine tr_e (e_call Try.call21 rfl (F.spatelaw5_within_ok H)) rfl rfl ?_
    rintro _ h8 ⟨r9, rfl, H⟩
    refine tr_p (y_add rfl rfl) rfl rfl ?_
    refine tr_p (y_assign rfl) rfl rfl ?_
    refine tr_nil ?_
    refine tr_thenN ?_
    refine tr_seq ?_
    refine tr_region ?_
    refine tr_p (y_move rfl) rfl rfl ?_
    refine tr_e (e_call Try.call21 rfl (F.spatelaw5_within_ok H)) rfl rfl ?_
    rintro _ h10 ⟨r11, rfl, H⟩
    refine tr_p (y_add rfl rfl) rfl rfl ?_
    refine tr_p (y_assign rfl) rfl rfl ?_
    refine tr_nil ?_
    refine tr_thenN ?_
    refine tr_seq ?_
    refine tr_region ?_
    refine tr_p (y_move rfl) rfl rfl ?_
    refine tr_e (e_call Try.call21 rfl (F.spatelaw5_within_ok H)) rfl rfl ?_
    rintro _ h12 ⟨r13, rfl, H⟩
    refine tr_p (y_assign rfl) rfl rfl ?_
    refine tr_nil ?_
    refine tr_thenN ?_
    refine tr_seq ?_
    refine tr_region ?_
    refine tr_e (e_call Try.call29 rfl (F.chain_New_int_ok H)) rfl rfl ?_
    rintro _ h14 ⟨r15, rfl, H⟩
    refine tr_p (y_assign rfl) rfl rfl ?_
    refine tr_nil ?_
    refine tr_thenN ?_
    refine tr_seq ?_
    refine tr_seq ?_
    refine tr_region ?_
    refine tr_p (y_assign rfl) rfl rfl ?_
    refine tr_nil ?_
    refine tr_thenN ?_
    refine tr_block ?_
    obtain ⟨m78, H⟩ := H
    refine tr_sub [(0, (.int .i64 r5)), (1, (.int .i64 (IntKind.wrap .i64 (1 + r7)))), (2, (.int .i64 (IntKind.wrap .i64 (2 + r9)))), (3, (.int .i64 (IntKind.wrap .i64 (1 + r11)))), (4, (.int .i64 r13)), (11, (.pointer r15)), (12, (.int .i64 1))] ⟨rfl, rfl, rfl, rfl, rfl, rfl, rfl, trivial⟩ ?_
    refine tr_loop_j (fun m L' h => ∃ (x0 : Int) (x1 : Int) (x2 : Int) (x3 : Int) (x4 : Int) (x11 : Option Addr) (x12 : Int), L' = [(0, (.int .i64 x0)), (1, (.int .i64 x1)), (2, (.int .i64 x2)), (3, (.int .i64 x3)), (4, (.int .i64 x4)), (11, (.pointer x11)), (12, (.int .i64 x12))] ∧ F.spatelaw5_ChainLong.l1 Q m x0 x1 x2 x3 x4 x11 x12 h) ?_ ?_ m78 ⟨_, _, _, _, _, _, _, rfl, H⟩
    · rintro L' h ⟨_, _, _, _, _, _, _, _, H⟩; exact H
    · rintro q1 L' h ⟨x0, x1, x2, x3, x4, x11, x12, rfl, H⟩
      unfold F.spatelaw5_ChainLong.l1 at H
      refine tr_seq ?_
      refine tr_seq ?_
      refine tr_region ?_
      refine tr_p (y_move rfl) rfl rfl ?_
      refine tr_p (y_move rfl) rfl rfl ?_
      refine tr_p (y_leq rfl rfl) rfl rfl ?_
      refine tr_nil ?_
      refine tr_thenN ?_
      refine tr_cond rfl (fun g16 => ?_) (fun g16 => ?_)
      · replace H := H.1 g16
        refine tr_skip ?_
        refine tr_thenN ?_
        refine tr_seq_j (fun L' h => ∃ (x0 : Int) (x1 : Int) (x2 : Int) (x3 : Int) (x4 : Int) (x11 : Option Addr) (x12 : Int), L' = [(0, (.int .i64 x0)), (1, (.int .i64 x1)), (2, (.int .i64 x2)), (3, (.int .i64 x3)), (4, (.int .i64 x4)), (11, (.pointer x11)), (12, (.int .i64 x12))] ∧ F.spatelaw5_ChainLong.j2 Q (F.spatelaw5_ChainLong.l1 Q q1) x0 x1 x2 x3 x4 x11 x12 h) ?_ ?_
        · rintro L' h ⟨x0, x1, x2, x3, x4, x11, x12, rfl, H⟩
          unfold F.spatelaw5_ChainLong.j2 at H
          refine tr_region ?_
          refine tr_p (y_move rfl) rfl rfl ?_
          refine tr_p (y_add rfl rfl) rfl rfl ?_
          refine tr_p (y_assign rfl) rfl rfl ?_
          refine tr_nil ?_
          refine tr_thenN ?_
          exact tr_join [(0, (.int .i64 x0)), (1, (.int .i64 x1)), (2, (.int .i64 x2)), (3, (.int .i64 x3)), (4, (.int .i64 x4)), (11, (.pointer x11)), (12, (.int .i64 (IntKind.wrap .i64 (x12 + 1))))] ⟨rfl, rfl, rfl, rfl, rfl, rfl, rfl, trivial⟩ ⟨_, _, _, _, _, _, _, rfl, H⟩
        · refine tr_block ?_
          refine tr_seq ?_
          refine tr_region ?_
          refine tr_p (y_move rfl) rfl rfl ?_
          refine tr_p (y_move rfl) rfl rfl ?_
          refine tr_p (y_move rfl) rfl rfl ?_
          refine tr_p (y_mul rfl rfl) rfl rfl ?_
          refine tr_p (y_move rfl) rfl rfl ?_
          refine tr_e (e_call Try.call23 rfl (F.chain_Chain_int_Put_ok H)) rfl rfl ?_
          rintro _ h17 ⟨r18, r19, rfl, H⟩
          refine tr_p (y_move rfl) rfl rfl ?_
          refine tr_p (y_ext rfl rfl) rfl rfl ?_
          refine tr_p (y_ext rfl rfl) rfl rfl ?_
          refine tr_p (y_assign rfl) rfl rfl ?_
          refine tr_p (y_assign rfl) rfl rfl ?_
          refine tr_nil ?_
          refine tr_thenN ?_
          refine tr_seq_j (fun L' h => ∃ (x0 : Int) (x1 : Int) (x2 : Int) (x3 : Int) (x4 : Int) (x11 : Option Addr) (x12 : Int), L' = [(0, (.int .i64 x0)), (1, (.int .i64 x1)), (2, (.int .i64 x2)), (3, (.int .i64 x3)), (4, (.int .i64 x4)), (11, (.pointer x11)), (12, (.int .i64 x12))] ∧ F.spatelaw5_ChainLong.j3 Q (F.spatelaw5_ChainLong.l1 Q q1) x0 x1 x2 x3 x4 x11 x12 h) ?_ ?_
          · rintro L' h ⟨x0, x1, x2, x3, x4, x11, x12, rfl, H⟩
            unfold F.spatelaw5_ChainLong.j3 at H
            refine tr_seq ?_
            refine tr_region ?_
            refine tr_p (y_move rfl) rfl rfl ?_
            refine tr_p (y_move rfl) rfl rfl ?_
            obtain ⟨e20, H⟩ := H
            refine tr_p (y_rem rfl rfl e20) rfl rfl ?_
            refine tr_p (y_eql rfl rfl) rfl rfl ?_
            refine tr_nil ?_
            refine tr_thenN ?_
            refine tr_cond rfl (fun g21 => ?_) (fun g21 => ?_)
            · replace H := H.1 g21
              refine tr_seq ?_
              refine tr_region ?_
              refine tr_p (y_move rfl) rfl rfl ?_
              refine tr_p (y_move rfl) rfl rfl ?_
              refine tr_p (y_move rfl) rfl rfl ?_
              refine tr_p (y_mul rfl rfl) rfl rfl ?_
              refine tr_e (e_call Try.call22 rfl (F.chain_Chain_int_Kill_ok H)) rfl rfl ?_
              rintro _ h22 ⟨r23, r24, rfl, H⟩
              refine tr_p (y_move rfl) rfl rfl ?_
              refine tr_p (y_ext rfl rfl) rfl rfl ?_
              refine tr_p (y_ext rfl rfl) rfl rfl ?_
              refine tr_p (y_assign rfl) rfl rfl ?_
              refine tr_p (y_assign rfl) rfl rfl ?_
              refine tr_nil ?_
              refine tr_thenN ?_
              refine tr_seq_j (fun L' h => ∃ (x0 : Int) (x1 : Int) (x2 : Int) (x3 : Int) (x4 : Int) (x11 : Option Addr) (x12 : Int) (x73 : Bool), L' = [(0, (.int .i64 x0)), (1, (.int .i64 x1)), (2, (.int .i64 x2)), (3, (.int .i64 x3)), (4, (.int .i64 x4)), (11, (.pointer x11)), (12, (.int .i64 x12)), (73, (.bool x73))] ∧ F.spatelaw5_ChainLong.j4 Q (F.spatelaw5_ChainLong.l1 Q q1) x0 x1 x2 x3 x4 x11 x12 x73 h) ?_ ?_
              · rintro L' h ⟨x0, x1, x2, x3, x4, x11, x12, x73, rfl, H⟩
                unfold F.spatelaw5_ChainLong.j4 at H
                refine tr_cond rfl (fun g25 => ?_) (fun g25 => ?_)
                · replace H := H.1 g25
                  refine tr_seq ?_
                  refine tr_region ?_
                  refine tr_p (y_assign rfl) rfl rfl ?_
                  refine tr_nil ?_
                  refine tr_thenN ?_
                  refine tr_ret ?_
                  refine tr_blockR ?_
                  refine tr_thenR ?_
                  refine tr_thenR ?_
                  refine tr_blockR ?_
                  refine tr_thenR ?_
                  exact tr_ret1 rfl rfl ⟨_, rfl, H⟩
                · replace H := H.2 g25
                  refine tr_skip ?_
                  refine tr_blockN ?_
                  refine tr_thenN ?_
                  exact tr_join [(0, (.int .i64 x0)), (1, (.int .i64 x1)), (2, (.int .i64 x2)), (3, (.int .i64 x3)), (4, (.int .i64 x4)), (11, (.pointer x11)), (12, (.int .i64 x12))] ⟨rfl, rfl, rfl, rfl, rfl, rfl, rfl, trivial⟩ ⟨_, _, _, _, _, _, _, rfl, H⟩
              · refine tr_region ?_
                refine tr_p (y_move rfl) rfl rfl ?_
                refine tr_p (y_neq rfl rfl) rfl rfl ?_
                refine tr_p (y_move rfl) rfl rfl ?_
                refine tr_split (t := 70) rfl (fun g26 => ?_) (fun g26 => ?_)
                · replace H := H.1 g26
                  refine tr_s rfl rfl ?_
                  refine tr_s rfl rfl ?_
                  refine tr_p (y_pick_t rfl rfl) rfl rfl ?_
                  refine tr_nil ?_
                  refine tr_thenN ?_
                  exact tr_join [(0, (.int .i64 x0)), (1, (.int .i64 x1)), (2, (.int .i64 x2)), (3, (.int .i64 x3)), (4, (.int .i64 x4)), (11, (.pointer x11)), (12, (.int .i64 x12)), (73, (.bool true))] ⟨rfl, rfl, rfl, rfl, rfl, rfl, rfl, rfl, trivial⟩ ⟨_, _, _, _, _, _, _, _, rfl, H⟩
                · replace H := H.2 g26
                  refine tr_p (y_move rfl) rfl rfl ?_
                  refine tr_p (y_neq rfl rfl) rfl rfl ?_
                  refine tr_p (y_pick_f rfl rfl) rfl rfl ?_
                  refine tr_nil ?_
                  refine tr_thenN ?_
                  exact tr_join [(0, (.int .i64 x0)), (1, (.int .i64 x1)), (2, (.int .i64 x2)), (3, (.int .i64 x3)), (4, (.int .i64 x4)), (11, (.pointer x11)), (12, (.int .i64 x12)), (73, (.bool ((r24 != 0))))] ⟨rfl, rfl, rfl, rfl, rfl, rfl, rfl, rfl, trivial⟩ ⟨_, _, _, _, _, _, _, _, rfl, H⟩
            · replace H := H.2 g21
              refine tr_skip ?_
              refine tr_blockN ?_
              refine tr_thenN ?_
              exact tr_join [(0, (.int .i64 x0)), (1, (.int .i64 x1)), (2, (.int .i64 x2)), (3, (.int .i64 x3)), (4, (.int .i64 x4)), (11, (.pointer x11)), (12, (.int .i64 x12))] ⟨rfl, rfl, rfl, rfl, rfl, rfl, rfl, trivial⟩ ⟨_, _, _, _, _, _, _, rfl, H⟩
          · refine tr_seq_j (fun L' h => ∃ (x0 : Int) (x1 : Int) (x2 : Int) (x3 : Int) (x4 : Int) (x11 : Option Addr) (x12 : Int) (x55 : Bool), L' = [(0, (.int .i64 x0)), (1, (.int .i64 x1)), (2, (.int .i64 x2)), (3, (.int .i64 x3)), (4, (.int .i64 x4)), (11, (.pointer x11)), (12, (.int .i64 x12)), (55, (.bool x55))] ∧ F.spatelaw5_ChainLong.j5 Q (F.spatelaw5_ChainLong.l1 Q q1) x0 x1 x2 x3 x4 x11 x12 x55 h) ?_ ?_
            · rintro L' h ⟨x0, x1, x2, x3, x4, x11, x12, x55, rfl, H⟩
              unfold F.spatelaw5_ChainLong.j5 at H
              refine tr_cond rfl (fun g27 => ?_) (fun g27 => ?_)
              · replace H := H.1 g27
                refine tr_seq ?_
                refine tr_region ?_
                refine tr_p (y_assign rfl) rfl rfl ?_
                refine tr_nil ?_
                refine tr_thenN ?_
                refine tr_ret ?_
                refine tr_thenR ?_
                refine tr_blockR ?_
                refine tr_thenR ?_
                refine tr_thenR ?_
                refine tr_blockR ?_
                refine tr_thenR ?_
                exact tr_ret1 rfl rfl ⟨_, rfl, H⟩
              · replace H := H.2 g27
                refine tr_skip ?_
                refine tr_thenN ?_
                exact tr_join [(0, (.int .i64 x0)), (1, (.int .i64 x1)), (2, (.int .i64 x2)), (3, (.int .i64 x3)), (4, (.int .i64 x4)), (11, (.pointer x11)), (12, (.int .i64 x12))] ⟨rfl, rfl, rfl, rfl, rfl, rfl, rfl, trivial⟩ ⟨_, _, _, _, _, _, _, rfl, H⟩
            · refine tr_region ?_
              refine tr_p (y_move rfl) rfl rfl ?_
              refine tr_p (y_neq rfl rfl) rfl rfl ?_
              refine tr_p (y_move rfl) rfl rfl ?_
              refine tr_split (t := 52) rfl (fun g28 => ?_) (fun g28 => ?_)
              · replace H := H.1 g28
                refine tr_s rfl rfl ?_
                refine tr_s rfl rfl ?_
                refine tr_p (y_pick_t rfl rfl) rfl rfl ?_
                refine tr_nil ?_
                refine tr_thenN ?_
                exact tr_join [(0, (.int .i64 x0)), (1, (.int .i64 x1)), (2, (.int .i64 x2)), (3, (.int .i64 x3)), (4, (.int .i64 x4)), (11, (.pointer x11)), (12, (.int .i64 x12)), (55, (.bool true))] ⟨rfl, rfl, rfl, rfl, rfl, rfl, rfl, rfl, trivial⟩ ⟨_, _, _, _, _, _, _, _, rfl, H⟩
              · replace H := H.2 g28
                refine tr_p (y_move rfl) rfl rfl ?_
                refine tr_p (y_neq rfl rfl) rfl rfl ?_
                refine tr_p (y_pick_f rfl rfl) rfl rfl ?_
                refine tr_nil ?_
                refine tr_thenN ?_
                exact tr_join [(0, (.int .i64 x0)), (1, (.int .i64 x1)), (2, (.int .i64 x2)), (3, (.int .i64 x3)), (4, (.int .i64 x4)), (11, (.pointer x11)), (12, (.int .i64 x12)), (55, (.bool ((r19 != 0))))] ⟨rfl, rfl, rfl, rfl, rfl, rfl, rfl, rfl, trivial⟩ ⟨_, _, _, _, _, _, _, _, rfl, H⟩
      · replace H := H.2 g16
        refine tr_exit ?_
        refine tr_thenE ?_
        refine tr_thenE ?_
        refine tr_hit ?_
        refine tr_thenN ?_
        refine tr_seq ?_
        refine tr_seq ?_
        refine tr_region ?_
        refine tr_p (y_move rfl) rfl rfl ?_
        refine tr_e (e_call Try.call16 rfl (F.chain_Chain_int_Len_ok H)) rfl rfl ?_
        rintro _ h29 ⟨r30, rfl, H⟩
        refine tr_p (y_move rfl) rfl rfl ?_
        refine tr_p (y_neq rfl rfl) rfl rfl ?_
        refine tr_nil ?_
        refine tr_thenN ?_
        refine tr_cond rfl (fun g31 => ?_) (fun g31 => ?_)
        · replace H := H.1 g31
          refine tr_seq ?_
          refine tr_region ?_
          refine tr_p (y_assign rfl) rfl rfl ?_
          refine tr_nil ?_
          refine tr_thenN ?_
          refine tr_ret ?_
          refine tr_thenR ?_
          exact tr_ret1 rfl rfl ⟨_, rfl, H⟩
        · replace H := H.2 g31
          refine tr_skip ?_
          refine tr_thenN ?_
          refine tr_seq ?_
          refine tr_region ?_
          refine tr_p (y_assign rfl) rfl rfl ?_
          refine tr_nil ?_
          refine tr_thenN ?_
          refine tr_seq ?_
          refine tr_seq ?_
          refine tr_region ?_
          refine tr_p (y_move rfl) rfl rfl ?_
          refine tr_p (y_assign rfl) rfl rfl ?_
          refine tr_nil ?_
          refine tr_thenN ?_
          refine tr_block ?_
          obtain ⟨m77, H⟩ := H
          refine tr_sub [(0, (.int .i64 x0)), (1, (.int .i64 x1)), (2, (.int .i64 x2)), (3, (.int .i64 x3)), (11, (.pointer x11)), (15, (⟨none, 0, 0⟩ : Sl).enc), (16, (.int .i64 x4))] ⟨rfl, rfl, rfl, rfl, rfl, rfl, rfl, trivial⟩ ?_
          refine tr_loop_j (fun m L' h => ∃ (x0 : Int) (x1 : Int) (x2 : Int) (x3 : Int) (x11 : Option Addr) (x15 : Sl) (x16 : Int), L' = [(0, (.int .i64 x0)), (1, (.int .i64 x1)), (2, (.int .i64 x2)), (3, (.int .i64 x3)), (11, (.pointer x11)), (15, x15.enc), (16, (.int .i64 x16))] ∧ F.spatelaw5_ChainLong.l6 Q m x0 x1 x2 x3 x11 x15 x16 h) ?_ ?_ m77 ⟨_, _, _, _, _, _, _, rfl, H⟩
          · rintro L' h ⟨_, _, _, _, _, _, _, _, H⟩; exact H
          · rintro q6 L' h ⟨x0, x1, x2, x3, x11, x15, x16, rfl, H⟩
            unfold F.spatelaw5_ChainLong.l6 at H
            refine tr_seq ?_
            refine tr_seq ?_
            refine tr_region ?_
            refine tr_p (y_move rfl) rfl rfl ?_
            refine tr_p (y_move rfl) rfl rfl ?_
            refine tr_p (y_move rfl) rfl rfl ?_
            refine tr_p (y_mul rfl rfl) rfl rfl ?_
            refine tr_p (y_lss rfl rfl) rfl rfl ?_
            refine tr_nil ?_
            refine tr_thenN ?_
            refine tr_cond rfl (fun g32 => ?_) (fun g32 => ?_)
            · replace H := H.1 g32
              refine tr_skip ?_
              refine tr_thenN ?_
              refine tr_seq ?_
              refine tr_block ?_
              refine tr_region ?_
              refine tr_p (y_move rfl) rfl rfl ?_
              refine tr_p (y_move rfl) rfl rfl ?_
              refine tr_e (f_buildL (cs := #[(.int .i64 x16)]) rfl rfl (bl_24_1_0 x16) H) rfl rfl ?_
              rintro _ h33 ⟨s34, rfl, H⟩
              refine tr_e (f_app rfl H) rfl rfl ?_
              rintro _ h35 ⟨s36, rfl, H⟩
              refine tr_p (y_assign rfl) rfl rfl ?_
              refine tr_nil ?_
              refine tr_blockN ?_
              refine tr_thenN ?_
              refine tr_region ?_
              refine tr_p (y_move rfl) rfl rfl ?_
              refine tr_p (y_move rfl) rfl rfl ?_
              refine tr_p (y_add rfl rfl) rfl rfl ?_
              refine tr_p (y_assign rfl) rfl rfl ?_
              refine tr_nil ?_
              refine tr_thenN ?_
              exact tr_join [(0, (.int .i64 x0)), (1, (.int .i64 x1)), (2, (.int .i64 x2)), (3, (.int .i64 x3)), (11, (.pointer x11)), (15, s36.enc), (16, (.int .i64 (IntKind.wrap .i64 (x16 + x3))))] ⟨rfl, rfl, rfl, rfl, rfl, rfl, rfl, trivial⟩ ⟨_, _, _, _, _, _, _, rfl, H⟩
            · replace H := H.2 g32
              refine tr_exit ?_
              refine tr_thenE ?_
              refine tr_thenE ?_
              refine tr_hit ?_
              refine tr_thenN ?_
              refine tr_seq ?_
              refine tr_seq ?_
              refine tr_region ?_
              refine tr_p (y_assign rfl) rfl rfl ?_
              refine tr_nil ?_
              refine tr_thenN ?_
              refine tr_block ?_
              obtain ⟨m76, H⟩ := H
              refine tr_sub [(0, (.int .i64 x0)), (1, (.int .i64 x1)), (2, (.int .i64 x2)), (11, (.pointer x11)), (15, x15.enc), (17, (.int .i64 0))] ⟨rfl, rfl, rfl, rfl, rfl, rfl, trivial⟩ ?_
              refine tr_loop_j (fun m L' h => ∃ (x0 : Int) (x1 : Int) (x2 : Int) (x11 : Option Addr) (x15 : Sl) (x17 : Int), L' = [(0, (.int .i64 x0)), (1, (.int .i64 x1)), (2, (.int .i64 x2)), (11, (.pointer x11)), (15, x15.enc), (17, (.int .i64 x17))] ∧ F.spatelaw5_ChainLong.l7 Q m x0 x1 x2 x11 x15 x17 h) ?_ ?_ m76 ⟨_, _, _, _, _, _, rfl, H⟩
              · rintro L' h ⟨_, _, _, _, _, _, _, H⟩; exact H
              · rintro q7 L' h ⟨x0, x1, x2, x11, x15, x17, rfl, H⟩
                unfold F.spatelaw5_ChainLong.l7 at H
                refine tr_seq ?_
                refine tr_seq ?_
                refine tr_region ?_
                refine tr_p (y_move rfl) rfl rfl ?_
                refine tr_p (y_move rfl) rfl rfl ?_
                refine tr_p (y_len (ts := #[]) Try.runUnderlying24 (o := x15.ptr) (n := x15.len) (cap := x15.cap) rfl) rfl rfl ?_
                refine tr_p (y_lss rfl rfl) rfl rfl ?_
                refine tr_nil ?_
                refine tr_thenN ?_
                refine tr_cond rfl (fun g37 => ?_) (fun g37 => ?_)
                · replace H := H.1 g37
                  refine tr_skip ?_
                  refine tr_thenN ?_
                  refine tr_seq ?_
                  refine tr_block ?_
                  refine tr_seq ?_
                  refine tr_region ?_
                  refine tr_p (y_move rfl) rfl rfl ?_
                  refine tr_p (y_move rfl) rfl rfl ?_
                  refine tr_p (y_move rfl) rfl rfl ?_
                  obtain ⟨a38, e39, H⟩ := H
                  refine tr_p (f_idx (s := x15) Try.runUnderlying24 Try.sizeOf3 rfl rfl e39) rfl rfl ?_
                  obtain ⟨y40, k41, H⟩ := H
                  refine tr_h (y_ld Try.isAgg3 rfl) k41 rfl rfl ?_
                  refine tr_p (y_move rfl) rfl rfl ?_
                  refine tr_p (y_move rfl) rfl rfl ?_
                  refine tr_e (e_call Try.call30 rfl (F.spatelaw5_was_ok H)) rfl rfl ?_
                  rintro _ h42 ⟨r43, rfl, H⟩
                  refine tr_p (y_not rfl) rfl rfl ?_
                  refine tr_nil ?_
                  refine tr_thenN ?_
                  refine tr_cond rfl (fun g44 => ?_) (fun g44 => ?_)
                  · replace H := H.1 g44
                    refine tr_seq ?_
                    refine tr_region ?_
                    refine tr_p (y_assign rfl) rfl rfl ?_
                    refine tr_nil ?_
                    refine tr_thenN ?_
                    refine tr_ret ?_
                    refine tr_blockR ?_
                    refine tr_thenR ?_
                    refine tr_thenR ?_
                    refine tr_blockR ?_
                    refine tr_thenR ?_
                    exact tr_ret1 rfl rfl ⟨_, rfl, H⟩
                  · replace H := H.2 g44
                    refine tr_skip ?_
                    refine tr_blockN ?_
                    refine tr_thenN ?_
                    refine tr_region ?_
                    refine tr_p (y_move rfl) rfl rfl ?_
                    refine tr_p (y_add rfl rfl) rfl rfl ?_
                    refine tr_p (y_assign rfl) rfl rfl ?_
                    refine tr_nil ?_
                    refine tr_thenN ?_
                    exact tr_join [(0, (.int .i64 x0)), (1, (.int .i64 x1)), (2, (.int .i64 x2)), (11, (.pointer x11)), (15, x15.enc), (17, (.int .i64 (IntKind.wrap .i64 (x17 + 1))))] ⟨rfl, rfl, rfl, rfl, rfl, rfl, trivial⟩ ⟨_, _, _, _, _, _, rfl, H⟩
                · replace H := H.2 g37
                  refine tr_exit ?_
                  refine tr_thenE ?_
                  refine tr_thenE ?_
                  refine tr_hit ?_
                  refine tr_thenN ?_
                  refine tr_seq ?_
                  refine tr_region ?_
                  refine tr_p (y_move rfl) rfl rfl ?_
                  refine tr_p (y_move rfl) rfl rfl ?_
                  refine tr_e (e_call Try.call17 rfl (F.chain_Chain_int_Prune_ok H)) rfl rfl ?_
                  rintro _ h45 ⟨r46, rfl, H⟩
                  refine tr_p (y_assign rfl) rfl rfl ?_
                  refine tr_nil ?_
                  refine tr_thenN ?_
                  refine tr_seq_j (fun L' h => ∃ (x0 : Int) (x1 : Int) (x2 : Int) (x11 : Option Addr) (x15 : Sl), L' = [(0, (.int .i64 x0)), (1, (.int .i64 x1)), (2, (.int .i64 x2)), (11, (.pointer x11)), (15, x15.enc)] ∧ F.spatelaw5_ChainLong.j8 Q x0 x1 x2 x11 x15 h) ?_ ?_
                  · rintro L' h ⟨x0, x1, x2, x11, x15, rfl, H⟩
                    unfold F.spatelaw5_ChainLong.j8 at H
                    refine tr_seq ?_
                    refine tr_seq ?_
                    refine tr_region ?_
                    refine tr_p (y_assign rfl) rfl rfl ?_
                    refine tr_nil ?_
                    refine tr_thenN ?_
                    refine tr_block ?_
                    obtain ⟨m69, H⟩ := H
                    refine tr_sub [(0, (.int .i64 x0)), (1, (.int .i64 x1)), (2, (.int .i64 x2)), (11, (.pointer x11)), (15, x15.enc), (19, (.int .i64 0))] ⟨rfl, rfl, rfl, rfl, rfl, rfl, trivial⟩ ?_
                    refine tr_loop_j (fun m L' h => ∃ (x0 : Int) (x1 : Int) (x2 : Int) (x11 : Option Addr) (x15 : Sl) (x19 : Int), L' = [(0, (.int .i64 x0)), (1, (.int .i64 x1)), (2, (.int .i64 x2)), (11, (.pointer x11)), (15, x15.enc), (19, (.int .i64 x19))] ∧ F.spatelaw5_ChainLong.l9 Q m x0 x1 x2 x11 x15 x19 h) ?_ ?_ m69 ⟨_, _, _, _, _, _, rfl, H⟩
                    · rintro L' h ⟨_, _, _, _, _, _, _, H⟩; exact H
                    · rintro q9 L' h ⟨x0, x1, x2, x11, x15, x19, rfl, H⟩
                      unfold F.spatelaw5_ChainLong.l9 at H
                      refine tr_seq ?_
                      refine tr_seq ?_
                      refine tr_region ?_
                      refine tr_p (y_move rfl) rfl rfl ?_
                      refine tr_p (y_move rfl) rfl rfl ?_
                      refine tr_p (y_len (ts := #[]) Try.runUnderlying24 (o := x15.ptr) (n := x15.len) (cap := x15.cap) rfl) rfl rfl ?_
                      refine tr_p (y_lss rfl rfl) rfl rfl ?_
                      refine tr_nil ?_
                      refine tr_thenN ?_
                      refine tr_cond rfl (fun g47 => ?_) (fun g47 => ?_)
                      · replace H := H.1 g47
                        refine tr_skip ?_
                        refine tr_thenN ?_
                        refine tr_seq ?_
                        refine tr_block ?_
                        refine tr_seq ?_
                        refine tr_region ?_
                        refine tr_p (y_move rfl) rfl rfl ?_
                        refine tr_p (y_move rfl) rfl rfl ?_
                        refine tr_p (y_move rfl) rfl rfl ?_
                        obtain ⟨a48, e49, H⟩ := H
                        refine tr_p (f_idx (s := x15) Try.runUnderlying24 Try.sizeOf3 rfl rfl e49) rfl rfl ?_
                        obtain ⟨y50, k51, H⟩ := H
                        refine tr_h (y_ld Try.isAgg3 rfl) k51 rfl rfl ?_
                        refine tr_p (y_move rfl) rfl rfl ?_
                        refine tr_p (y_move rfl) rfl rfl ?_
                        refine tr_e (e_call Try.call30 rfl (F.spatelaw5_was_ok H)) rfl rfl ?_
                        rintro _ h52 ⟨r53, rfl, H⟩
                        refine tr_p (y_not rfl) rfl rfl ?_
                        refine tr_nil ?_
                        refine tr_thenN ?_
                        refine tr_cond rfl (fun g54 => ?_) (fun g54 => ?_)
                        · replace H := H.1 g54
                          refine tr_seq ?_
                          refine tr_region ?_
                          refine tr_p (y_assign rfl) rfl rfl ?_
                          refine tr_nil ?_
                          refine tr_thenN ?_
                          refine tr_ret ?_
                          refine tr_blockR ?_
                          refine tr_thenR ?_
                          refine tr_thenR ?_
                          refine tr_blockR ?_
                          refine tr_thenR ?_
                          exact tr_ret1 rfl rfl ⟨_, rfl, H⟩
                        · replace H := H.2 g54
                          refine tr_skip ?_
                          refine tr_blockN ?_
                          refine tr_thenN ?_
                          refine tr_region ?_
                          refine tr_p (y_move rfl) rfl rfl ?_
                          refine tr_p (y_add rfl rfl) rfl rfl ?_
                          refine tr_p (y_assign rfl) rfl rfl ?_
                          refine tr_nil ?_
                          refine tr_thenN ?_
                          exact tr_join [(0, (.int .i64 x0)), (1, (.int .i64 x1)), (2, (.int .i64 x2)), (11, (.pointer x11)), (15, x15.enc), (19, (.int .i64 (IntKind.wrap .i64 (x19 + 1))))] ⟨rfl, rfl, rfl, rfl, rfl, rfl, trivial⟩ ⟨_, _, _, _, _, _, rfl, H⟩
                      · replace H := H.2 g47
                        refine tr_exit ?_
                        refine tr_thenE ?_
                        refine tr_thenE ?_
                        refine tr_hit ?_
                        refine tr_thenN ?_
                        refine tr_seq ?_
                        refine tr_region ?_
                        refine tr_p (y_move rfl) rfl rfl ?_
                        refine tr_p (y_eql rfl rfl) rfl rfl ?_
                        refine tr_p (y_move rfl) rfl rfl ?_
                        refine tr_split (t := 140) rfl (fun g55 => ?_) (fun g55 => ?_)
                        · replace H := H.1 g55
                          refine tr_s rfl rfl ?_
                          refine tr_s rfl rfl ?_
                          refine tr_s rfl rfl ?_
                          refine tr_s rfl rfl ?_
                          refine tr_s rfl rfl ?_
                          refine tr_s rfl rfl ?_
                          refine tr_s rfl rfl ?_
                          refine tr_s rfl rfl ?_
                          refine tr_s rfl rfl ?_
                          refine tr_p (y_pick_t rfl rfl) rfl rfl ?_
                          refine tr_p (y_move rfl) rfl rfl ?_
                          refine tr_s rfl rfl ?_
                          refine tr_s rfl rfl ?_
                          refine tr_s rfl rfl ?_
                          refine tr_s rfl rfl ?_
                          refine tr_s rfl rfl ?_
                          refine tr_s rfl rfl ?_
                          refine tr_s rfl rfl ?_
                          refine tr_s rfl rfl ?_
                          refine tr_p (y_pick_t rfl rfl) rfl rfl ?_
                          refine tr_p (y_move rfl) rfl rfl ?_
                          refine tr_s rfl rfl ?_
                          refine tr_s rfl rfl ?_
                          refine tr_s rfl rfl ?_
                          refine tr_s rfl rfl ?_
                          refine tr_p (y_pick_t rfl rfl) rfl rfl ?_
                          refine tr_p (y_assign rfl) rfl rfl ?_
                          refine tr_nil ?_
                          refine tr_thenN ?_
                          refine tr_ret ?_
                          exact tr_ret1 rfl rfl ⟨_, rfl, H⟩
                        · replace H := H.2 g55
                          refine tr_p (y_move rfl) rfl rfl ?_
                          refine tr_e (e_call Try.call16 rfl (F.chain_Chain_int_Len_ok H)) rfl rfl ?_
                          rintro _ h56 ⟨r57, rfl, H⟩
                          refine tr_p (y_eql rfl rfl) rfl rfl ?_
                          refine tr_p (y_move rfl) rfl rfl ?_
                          refine tr_split (t := 144) rfl (fun g58 => ?_) (fun g58 => ?_)
                          · replace H := H.1 g58
                            refine tr_p (y_move rfl) rfl rfl ?_
                            refine tr_p (y_move rfl) rfl rfl ?_
                            obtain ⟨e59, H⟩ := H
                            refine tr_p (y_rem rfl rfl e59) rfl rfl ?_
                            refine tr_p (y_eql rfl rfl) rfl rfl ?_
                            refine tr_p (y_pick_t rfl rfl) rfl rfl ?_
                            refine tr_p (y_pick_f rfl rfl) rfl rfl ?_
                            refine tr_p (y_move rfl) rfl rfl ?_
                            refine tr_split (t := 151) rfl (fun g60 => ?_) (fun g60 => ?_)
                            · replace H := H.1 g60
                              refine tr_s rfl rfl ?_
                              refine tr_s rfl rfl ?_
                              refine tr_s rfl rfl ?_
                              refine tr_s rfl rfl ?_
                              refine tr_s rfl rfl ?_
                              refine tr_s rfl rfl ?_
                              refine tr_s rfl rfl ?_
                              refine tr_s rfl rfl ?_
                              refine tr_p (y_pick_t rfl rfl) rfl rfl ?_
                              refine tr_p (y_move rfl) rfl rfl ?_
                              refine tr_s rfl rfl ?_
                              refine tr_s rfl rfl ?_
                              refine tr_s rfl rfl ?_
                              refine tr_s rfl rfl ?_
                              refine tr_p (y_pick_t rfl rfl) rfl rfl ?_
                              refine tr_p (y_assign rfl) rfl rfl ?_
                              refine tr_nil ?_
                              refine tr_thenN ?_
                              refine tr_ret ?_
                              exact tr_ret1 rfl rfl ⟨_, rfl, H⟩
                            · replace H := H.2 g60
                              refine tr_p (y_move rfl) rfl rfl ?_
                              refine tr_p (y_move rfl) rfl rfl ?_
                              refine tr_p (y_move rfl) rfl rfl ?_
                              refine tr_p (y_mul rfl rfl) rfl rfl ?_
                              refine tr_p (y_add rfl rfl) rfl rfl ?_
                              refine tr_p (y_move rfl) rfl rfl ?_
                              refine tr_p (y_move rfl) rfl rfl ?_
                              refine tr_e (e_call Try.call30 rfl (F.spatelaw5_was_ok H)) rfl rfl ?_
                              rintro _ h61 ⟨r62, rfl, H⟩
                              refine tr_p (y_pick_f rfl rfl) rfl rfl ?_
                              refine tr_p (y_move rfl) rfl rfl ?_
                              refine tr_split (t := 161) rfl (fun g63 => ?_) (fun g63 => ?_)
                              · replace H := H.1 g63
                                refine tr_s rfl rfl ?_
                                refine tr_s rfl rfl ?_
                                refine tr_s rfl rfl ?_
                                refine tr_s rfl rfl ?_
                                refine tr_p (y_pick_t rfl rfl) rfl rfl ?_
                                refine tr_p (y_assign rfl) rfl rfl ?_
                                refine tr_nil ?_
                                refine tr_thenN ?_
                                refine tr_ret ?_
                                exact tr_ret1 rfl rfl ⟨_, rfl, H⟩
                              · replace H := H.2 g63
                                refine tr_p (y_move rfl) rfl rfl ?_
                                refine tr_p (y_move rfl) rfl rfl ?_
                                obtain ⟨e64, H⟩ := H
                                refine tr_p (y_rem rfl rfl e64) rfl rfl ?_
                                refine tr_p (y_eql rfl rfl) rfl rfl ?_
                                refine tr_p (y_pick_f rfl rfl) rfl rfl ?_
                                refine tr_p (y_assign rfl) rfl rfl ?_
                                refine tr_nil ?_
                                refine tr_thenN ?_
                                refine tr_ret ?_
                                exact tr_ret1 rfl rfl ⟨_, rfl, H⟩
                          · replace H := H.2 g58
                            refine tr_s rfl rfl ?_
                            refine tr_s rfl rfl ?_
                            refine tr_s rfl rfl ?_
                            refine tr_s rfl rfl ?_
                            refine tr_p (y_pick_f rfl rfl) rfl rfl ?_
                            refine tr_p (y_pick_f rfl rfl) rfl rfl ?_
                            refine tr_p (y_move rfl) rfl rfl ?_
                            refine tr_p (y_move rfl) rfl rfl ?_
                            refine tr_p (y_move rfl) rfl rfl ?_
                            refine tr_p (y_move rfl) rfl rfl ?_
                            refine tr_p (y_mul rfl rfl) rfl rfl ?_
                            refine tr_p (y_add rfl rfl) rfl rfl ?_
                            refine tr_p (y_move rfl) rfl rfl ?_
                            refine tr_p (y_move rfl) rfl rfl ?_
                            refine tr_e (e_call Try.call30 rfl (F.spatelaw5_was_ok H)) rfl rfl ?_
                            rintro _ h65 ⟨r66, rfl, H⟩
                            refine tr_p (y_pick_f rfl rfl) rfl rfl ?_
                            refine tr_p (y_move rfl) rfl rfl ?_
                            refine tr_split (t := 161) rfl (fun g67 => ?_) (fun g67 => ?_)
                            · replace H := H.1 g67
                              refine tr_s rfl rfl ?_
                              refine tr_s rfl rfl ?_
                              refine tr_s rfl rfl ?_
                              refine tr_s rfl rfl ?_
                              refine tr_p (y_pick_t rfl rfl) rfl rfl ?_
                              refine tr_p (y_assign rfl) rfl rfl ?_
                              refine tr_nil ?_
                              refine tr_thenN ?_
                              refine tr_ret ?_
                              exact tr_ret1 rfl rfl ⟨_, rfl, H⟩
                            · replace H := H.2 g67
                              refine tr_p (y_move rfl) rfl rfl ?_
                              refine tr_p (y_move rfl) rfl rfl ?_
                              obtain ⟨e68, H⟩ := H
                              refine tr_p (y_rem rfl rfl e68) rfl rfl ?_
                              refine tr_p (y_eql rfl rfl) rfl rfl ?_
                              refine tr_p (y_pick_f rfl rfl) rfl rfl ?_
                              refine tr_p (y_assign rfl) rfl rfl ?_
                              refine tr_nil ?_
                              refine tr_thenN ?_
                              refine tr_ret ?_
                              exact tr_ret1 rfl rfl ⟨_, rfl, H⟩
                  · refine tr_seq_j (fun L' h => ∃ (x0 : Int) (x1 : Int) (x2 : Int) (x11 : Option Addr) (x15 : Sl) (x122 : Bool), L' = [(0, (.int .i64 x0)), (1, (.int .i64 x1)), (2, (.int .i64 x2)), (11, (.pointer x11)), (15, x15.enc), (122, (.bool x122))] ∧ F.spatelaw5_ChainLong.j10 Q x0 x1 x2 x11 x15 x122 h) ?_ ?_
                    · rintro L' h ⟨x0, x1, x2, x11, x15, x122, rfl, H⟩
                      unfold F.spatelaw5_ChainLong.j10 at H
                      refine tr_cond rfl (fun g70 => ?_) (fun g70 => ?_)
                      · replace H := H.1 g70
                        refine tr_seq ?_
                        refine tr_region ?_
                        refine tr_p (y_assign rfl) rfl rfl ?_
                        refine tr_nil ?_
                        refine tr_thenN ?_
                        refine tr_ret ?_
                        refine tr_thenR ?_
                        exact tr_ret1 rfl rfl ⟨_, rfl, H⟩
                      · replace H := H.2 g70
                        refine tr_skip ?_
                        refine tr_thenN ?_
                        exact tr_join [(0, (.int .i64 x0)), (1, (.int .i64 x1)), (2, (.int .i64 x2)), (11, (.pointer x11)), (15, x15.enc)] ⟨rfl, rfl, rfl, rfl, rfl, trivial⟩ ⟨_, _, _, _, _, rfl, H⟩
                    · refine tr_region ?_
                      refine tr_p (y_move rfl) rfl rfl ?_
                      refine tr_e (e_call Try.call16 rfl (F.chain_Chain_int_Len_ok H)) rfl rfl ?_
                      rintro _ h71 ⟨r72, rfl, H⟩
                      refine tr_p (y_move rfl) rfl rfl ?_
                      refine tr_p (y_move rfl) rfl rfl ?_
                      refine tr_p (y_sub rfl rfl) rfl rfl ?_
                      refine tr_p (y_neq rfl rfl) rfl rfl ?_
                      refine tr_p (y_move rfl) rfl rfl ?_
                      refine tr_split (t := 115) rfl (fun g73 => ?_) (fun g73 => ?_)
                      · replace H := H.1 g73
                        refine tr_s rfl rfl ?_
                        refine tr_s rfl rfl ?_
                        refine tr_s rfl rfl ?_
                        refine tr_s rfl rfl ?_
                        refine tr_s rfl rfl ?_
                        refine tr_s rfl rfl ?_
                        refine tr_p (y_pick_t rfl rfl) rfl rfl ?_
                        refine tr_nil ?_
                        refine tr_thenN ?_
                        exact tr_join [(0, (.int .i64 x0)), (1, (.int .i64 x1)), (2, (.int .i64 x2)), (11, (.pointer x11)), (15, x15.enc), (122, (.bool true))] ⟨rfl, rfl, rfl, rfl, rfl, rfl, trivial⟩ ⟨_, _, _, _, _, _, rfl, H⟩
                      · replace H := H.2 g73
                        refine tr_p (y_move rfl) rfl rfl ?_
                        refine tr_e (e_call Try.call16 rfl (F.chain_Chain_int_Len_ok H)) rfl rfl ?_
                        rintro _ h74 ⟨r75, rfl, H⟩
                        refine tr_p (y_move rfl) rfl rfl ?_
                        refine tr_p (y_len (ts := #[]) Try.runUnderlying24 (o := x15.ptr) (n := x15.len) (cap := x15.cap) rfl) rfl rfl ?_
                        refine tr_p (y_add rfl rfl) rfl rfl ?_
                        refine tr_p (y_gtr rfl rfl) rfl rfl ?_
                        refine tr_p (y_pick_f rfl rfl) rfl rfl ?_
                        refine tr_nil ?_
                        refine tr_thenN ?_
                        exact tr_join [(0, (.int .i64 x0)), (1, (.int .i64 x1)), (2, (.int .i64 x2)), (11, (.pointer x11)), (15, x15.enc), (122, (.bool (decide (r75 > (IntKind.wrap .i64 ((x15.len : Int) + 1))))))] ⟨rfl, rfl, rfl, rfl, rfl, rfl, trivial⟩ ⟨_, _, _, _, _, _, rfl, H⟩

def F.spatelaw5_even.l1 (Q : Bool → H → Prop) : Nat → Sl → Sl → Int → H → Prop
  | 0, _, _, _, _ => False
  | q1 + 1, x0, x1, x5, h =>
    ((decide (x5 < (x0.len : Int))) = true →
    idxA x0 x5 1 fun a3 =>
    ldI .i64 h a3 fun y5 =>
    idxA x1 x5 1 fun a7 =>
    ldI .i64 h a7 fun y9 =>
    (((y5 != y9)) = true →
    Q false h) ∧
    (((y5 != y9)) = false →
    (F.spatelaw5_even.l1 Q q1) x0 x1 (IntKind.wrap .i64 (x5 + 1)) h)) ∧
    ((decide (x5 < (x0.len : Int))) = false →
    Q true h)
/-- spate/spatelaw5.even -/
def F.spatelaw5_even (p0 : Sl) (p1 : Sl) (h : H) (Q : Bool → H → Prop) : Prop :=
  ((((p0.len : Int) != (p1.len : Int))) = true →
  Q false h) ∧
  ((((p0.len : Int) != (p1.len : Int))) = false →
  ∃ m, F.spatelaw5_even.l1 Q m p0 p1 0 h)
theorem F.spatelaw5_even_ok {p0 : Sl} {p1 : Sl} {h : H} {Q : Bool → H → Prop} (H : F.spatelaw5_even p0 p1 h Q) : Fn PP 31 ([p0.enc, p1.enc] : List Value).toArray h fun r h' => ∃ r0, r = (.bool r0) ∧ Q r0 h' := by
  unfold F.spatelaw5_even at H
  refine fn_of Try.func31 Try.ntmps31 rfl rfl fun w0 => ?_
  refine tr_sub [(0, p0.enc), (1, p1.enc)] ⟨rfl, rfl, trivial⟩ ?_
  refine tr_seq ?_
  refine tr_region ?_
  refine tr_p (y_assign rfl) rfl rfl ?_
  refine tr_nil ?_
  refine tr_thenN ?_
  refine tr_seq ?_
  refine tr_seq ?_
  refine tr_region ?_
  refine tr_p (y_move rfl) rfl rfl ?_
  refine tr_p (y_len (ts := #[]) Try.runUnderlying24 (o := p0.ptr) (n := p0.len) (cap := p0.cap) rfl) rfl rfl ?_
  refine tr_p (y_move rfl) rfl rfl ?_
  refine tr_p (y_len (ts := #[]) Try.runUnderlying24 (o := p1.ptr) (n := p1.len) (cap := p1.cap) rfl) rfl rfl ?_
  refine tr_p (y_neq rfl rfl) rfl rfl ?_
  refine tr_nil ?_
  refine tr_thenN ?_
  refine tr_cond rfl (fun g1 => ?_) (fun g1 => ?_)
  · replace H := H.1 g1
    refine tr_seq ?_
    refine tr_region ?_
    refine tr_p (y_assign rfl) rfl rfl ?_
    refine tr_nil ?_
    refine tr_thenN ?_
    refine tr_ret ?_
    refine tr_thenR ?_
    exact tr_ret1 rfl rfl ⟨_, rfl, H⟩
  · replace H := H.2 g1
    refine tr_skip ?_
    refine tr_thenN ?_
    refine tr_seq ?_
    refine tr_seq ?_
    refine tr_region ?_
    refine tr_p (y_assign rfl) rfl rfl ?_
    refine tr_nil ?_
    refine tr_thenN ?_
    refine tr_block ?_
    obtain ⟨m12, H⟩ := H
    refine tr_sub [(0, p0.enc), (1, p1.enc), (5, (.int .i64 0))] ⟨rfl, rfl, rfl, trivial⟩ ?_
    refine tr_loop_j (fun m L' h => ∃ (x0 : Sl) (x1 : Sl) (x5 : Int), L' = [(0, x0.enc), (1, x1.enc), (5, (.int .i64 x5))] ∧ F.spatelaw5_even.l1 Q m x0 x1 x5 h) ?_ ?_ m12 ⟨_, _, _, rfl, H⟩
    · rintro L' h ⟨_, _, _, _, H⟩; exact H
    · rintro q1 L' h ⟨x0, x1, x5, rfl, H⟩
      unfold F.spatelaw5_even.l1 at H
      refine tr_seq ?_
      refine tr_seq ?_
      refine tr_region ?_
      refine tr_p (y_move rfl) rfl rfl ?_
      refine tr_p (y_move rfl) rfl rfl ?_
      refine tr_p (y_len (ts := #[]) Try.runUnderlying24 (o := x0.ptr) (n := x0.len) (cap := x0.cap) rfl) rfl rfl ?_
      refine tr_p (y_lss rfl rfl) rfl rfl ?_
      refine tr_nil ?_
      refine tr_thenN ?_
      refine tr_cond rfl (fun g2 => ?_) (fun g2 => ?_)
      · replace H := H.1 g2
        refine tr_skip ?_
        refine tr_thenN ?_
        refine tr_seq ?_
        refine tr_block ?_
        refine tr_seq ?_
        refine tr_draw mixed [0, 0, 3, 7, 0, 0, 48, 112, 255] (by kernel_rfl) ?_
        refine g_p 0 1 rfl (by kernel_rfl) (y_move rfl) rfl rfl ?_
        refine g_p 1 3 rfl (by kernel_rfl) (y_move rfl) rfl rfl ?_
        obtain ⟨a3, e4, H⟩ := H
        refine g_p 2 7 rfl (by kernel_rfl) (f_idx (s := x0) Try.runUnderlying24 Try.sizeOf3 rfl rfl e4) rfl rfl ?_
        obtain ⟨y5, k6, H⟩ := H
        refine g_h 3 15 rfl (by kernel_rfl) (y_ld Try.isAgg3 rfl) k6 rfl rfl ?_
        refine g_p 4 31 rfl (by kernel_rfl) (y_move rfl) rfl rfl ?_
        refine g_p 5 63 rfl (by kernel_rfl) (y_move rfl) rfl rfl ?_
        obtain ⟨a7, e8, H⟩ := H
        refine g_p 6 127 rfl (by kernel_rfl) (f_idx (s := x1) Try.runUnderlying24 Try.sizeOf3 rfl rfl e8) rfl rfl ?_
        obtain ⟨y9, k10, H⟩ := H
        refine g_h 7 255 rfl (by kernel_rfl) (y_ld Try.isAgg3 rfl) k10 rfl rfl ?_
        refine g_p 8 511 rfl (by kernel_rfl) (y_neq rfl rfl) rfl rfl ?_
        refine g_d (by kernel_rfl) ?_
        refine tr_thenN ?_
        refine tr_cond rfl (fun g11 => ?_) (fun g11 => ?_)
        · replace H := H.1 g11
          refine tr_seq ?_
          refine tr_region ?_
          refine tr_p (y_assign rfl) rfl rfl ?_
          refine tr_nil ?_
          refine tr_thenN ?_
          refine tr_ret ?_
          refine tr_blockR ?_
          refine tr_thenR ?_
          refine tr_thenR ?_
          refine tr_blockR ?_
          refine tr_thenR ?_
          exact tr_ret1 rfl rfl ⟨_, rfl, H⟩
        · replace H := H.2 g11
          refine tr_skip ?_
          refine tr_blockN ?_
          refine tr_thenN ?_
          refine tr_region ?_
          refine tr_p (y_move rfl) rfl rfl ?_
          refine tr_p (y_add rfl rfl) rfl rfl ?_
          refine tr_p (y_assign rfl) rfl rfl ?_
          refine tr_nil ?_
          refine tr_thenN ?_
          exact tr_join [(0, x0.enc), (1, x1.enc), (5, (.int .i64 (IntKind.wrap .i64 (x5 + 1))))] ⟨rfl, rfl, rfl, trivial⟩ ⟨_, _, _, rfl, H⟩
      · replace H := H.2 g2
        refine tr_exit ?_
        refine tr_thenE ?_
        refine tr_thenE ?_
        refine tr_hit ?_
        refine tr_thenN ?_
        refine tr_seq ?_
        refine tr_region ?_
        refine tr_p (y_assign rfl) rfl rfl ?_
        refine tr_nil ?_
        refine tr_thenN ?_
        refine tr_ret ?_
        exact tr_ret1 rfl rfl ⟨_, rfl, H⟩

def F.spatelaw5_ChainBook.j4 (Q : Bool → H → Prop) (C1 : Sl → Sl → Sl → (Option Addr) → (Option Addr) → Int → Int → H → Prop) (x0 : Sl) (x1 : Sl) (x2 : Sl) (x7 : Option Addr) (x8 : Option Addr) (x9 : Int) (x10 : Int) (h : H) : Prop :=
  C1 x0 x1 x2 x7 x8 x9 (IntKind.wrap .i64 (x10 + 1)) h
def F.spatelaw5_ChainBook.j3 (Q : Bool → H → Prop) (C1 : Sl → Sl → Sl → (Option Addr) → (Option Addr) → Int → Int → H → Prop) (x0 : Sl) (x1 : Sl) (x2 : Sl) (x7 : Option Addr) (x8 : Option Addr) (x9 : Int) (x10 : Int) (h : H) : Prop :=
  idxA x0 x10 1 fun a8 =>
  ldI .i64 h a8 fun y10 =>
  F.spatelaw5_within y10 5 h fun r13 h12 =>
  idxA x0 x10 1 fun a14 =>
  ldI .i64 h12 a14 fun y16 =>
  (4 : Int) ≠ 0 ∧
  ((((Int.tmod y16 4) == 3)) = true →
  F.chain_Chain_int_Kill x7 (IntKind.wrap .i64 ((IntKind.wrap .i64 (x9 + 1)) + r13)) h12 fun r21 r22 h20 =>
  F.chain_Chain_int_Kill x8 (IntKind.wrap .i64 ((IntKind.wrap .i64 (x9 + 1)) + r13)) h20 fun r24 r25 h23 =>
  F.spatelaw5_ChainBook.j4 Q C1 x0 x1 x2 x7 x8 (IntKind.wrap .i64 ((IntKind.wrap .i64 (x9 + 1)) + r13)) x10 h23) ∧
  ((((Int.tmod y16 4) == 3)) = false →
  F.chain_Chain_int_Put x7 (IntKind.wrap .i64 ((IntKind.wrap .i64 (x9 + 1)) + r13)) x10 h12 fun r27 r28 h26 =>
  F.chain_Chain_int_Put x8 (IntKind.wrap .i64 ((IntKind.wrap .i64 (x9 + 1)) + r13)) x10 h26 fun r30 r31 h29 =>
  F.spatelaw5_ChainBook.j4 Q C1 x0 x1 x2 x7 x8 (IntKind.wrap .i64 ((IntKind.wrap .i64 (x9 + 1)) + r13)) x10 h29)
def F.spatelaw5_ChainBook.j8 (Q : Bool → H → Prop) (C1 : Sl → Sl → (Option Addr) → (Option Addr) → Sl → Int → Int → H → Prop) (x1 : Sl) (x2 : Sl) (x7 : Option Addr) (x8 : Option Addr) (x11 : Sl) (x13 : Int) (x14 : Int) (h : H) : Prop :=
  C1 x1 x2 x7 x8 x11 x13 (IntKind.wrap .i64 (x14 + 1)) h
def F.spatelaw5_ChainBook.j9 (Q : Bool → H → Prop) (C1 : Sl → Sl → (Option Addr) → (Option Addr) → Sl → Int → Int → H → Prop) (x1 : Sl) (x2 : Sl) (x7 : Option Addr) (x8 : Option Addr) (x11 : Sl) (x13 : Int) (x14 : Int) (h : H) : Prop :=
  idxA x11 x14 1 fun a46 =>
  stH h a46 [(.int .i64 3)] fun h48 =>
  F.spatelaw5_ChainBook.j8 Q C1 x1 x2 x7 x8 x11 x13 x14 h48
def F.spatelaw5_ChainBook.j10 (Q : Bool → H → Prop) (C1 : Sl → Sl → (Option Addr) → (Option Addr) → Sl → Int → Int → H → Prop) (x1 : Sl) (x2 : Sl) (x7 : Option Addr) (x8 : Option Addr) (x11 : Sl) (x13 : Int) (x14 : Int) (x128 : Bool) (h : H) : Prop :=
  (x128 = true →
  Q false h) ∧
  (x128 = false →
  F.spatelaw5_ChainBook.j9 Q C1 x1 x2 x7 x8 x11 x13 x14 h)
def F.spatelaw5_ChainBook.j13 (Q : Bool → H → Prop) (C1 : Sl → (Option Addr) → (Option Addr) → Sl → Int → H → Prop) (x2 : Sl) (x7 : Option Addr) (x8 : Option Addr) (x11 : Sl) (x15 : Int) (h : H) : Prop :=
  idxA x2 x15 1 fun a70 =>
  ldI .i64 h a70 fun y72 =>
  idxA x11 x15 1 fun a74 =>
  stH h a74 [(.int .i64 y72)] fun h76 =>
  C1 x2 x7 x8 x11 (IntKind.wrap .i64 (x15 + 1)) h76
def F.spatelaw5_ChainBook.j14 (Q : Bool → H → Prop) (C1 : Sl → (Option Addr) → (Option Addr) → Sl → Int → H → Prop) (x2 : Sl) (x7 : Option Addr) (x8 : Option Addr) (x11 : Sl) (x15 : Int) (x156 : Bool) (h : H) : Prop :=
  (x156 = true →
  F.spatelaw5_ChainBook.j13 Q C1 x2 x7 x8 x11 x15 h) ∧
  (x156 = false →
  newL h #[] ty_3 0 fun s79 h78 =>
  runL PP (Builtin.append_ #[24, 24] 24 #[s79.enc, x11.enc]) h78 fun s81 h80 =>
  F.chain_Chain_int_Prune x7 x11 h80 fun r83 h82 =>
  F.chain_Chain_int_Prune x8 s81 h82 fun r85 h84 =>
  (((r83 == r85)) = true →
  F.spatelaw5_told x7 h84 fun r88 h87 =>
  F.spatelaw5_told x8 h87 fun r90 h89 =>
  F.spatelaw5_even r88 r90 h89 fun r92 h91 =>
  (r92 = true →
  F.spatelaw5_even x11 s81 h91 fun r95 h94 =>
  Q r95 h94) ∧
  (r92 = false →
  Q false h91)) ∧
  (((r83 == r85)) = false →
  Q false h84))
def F.spatelaw5_ChainBook.l12 (Q : Bool → H → Prop) : Nat → Sl → (Option Addr) → (Option Addr) → Sl → Int → H → Prop
  | 0, _, _, _, _, _, _ => False
  | q12 + 1, x2, x7, x8, x11, x15, h =>
    ((decide (x15 < (x11.len : Int))) = true →
    F.spatelaw5_ChainBook.j14 Q (F.spatelaw5_ChainBook.l12 Q q12) x2 x7 x8 x11 x15 (decide (x15 < (x2.len : Int))) h) ∧
    ((decide (x15 < (x11.len : Int))) = false →
    F.spatelaw5_ChainBook.j14 Q (F.spatelaw5_ChainBook.l12 Q q12) x2 x7 x8 x11 x15 false h)
def F.spatelaw5_ChainBook.j11 (Q : Bool → H → Prop) (x2 : Sl) (x7 : Option Addr) (x8 : Option Addr) (x11 : Sl) (h : H) : Prop :=
  ∃ m, F.spatelaw5_ChainBook.l12 Q m x2 x7 x8 x11 0 h
def F.spatelaw5_ChainBook.j15 (Q : Bool → H → Prop) (x2 : Sl) (x7 : Option Addr) (x8 : Option Addr) (x11 : Sl) (x146 : Bool) (h : H) : Prop :=
  (x146 = true →
  Q false h) ∧
  (x146 = false →
  F.spatelaw5_ChainBook.j11 Q x2 x7 x8 x11 h)
def F.spatelaw5_ChainBook.l7 (Q : Bool → H → Prop) : Nat → Sl → Sl → (Option Addr) → (Option Addr) → Sl → Int → Int → H → Prop
  | 0, _, _, _, _, _, _, _, _ => False
  | q7 + 1, x1, x2, x7, x8, x11, x13, x14, h =>
    ((decide (x14 < (x11.len : Int))) = true →
    ((decide (x14 < (x1.len : Int))) = true →
    idxA x11 x14 1 fun a51 =>
    ldI .i64 h a51 fun y53 =>
    idxA x1 x14 1 fun a55 =>
    ldI .i64 h a55 fun y57 =>
    (((y53 != y57)) = true →
    F.spatelaw5_ChainBook.j10 Q (F.spatelaw5_ChainBook.l7 Q q7) x1 x2 x7 x8 x11 x13 x14 true h) ∧
    (((y53 != y57)) = false →
    ((decide (x14 ≥ (x1.len : Int))) = true →
    idxA x11 x14 1 fun a61 =>
    ldI .i64 h a61 fun y63 =>
    F.spatelaw5_ChainBook.j10 Q (F.spatelaw5_ChainBook.l7 Q q7) x1 x2 x7 x8 x11 x13 x14 ((y63 != (IntKind.wrap .i64 ((-9) - x14)))) h) ∧
    ((decide (x14 ≥ (x1.len : Int))) = false →
    F.spatelaw5_ChainBook.j10 Q (F.spatelaw5_ChainBook.l7 Q q7) x1 x2 x7 x8 x11 x13 x14 false h))) ∧
    ((decide (x14 < (x1.len : Int))) = false →
    ((decide (x14 ≥ (x1.len : Int))) = true →
    idxA x11 x14 1 fun a66 =>
    ldI .i64 h a66 fun y68 =>
    F.spatelaw5_ChainBook.j10 Q (F.spatelaw5_ChainBook.l7 Q q7) x1 x2 x7 x8 x11 x13 x14 ((y68 != (IntKind.wrap .i64 ((-9) - x14)))) h) ∧
    ((decide (x14 ≥ (x1.len : Int))) = false →
    F.spatelaw5_ChainBook.j10 Q (F.spatelaw5_ChainBook.l7 Q q7) x1 x2 x7 x8 x11 x13 x14 false h))) ∧
    ((decide (x14 < (x11.len : Int))) = false →
    newL h #[] ty_3 0 fun s100 h99 =>
    runL PP (Builtin.append_ #[24, 24] 24 #[s100.enc, x1.enc]) h99 fun s102 h101 =>
    F.chain_Chain_int_Prune x8 s102 h101 fun r104 h103 =>
    (((x13 != r104)) = true →
    F.spatelaw5_ChainBook.j15 Q x2 x7 x8 x11 true h103) ∧
    (((x13 != r104)) = false →
    F.spatelaw5_told x7 h103 fun r107 h106 =>
    F.spatelaw5_told x8 h106 fun r109 h108 =>
    F.spatelaw5_even r107 r109 h108 fun r111 h110 =>
    F.spatelaw5_ChainBook.j15 Q x2 x7 x8 x11 (!r111) h110))
def F.spatelaw5_ChainBook.l6 (Q : Bool → H → Prop) : Nat → Sl → Sl → (Option Addr) → (Option Addr) → Sl → Int → H → Prop
  | 0, _, _, _, _, _, _, _ => False
  | q6 + 1, x1, x2, x7, x8, x11, x12, h =>
    ((decide (x12 < (x11.len : Int))) = true →
    idxA x11 x12 1 fun a38 =>
    stH h a38 [(.int .i64 (IntKind.wrap .i64 ((-9) - x12)))] fun h40 =>
    (F.spatelaw5_ChainBook.l6 Q q6) x1 x2 x7 x8 x11 (IntKind.wrap .i64 (x12 + 1)) h40) ∧
    ((decide (x12 < (x11.len : Int))) = false →
    cutL x11 0 (x1.len : Int) 1 fun s42 =>
    F.chain_Chain_int_Prune x7 s42 h fun r44 h43 =>
    ∃ m, F.spatelaw5_ChainBook.l7 Q m x1 x2 x7 x8 x11 r44 0 h43)
def F.spatelaw5_ChainBook.j5 (Q : Bool → H → Prop) (C1 : Sl → Sl → Sl → (Option Addr) → (Option Addr) → Int → Int → H → Prop) (x0 : Sl) (x1 : Sl) (x2 : Sl) (x7 : Option Addr) (x8 : Option Addr) (x9 : Int) (x10 : Int) (x36 : Bool) (h : H) : Prop :=
  (x36 = true →
  F.spatelaw5_ChainBook.j3 Q C1 x0 x1 x2 x7 x8 x9 x10 h) ∧
  (x36 = false →
  runL PP (Instr.makeSlice 24 (.int .i64 (IntKind.wrap .i64 ((x1.len : Int) + 4))) (.int .i64 (IntKind.wrap .i64 ((x1.len : Int) + 4)))) h fun s34 h33 =>
  runI PP (Builtin.copy_ #[24, 24] 3 #[s34.enc, x1.enc]) h33 .i64 fun s36 h35 =>
  ∃ m, F.spatelaw5_ChainBook.l6 Q m x1 x2 x7 x8 s34 (x1.len : Int) h35)
def F.spatelaw5_ChainBook.l2 (Q : Bool → H → Prop) : Nat → Sl → Sl → Sl → (Option Addr) → (Option Addr) → Int → Int → H → Prop
  | 0, _, _, _, _, _, _, _, _ => False
  | q2 + 1, x0, x1, x2, x7, x8, x9, x10, h =>
    ((decide (x10 < (x0.len : Int))) = true →
    F.spatelaw5_ChainBook.j5 Q (F.spatelaw5_ChainBook.l2 Q q2) x0 x1 x2 x7 x8 x9 x10 (decide (x10 < 200)) h) ∧
    ((decide (x10 < (x0.len : Int))) = false →
    F.spatelaw5_ChainBook.j5 Q (F.spatelaw5_ChainBook.l2 Q q2) x0 x1 x2 x7 x8 x9 x10 false h)
def F.spatelaw5_ChainBook.j1 (Q : Bool → H → Prop) (x0 : Sl) (x1 : Sl) (x2 : Sl) (h : H) : Prop :=
  F.chain_New_int  h fun r5 h4 =>
  F.chain_New_int  h4 fun r7 h6 =>
  ∃ m, F.spatelaw5_ChainBook.l2 Q m x0 x1 x2 r5 r7 0 0 h6
def F.spatelaw5_ChainBook.j16 (Q : Bool → H → Prop) (x0 : Sl) (x1 : Sl) (x2 : Sl) (x26 : Bool) (h : H) : Prop :=
  (x26 = true →
  Q true h) ∧
  (x26 = false →
  F.spatelaw5_ChainBook.j1 Q x0 x1 x2 h)
/-- spate/spatelaw5.ChainBook -/
def F.spatelaw5_ChainBook (p0 : Sl) (p1 : Sl) (p2 : Sl) (h : H) (Q : Bool → H → Prop) : Prop :=
  F.spatelaw5_known  h fun r2 h1 =>
  ((!r2) = true →
  Q false h1) ∧
  ((!r2) = false →
  ((decide ((p1.len : Int) > 300)) = true →
  F.spatelaw5_ChainBook.j16 Q p0 p1 p2 true h1) ∧
  ((decide ((p1.len : Int) > 300)) = false →
  F.spatelaw5_ChainBook.j16 Q p0 p1 p2 (decide ((p2.len : Int) > 300)) h1))
theorem F.spatelaw5_ChainBook_ok {p0 : Sl} {p1 : Sl} {p2 : Sl} {h : H} {Q : Bool → H → Prop} (H : F.spatelaw5_ChainBook p0 p1 p2 h Q) : Fn PP 8 ([p0.enc, p1.enc, p2.enc] : List Value).toArray h fun r h' => ∃ r0, r = (.bool r0) ∧ Q r0 h' := by
  unfold F.spatelaw5_ChainBook at H
  refine fn_of Try.func8 Try.ntmps8 rfl rfl fun w0 => ?_
  refine tr_sub [(0, p0.enc), (1, p1.enc), (2, p2.enc)] ⟨rfl, rfl, rfl, trivial⟩ ?_
  refine tr_seq ?_
  refine tr_region ?_
  refine tr_p (y_assign rfl) rfl rfl ?_
  refine tr_nil ?_
  refine tr_thenN ?_
  refine tr_seq ?_
  refine tr_seq ?_
  refine tr_region ?_
  refine tr_e (e_call Try.call11 rfl (F.spatelaw5_known_ok H)) rfl rfl ?_
  rintro _ h1 ⟨r2, rfl, H⟩
  refine tr_p (y_not rfl) rfl rfl ?_
  refine tr_nil ?_
  refine tr_thenN ?_
  refine tr_cond rfl (fun g3 => ?_) (fun g3 => ?_)
  · replace H := H.1 g3
    refine tr_seq ?_
    refine tr_region ?_
    refine tr_p (y_assign rfl) rfl rfl ?_
    refine tr_nil ?_
    refine tr_thenN ?_
    refine tr_ret ?_
    refine tr_thenR ?_
    exact tr_ret1 rfl rfl ⟨_, rfl, H⟩
  · replace H := H.2 g3
    refine tr_skip ?_
    refine tr_thenN ?_
    refine tr_seq_j (fun L' h => ∃ (x0 : Sl) (x1 : Sl) (x2 : Sl), L' = [(0, x0.enc), (1, x1.enc), (2, x2.enc)] ∧ F.spatelaw5_ChainBook.j1 Q x0 x1 x2 h) ?_ ?_
    · rintro L' h ⟨x0, x1, x2, rfl, H⟩
      unfold F.spatelaw5_ChainBook.j1 at H
      refine tr_seq ?_
      refine tr_region ?_
      refine tr_e (e_call Try.call29 rfl (F.chain_New_int_ok H)) rfl rfl ?_
      rintro _ h4 ⟨r5, rfl, H⟩
      refine tr_p (y_assign rfl) rfl rfl ?_
      refine tr_nil ?_
      refine tr_thenN ?_
      refine tr_seq ?_
      refine tr_region ?_
      refine tr_e (e_call Try.call29 rfl (F.chain_New_int_ok H)) rfl rfl ?_
      rintro _ h6 ⟨r7, rfl, H⟩
      refine tr_p (y_assign rfl) rfl rfl ?_
      refine tr_nil ?_
      refine tr_thenN ?_
      refine tr_seq ?_
      refine tr_region ?_
      refine tr_p (y_assign rfl) rfl rfl ?_
      refine tr_nil ?_
      refine tr_thenN ?_
      refine tr_seq ?_
      refine tr_seq ?_
      refine tr_region ?_
      refine tr_p (y_assign rfl) rfl rfl ?_
      refine tr_nil ?_
      refine tr_thenN ?_
      refine tr_block ?_
      obtain ⟨m115, H⟩ := H
      refine tr_sub [(0, x0.enc), (1, x1.enc), (2, x2.enc), (7, (.pointer r5)), (8, (.pointer r7)), (9, (.int .i64 0)), (10, (.int .i64 0))] ⟨rfl, rfl, rfl, rfl, rfl, rfl, rfl, trivial⟩ ?_
      refine tr_loop_j (fun m L' h => ∃ (x0 : Sl) (x1 : Sl) (x2 : Sl) (x7 : Option Addr) (x8 : Option Addr) (x9 : Int) (x10 : Int), L' = [(0, x0.enc), (1, x1.enc), (2, x2.enc), (7, (.pointer x7)), (8, (.pointer x8)), (9, (.int .i64 x9)), (10, (.int .i64 x10))] ∧ F.spatelaw5_ChainBook.l2 Q m x0 x1 x2 x7 x8 x9 x10 h) ?_ ?_ m115 ⟨_, _, _, _, _, _, _, rfl, H⟩
      · rintro L' h ⟨_, _, _, _, _, _, _, _, H⟩; exact H
      · rintro q2 L' h ⟨x0, x1, x2, x7, x8, x9, x10, rfl, H⟩
        unfold F.spatelaw5_ChainBook.l2 at H
        refine tr_seq_j (fun L' h => ∃ (x0 : Sl) (x1 : Sl) (x2 : Sl) (x7 : Option Addr) (x8 : Option Addr) (x9 : Int) (x10 : Int), L' = [(0, x0.enc), (1, x1.enc), (2, x2.enc), (7, (.pointer x7)), (8, (.pointer x8)), (9, (.int .i64 x9)), (10, (.int .i64 x10))] ∧ F.spatelaw5_ChainBook.j3 Q (F.spatelaw5_ChainBook.l2 Q q2) x0 x1 x2 x7 x8 x9 x10 h) ?_ ?_
        · rintro L' h ⟨x0, x1, x2, x7, x8, x9, x10, rfl, H⟩
          unfold F.spatelaw5_ChainBook.j3 at H
          refine tr_seq_j (fun L' h => ∃ (x0 : Sl) (x1 : Sl) (x2 : Sl) (x7 : Option Addr) (x8 : Option Addr) (x9 : Int) (x10 : Int), L' = [(0, x0.enc), (1, x1.enc), (2, x2.enc), (7, (.pointer x7)), (8, (.pointer x8)), (9, (.int .i64 x9)), (10, (.int .i64 x10))] ∧ F.spatelaw5_ChainBook.j4 Q (F.spatelaw5_ChainBook.l2 Q q2) x0 x1 x2 x7 x8 x9 x10 h) ?_ ?_
          · rintro L' h ⟨x0, x1, x2, x7, x8, x9, x10, rfl, H⟩
            unfold F.spatelaw5_ChainBook.j4 at H
            refine tr_region ?_
            refine tr_p (y_move rfl) rfl rfl ?_
            refine tr_p (y_add rfl rfl) rfl rfl ?_
            refine tr_p (y_assign rfl) rfl rfl ?_
            refine tr_nil ?_
            refine tr_thenN ?_
            exact tr_join [(0, x0.enc), (1, x1.enc), (2, x2.enc), (7, (.pointer x7)), (8, (.pointer x8)), (9, (.int .i64 x9)), (10, (.int .i64 (IntKind.wrap .i64 (x10 + 1))))] ⟨rfl, rfl, rfl, rfl, rfl, rfl, rfl, trivial⟩ ⟨_, _, _, _, _, _, _, rfl, H⟩
          · refine tr_block ?_
            refine tr_seq ?_
            refine tr_region ?_
            refine tr_p (y_move rfl) rfl rfl ?_
            refine tr_p (y_add rfl rfl) rfl rfl ?_
            refine tr_p (y_move rfl) rfl rfl ?_
            refine tr_p (y_move rfl) rfl rfl ?_
            obtain ⟨a8, e9, H⟩ := H
            refine tr_p (f_idx (s := x0) Try.runUnderlying24 Try.sizeOf3 rfl rfl e9) rfl rfl ?_
            obtain ⟨y10, k11, H⟩ := H
            refine tr_h (y_ld Try.isAgg3 rfl) k11 rfl rfl ?_
            refine tr_e (e_call Try.call21 rfl (F.spatelaw5_within_ok H)) rfl rfl ?_
            rintro _ h12 ⟨r13, rfl, H⟩
            refine tr_p (y_add rfl rfl) rfl rfl ?_
            refine tr_p (y_assign rfl) rfl rfl ?_
            refine tr_nil ?_
            refine tr_thenN ?_
            refine tr_seq ?_
            refine tr_region ?_
            refine tr_p (y_move rfl) rfl rfl ?_
            refine tr_p (y_move rfl) rfl rfl ?_
            obtain ⟨a14, e15, H⟩ := H
            refine tr_p (f_idx (s := x0) Try.runUnderlying24 Try.sizeOf3 rfl rfl e15) rfl rfl ?_
            obtain ⟨y16, k17, H⟩ := H
            refine tr_h (y_ld Try.isAgg3 rfl) k17 rfl rfl ?_
            obtain ⟨e18, H⟩ := H
            refine tr_p (y_rem rfl rfl e18) rfl rfl ?_
            refine tr_p (y_eql rfl rfl) rfl rfl ?_
            refine tr_nil ?_
            refine tr_thenN ?_
            refine tr_cond rfl (fun g19 => ?_) (fun g19 => ?_)
            · replace H := H.1 g19
              refine tr_seq ?_
              refine tr_region ?_
              refine tr_p (y_move rfl) rfl rfl ?_
              refine tr_p (y_move rfl) rfl rfl ?_
              refine tr_e (e_call Try.call22 rfl (F.chain_Chain_int_Kill_ok H)) rfl rfl ?_
              rintro _ h20 ⟨r21, r22, rfl, H⟩
              refine tr_nil ?_
              refine tr_thenN ?_
              refine tr_region ?_
              refine tr_p (y_move rfl) rfl rfl ?_
              refine tr_p (y_move rfl) rfl rfl ?_
              refine tr_e (e_call Try.call22 rfl (F.chain_Chain_int_Kill_ok H)) rfl rfl ?_
              rintro _ h23 ⟨r24, r25, rfl, H⟩
              refine tr_nil ?_
              refine tr_blockN ?_
              refine tr_thenN ?_
              exact tr_join [(0, x0.enc), (1, x1.enc), (2, x2.enc), (7, (.pointer x7)), (8, (.pointer x8)), (9, (.int .i64 (IntKind.wrap .i64 ((IntKind.wrap .i64 (x9 + 1)) + r13)))), (10, (.int .i64 x10))] ⟨rfl, rfl, rfl, rfl, rfl, rfl, rfl, trivial⟩ ⟨_, _, _, _, _, _, _, rfl, H⟩
            · replace H := H.2 g19
              refine tr_seq ?_
              refine tr_region ?_
              refine tr_p (y_move rfl) rfl rfl ?_
              refine tr_p (y_move rfl) rfl rfl ?_
              refine tr_p (y_move rfl) rfl rfl ?_
              refine tr_e (e_call Try.call23 rfl (F.chain_Chain_int_Put_ok H)) rfl rfl ?_
              rintro _ h26 ⟨r27, r28, rfl, H⟩
              refine tr_nil ?_
              refine tr_thenN ?_
              refine tr_region ?_
              refine tr_p (y_move rfl) rfl rfl ?_
              refine tr_p (y_move rfl) rfl rfl ?_
              refine tr_p (y_move rfl) rfl rfl ?_
              refine tr_e (e_call Try.call23 rfl (F.chain_Chain_int_Put_ok H)) rfl rfl ?_
              rintro _ h29 ⟨r30, r31, rfl, H⟩
              refine tr_nil ?_
              refine tr_blockN ?_
              refine tr_thenN ?_
              exact tr_join [(0, x0.enc), (1, x1.enc), (2, x2.enc), (7, (.pointer x7)), (8, (.pointer x8)), (9, (.int .i64 (IntKind.wrap .i64 ((IntKind.wrap .i64 (x9 + 1)) + r13)))), (10, (.int .i64 x10))] ⟨rfl, rfl, rfl, rfl, rfl, rfl, rfl, trivial⟩ ⟨_, _, _, _, _, _, _, rfl, H⟩
        · refine tr_seq_j (fun L' h => ∃ (x0 : Sl) (x1 : Sl) (x2 : Sl) (x7 : Option Addr) (x8 : Option Addr) (x9 : Int) (x10 : Int) (x36 : Bool), L' = [(0, x0.enc), (1, x1.enc), (2, x2.enc), (7, (.pointer x7)), (8, (.pointer x8)), (9, (.int .i64 x9)), (10, (.int .i64 x10)), (36, (.bool x36))] ∧ F.spatelaw5_ChainBook.j5 Q (F.spatelaw5_ChainBook.l2 Q q2) x0 x1 x2 x7 x8 x9 x10 x36 h) ?_ ?_
          · rintro L' h ⟨x0, x1, x2, x7, x8, x9, x10, x36, rfl, H⟩
            unfold F.spatelaw5_ChainBook.j5 at H
            refine tr_cond rfl (fun g32 => ?_) (fun g32 => ?_)
            · replace H := H.1 g32
              refine tr_skip ?_
              refine tr_thenN ?_
              exact tr_join [(0, x0.enc), (1, x1.enc), (2, x2.enc), (7, (.pointer x7)), (8, (.pointer x8)), (9, (.int .i64 x9)), (10, (.int .i64 x10))] ⟨rfl, rfl, rfl, rfl, rfl, rfl, rfl, trivial⟩ ⟨_, _, _, _, _, _, _, rfl, H⟩
            · replace H := H.2 g32
              refine tr_exit ?_
              refine tr_thenE ?_
              refine tr_thenE ?_
              refine tr_hit ?_
              refine tr_thenN ?_
              refine tr_seq ?_
              refine tr_region ?_
              refine tr_p (y_move rfl) rfl rfl ?_
              refine tr_p (y_len (ts := #[]) Try.runUnderlying24 (o := x1.ptr) (n := x1.len) (cap := x1.cap) rfl) rfl rfl ?_
              refine tr_p (y_add rfl rfl) rfl rfl ?_
              refine tr_e (f_make rfl rfl H) rfl rfl ?_
              rintro _ h33 ⟨s34, rfl, H⟩
              refine tr_p (y_assign rfl) rfl rfl ?_
              refine tr_nil ?_
              refine tr_thenN ?_
              refine tr_seq ?_
              refine tr_region ?_
              refine tr_p (y_move rfl) rfl rfl ?_
              refine tr_p (y_move rfl) rfl rfl ?_
              refine tr_e (f_copy rfl H) rfl rfl ?_
              rintro _ h35 ⟨s36, rfl, H⟩
              refine tr_nil ?_
              refine tr_thenN ?_
              refine tr_seq ?_
              refine tr_seq ?_
              refine tr_region ?_
              refine tr_p (y_move rfl) rfl rfl ?_
              refine tr_p (y_len (ts := #[]) Try.runUnderlying24 (o := x1.ptr) (n := x1.len) (cap := x1.cap) rfl) rfl rfl ?_
              refine tr_p (y_assign rfl) rfl rfl ?_
              refine tr_nil ?_
              refine tr_thenN ?_
              refine tr_block ?_
              obtain ⟨m113, H⟩ := H
              refine tr_sub [(1, x1.enc), (2, x2.enc), (7, (.pointer x7)), (8, (.pointer x8)), (11, s34.enc), (12, (.int .i64 (x1.len : Int)))] ⟨rfl, rfl, rfl, rfl, rfl, rfl, trivial⟩ ?_
              refine tr_loop_j (fun m L' h => ∃ (x1 : Sl) (x2 : Sl) (x7 : Option Addr) (x8 : Option Addr) (x11 : Sl) (x12 : Int), L' = [(1, x1.enc), (2, x2.enc), (7, (.pointer x7)), (8, (.pointer x8)), (11, x11.enc), (12, (.int .i64 x12))] ∧ F.spatelaw5_ChainBook.l6 Q m x1 x2 x7 x8 x11 x12 h) ?_ ?_ m113 ⟨_, _, _, _, _, _, rfl, H⟩
              · rintro L' h ⟨_, _, _, _, _, _, _, H⟩; exact H
              · rintro q6 L' h ⟨x1, x2, x7, x8, x11, x12, rfl, H⟩
                unfold F.spatelaw5_ChainBook.l6 at H
                refine tr_seq ?_
                refine tr_seq ?_
                refine tr_region ?_
                refine tr_p (y_move rfl) rfl rfl ?_
                refine tr_p (y_move rfl) rfl rfl ?_
                refine tr_p (y_len (ts := #[]) Try.runUnderlying24 (o := x11.ptr) (n := x11.len) (cap := x11.cap) rfl) rfl rfl ?_
                refine tr_p (y_lss rfl rfl) rfl rfl ?_
                refine tr_nil ?_
                refine tr_thenN ?_
                refine tr_cond rfl (fun g37 => ?_) (fun g37 => ?_)
                · replace H := H.1 g37
                  refine tr_skip ?_
                  refine tr_thenN ?_
                  refine tr_seq ?_
                  refine tr_block ?_
                  refine tr_region ?_
                  refine tr_p (y_move rfl) rfl rfl ?_
                  refine tr_p (y_move rfl) rfl rfl ?_
                  refine tr_p (y_move rfl) rfl rfl ?_
                  refine tr_p (y_sub rfl rfl) rfl rfl ?_
                  obtain ⟨a38, e39, H⟩ := H
                  refine tr_p (f_idx (s := x11) Try.runUnderlying24 Try.sizeOf3 rfl rfl e39) rfl rfl ?_
                  refine tr_e (f_store (vs := [(.int .i64 (IntKind.wrap .i64 ((-9) - x12)))]) Try.sizeOf3 rfl rfl rfl rfl (one1 rfl) H) rfl rfl ?_
                  rintro _ h40 ⟨rfl, H⟩
                  refine tr_nil ?_
                  refine tr_blockN ?_
                  refine tr_thenN ?_
                  refine tr_region ?_
                  refine tr_p (y_move rfl) rfl rfl ?_
                  refine tr_p (y_add rfl rfl) rfl rfl ?_
                  refine tr_p (y_assign rfl) rfl rfl ?_
                  refine tr_nil ?_
                  refine tr_thenN ?_
                  exact tr_join [(1, x1.enc), (2, x2.enc), (7, (.pointer x7)), (8, (.pointer x8)), (11, x11.enc), (12, (.int .i64 (IntKind.wrap .i64 (x12 + 1))))] ⟨rfl, rfl, rfl, rfl, rfl, rfl, trivial⟩ ⟨_, _, _, _, _, _, rfl, H⟩
                · replace H := H.2 g37
                  refine tr_exit ?_
                  refine tr_thenE ?_
                  refine tr_thenE ?_
                  refine tr_hit ?_
                  refine tr_thenN ?_
                  refine tr_seq ?_
                  refine tr_region ?_
                  refine tr_p (y_move rfl) rfl rfl ?_
                  refine tr_p (y_move rfl) rfl rfl ?_
                  refine tr_p (y_move rfl) rfl rfl ?_
                  refine tr_p (y_len (ts := #[]) Try.runUnderlying24 (o := x1.ptr) (n := x1.len) (cap := x1.cap) rfl) rfl rfl ?_
                  obtain ⟨s42, e41, H⟩ := H
                  refine tr_p (f_cutL (s := x11) none (some (.i64, (x1.len : Int))) Try.runUnderlying24 Try.sizeOf3 rfl rfl rfl e41) rfl rfl ?_
                  refine tr_e (e_call Try.call17 rfl (F.chain_Chain_int_Prune_ok H)) rfl rfl ?_
                  rintro _ h43 ⟨r44, rfl, H⟩
                  refine tr_p (y_assign rfl) rfl rfl ?_
                  refine tr_nil ?_
                  refine tr_thenN ?_
                  refine tr_seq ?_
                  refine tr_seq ?_
                  refine tr_region ?_
                  refine tr_p (y_assign rfl) rfl rfl ?_
                  refine tr_nil ?_
                  refine tr_thenN ?_
                  refine tr_block ?_
                  obtain ⟨m112, H⟩ := H
                  refine tr_sub [(1, x1.enc), (2, x2.enc), (7, (.pointer x7)), (8, (.pointer x8)), (11, x11.enc), (13, (.int .i64 r44)), (14, (.int .i64 0))] ⟨rfl, rfl, rfl, rfl, rfl, rfl, rfl, trivial⟩ ?_
                  refine tr_loop_j (fun m L' h => ∃ (x1 : Sl) (x2 : Sl) (x7 : Option Addr) (x8 : Option Addr) (x11 : Sl) (x13 : Int) (x14 : Int), L' = [(1, x1.enc), (2, x2.enc), (7, (.pointer x7)), (8, (.pointer x8)), (11, x11.enc), (13, (.int .i64 x13)), (14, (.int .i64 x14))] ∧ F.spatelaw5_ChainBook.l7 Q m x1 x2 x7 x8 x11 x13 x14 h) ?_ ?_ m112 ⟨_, _, _, _, _, _, _, rfl, H⟩
                  · rintro L' h ⟨_, _, _, _, _, _, _, _, H⟩; exact H
                  · rintro q7 L' h ⟨x1, x2, x7, x8, x11, x13, x14, rfl, H⟩
                    unfold F.spatelaw5_ChainBook.l7 at H
                    refine tr_seq ?_
                    refine tr_seq ?_
                    refine tr_region ?_
                    refine tr_p (y_move rfl) rfl rfl ?_
                    refine tr_p (y_move rfl) rfl rfl ?_
                    refine tr_p (y_len (ts := #[]) Try.runUnderlying24 (o := x11.ptr) (n := x11.len) (cap := x11.cap) rfl) rfl rfl ?_
                    refine tr_p (y_lss rfl rfl) rfl rfl ?_
                    refine tr_nil ?_
                    refine tr_thenN ?_
                    refine tr_cond rfl (fun g45 => ?_) (fun g45 => ?_)
                    · replace H := H.1 g45
                      refine tr_skip ?_
                      refine tr_thenN ?_
                      refine tr_seq_j (fun L' h => ∃ (x1 : Sl) (x2 : Sl) (x7 : Option Addr) (x8 : Option Addr) (x11 : Sl) (x13 : Int) (x14 : Int), L' = [(1, x1.enc), (2, x2.enc), (7, (.pointer x7)), (8, (.pointer x8)), (11, x11.enc), (13, (.int .i64 x13)), (14, (.int .i64 x14))] ∧ F.spatelaw5_ChainBook.j8 Q (F.spatelaw5_ChainBook.l7 Q q7) x1 x2 x7 x8 x11 x13 x14 h) ?_ ?_
                      · rintro L' h ⟨x1, x2, x7, x8, x11, x13, x14, rfl, H⟩
                        unfold F.spatelaw5_ChainBook.j8 at H
                        refine tr_region ?_
                        refine tr_p (y_move rfl) rfl rfl ?_
                        refine tr_p (y_add rfl rfl) rfl rfl ?_
                        refine tr_p (y_assign rfl) rfl rfl ?_
                        refine tr_nil ?_
                        refine tr_thenN ?_
                        exact tr_join [(1, x1.enc), (2, x2.enc), (7, (.pointer x7)), (8, (.pointer x8)), (11, x11.enc), (13, (.int .i64 x13)), (14, (.int .i64 (IntKind.wrap .i64 (x14 + 1))))] ⟨rfl, rfl, rfl, rfl, rfl, rfl, rfl, trivial⟩ ⟨_, _, _, _, _, _, _, rfl, H⟩
                      · refine tr_block ?_
                        refine tr_seq_j (fun L' h => ∃ (x1 : Sl) (x2 : Sl) (x7 : Option Addr) (x8 : Option Addr) (x11 : Sl) (x13 : Int) (x14 : Int), L' = [(1, x1.enc), (2, x2.enc), (7, (.pointer x7)), (8, (.pointer x8)), (11, x11.enc), (13, (.int .i64 x13)), (14, (.int .i64 x14))] ∧ F.spatelaw5_ChainBook.j9 Q (F.spatelaw5_ChainBook.l7 Q q7) x1 x2 x7 x8 x11 x13 x14 h) ?_ ?_
                        · rintro L' h ⟨x1, x2, x7, x8, x11, x13, x14, rfl, H⟩
                          unfold F.spatelaw5_ChainBook.j9 at H
                          refine tr_region ?_
                          refine tr_p (y_move rfl) rfl rfl ?_
                          refine tr_p (y_move rfl) rfl rfl ?_
                          obtain ⟨a46, e47, H⟩ := H
                          refine tr_p (f_idx (s := x11) Try.runUnderlying24 Try.sizeOf3 rfl rfl e47) rfl rfl ?_
                          refine tr_e (f_store (vs := [(.int .i64 3)]) Try.sizeOf3 rfl rfl rfl rfl (one1 rfl) H) rfl rfl ?_
                          rintro _ h48 ⟨rfl, H⟩
                          refine tr_nil ?_
                          refine tr_blockN ?_
                          refine tr_thenN ?_
                          exact tr_join [(1, x1.enc), (2, x2.enc), (7, (.pointer x7)), (8, (.pointer x8)), (11, x11.enc), (13, (.int .i64 x13)), (14, (.int .i64 x14))] ⟨rfl, rfl, rfl, rfl, rfl, rfl, rfl, trivial⟩ ⟨_, _, _, _, _, _, _, rfl, H⟩
                        · refine tr_seq_j (fun L' h => ∃ (x1 : Sl) (x2 : Sl) (x7 : Option Addr) (x8 : Option Addr) (x11 : Sl) (x13 : Int) (x14 : Int) (x128 : Bool), L' = [(1, x1.enc), (2, x2.enc), (7, (.pointer x7)), (8, (.pointer x8)), (11, x11.enc), (13, (.int .i64 x13)), (14, (.int .i64 x14)), (128, (.bool x128))] ∧ F.spatelaw5_ChainBook.j10 Q (F.spatelaw5_ChainBook.l7 Q q7) x1 x2 x7 x8 x11 x13 x14 x128 h) ?_ ?_
                          · rintro L' h ⟨x1, x2, x7, x8, x11, x13, x14, x128, rfl, H⟩
                            unfold F.spatelaw5_ChainBook.j10 at H
                            refine tr_cond rfl (fun g49 => ?_) (fun g49 => ?_)
                            · replace H := H.1 g49
                              refine tr_seq ?_
                              refine tr_region ?_
                              refine tr_p (y_assign rfl) rfl rfl ?_
                              refine tr_nil ?_
                              refine tr_thenN ?_
                              refine tr_ret ?_
                              refine tr_thenR ?_
                              refine tr_blockR ?_
                              refine tr_thenR ?_
                              refine tr_thenR ?_
                              refine tr_blockR ?_
                              refine tr_thenR ?_
                              exact tr_ret1 rfl rfl ⟨_, rfl, H⟩
                            · replace H := H.2 g49
                              refine tr_skip ?_
                              refine tr_thenN ?_
                              exact tr_join [(1, x1.enc), (2, x2.enc), (7, (.pointer x7)), (8, (.pointer x8)), (11, x11.enc), (13, (.int .i64 x13)), (14, (.int .i64 x14))] ⟨rfl, rfl, rfl, rfl, rfl, rfl, rfl, trivial⟩ ⟨_, _, _, _, _, _, _, rfl, H⟩
                          · refine tr_draw mixed [0, 0, 2, 7, 15, 31, 31, 127, 255, 31, 31, 1567, 3615, 8191, 16383, 32767, 65535, 65535, 196607, 524287, 1048575, 2097151, 2097151, 8388607, 16777215, 2097151, 35651583, 134217727, 268435455, 536870911] (by kernel_rfl) ?_
                            refine g_p 0 1 rfl (by kernel_rfl) (y_move rfl) rfl rfl ?_
                            refine g_p 1 3 rfl (by kernel_rfl) (y_move rfl) rfl rfl ?_
                            refine g_p 2 7 rfl (by kernel_rfl) (y_len (ts := #[]) Try.runUnderlying24 (o := x1.ptr) (n := x1.len) (cap := x1.cap) rfl) rfl rfl ?_
                            refine g_p 3 15 rfl (by kernel_rfl) (y_lss rfl rfl) rfl rfl ?_
                            refine g_p 4 31 rfl (by kernel_rfl) (y_move rfl) rfl rfl ?_
                            refine g_split (t := 103) rfl (fun g50 => ?_) (fun g50 => ?_)
                            · replace H := H.1 g50
                              refine g_p 5 63 rfl (by kernel_rfl) (y_move rfl) rfl rfl ?_
                              refine g_p 6 127 rfl (by kernel_rfl) (y_move rfl) rfl rfl ?_
                              obtain ⟨a51, e52, H⟩ := H
                              refine g_p 7 255 rfl (by kernel_rfl) (f_idx (s := x11) Try.runUnderlying24 Try.sizeOf3 rfl rfl e52) rfl rfl ?_
                              obtain ⟨y53, k54, H⟩ := H
                              refine g_h 8 511 rfl (by kernel_rfl) (y_ld Try.isAgg3 rfl) k54 rfl rfl ?_
                              refine g_p 9 1023 rfl (by kernel_rfl) (y_move rfl) rfl rfl ?_
                              refine g_p 10 2047 rfl (by kernel_rfl) (y_move rfl) rfl rfl ?_
                              obtain ⟨a55, e56, H⟩ := H
                              refine g_p 11 4095 rfl (by kernel_rfl) (f_idx (s := x1) Try.runUnderlying24 Try.sizeOf3 rfl rfl e56) rfl rfl ?_
                              obtain ⟨y57, k58, H⟩ := H
                              refine g_h 12 8191 rfl (by kernel_rfl) (y_ld Try.isAgg3 rfl) k58 rfl rfl ?_
                              refine g_p 13 16383 rfl (by kernel_rfl) (y_neq rfl rfl) rfl rfl ?_
                              refine g_p 14 32767 rfl (by kernel_rfl) (y_pick_t rfl rfl) rfl rfl ?_
                              refine g_p 15 65535 rfl (by kernel_rfl) (y_move rfl) rfl rfl ?_
                              refine g_split (t := 114) rfl (fun g59 => ?_) (fun g59 => ?_)
                              · replace H := H.1 g59
                                refine g_s 16 131071 rfl (by kernel_rfl) rfl rfl ?_
                                refine g_s 17 262143 rfl (by kernel_rfl) rfl rfl ?_
                                refine g_s 18 524287 rfl (by kernel_rfl) rfl rfl ?_
                                refine g_s 19 1048575 rfl (by kernel_rfl) rfl rfl ?_
                                refine g_s 20 2097151 rfl (by kernel_rfl) rfl rfl ?_
                                refine g_s 21 4194303 rfl (by kernel_rfl) rfl rfl ?_
                                refine g_s 22 8388607 rfl (by kernel_rfl) rfl rfl ?_
                                refine g_s 23 16777215 rfl (by kernel_rfl) rfl rfl ?_
                                refine g_s 24 33554431 rfl (by kernel_rfl) rfl rfl ?_
                                refine g_s 25 67108863 rfl (by kernel_rfl) rfl rfl ?_
                                refine g_s 26 134217727 rfl (by kernel_rfl) rfl rfl ?_
                                refine g_s 27 268435455 rfl (by kernel_rfl) rfl rfl ?_
                                refine g_s 28 536870911 rfl (by kernel_rfl) rfl rfl ?_
                                refine g_p 29 1073741823 rfl (by kernel_rfl) (y_pick_t rfl rfl) rfl rfl ?_
                                refine g_d (by kernel_rfl) ?_
                                refine tr_thenN ?_
                                exact tr_join [(1, x1.enc), (2, x2.enc), (7, (.pointer x7)), (8, (.pointer x8)), (11, x11.enc), (13, (.int .i64 x13)), (14, (.int .i64 x14)), (128, (.bool true))] ⟨rfl, rfl, rfl, rfl, rfl, rfl, rfl, rfl, trivial⟩ ⟨_, _, _, _, _, _, _, _, rfl, H⟩
                              · replace H := H.2 g59
                                refine g_p 16 131071 rfl (by kernel_rfl) (y_move rfl) rfl rfl ?_
                                refine g_p 17 262143 rfl (by kernel_rfl) (y_move rfl) rfl rfl ?_
                                refine g_p 18 524287 rfl (by kernel_rfl) (y_len (ts := #[]) Try.runUnderlying24 (o := x1.ptr) (n := x1.len) (cap := x1.cap) rfl) rfl rfl ?_
                                refine g_p 19 1048575 rfl (by kernel_rfl) (y_geq rfl rfl) rfl rfl ?_
                                refine g_p 20 2097151 rfl (by kernel_rfl) (y_move rfl) rfl rfl ?_
                                refine g_split (t := 119) rfl (fun g60 => ?_) (fun g60 => ?_)
                                · replace H := H.1 g60
                                  refine g_p 21 4194303 rfl (by kernel_rfl) (y_move rfl) rfl rfl ?_
                                  refine g_p 22 8388607 rfl (by kernel_rfl) (y_move rfl) rfl rfl ?_
                                  obtain ⟨a61, e62, H⟩ := H
                                  refine g_p 23 16777215 rfl (by kernel_rfl) (f_idx (s := x11) Try.runUnderlying24 Try.sizeOf3 rfl rfl e62) rfl rfl ?_
                                  obtain ⟨y63, k64, H⟩ := H
                                  refine g_h 24 33554431 rfl (by kernel_rfl) (y_ld Try.isAgg3 rfl) k64 rfl rfl ?_
                                  refine g_p 25 67108863 rfl (by kernel_rfl) (y_move rfl) rfl rfl ?_
                                  refine g_p 26 134217727 rfl (by kernel_rfl) (y_sub rfl rfl) rfl rfl ?_
                                  refine g_p 27 268435455 rfl (by kernel_rfl) (y_neq rfl rfl) rfl rfl ?_
                                  refine g_p 28 536870911 rfl (by kernel_rfl) (y_pick_t rfl rfl) rfl rfl ?_
                                  refine g_p 29 1073741823 rfl (by kernel_rfl) (y_pick_f rfl rfl) rfl rfl ?_
                                  refine g_d (by kernel_rfl) ?_
                                  refine tr_thenN ?_
                                  exact tr_join [(1, x1.enc), (2, x2.enc), (7, (.pointer x7)), (8, (.pointer x8)), (11, x11.enc), (13, (.int .i64 x13)), (14, (.int .i64 x14)), (128, (.bool ((y63 != (IntKind.wrap .i64 ((-9) - x14))))))] ⟨rfl, rfl, rfl, rfl, rfl, rfl, rfl, rfl, trivial⟩ ⟨_, _, _, _, _, _, _, _, rfl, H⟩
                                · replace H := H.2 g60
                                  refine g_s 21 4194303 rfl (by kernel_rfl) rfl rfl ?_
                                  refine g_s 22 8388607 rfl (by kernel_rfl) rfl rfl ?_
                                  refine g_s 23 16777215 rfl (by kernel_rfl) rfl rfl ?_
                                  refine g_s 24 33554431 rfl (by kernel_rfl) rfl rfl ?_
                                  refine g_s 25 67108863 rfl (by kernel_rfl) rfl rfl ?_
                                  refine g_s 26 134217727 rfl (by kernel_rfl) rfl rfl ?_
                                  refine g_s 27 268435455 rfl (by kernel_rfl) rfl rfl ?_
                                  refine g_p 28 536870911 rfl (by kernel_rfl) (y_pick_f rfl rfl) rfl rfl ?_
                                  refine g_p 29 1073741823 rfl (by kernel_rfl) (y_pick_f rfl rfl) rfl rfl ?_
                                  refine g_d (by kernel_rfl) ?_
                                  refine tr_thenN ?_
                                  exact tr_join [(1, x1.enc), (2, x2.enc), (7, (.pointer x7)), (8, (.pointer x8)), (11, x11.enc), (13, (.int .i64 x13)), (14, (.int .i64 x14)), (128, (.bool false))] ⟨rfl, rfl, rfl, rfl, rfl, rfl, rfl, rfl, trivial⟩ ⟨_, _, _, _, _, _, _, _, rfl, H⟩
                            · replace H := H.2 g50
                              refine g_s 5 63 rfl (by kernel_rfl) rfl rfl ?_
                              refine g_s 6 127 rfl (by kernel_rfl) rfl rfl ?_
                              refine g_s 7 255 rfl (by kernel_rfl) rfl rfl ?_
                              refine g_s 8 511 rfl (by kernel_rfl) rfl rfl ?_
                              refine g_s 9 1023 rfl (by kernel_rfl) rfl rfl ?_
                              refine g_s 10 2047 rfl (by kernel_rfl) rfl rfl ?_
                              refine g_s 11 4095 rfl (by kernel_rfl) rfl rfl ?_
                              refine g_s 12 8191 rfl (by kernel_rfl) rfl rfl ?_
                              refine g_s 13 16383 rfl (by kernel_rfl) rfl rfl ?_
                              refine g_p 14 32767 rfl (by kernel_rfl) (y_pick_f rfl rfl) rfl rfl ?_
                              refine g_p 15 65535 rfl (by kernel_rfl) (y_move rfl) rfl rfl ?_
                              refine g_p 16 131071 rfl (by kernel_rfl) (y_move rfl) rfl rfl ?_
                              refine g_p 17 262143 rfl (by kernel_rfl) (y_move rfl) rfl rfl ?_
                              refine g_p 18 524287 rfl (by kernel_rfl) (y_len (ts := #[]) Try.runUnderlying24 (o := x1.ptr) (n := x1.len) (cap := x1.cap) rfl) rfl rfl ?_
                              refine g_p 19 1048575 rfl (by kernel_rfl) (y_geq rfl rfl) rfl rfl ?_
                              refine g_p 20 2097151 rfl (by kernel_rfl) (y_move rfl) rfl rfl ?_
                              refine g_split (t := 119) rfl (fun g65 => ?_) (fun g65 => ?_)
                              · replace H := H.1 g65
                                refine g_p 21 4194303 rfl (by kernel_rfl) (y_move rfl) rfl rfl ?_
                                refine g_p 22 8388607 rfl (by kernel_rfl) (y_move rfl) rfl rfl ?_
                                obtain ⟨a66, e67, H⟩ := H
                                refine g_p 23 16777215 rfl (by kernel_rfl) (f_idx (s := x11) Try.runUnderlying24 Try.sizeOf3 rfl rfl e67) rfl rfl ?_
                                obtain ⟨y68, k69, H⟩ := H
                                refine g_h 24 33554431 rfl (by kernel_rfl) (y_ld Try.isAgg3 rfl) k69 rfl rfl ?_
                                refine g_p 25 67108863 rfl (by kernel_rfl) (y_move rfl) rfl rfl ?_
                                refine g_p 26 134217727 rfl (by kernel_rfl) (y_sub rfl rfl) rfl rfl ?_
                                refine g_p 27 268435455 rfl (by kernel_rfl) (y_neq rfl rfl) rfl rfl ?_
                                refine g_p 28 536870911 rfl (by kernel_rfl) (y_pick_t rfl rfl) rfl rfl ?_
                                refine g_p 29 1073741823 rfl (by kernel_rfl) (y_pick_f rfl rfl) rfl rfl ?_
                                refine g_d (by kernel_rfl) ?_
                                refine tr_thenN ?_
                                exact tr_join [(1, x1.enc), (2, x2.enc), (7, (.pointer x7)), (8, (.pointer x8)), (11, x11.enc), (13, (.int .i64 x13)), (14, (.int .i64 x14)), (128, (.bool ((y68 != (IntKind.wrap .i64 ((-9) - x14))))))] ⟨rfl, rfl, rfl, rfl, rfl, rfl, rfl, rfl, trivial⟩ ⟨_, _, _, _, _, _, _, _, rfl, H⟩
                              · replace H := H.2 g65
                                refine g_s 21 4194303 rfl (by kernel_rfl) rfl rfl ?_
                                refine g_s 22 8388607 rfl (by kernel_rfl) rfl rfl ?_
                                refine g_s 23 16777215 rfl (by kernel_rfl) rfl rfl ?_
                                refine g_s 24 33554431 rfl (by kernel_rfl) rfl rfl ?_
                                refine g_s 25 67108863 rfl (by kernel_rfl) rfl rfl ?_
                                refine g_s 26 134217727 rfl (by kernel_rfl) rfl rfl ?_
                                refine g_s 27 268435455 rfl (by kernel_rfl) rfl rfl ?_
                                refine g_p 28 536870911 rfl (by kernel_rfl) (y_pick_f rfl rfl) rfl rfl ?_
                                refine g_p 29 1073741823 rfl (by kernel_rfl) (y_pick_f rfl rfl) rfl rfl ?_
                                refine g_d (by kernel_rfl) ?_
                                refine tr_thenN ?_
                                exact tr_join [(1, x1.enc), (2, x2.enc), (7, (.pointer x7)), (8, (.pointer x8)), (11, x11.enc), (13, (.int .i64 x13)), (14, (.int .i64 x14)), (128, (.bool false))] ⟨rfl, rfl, rfl, rfl, rfl, rfl, rfl, rfl, trivial⟩ ⟨_, _, _, _, _, _, _, _, rfl, H⟩
                    · replace H := H.2 g45
                      refine tr_exit ?_
                      refine tr_thenE ?_
                      refine tr_thenE ?_
                      refine tr_hit ?_
                      refine tr_thenN ?_
                      refine tr_seq_j (fun L' h => ∃ (x2 : Sl) (x7 : Option Addr) (x8 : Option Addr) (x11 : Sl), L' = [(2, x2.enc), (7, (.pointer x7)), (8, (.pointer x8)), (11, x11.enc)] ∧ F.spatelaw5_ChainBook.j11 Q x2 x7 x8 x11 h) ?_ ?_
                      · rintro L' h ⟨x2, x7, x8, x11, rfl, H⟩
                        unfold F.spatelaw5_ChainBook.j11 at H
                        refine tr_seq ?_
                        refine tr_seq ?_
                        refine tr_region ?_
                        refine tr_p (y_assign rfl) rfl rfl ?_
                        refine tr_nil ?_
                        refine tr_thenN ?_
                        refine tr_block ?_
                        obtain ⟨m97, H⟩ := H
                        refine tr_sub [(2, x2.enc), (7, (.pointer x7)), (8, (.pointer x8)), (11, x11.enc), (15, (.int .i64 0))] ⟨rfl, rfl, rfl, rfl, rfl, trivial⟩ ?_
                        refine tr_loop_j (fun m L' h => ∃ (x2 : Sl) (x7 : Option Addr) (x8 : Option Addr) (x11 : Sl) (x15 : Int), L' = [(2, x2.enc), (7, (.pointer x7)), (8, (.pointer x8)), (11, x11.enc), (15, (.int .i64 x15))] ∧ F.spatelaw5_ChainBook.l12 Q m x2 x7 x8 x11 x15 h) ?_ ?_ m97 ⟨_, _, _, _, _, rfl, H⟩
                        · rintro L' h ⟨_, _, _, _, _, _, H⟩; exact H
                        · rintro q12 L' h ⟨x2, x7, x8, x11, x15, rfl, H⟩
                          unfold F.spatelaw5_ChainBook.l12 at H
                          refine tr_seq_j (fun L' h => ∃ (x2 : Sl) (x7 : Option Addr) (x8 : Option Addr) (x11 : Sl) (x15 : Int), L' = [(2, x2.enc), (7, (.pointer x7)), (8, (.pointer x8)), (11, x11.enc), (15, (.int .i64 x15))] ∧ F.spatelaw5_ChainBook.j13 Q (F.spatelaw5_ChainBook.l12 Q q12) x2 x7 x8 x11 x15 h) ?_ ?_
                          · rintro L' h ⟨x2, x7, x8, x11, x15, rfl, H⟩
                            unfold F.spatelaw5_ChainBook.j13 at H
                            refine tr_seq ?_
                            refine tr_block ?_
                            refine tr_region ?_
                            refine tr_p (y_move rfl) rfl rfl ?_
                            refine tr_p (y_move rfl) rfl rfl ?_
                            refine tr_p (y_move rfl) rfl rfl ?_
                            refine tr_p (y_move rfl) rfl rfl ?_
                            obtain ⟨a70, e71, H⟩ := H
                            refine tr_p (f_idx (s := x2) Try.runUnderlying24 Try.sizeOf3 rfl rfl e71) rfl rfl ?_
                            obtain ⟨y72, k73, H⟩ := H
                            refine tr_h (y_ld Try.isAgg3 rfl) k73 rfl rfl ?_
                            obtain ⟨a74, e75, H⟩ := H
                            refine tr_p (f_idx (s := x11) Try.runUnderlying24 Try.sizeOf3 rfl rfl e75) rfl rfl ?_
                            refine tr_e (f_store (vs := [(.int .i64 y72)]) Try.sizeOf3 rfl rfl rfl rfl (one1 rfl) H) rfl rfl ?_
                            rintro _ h76 ⟨rfl, H⟩
                            refine tr_nil ?_
                            refine tr_blockN ?_
                            refine tr_thenN ?_
                            refine tr_region ?_
                            refine tr_p (y_move rfl) rfl rfl ?_
                            refine tr_p (y_add rfl rfl) rfl rfl ?_
                            refine tr_p (y_assign rfl) rfl rfl ?_
                            refine tr_nil ?_
                            refine tr_thenN ?_
                            exact tr_join [(2, x2.enc), (7, (.pointer x7)), (8, (.pointer x8)), (11, x11.enc), (15, (.int .i64 (IntKind.wrap .i64 (x15 + 1))))] ⟨rfl, rfl, rfl, rfl, rfl, trivial⟩ ⟨_, _, _, _, _, rfl, H⟩
                          · refine tr_seq_j (fun L' h => ∃ (x2 : Sl) (x7 : Option Addr) (x8 : Option Addr) (x11 : Sl) (x15 : Int) (x156 : Bool), L' = [(2, x2.enc), (7, (.pointer x7)), (8, (.pointer x8)), (11, x11.enc), (15, (.int .i64 x15)), (156, (.bool x156))] ∧ F.spatelaw5_ChainBook.j14 Q (F.spatelaw5_ChainBook.l12 Q q12) x2 x7 x8 x11 x15 x156 h) ?_ ?_
                            · rintro L' h ⟨x2, x7, x8, x11, x15, x156, rfl, H⟩
                              unfold F.spatelaw5_ChainBook.j14 at H
                              refine tr_cond rfl (fun g77 => ?_) (fun g77 => ?_)
                              · replace H := H.1 g77
                                refine tr_skip ?_
                                refine tr_thenN ?_
                                exact tr_join [(2, x2.enc), (7, (.pointer x7)), (8, (.pointer x8)), (11, x11.enc), (15, (.int .i64 x15))] ⟨rfl, rfl, rfl, rfl, rfl, trivial⟩ ⟨_, _, _, _, _, rfl, H⟩
                              · replace H := H.2 g77
                                refine tr_exit ?_
                                refine tr_thenE ?_
                                refine tr_thenE ?_
                                refine tr_hit ?_
                                refine tr_thenN ?_
                                refine tr_seq ?_
                                refine tr_region ?_
                                refine tr_e (f_buildL (cs := #[]) rfl rfl (bl_24_0_) H) rfl rfl ?_
                                rintro _ h78 ⟨s79, rfl, H⟩
                                refine tr_p (y_move rfl) rfl rfl ?_
                                refine tr_e (f_app rfl H) rfl rfl ?_
                                rintro _ h80 ⟨s81, rfl, H⟩
                                refine tr_p (y_assign rfl) rfl rfl ?_
                                refine tr_nil ?_
                                refine tr_thenN ?_
                                refine tr_seq ?_
                                refine tr_region ?_
                                refine tr_p (y_move rfl) rfl rfl ?_
                                refine tr_p (y_move rfl) rfl rfl ?_
                                refine tr_e (e_call Try.call17 rfl (F.chain_Chain_int_Prune_ok H)) rfl rfl ?_
                                rintro _ h82 ⟨r83, rfl, H⟩
                                refine tr_p (y_move rfl) rfl rfl ?_
                                refine tr_p (y_move rfl) rfl rfl ?_
                                refine tr_e (e_call Try.call17 rfl (F.chain_Chain_int_Prune_ok H)) rfl rfl ?_
                                rintro _ h84 ⟨r85, rfl, H⟩
                                refine tr_p (y_eql rfl rfl) rfl rfl ?_
                                refine tr_p (y_move rfl) rfl rfl ?_
                                refine tr_split (t := 176) rfl (fun g86 => ?_) (fun g86 => ?_)
                                · replace H := H.1 g86
                                  refine tr_p (y_move rfl) rfl rfl ?_
                                  refine tr_e (e_call Try.call25 rfl (F.spatelaw5_told_ok H)) rfl rfl ?_
                                  rintro _ h87 ⟨r88, rfl, H⟩
                                  refine tr_p (y_move rfl) rfl rfl ?_
                                  refine tr_e (e_call Try.call25 rfl (F.spatelaw5_told_ok H)) rfl rfl ?_
                                  rintro _ h89 ⟨r90, rfl, H⟩
                                  refine tr_e (e_call Try.call31 rfl (F.spatelaw5_even_ok H)) rfl rfl ?_
                                  rintro _ h91 ⟨r92, rfl, H⟩
                                  refine tr_p (y_pick_t rfl rfl) rfl rfl ?_
                                  refine tr_p (y_move rfl) rfl rfl ?_
                                  refine tr_split (t := 183) rfl (fun g93 => ?_) (fun g93 => ?_)
                                  · replace H := H.1 g93
                                    refine tr_p (y_move rfl) rfl rfl ?_
                                    refine tr_p (y_move rfl) rfl rfl ?_
                                    refine tr_e (e_call Try.call31 rfl (F.spatelaw5_even_ok H)) rfl rfl ?_
                                    rintro _ h94 ⟨r95, rfl, H⟩
                                    refine tr_p (y_pick_t rfl rfl) rfl rfl ?_
                                    refine tr_p (y_assign rfl) rfl rfl ?_
                                    refine tr_nil ?_
                                    refine tr_thenN ?_
                                    refine tr_ret ?_
                                    exact tr_ret1 rfl rfl ⟨_, rfl, H⟩
                                  · replace H := H.2 g93
                                    refine tr_s rfl rfl ?_
                                    refine tr_s rfl rfl ?_
                                    refine tr_s rfl rfl ?_
                                    refine tr_p (y_pick_f rfl rfl) rfl rfl ?_
                                    refine tr_p (y_assign rfl) rfl rfl ?_
                                    refine tr_nil ?_
                                    refine tr_thenN ?_
                                    refine tr_ret ?_
                                    exact tr_ret1 rfl rfl ⟨_, rfl, H⟩
                                · replace H := H.2 g86
                                  refine tr_s rfl rfl ?_
                                  refine tr_s rfl rfl ?_
                                  refine tr_s rfl rfl ?_
                                  refine tr_s rfl rfl ?_
                                  refine tr_s rfl rfl ?_
                                  refine tr_p (y_pick_f rfl rfl) rfl rfl ?_
                                  refine tr_p (y_move rfl) rfl rfl ?_
                                  refine tr_s rfl rfl ?_
                                  refine tr_s rfl rfl ?_
                                  refine tr_s rfl rfl ?_
                                  refine tr_p (y_pick_f rfl rfl) rfl rfl ?_
                                  refine tr_p (y_assign rfl) rfl rfl ?_
                                  refine tr_nil ?_
                                  refine tr_thenN ?_
                                  refine tr_ret ?_
                                  exact tr_ret1 rfl rfl ⟨_, rfl, H⟩
                            · refine tr_region ?_
                              refine tr_p (y_move rfl) rfl rfl ?_
                              refine tr_p (y_move rfl) rfl rfl ?_
                              refine tr_p (y_len (ts := #[]) Try.runUnderlying24 (o := x11.ptr) (n := x11.len) (cap := x11.cap) rfl) rfl rfl ?_
                              refine tr_p (y_lss rfl rfl) rfl rfl ?_
                              refine tr_p (y_move rfl) rfl rfl ?_
                              refine tr_split (t := 151) rfl (fun g96 => ?_) (fun g96 => ?_)
                              · replace H := H.1 g96
                                refine tr_p (y_move rfl) rfl rfl ?_
                                refine tr_p (y_move rfl) rfl rfl ?_
                                refine tr_p (y_len (ts := #[]) Try.runUnderlying24 (o := x2.ptr) (n := x2.len) (cap := x2.cap) rfl) rfl rfl ?_
                                refine tr_p (y_lss rfl rfl) rfl rfl ?_
                                refine tr_p (y_pick_t rfl rfl) rfl rfl ?_
                                refine tr_nil ?_
                                refine tr_thenN ?_
                                exact tr_join [(2, x2.enc), (7, (.pointer x7)), (8, (.pointer x8)), (11, x11.enc), (15, (.int .i64 x15)), (156, (.bool (decide (x15 < (x2.len : Int)))))] ⟨rfl, rfl, rfl, rfl, rfl, rfl, trivial⟩ ⟨_, _, _, _, _, _, rfl, H⟩
                              · replace H := H.2 g96
                                refine tr_s rfl rfl ?_
                                refine tr_s rfl rfl ?_
                                refine tr_s rfl rfl ?_
                                refine tr_s rfl rfl ?_
                                refine tr_p (y_pick_f rfl rfl) rfl rfl ?_
                                refine tr_nil ?_
                                refine tr_thenN ?_
                                exact tr_join [(2, x2.enc), (7, (.pointer x7)), (8, (.pointer x8)), (11, x11.enc), (15, (.int .i64 x15)), (156, (.bool false))] ⟨rfl, rfl, rfl, rfl, rfl, rfl, trivial⟩ ⟨_, _, _, _, _, _, rfl, H⟩
                      · refine tr_seq_j (fun L' h => ∃ (x2 : Sl) (x7 : Option Addr) (x8 : Option Addr) (x11 : Sl) (x146 : Bool), L' = [(2, x2.enc), (7, (.pointer x7)), (8, (.pointer x8)), (11, x11.enc), (146, (.bool x146))] ∧ F.spatelaw5_ChainBook.j15 Q x2 x7 x8 x11 x146 h) ?_ ?_
                        · rintro L' h ⟨x2, x7, x8, x11, x146, rfl, H⟩
                          unfold F.spatelaw5_ChainBook.j15 at H
                          refine tr_cond rfl (fun g98 => ?_) (fun g98 => ?_)
                          · replace H := H.1 g98
                            refine tr_seq ?_
                            refine tr_region ?_
                            refine tr_p (y_assign rfl) rfl rfl ?_
                            refine tr_nil ?_
                            refine tr_thenN ?_
                            refine tr_ret ?_
                            refine tr_thenR ?_
                            exact tr_ret1 rfl rfl ⟨_, rfl, H⟩
                          · replace H := H.2 g98
                            refine tr_skip ?_
                            refine tr_thenN ?_
                            exact tr_join [(2, x2.enc), (7, (.pointer x7)), (8, (.pointer x8)), (11, x11.enc)] ⟨rfl, rfl, rfl, rfl, trivial⟩ ⟨_, _, _, _, rfl, H⟩
                        · refine tr_region ?_
                          refine tr_p (y_move rfl) rfl rfl ?_
                          refine tr_p (y_move rfl) rfl rfl ?_
                          refine tr_e (f_buildL (cs := #[]) rfl rfl (bl_24_0_) H) rfl rfl ?_
                          rintro _ h99 ⟨s100, rfl, H⟩
                          refine tr_p (y_move rfl) rfl rfl ?_
                          refine tr_e (f_app rfl H) rfl rfl ?_
                          rintro _ h101 ⟨s102, rfl, H⟩
                          refine tr_e (e_call Try.call17 rfl (F.chain_Chain_int_Prune_ok H)) rfl rfl ?_
                          rintro _ h103 ⟨r104, rfl, H⟩
                          refine tr_p (y_neq rfl rfl) rfl rfl ?_
                          refine tr_p (y_move rfl) rfl rfl ?_
                          refine tr_split (t := 139) rfl (fun g105 => ?_) (fun g105 => ?_)
                          · replace H := H.1 g105
                            refine tr_s rfl rfl ?_
                            refine tr_s rfl rfl ?_
                            refine tr_s rfl rfl ?_
                            refine tr_s rfl rfl ?_
                            refine tr_s rfl rfl ?_
                            refine tr_s rfl rfl ?_
                            refine tr_p (y_pick_t rfl rfl) rfl rfl ?_
                            refine tr_nil ?_
                            refine tr_thenN ?_
                            exact tr_join [(2, x2.enc), (7, (.pointer x7)), (8, (.pointer x8)), (11, x11.enc), (146, (.bool true))] ⟨rfl, rfl, rfl, rfl, rfl, trivial⟩ ⟨_, _, _, _, _, rfl, H⟩
                          · replace H := H.2 g105
                            refine tr_p (y_move rfl) rfl rfl ?_
                            refine tr_e (e_call Try.call25 rfl (F.spatelaw5_told_ok H)) rfl rfl ?_
                            rintro _ h106 ⟨r107, rfl, H⟩
                            refine tr_p (y_move rfl) rfl rfl ?_
                            refine tr_e (e_call Try.call25 rfl (F.spatelaw5_told_ok H)) rfl rfl ?_
                            rintro _ h108 ⟨r109, rfl, H⟩
                            refine tr_e (e_call Try.call31 rfl (F.spatelaw5_even_ok H)) rfl rfl ?_
                            rintro _ h110 ⟨r111, rfl, H⟩
                            refine tr_p (y_not rfl) rfl rfl ?_
                            refine tr_p (y_pick_f rfl rfl) rfl rfl ?_
                            refine tr_nil ?_
                            refine tr_thenN ?_
                            exact tr_join [(2, x2.enc), (7, (.pointer x7)), (8, (.pointer x8)), (11, x11.enc), (146, (.bool (!r111)))] ⟨rfl, rfl, rfl, rfl, rfl, trivial⟩ ⟨_, _, _, _, _, rfl, H⟩
          · refine tr_region ?_
            refine tr_p (y_move rfl) rfl rfl ?_
            refine tr_p (y_move rfl) rfl rfl ?_
            refine tr_p (y_len (ts := #[]) Try.runUnderlying24 (o := x0.ptr) (n := x0.len) (cap := x0.cap) rfl) rfl rfl ?_
            refine tr_p (y_lss rfl rfl) rfl rfl ?_
            refine tr_p (y_move rfl) rfl rfl ?_
            refine tr_split (t := 33) rfl (fun g114 => ?_) (fun g114 => ?_)
            · replace H := H.1 g114
              refine tr_p (y_move rfl) rfl rfl ?_
              refine tr_p (y_lss rfl rfl) rfl rfl ?_
              refine tr_p (y_pick_t rfl rfl) rfl rfl ?_
              refine tr_nil ?_
              refine tr_thenN ?_
              exact tr_join [(0, x0.enc), (1, x1.enc), (2, x2.enc), (7, (.pointer x7)), (8, (.pointer x8)), (9, (.int .i64 x9)), (10, (.int .i64 x10)), (36, (.bool (decide (x10 < 200))))] ⟨rfl, rfl, rfl, rfl, rfl, rfl, rfl, rfl, trivial⟩ ⟨_, _, _, _, _, _, _, _, rfl, H⟩
            · replace H := H.2 g114
              refine tr_s rfl rfl ?_
              refine tr_s rfl rfl ?_
              refine tr_p (y_pick_f rfl rfl) rfl rfl ?_
              refine tr_nil ?_
              refine tr_thenN ?_
              exact tr_join [(0, x0.enc), (1, x1.enc), (2, x2.enc), (7, (.pointer x7)), (8, (.pointer x8)), (9, (.int .i64 x9)), (10, (.int .i64 x10)), (36, (.bool false))] ⟨rfl, rfl, rfl, rfl, rfl, rfl, rfl, rfl, trivial⟩ ⟨_, _, _, _, _, _, _, _, rfl, H⟩
    · refine tr_seq_j (fun L' h => ∃ (x0 : Sl) (x1 : Sl) (x2 : Sl) (x26 : Bool), L' = [(0, x0.enc), (1, x1.enc), (2, x2.enc), (26, (.bool x26))] ∧ F.spatelaw5_ChainBook.j16 Q x0 x1 x2 x26 h) ?_ ?_
      · rintro L' h ⟨x0, x1, x2, x26, rfl, H⟩
        unfold F.spatelaw5_ChainBook.j16 at H
        refine tr_cond rfl (fun g116 => ?_) (fun g116 => ?_)
        · replace H := H.1 g116
          refine tr_seq ?_
          refine tr_region ?_
          refine tr_p (y_assign rfl) rfl rfl ?_
          refine tr_nil ?_
          refine tr_thenN ?_
          refine tr_ret ?_
          refine tr_thenR ?_
          exact tr_ret1 rfl rfl ⟨_, rfl, H⟩
        · replace H := H.2 g116
          refine tr_skip ?_
          refine tr_thenN ?_
          exact tr_join [(0, x0.enc), (1, x1.enc), (2, x2.enc)] ⟨rfl, rfl, rfl, trivial⟩ ⟨_, _, _, rfl, H⟩
      · refine tr_region ?_
        refine tr_p (y_move rfl) rfl rfl ?_
        refine tr_p (y_len (ts := #[]) Try.runUnderlying24 (o := p1.ptr) (n := p1.len) (cap := p1.cap) rfl) rfl rfl ?_
        refine tr_p (y_gtr rfl rfl) rfl rfl ?_
        refine tr_p (y_move rfl) rfl rfl ?_
        refine tr_split (t := 22) rfl (fun g117 => ?_) (fun g117 => ?_)
        · replace H := H.1 g117
          refine tr_s rfl rfl ?_
          refine tr_s rfl rfl ?_
          refine tr_s rfl rfl ?_
          refine tr_p (y_pick_t rfl rfl) rfl rfl ?_
          refine tr_nil ?_
          refine tr_thenN ?_
          exact tr_join [(0, p0.enc), (1, p1.enc), (2, p2.enc), (26, (.bool true))] ⟨rfl, rfl, rfl, rfl, trivial⟩ ⟨_, _, _, _, rfl, H⟩
        · replace H := H.2 g117
          refine tr_p (y_move rfl) rfl rfl ?_
          refine tr_p (y_len (ts := #[]) Try.runUnderlying24 (o := p2.ptr) (n := p2.len) (cap := p2.cap) rfl) rfl rfl ?_
          refine tr_p (y_gtr rfl rfl) rfl rfl ?_
          refine tr_p (y_pick_f rfl rfl) rfl rfl ?_
          refine tr_nil ?_
          refine tr_thenN ?_
          exact tr_join [(0, p0.enc), (1, p1.enc), (2, p2.enc), (26, (.bool (decide ((p2.len : Int) > 300))))] ⟨rfl, rfl, rfl, rfl, trivial⟩ ⟨_, _, _, _, rfl, H⟩

/-- spate/chain.New[spate/spatelaw5.Wide] -/
def F.chain_New_spatelaw5_Wide  (h : H) (Q : (Option Addr) → H → Prop) : Prop :=
  new h ((⟨(⟨none, 0, 0⟩ : Sl)⟩ : S_chain_Chain_spatelaw5_Wide).cells.toArray) ty_86 fun a2 h1 =>
  Q (some a2) h1
theorem F.chain_New_spatelaw5_Wide_ok  {h : H} {Q : (Option Addr) → H → Prop} (H : F.chain_New_spatelaw5_Wide  h Q) : Fn PP 32 ([] : List Value).toArray h fun r h' => ∃ r0, r = (.pointer r0) ∧ Q r0 h' := by
  unfold F.chain_New_spatelaw5_Wide at H
  refine fn_of Try.func32 Try.ntmps32 rfl rfl fun w0 => ?_
  refine tr_sub [] trivial ?_
  refine tr_seq ?_
  refine tr_region ?_
  refine tr_p (y_assign rfl) rfl rfl ?_
  refine tr_nil ?_
  refine tr_thenN ?_
  refine tr_seq ?_
  refine tr_region ?_
  refine tr_p (f_build rfl (bd_86_ )) rfl rfl ?_
  refine tr_e (f_box (cs := (⟨(⟨none, 0, 0⟩ : Sl)⟩ : S_chain_Chain_spatelaw5_Wide).cells.toArray) rfl rfl H) rfl rfl ?_
  rintro _ h1 ⟨a2, rfl, H⟩
  refine tr_p (y_assign rfl) rfl rfl ?_
  refine tr_nil ?_
  refine tr_thenN ?_
  refine tr_ret ?_
  exact tr_ret1 rfl rfl ⟨_, rfl, H⟩

/-- spate/spatelaw5.wide -/
def F.spatelaw5_wide (p0 : Int) (h : H) (Q : S_spatelaw5_Wide → H → Prop) : Prop :=
  new h (((⟨0, (⟨#[]⟩ : ByteArray)⟩ : S_spatelaw5_Wide) : S_spatelaw5_Wide).cells.toArray) ty_60 fun a2 h1 =>
  0 ≤ (8 : Int) ∧
  newL h1 #[(.int .u8 (IntKind.wrap .u8 p0)), (.int .u8 (IntKind.wrap .u8 (Int.fdiv p0 (2 ^ (min (8 : Int).toNat (IntKind.bits .i64)) : Int))))] ty_5 2 fun s5 h4 =>
  runT PP (convert 108 9 s5.enc) h4 fun s7 h6 =>
  stH h6 a2 ((⟨p0, s7⟩ : S_spatelaw5_Wide).cells) fun h8 =>
  ld_S_spatelaw5_Wide h8 a2 fun y9 =>
  Q y9 h8
theorem F.spatelaw5_wide_ok {p0 : Int} {h : H} {Q : S_spatelaw5_Wide → H → Prop} (H : F.spatelaw5_wide p0 h Q) : Fn PP 62 ([(.int .i64 p0)] : List Value).toArray h fun r h' => ∃ r0, r = (.agg r0.cells.toArray) ∧ Q r0 h' := by
  unfold F.spatelaw5_wide at H
  refine fn_of Try.func62 Try.ntmps62 rfl rfl fun w0 => ?_
  refine tr_sub [(0, (.int .i64 p0))] ⟨rfl, trivial⟩ ?_
  refine tr_seq ?_
  refine tr_region ?_
  refine tr_e (f_alloc (cs := ((⟨0, (⟨#[]⟩ : ByteArray)⟩ : S_spatelaw5_Wide) : S_spatelaw5_Wide).cells.toArray) Try.zeroValue60 rfl H) rfl rfl ?_
  rintro _ h1 ⟨a2, rfl, H⟩
  refine tr_nil ?_
  refine tr_thenN ?_
  refine tr_seq ?_
  refine tr_region ?_
  refine tr_p (y_move rfl) rfl rfl ?_
  refine tr_p (y_move rfl) rfl rfl ?_
  refine tr_p (y_cvt Try.runUnderlying3 Try.runUnderlying5 rfl) rfl rfl ?_
  refine tr_p (y_move rfl) rfl rfl ?_
  obtain ⟨e3, H⟩ := H
  refine tr_p (y_shr rfl rfl e3) rfl rfl ?_
  refine tr_p (y_cvt Try.runUnderlying3 Try.runUnderlying5 rfl) rfl rfl ?_
  refine tr_e (f_buildL (cs := #[(.int .u8 (IntKind.wrap .u8 p0)), (.int .u8 (IntKind.wrap .u8 (Int.fdiv p0 (2 ^ (min (8 : Int).toNat (IntKind.bits .i64)) : Int))))]) rfl rfl (bl_108_2_0_1 (IntKind.wrap .u8 p0) (IntKind.wrap .u8 (Int.fdiv p0 (2 ^ (min (8 : Int).toNat (IntKind.bits .i64)) : Int)))) H) rfl rfl ?_
  rintro _ h4 ⟨s5, rfl, H⟩
  refine tr_e (f_cvtT rfl H) rfl rfl ?_
  rintro _ h6 ⟨s7, rfl, H⟩
  refine tr_p (f_build rfl (bd_60_0_1 p0 s7)) rfl rfl ?_
  refine tr_e (f_store (vs := (⟨p0, s7⟩ : S_spatelaw5_Wide).cells) Try.sizeOf60 rfl rfl cellsOfStruct rfl (by intro v hv; exact ones_S_spatelaw5_Wide _ v hv) H) rfl rfl ?_
  rintro _ h8 ⟨rfl, H⟩
  refine tr_nil ?_
  refine tr_thenN ?_
  refine tr_ret ?_
  obtain ⟨y9, k10, H⟩ := H
  exact tr_rv1 rfl (rv_cellS Try.isAgg60 Try.sizeOf60 rfl rfl k10) ⟨_, rfl, H⟩

def F.chain_Chain_spatelaw5_Wide_may.j2 (Q : Int → H → Prop) (x12 : Bool) (h : H) : Prop :=
  (x12 = true →
  Q 32 h) ∧
  (x12 = false →
  Q 0 h)
def F.chain_Chain_spatelaw5_Wide_may.j1 (Q : Int → H → Prop) (x0 : Option Addr) (x1 : Int) (x5 : Bool) (h : H) : Prop :=
  (x5 = true →
  Q 1 h) ∧
  (x5 = false →
  nn x0 fun a3 =>
  ldL h (a3.add 0) fun y5 =>
  ((decide ((y5.len : Int) > 0)) = true →
  nn x0 fun a8 =>
  ldL h (a8.add 0) fun y10 =>
  nn x0 fun a12 =>
  ldL h (a12.add 0) fun y14 =>
  idxA y10 (IntKind.wrap .i64 ((y14.len : Int) - 1)) 4 fun a16 =>
  ldI .i64 h (a16.add 0) fun y18 =>
  F.chain_Chain_spatelaw5_Wide_may.j2 Q (decide (x1 < y18)) h) ∧
  ((decide ((y5.len : Int) > 0)) = false →
  F.chain_Chain_spatelaw5_Wide_may.j2 Q false h))
/-- (*spate/chain.Chain[spate/spatelaw5.Wide]).may -/
def F.chain_Chain_spatelaw5_Wide_may (p0 : Option Addr) (p1 : Int) (h : H) (Q : Int → H → Prop) : Prop :=
  ((decide (p1 < 1)) = true →
  F.chain_Chain_spatelaw5_Wide_may.j1 Q p0 p1 true h) ∧
  ((decide (p1 < 1)) = false →
  F.chain_Chain_spatelaw5_Wide_may.j1 Q p0 p1 (decide (p1 > 1099511627776)) h)
theorem F.chain_Chain_spatelaw5_Wide_may_ok {p0 : Option Addr} {p1 : Int} {h : H} {Q : Int → H → Prop} (H : F.chain_Chain_spatelaw5_Wide_may p0 p1 h Q) : Fn PP 71 ([(.pointer p0), (.int .i64 p1)] : List Value).toArray h fun r h' => ∃ r0, r = (.int .i64 r0) ∧ Q r0 h' := by
  unfold F.chain_Chain_spatelaw5_Wide_may at H
  refine fn_of Try.func71 Try.ntmps71 rfl rfl fun w0 => ?_
  refine tr_sub [(0, (.pointer p0)), (1, (.int .i64 p1))] ⟨rfl, rfl, trivial⟩ ?_
  refine tr_seq ?_
  refine tr_region ?_
  refine tr_p (y_assign rfl) rfl rfl ?_
  refine tr_nil ?_
  refine tr_thenN ?_
  refine tr_seq ?_
  refine tr_block ?_
  refine tr_seq_j (fun L' h => ∃ (x0 : Option Addr) (x1 : Int) (x5 : Bool), L' = [(0, (.pointer x0)), (1, (.int .i64 x1)), (5, (.bool x5))] ∧ F.chain_Chain_spatelaw5_Wide_may.j1 Q x0 x1 x5 h) ?_ ?_
  · rintro L' h ⟨x0, x1, x5, rfl, H⟩
    unfold F.chain_Chain_spatelaw5_Wide_may.j1 at H
    refine tr_cond rfl (fun g1 => ?_) (fun g1 => ?_)
    · replace H := H.1 g1
      refine tr_seq ?_
      refine tr_region ?_
      refine tr_p (y_assign rfl) rfl rfl ?_
      refine tr_nil ?_
      refine tr_thenN ?_
      refine tr_ret ?_
      refine tr_blockR ?_
      refine tr_thenR ?_
      exact tr_ret1 rfl rfl ⟨_, rfl, H⟩
    · replace H := H.2 g1
      refine tr_seq_j (fun L' h => ∃ (x12 : Bool), L' = [(12, (.bool x12))] ∧ F.chain_Chain_spatelaw5_Wide_may.j2 Q x12 h) ?_ ?_
      · rintro L' h ⟨x12, rfl, H⟩
        unfold F.chain_Chain_spatelaw5_Wide_may.j2 at H
        refine tr_cond rfl (fun g2 => ?_) (fun g2 => ?_)
        · replace H := H.1 g2
          refine tr_seq ?_
          refine tr_region ?_
          refine tr_p (y_assign rfl) rfl rfl ?_
          refine tr_nil ?_
          refine tr_thenN ?_
          refine tr_ret ?_
          refine tr_blockR ?_
          refine tr_thenR ?_
          exact tr_ret1 rfl rfl ⟨_, rfl, H⟩
        · replace H := H.2 g2
          refine tr_skip ?_
          refine tr_blockN ?_
          refine tr_thenN ?_
          refine tr_seq ?_
          refine tr_region ?_
          refine tr_p (y_assign rfl) rfl rfl ?_
          refine tr_nil ?_
          refine tr_thenN ?_
          refine tr_ret ?_
          exact tr_ret1 rfl rfl ⟨_, rfl, H⟩
      · refine tr_draw mixed [0, 1, 3, 7, 15, 31, 63, 127, 127, 383, 895, 1919, 127, 4223, 12415, 28799, 61567, 127103, 262015, 524159, 1048447, 2097151, 4194303, 8388607] (by kernel_rfl) ?_
        refine g_p 0 1 rfl (by kernel_rfl) (y_move rfl) rfl rfl ?_
        obtain ⟨a3, e4, H⟩ := H
        refine g_p 1 3 rfl (by kernel_rfl) (f_nn rfl e4) rfl rfl ?_
        refine g_p 2 7 rfl (by kernel_rfl) (y_fa (off := 0) Try.runUnderlying86 fo_86_0 rfl) rfl rfl ?_
        obtain ⟨y5, k6, H⟩ := H
        refine g_h 3 15 rfl (by kernel_rfl) (y_ld Try.isAgg84 rfl) k6 rfl rfl ?_
        refine g_p 4 31 rfl (by kernel_rfl) (y_len (ts := #[]) Try.runUnderlying84 (o := y5.ptr) (n := y5.len) (cap := y5.cap) rfl) rfl rfl ?_
        refine g_p 5 63 rfl (by kernel_rfl) (y_gtr rfl rfl) rfl rfl ?_
        refine g_p 6 127 rfl (by kernel_rfl) (y_move rfl) rfl rfl ?_
        refine g_split (t := 19) rfl (fun g7 => ?_) (fun g7 => ?_)
        · replace H := H.1 g7
          refine g_p 7 255 rfl (by kernel_rfl) (y_move rfl) rfl rfl ?_
          refine g_p 8 511 rfl (by kernel_rfl) (y_move rfl) rfl rfl ?_
          obtain ⟨a8, e9, H⟩ := H
          refine g_p 9 1023 rfl (by kernel_rfl) (f_nn rfl e9) rfl rfl ?_
          refine g_p 10 2047 rfl (by kernel_rfl) (y_fa (off := 0) Try.runUnderlying86 fo_86_0 rfl) rfl rfl ?_
          obtain ⟨y10, k11, H⟩ := H
          refine g_h 11 4095 rfl (by kernel_rfl) (y_ld Try.isAgg84 rfl) k11 rfl rfl ?_
          refine g_p 12 8191 rfl (by kernel_rfl) (y_move rfl) rfl rfl ?_
          obtain ⟨a12, e13, H⟩ := H
          refine g_p 13 16383 rfl (by kernel_rfl) (f_nn rfl e13) rfl rfl ?_
          refine g_p 14 32767 rfl (by kernel_rfl) (y_fa (off := 0) Try.runUnderlying86 fo_86_0 rfl) rfl rfl ?_
          obtain ⟨y14, k15, H⟩ := H
          refine g_h 15 65535 rfl (by kernel_rfl) (y_ld Try.isAgg84 rfl) k15 rfl rfl ?_
          refine g_p 16 131071 rfl (by kernel_rfl) (y_len (ts := #[]) Try.runUnderlying84 (o := y14.ptr) (n := y14.len) (cap := y14.cap) rfl) rfl rfl ?_
          refine g_p 17 262143 rfl (by kernel_rfl) (y_sub rfl rfl) rfl rfl ?_
          obtain ⟨a16, e17, H⟩ := H
          refine g_p 18 524287 rfl (by kernel_rfl) (f_idx (s := y10) Try.runUnderlying84 Try.sizeOf103 rfl rfl e17) rfl rfl ?_
          refine g_p 19 1048575 rfl (by kernel_rfl) (y_fa (off := 0) Try.runUnderlying103 fo_103_0 rfl) rfl rfl ?_
          obtain ⟨y18, k19, H⟩ := H
          refine g_h 20 2097151 rfl (by kernel_rfl) (y_ld Try.isAgg3 rfl) k19 rfl rfl ?_
          refine g_p 21 4194303 rfl (by kernel_rfl) (y_lss rfl rfl) rfl rfl ?_
          refine g_p 22 8388607 rfl (by kernel_rfl) (y_pick_t rfl rfl) rfl rfl ?_
          refine g_p 23 16777215 rfl (by kernel_rfl) (y_assign rfl) rfl rfl ?_
          refine g_d (by kernel_rfl) ?_
          refine tr_thenN ?_
          exact tr_join [(12, (.bool (decide (x1 < y18))))] ⟨rfl, trivial⟩ ⟨_, rfl, H⟩
        · replace H := H.2 g7
          refine g_s 7 255 rfl (by kernel_rfl) rfl rfl ?_
          refine g_s 8 511 rfl (by kernel_rfl) rfl rfl ?_
          refine g_s 9 1023 rfl (by kernel_rfl) rfl rfl ?_
          refine g_s 10 2047 rfl (by kernel_rfl) rfl rfl ?_
          refine g_s 11 4095 rfl (by kernel_rfl) rfl rfl ?_
          refine g_s 12 8191 rfl (by kernel_rfl) rfl rfl ?_
          refine g_s 13 16383 rfl (by kernel_rfl) rfl rfl ?_
          refine g_s 14 32767 rfl (by kernel_rfl) rfl rfl ?_
          refine g_s 15 65535 rfl (by kernel_rfl) rfl rfl ?_
          refine g_s 16 131071 rfl (by kernel_rfl) rfl rfl ?_
          refine g_s 17 262143 rfl (by kernel_rfl) rfl rfl ?_
          refine g_s 18 524287 rfl (by kernel_rfl) rfl rfl ?_
          refine g_s 19 1048575 rfl (by kernel_rfl) rfl rfl ?_
          refine g_s 20 2097151 rfl (by kernel_rfl) rfl rfl ?_
          refine g_s 21 4194303 rfl (by kernel_rfl) rfl rfl ?_
          refine g_p 22 8388607 rfl (by kernel_rfl) (y_pick_f rfl rfl) rfl rfl ?_
          refine g_p 23 16777215 rfl (by kernel_rfl) (y_assign rfl) rfl rfl ?_
          refine g_d (by kernel_rfl) ?_
          refine tr_thenN ?_
          exact tr_join [(12, (.bool false))] ⟨rfl, trivial⟩ ⟨_, rfl, H⟩
  · refine tr_region ?_
    refine tr_p (y_move rfl) rfl rfl ?_
    refine tr_p (y_lss rfl rfl) rfl rfl ?_
    refine tr_p (y_move rfl) rfl rfl ?_
    refine tr_split (t := 8) rfl (fun g20 => ?_) (fun g20 => ?_)
    · replace H := H.1 g20
      refine tr_s rfl rfl ?_
      refine tr_s rfl rfl ?_
      refine tr_p (y_pick_t rfl rfl) rfl rfl ?_
      refine tr_p (y_assign rfl) rfl rfl ?_
      refine tr_nil ?_
      refine tr_thenN ?_
      exact tr_join [(0, (.pointer p0)), (1, (.int .i64 p1)), (5, (.bool true))] ⟨rfl, rfl, rfl, trivial⟩ ⟨_, _, _, rfl, H⟩
    · replace H := H.2 g20
      refine tr_p (y_move rfl) rfl rfl ?_
      refine tr_p (y_gtr rfl rfl) rfl rfl ?_
      refine tr_p (y_pick_f rfl rfl) rfl rfl ?_
      refine tr_p (y_assign rfl) rfl rfl ?_
      refine tr_nil ?_
      refine tr_thenN ?_
      exact tr_join [(0, (.pointer p0)), (1, (.int .i64 p1)), (5, (.bool (decide (p1 > 1099511627776))))] ⟨rfl, rfl, rfl, trivial⟩ ⟨_, _, _, rfl, H⟩

def F.chain_Chain_spatelaw5_Wide_lay.j1 (Q : Int → H → Prop) (x0 : Option Addr) (x3 : Addr) (h : H) : Prop :=
  nn x0 fun a3 =>
  ldL h (a3.add 0) fun y5 =>
  ld_S_chain_version_spatelaw5_Wide h x3 fun y7 =>
  newL h ((y7.cells).toArray) ty_103 1 fun s10 h9 =>
  cellH h9 (a3.add 0) = some y5.enc ∧
  runL PP (Builtin.append_ #[84, 84] 84 #[y5.enc, s10.enc]) h9 fun s13 h12 =>
  nn x0 fun a14 =>
  stH h12 (a14.add 0) [s13.enc] fun h16 =>
  Q 1 h16
def F.chain_Chain_spatelaw5_Wide_lay.j2 (Q : Int → H → Prop) (x0 : Option Addr) (x3 : Addr) (x5 : Int) (x26 : Bool) (h : H) : Prop :=
  (x26 = true →
  nn x0 fun a22 =>
  ldL h (a22.add 0) fun y24 =>
  ld_S_chain_version_spatelaw5_Wide h x3 fun y26 =>
  idxA y24 (IntKind.wrap .i64 (x5 - 1)) 4 fun a28 =>
  stH h a28 y26.cells fun h30 =>
  Q 0 h30) ∧
  (x26 = false →
  F.chain_Chain_spatelaw5_Wide_lay.j1 Q x0 x3 h)
/-- (*spate/chain.Chain[spate/spatelaw5.Wide]).lay -/
def F.chain_Chain_spatelaw5_Wide_lay (p0 : Option Addr) (p1 : S_chain_version_spatelaw5_Wide) (h : H) (Q : Int → H → Prop) : Prop :=
  new h p1.cells.toArray ty_103 fun a2 h1 =>
  nn p0 fun a17 =>
  ldL h1 (a17.add 0) fun y19 =>
  ((decide ((y19.len : Int) > 0)) = true →
  nn p0 fun a32 =>
  ldL h1 (a32.add 0) fun y34 =>
  idxA y34 (IntKind.wrap .i64 ((y19.len : Int) - 1)) 4 fun a36 =>
  ldI .i64 h1 (a36.add 0) fun y38 =>
  ldI .i64 h1 (a2.add 0) fun y40 =>
  F.chain_Chain_spatelaw5_Wide_lay.j2 Q p0 a2 (y19.len : Int) ((y38 == y40)) h1) ∧
  ((decide ((y19.len : Int) > 0)) = false →
  F.chain_Chain_spatelaw5_Wide_lay.j2 Q p0 a2 (y19.len : Int) false h1)
theorem F.chain_Chain_spatelaw5_Wide_lay_ok {p0 : Option Addr} {p1 : S_chain_version_spatelaw5_Wide} {h : H} {Q : Int → H → Prop} (H : F.chain_Chain_spatelaw5_Wide_lay p0 p1 h Q) : Fn PP 72 ([(.pointer p0), (.agg p1.cells.toArray)] : List Value).toArray h fun r h' => ∃ r0, r = (.int .i64 r0) ∧ Q r0 h' := by
  unfold F.chain_Chain_spatelaw5_Wide_lay at H
  refine fn_of Try.func72 Try.ntmps72 rfl rfl fun w0 => ?_
  refine tr_sub [(0, (.pointer p0)), (1, (.agg p1.cells.toArray))] ⟨rfl, rfl, trivial⟩ ?_
  refine tr_seq ?_
  refine tr_region ?_
  refine tr_e (f_box (cs := p1.cells.toArray) rfl rfl H) rfl rfl ?_
  rintro _ h1 ⟨a2, rfl, H⟩
  refine tr_p (y_assign rfl) rfl rfl ?_
  refine tr_nil ?_
  refine tr_thenN ?_
  refine tr_seq_j (fun L' h => ∃ (x0 : Option Addr) (x3 : Addr), L' = [(0, (.pointer x0)), (3, (.pointer (some x3)))] ∧ F.chain_Chain_spatelaw5_Wide_lay.j1 Q x0 x3 h) ?_ ?_
  · rintro L' h ⟨x0, x3, rfl, H⟩
    unfold F.chain_Chain_spatelaw5_Wide_lay.j1 at H
    refine tr_seq ?_
    refine tr_draw mixed [0, 0, 2, 6, 14, 0, 32, 126, 255, 511, 1023] (by kernel_rfl) ?_
    refine g_p 0 1 rfl (by kernel_rfl) (y_move rfl) rfl rfl ?_
    refine g_p 1 3 rfl (by kernel_rfl) (y_move rfl) rfl rfl ?_
    obtain ⟨a3, e4, H⟩ := H
    refine g_p 2 7 rfl (by kernel_rfl) (f_nn rfl e4) rfl rfl ?_
    refine g_p 3 15 rfl (by kernel_rfl) (y_fa (off := 0) Try.runUnderlying86 fo_86_0 rfl) rfl rfl ?_
    obtain ⟨y5, k6, H⟩ := H
    refine g_h 4 31 rfl (by kernel_rfl) (y_ld Try.isAgg84 rfl) k6 rfl rfl ?_
    obtain ⟨y7, k8, H⟩ := H
    refine g_h 5 63 rfl (by kernel_rfl) (y_ldS Try.isAgg103 Try.sizeOf103 rfl rfl) k8 rfl rfl ?_
    refine g_e 6 127 [(4, fun h => cellH h (a3.add 0) = some y5.enc)] (by kernel_rfl) rfl (by kernel_rfl) (f_buildL (cs := (y7.cells).toArray) rfl rfl (bl_84_1_0 y7) H) rfl rfl ?_
    rintro _ h9 ⟨s10, rfl, H⟩
    obtain ⟨k11, H⟩ := H
    refine ⟨And.intro k11 trivial, ?_⟩
    refine g_e 7 255 [] (by kernel_rfl) rfl (by kernel_rfl) (f_app rfl H) rfl rfl ?_
    rintro _ h12 ⟨s13, rfl, H⟩
    refine ⟨trivial, ?_⟩
    obtain ⟨a14, e15, H⟩ := H
    refine g_p 8 511 rfl (by kernel_rfl) (f_nn rfl e15) rfl rfl ?_
    refine g_p 9 1023 rfl (by kernel_rfl) (y_fa (off := 0) Try.runUnderlying86 fo_86_0 rfl) rfl rfl ?_
    refine g_e 10 2047 [] (by kernel_rfl) rfl (by kernel_rfl) (f_store (vs := [s13.enc]) Try.sizeOf84 rfl rfl rfl rfl (one1 rfl) H) rfl rfl ?_
    rintro _ h16 ⟨rfl, H⟩
    refine ⟨trivial, ?_⟩
    refine g_d (by kernel_rfl) ?_
    refine tr_thenN ?_
    refine tr_seq ?_
    refine tr_region ?_
    refine tr_p (y_assign rfl) rfl rfl ?_
    refine tr_nil ?_
    refine tr_thenN ?_
    refine tr_ret ?_
    exact tr_ret1 rfl rfl ⟨_, rfl, H⟩
  · refine tr_seq ?_
    refine tr_region ?_
    refine tr_p (y_move rfl) rfl rfl ?_
    obtain ⟨a17, e18, H⟩ := H
    refine tr_p (f_nn rfl e18) rfl rfl ?_
    refine tr_p (y_fa (off := 0) Try.runUnderlying86 fo_86_0 rfl) rfl rfl ?_
    obtain ⟨y19, k20, H⟩ := H
    refine tr_h (y_ld Try.isAgg84 rfl) k20 rfl rfl ?_
    refine tr_p (y_len (ts := #[]) Try.runUnderlying84 (o := y19.ptr) (n := y19.len) (cap := y19.cap) rfl) rfl rfl ?_
    refine tr_p (y_assign rfl) rfl rfl ?_
    refine tr_nil ?_
    refine tr_thenN ?_
    refine tr_seq_j (fun L' h => ∃ (x0 : Option Addr) (x3 : Addr) (x5 : Int) (x26 : Bool), L' = [(0, (.pointer x0)), (3, (.pointer (some x3))), (5, (.int .i64 x5)), (26, (.bool x26))] ∧ F.chain_Chain_spatelaw5_Wide_lay.j2 Q x0 x3 x5 x26 h) ?_ ?_
    · rintro L' h ⟨x0, x3, x5, x26, rfl, H⟩
      unfold F.chain_Chain_spatelaw5_Wide_lay.j2 at H
      refine tr_cond rfl (fun g21 => ?_) (fun g21 => ?_)
      · replace H := H.1 g21
        refine tr_seq ?_
        refine tr_draw mixed [0, 1, 3, 7, 0, 16, 0, 127, 255] (by kernel_rfl) ?_
        refine g_p 0 1 rfl (by kernel_rfl) (y_move rfl) rfl rfl ?_
        obtain ⟨a22, e23, H⟩ := H
        refine g_p 1 3 rfl (by kernel_rfl) (f_nn rfl e23) rfl rfl ?_
        refine g_p 2 7 rfl (by kernel_rfl) (y_fa (off := 0) Try.runUnderlying86 fo_86_0 rfl) rfl rfl ?_
        obtain ⟨y24, k25, H⟩ := H
        refine g_h 3 15 rfl (by kernel_rfl) (y_ld Try.isAgg84 rfl) k25 rfl rfl ?_
        refine g_p 4 31 rfl (by kernel_rfl) (y_move rfl) rfl rfl ?_
        refine g_p 5 63 rfl (by kernel_rfl) (y_sub rfl rfl) rfl rfl ?_
        obtain ⟨y26, k27, H⟩ := H
        refine g_h 6 127 rfl (by kernel_rfl) (y_ldS Try.isAgg103 Try.sizeOf103 rfl rfl) k27 rfl rfl ?_
        obtain ⟨a28, e29, H⟩ := H
        refine g_p 7 255 rfl (by kernel_rfl) (f_idx (s := y24) Try.runUnderlying84 Try.sizeOf103 rfl rfl e29) rfl rfl ?_
        refine g_e 8 511 [] (by kernel_rfl) rfl (by kernel_rfl) (f_store (vs := y26.cells) Try.sizeOf103 rfl rfl cellsOfStruct rfl (by intro v hv; exact ones_S_chain_version_spatelaw5_Wide _ v hv) H) rfl rfl ?_
        rintro _ h30 ⟨rfl, H⟩
        refine ⟨trivial, ?_⟩
        refine g_d (by kernel_rfl) ?_
        refine tr_thenN ?_
        refine tr_seq ?_
        refine tr_region ?_
        refine tr_p (y_assign rfl) rfl rfl ?_
        refine tr_nil ?_
        refine tr_thenN ?_
        refine tr_ret ?_
        refine tr_thenR ?_
        exact tr_ret1 rfl rfl ⟨_, rfl, H⟩
      · replace H := H.2 g21
        refine tr_skip ?_
        refine tr_thenN ?_
        exact tr_join [(0, (.pointer x0)), (3, (.pointer (some x3)))] ⟨rfl, rfl, trivial⟩ ⟨_, _, rfl, H⟩
    · refine tr_draw mixed [0, 1, 3, 7, 15, 31, 63, 7, 135, 511, 1023, 2047, 7, 4103, 16383, 32767] (by kernel_rfl) ?_
      refine g_p 0 1 rfl (by kernel_rfl) (y_move rfl) rfl rfl ?_
      refine g_p 1 3 rfl (by kernel_rfl) (y_gtr rfl rfl) rfl rfl ?_
      refine g_p 2 7 rfl (by kernel_rfl) (y_move rfl) rfl rfl ?_
      refine g_split (t := 13) rfl (fun g31 => ?_) (fun g31 => ?_)
      · replace H := H.1 g31
        refine g_p 3 15 rfl (by kernel_rfl) (y_move rfl) rfl rfl ?_
        obtain ⟨a32, e33, H⟩ := H
        refine g_p 4 31 rfl (by kernel_rfl) (f_nn rfl e33) rfl rfl ?_
        refine g_p 5 63 rfl (by kernel_rfl) (y_fa (off := 0) Try.runUnderlying86 fo_86_0 rfl) rfl rfl ?_
        obtain ⟨y34, k35, H⟩ := H
        refine g_h 6 127 rfl (by kernel_rfl) (y_ld Try.isAgg84 rfl) k35 rfl rfl ?_
        refine g_p 7 255 rfl (by kernel_rfl) (y_move rfl) rfl rfl ?_
        refine g_p 8 511 rfl (by kernel_rfl) (y_sub rfl rfl) rfl rfl ?_
        obtain ⟨a36, e37, H⟩ := H
        refine g_p 9 1023 rfl (by kernel_rfl) (f_idx (s := y34) Try.runUnderlying84 Try.sizeOf103 rfl rfl e37) rfl rfl ?_
        refine g_p 10 2047 rfl (by kernel_rfl) (y_fa (off := 0) Try.runUnderlying103 fo_103_0 rfl) rfl rfl ?_
        obtain ⟨y38, k39, H⟩ := H
        refine g_h 11 4095 rfl (by kernel_rfl) (y_ld Try.isAgg3 rfl) k39 rfl rfl ?_
        refine g_p 12 8191 rfl (by kernel_rfl) (y_fa (off := 0) Try.runUnderlying103 fo_103_0 rfl) rfl rfl ?_
        obtain ⟨y40, k41, H⟩ := H
        refine g_h 13 16383 rfl (by kernel_rfl) (y_ld Try.isAgg3 rfl) k41 rfl rfl ?_
        refine g_p 14 32767 rfl (by kernel_rfl) (y_eql rfl rfl) rfl rfl ?_
        refine g_p 15 65535 rfl (by kernel_rfl) (y_pick_t rfl rfl) rfl rfl ?_
        refine g_d (by kernel_rfl) ?_
        refine tr_thenN ?_
        exact tr_join [(0, (.pointer p0)), (3, (.pointer (some a2))), (5, (.int .i64 (y19.len : Int))), (26, (.bool ((y38 == y40))))] ⟨rfl, rfl, rfl, rfl, trivial⟩ ⟨_, _, _, _, rfl, H⟩
      · replace H := H.2 g31
        refine g_s 3 15 rfl (by kernel_rfl) rfl rfl ?_
        refine g_s 4 31 rfl (by kernel_rfl) rfl rfl ?_
        refine g_s 5 63 rfl (by kernel_rfl) rfl rfl ?_
        refine g_s 6 127 rfl (by kernel_rfl) rfl rfl ?_
        refine g_s 7 255 rfl (by kernel_rfl) rfl rfl ?_
        refine g_s 8 511 rfl (by kernel_rfl) rfl rfl ?_
        refine g_s 9 1023 rfl (by kernel_rfl) rfl rfl ?_
        refine g_s 10 2047 rfl (by kernel_rfl) rfl rfl ?_
        refine g_s 11 4095 rfl (by kernel_rfl) rfl rfl ?_
        refine g_s 12 8191 rfl (by kernel_rfl) rfl rfl ?_
        refine g_s 13 16383 rfl (by kernel_rfl) rfl rfl ?_
        refine g_s 14 32767 rfl (by kernel_rfl) rfl rfl ?_
        refine g_p 15 65535 rfl (by kernel_rfl) (y_pick_f rfl rfl) rfl rfl ?_
        refine g_d (by kernel_rfl) ?_
        refine tr_thenN ?_
        exact tr_join [(0, (.pointer p0)), (3, (.pointer (some a2))), (5, (.int .i64 (y19.len : Int))), (26, (.bool false))] ⟨rfl, rfl, rfl, rfl, trivial⟩ ⟨_, _, _, _, rfl, H⟩

/-- (*spate/chain.Chain[spate/spatelaw5.Wide]).Put -/
def F.chain_Chain_spatelaw5_Wide_Put (p0 : Option Addr) (p1 : Int) (p2 : S_spatelaw5_Wide) (h : H) (Q : Int → Int → H → Prop) : Prop :=
  new h p2.cells.toArray ty_60 fun a2 h1 =>
  F.chain_Chain_spatelaw5_Wide_may p0 p1 h1 fun r4 h3 =>
  (((r4 != 0)) = true →
  Q 0 r4 h3) ∧
  (((r4 != 0)) = false →
  ld_S_spatelaw5_Wide h3 a2 fun y6 =>
  F.chain_Chain_spatelaw5_Wide_lay p0 (⟨p1, y6, false⟩ : S_chain_version_spatelaw5_Wide) h3 fun r9 h8 =>
  Q r9 0 h8)
theorem F.chain_Chain_spatelaw5_Wide_Put_ok {p0 : Option Addr} {p1 : Int} {p2 : S_spatelaw5_Wide} {h : H} {Q : Int → Int → H → Prop} (H : F.chain_Chain_spatelaw5_Wide_Put p0 p1 p2 h Q) : Fn PP 61 ([(.pointer p0), (.int .i64 p1), (.agg p2.cells.toArray)] : List Value).toArray h fun r h' => ∃ r0 r1, r = .tuple #[(.int .i64 r0), (.int .i64 r1)] ∧ Q r0 r1 h' := by
  unfold F.chain_Chain_spatelaw5_Wide_Put at H
  refine fn_of Try.func61 Try.ntmps61 rfl rfl fun w0 => ?_
  refine tr_sub [(0, (.pointer p0)), (1, (.int .i64 p1)), (2, (.agg p2.cells.toArray))] ⟨rfl, rfl, rfl, trivial⟩ ?_
  refine tr_seq ?_
  refine tr_region ?_
  refine tr_e (f_box (cs := p2.cells.toArray) rfl rfl H) rfl rfl ?_
  rintro _ h1 ⟨a2, rfl, H⟩
  refine tr_p (y_assign rfl) rfl rfl ?_
  refine tr_p (y_assign rfl) rfl rfl ?_
  refine tr_nil ?_
  refine tr_thenN ?_
  refine tr_seq ?_
  refine tr_seq ?_
  refine tr_region ?_
  refine tr_p (y_move rfl) rfl rfl ?_
  refine tr_p (y_move rfl) rfl rfl ?_
  refine tr_e (e_call Try.call71 rfl (F.chain_Chain_spatelaw5_Wide_may_ok H)) rfl rfl ?_
  rintro _ h3 ⟨r4, rfl, H⟩
  refine tr_p (y_assign rfl) rfl rfl ?_
  refine tr_nil ?_
  refine tr_thenN ?_
  refine tr_seq ?_
  refine tr_region ?_
  refine tr_p (y_move rfl) rfl rfl ?_
  refine tr_p (y_neq rfl rfl) rfl rfl ?_
  refine tr_nil ?_
  refine tr_thenN ?_
  refine tr_cond rfl (fun g5 => ?_) (fun g5 => ?_)
  · replace H := H.1 g5
    refine tr_seq ?_
    refine tr_region ?_
    refine tr_p (y_move rfl) rfl rfl ?_
    refine tr_p (y_assign rfl) rfl rfl ?_
    refine tr_p (y_assign rfl) rfl rfl ?_
    refine tr_nil ?_
    refine tr_thenN ?_
    refine tr_ret ?_
    refine tr_thenR ?_
    exact tr_ret2 rfl rfl rfl ⟨_, _, rfl, H⟩
  · replace H := H.2 g5
    refine tr_skip ?_
    refine tr_thenN ?_
    refine tr_seq ?_
    refine tr_region ?_
    refine tr_p (y_move rfl) rfl rfl ?_
    refine tr_p (y_move rfl) rfl rfl ?_
    obtain ⟨y6, k7, H⟩ := H
    refine tr_h (y_ldS Try.isAgg60 Try.sizeOf60 rfl rfl) k7 rfl rfl ?_
    refine tr_p (f_build rfl (bd_103_0_1 p1 y6)) rfl rfl ?_
    refine tr_e (e_call Try.call72 rfl (F.chain_Chain_spatelaw5_Wide_lay_ok H)) rfl rfl ?_
    rintro _ h8 ⟨r9, rfl, H⟩
    refine tr_p (y_assign rfl) rfl rfl ?_
    refine tr_p (y_assign rfl) rfl rfl ?_
    refine tr_nil ?_
    refine tr_thenN ?_
    refine tr_ret ?_
    exact tr_ret2 rfl rfl rfl ⟨_, _, rfl, H⟩

/-- (*spate/spateref5.Chain).newest -/
def F.spateref5_Chain_newest (p0 : Option Addr) (h : H) (Q : S_spateref5_Version → H → Prop) : Prop :=
  new h (((⟨0, 0, false⟩ : S_spateref5_Version) : S_spateref5_Version).cells.toArray) ty_89 fun a2 h1 =>
  nn p0 fun a3 =>
  ldL h1 (a3.add 0) fun y5 =>
  ((((y5.len : Int) == 0)) = true →
  stH h1 a2 ((⟨0, 0, false⟩ : S_spateref5_Version).cells) fun h8 =>
  ld_S_spateref5_Version h8 a2 fun y9 =>
  Q y9 h8) ∧
  ((((y5.len : Int) == 0)) = false →
  nn p0 fun a11 =>
  ldL h1 (a11.add 0) fun y13 =>
  nn p0 fun a15 =>
  ldL h1 (a15.add 0) fun y17 =>
  idxA y13 (IntKind.wrap .i64 ((y17.len : Int) - 1)) 3 fun a19 =>
  ld_S_spateref5_Version h1 a19 fun y21 =>
  stH h1 a2 y21.cells fun h23 =>
  ld_S_spateref5_Version h23 a2 fun y24 =>
  Q y24 h23)
theorem F.spateref5_Chain_newest_ok {p0 : Option Addr} {h : H} {Q : S_spateref5_Version → H → Prop} (H : F.spateref5_Chain_newest p0 h Q) : Fn PP 70 ([(.pointer p0)] : List Value).toArray h fun r h' => ∃ r0, r = (.agg r0.cells.toArray) ∧ Q r0 h' := by
  unfold F.spateref5_Chain_newest at H
  refine fn_of Try.func70 Try.ntmps70 rfl rfl fun w0 => ?_
  refine tr_sub [(0, (.pointer p0))] ⟨rfl, trivial⟩ ?_
  refine tr_seq ?_
  refine tr_region ?_
  refine tr_e (f_alloc (cs := ((⟨0, 0, false⟩ : S_spateref5_Version) : S_spateref5_Version).cells.toArray) Try.zeroValue89 rfl H) rfl rfl ?_
  rintro _ h1 ⟨a2, rfl, H⟩
  refine tr_nil ?_
  refine tr_thenN ?_
  refine tr_seq ?_
  refine tr_seq ?_
  refine tr_region ?_
  refine tr_p (y_move rfl) rfl rfl ?_
  obtain ⟨a3, e4, H⟩ := H
  refine tr_p (f_nn rfl e4) rfl rfl ?_
  refine tr_p (y_fa (off := 0) Try.runUnderlying64 fo_64_0 rfl) rfl rfl ?_
  obtain ⟨y5, k6, H⟩ := H
  refine tr_h (y_ld Try.isAgg62 rfl) k6 rfl rfl ?_
  refine tr_p (y_len (ts := #[]) Try.runUnderlying62 (o := y5.ptr) (n := y5.len) (cap := y5.cap) rfl) rfl rfl ?_
  refine tr_p (y_eql rfl rfl) rfl rfl ?_
  refine tr_nil ?_
  refine tr_thenN ?_
  refine tr_cond rfl (fun g7 => ?_) (fun g7 => ?_)
  · replace H := H.1 g7
    refine tr_seq ?_
    refine tr_region ?_
    refine tr_p (f_build rfl (bd_89_ )) rfl rfl ?_
    refine tr_e (f_store (vs := (⟨0, 0, false⟩ : S_spateref5_Version).cells) Try.sizeOf89 rfl rfl cellsOfStruct rfl (by intro v hv; exact ones_S_spateref5_Version _ v hv) H) rfl rfl ?_
    rintro _ h8 ⟨rfl, H⟩
    refine tr_nil ?_
    refine tr_thenN ?_
    refine tr_ret ?_
    refine tr_thenR ?_
    obtain ⟨y9, k10, H⟩ := H
    exact tr_rv1 rfl (rv_cellS Try.isAgg89 Try.sizeOf89 rfl rfl k10) ⟨_, rfl, H⟩
  · replace H := H.2 g7
    refine tr_skip ?_
    refine tr_thenN ?_
    refine tr_seq ?_
    refine tr_draw mixed [0, 1, 3, 7, 0, 16, 48, 112, 240, 496, 1023, 2047, 4095] (by kernel_rfl) ?_
    refine g_p 0 1 rfl (by kernel_rfl) (y_move rfl) rfl rfl ?_
    obtain ⟨a11, e12, H⟩ := H
    refine g_p 1 3 rfl (by kernel_rfl) (f_nn rfl e12) rfl rfl ?_
    refine g_p 2 7 rfl (by kernel_rfl) (y_fa (off := 0) Try.runUnderlying64 fo_64_0 rfl) rfl rfl ?_
    obtain ⟨y13, k14, H⟩ := H
    refine g_h 3 15 rfl (by kernel_rfl) (y_ld Try.isAgg62 rfl) k14 rfl rfl ?_
    refine g_p 4 31 rfl (by kernel_rfl) (y_move rfl) rfl rfl ?_
    obtain ⟨a15, e16, H⟩ := H
    refine g_p 5 63 rfl (by kernel_rfl) (f_nn rfl e16) rfl rfl ?_
    refine g_p 6 127 rfl (by kernel_rfl) (y_fa (off := 0) Try.runUnderlying64 fo_64_0 rfl) rfl rfl ?_
    obtain ⟨y17, k18, H⟩ := H
    refine g_h 7 255 rfl (by kernel_rfl) (y_ld Try.isAgg62 rfl) k18 rfl rfl ?_
    refine g_p 8 511 rfl (by kernel_rfl) (y_len (ts := #[]) Try.runUnderlying62 (o := y17.ptr) (n := y17.len) (cap := y17.cap) rfl) rfl rfl ?_
    refine g_p 9 1023 rfl (by kernel_rfl) (y_sub rfl rfl) rfl rfl ?_
    obtain ⟨a19, e20, H⟩ := H
    refine g_p 10 2047 rfl (by kernel_rfl) (f_idx (s := y13) Try.runUnderlying62 Try.sizeOf89 rfl rfl e20) rfl rfl ?_
    obtain ⟨y21, k22, H⟩ := H
    refine g_h 11 4095 rfl (by kernel_rfl) (y_ldS Try.isAgg89 Try.sizeOf89 rfl rfl) k22 rfl rfl ?_
    refine g_e 12 8191 [] (by kernel_rfl) rfl (by kernel_rfl) (f_store (vs := y21.cells) Try.sizeOf89 rfl rfl cellsOfStruct rfl (by intro v hv; exact ones_S_spateref5_Version _ v hv) H) rfl rfl ?_
    rintro _ h23 ⟨rfl, H⟩
    refine ⟨trivial, ?_⟩
    refine g_d (by kernel_rfl) ?_
    refine tr_thenN ?_
    refine tr_ret ?_
    obtain ⟨y24, k25, H⟩ := H
    exact tr_rv1 rfl (rv_cellS Try.isAgg89 Try.sizeOf89 rfl rfl k25) ⟨_, rfl, H⟩

def F.spateref5_Chain_wrong.j1 (Q : Int → H → Prop) (x0 : Option Addr) (x1 : Int) (h : H) : Prop :=
  F.spateref5_Chain_newest x0 h fun r2 h1 =>
  ((decide (x1 < r2.Epoch)) = true →
  Q 32 h1) ∧
  ((decide (x1 < r2.Epoch)) = false →
  Q 0 h1)
def F.spateref5_Chain_wrong.j2 (Q : Int → H → Prop) (x0 : Option Addr) (x1 : Int) (x10 : Bool) (h : H) : Prop :=
  (x10 = true →
  Q 1 h) ∧
  (x10 = false →
  F.spateref5_Chain_wrong.j1 Q x0 x1 h)
/-- (*spate/spateref5.Chain).wrong -/
def F.spateref5_Chain_wrong (p0 : Option Addr) (p1 : Int) (h : H) (Q : Int → H → Prop) : Prop :=
  ((decide (p1 < 1)) = true →
  F.spateref5_Chain_wrong.j2 Q p0 p1 true h) ∧
  ((decide (p1 < 1)) = false →
  F.spateref5_Chain_wrong.j2 Q p0 p1 (decide (p1 > 1099511627776)) h)
theorem F.spateref5_Chain_wrong_ok {p0 : Option Addr} {p1 : Int} {h : H} {Q : Int → H → Prop} (H : F.spateref5_Chain_wrong p0 p1 h Q) : Fn PP 73 ([(.pointer p0), (.int .i64 p1)] : List Value).toArray h fun r h' => ∃ r0, r = (.int .i64 r0) ∧ Q r0 h' := by
  unfold F.spateref5_Chain_wrong at H
  refine fn_of Try.func73 Try.ntmps73 rfl rfl fun w0 => ?_
  refine tr_sub [(0, (.pointer p0)), (1, (.int .i64 p1))] ⟨rfl, rfl, trivial⟩ ?_
  refine tr_seq ?_
  refine tr_region ?_
  refine tr_p (y_assign rfl) rfl rfl ?_
  refine tr_nil ?_
  refine tr_thenN ?_
  refine tr_seq_j (fun L' h => ∃ (x0 : Option Addr) (x1 : Int), L' = [(0, (.pointer x0)), (1, (.int .i64 x1))] ∧ F.spateref5_Chain_wrong.j1 Q x0 x1 h) ?_ ?_
  · rintro L' h ⟨x0, x1, rfl, H⟩
    unfold F.spateref5_Chain_wrong.j1 at H
    refine tr_seq ?_
    refine tr_seq ?_
    refine tr_region ?_
    refine tr_p (y_move rfl) rfl rfl ?_
    refine tr_p (y_move rfl) rfl rfl ?_
    refine tr_e (e_call Try.call70 rfl (F.spateref5_Chain_newest_ok H)) rfl rfl ?_
    rintro _ h1 ⟨r2, rfl, H⟩
    refine tr_p (y_field (fl_89_0 r2) rfl) rfl rfl ?_
    refine tr_p (y_lss rfl rfl) rfl rfl ?_
    refine tr_nil ?_
    refine tr_thenN ?_
    refine tr_cond rfl (fun g3 => ?_) (fun g3 => ?_)
    · replace H := H.1 g3
      refine tr_seq ?_
      refine tr_region ?_
      refine tr_p (y_assign rfl) rfl rfl ?_
      refine tr_nil ?_
      refine tr_thenN ?_
      refine tr_ret ?_
      refine tr_thenR ?_
      exact tr_ret1 rfl rfl ⟨_, rfl, H⟩
    · replace H := H.2 g3
      refine tr_skip ?_
      refine tr_thenN ?_
      refine tr_seq ?_
      refine tr_region ?_
      refine tr_p (y_assign rfl) rfl rfl ?_
      refine tr_nil ?_
      refine tr_thenN ?_
      refine tr_ret ?_
      exact tr_ret1 rfl rfl ⟨_, rfl, H⟩
  · refine tr_seq_j (fun L' h => ∃ (x0 : Option Addr) (x1 : Int) (x10 : Bool), L' = [(0, (.pointer x0)), (1, (.int .i64 x1)), (10, (.bool x10))] ∧ F.spateref5_Chain_wrong.j2 Q x0 x1 x10 h) ?_ ?_
    · rintro L' h ⟨x0, x1, x10, rfl, H⟩
      unfold F.spateref5_Chain_wrong.j2 at H
      refine tr_cond rfl (fun g4 => ?_) (fun g4 => ?_)
      · replace H := H.1 g4
        refine tr_seq ?_
        refine tr_region ?_
        refine tr_p (y_assign rfl) rfl rfl ?_
        refine tr_nil ?_
        refine tr_thenN ?_
        refine tr_ret ?_
        refine tr_thenR ?_
        exact tr_ret1 rfl rfl ⟨_, rfl, H⟩
      · replace H := H.2 g4
        refine tr_skip ?_
        refine tr_thenN ?_
        exact tr_join [(0, (.pointer x0)), (1, (.int .i64 x1))] ⟨rfl, rfl, trivial⟩ ⟨_, _, rfl, H⟩
    · refine tr_region ?_
      refine tr_p (y_move rfl) rfl rfl ?_
      refine tr_p (y_lss rfl rfl) rfl rfl ?_
      refine tr_p (y_move rfl) rfl rfl ?_
      refine tr_split (t := 7) rfl (fun g5 => ?_) (fun g5 => ?_)
      · replace H := H.1 g5
        refine tr_s rfl rfl ?_
        refine tr_s rfl rfl ?_
        refine tr_p (y_pick_t rfl rfl) rfl rfl ?_
        refine tr_nil ?_
        refine tr_thenN ?_
        exact tr_join [(0, (.pointer p0)), (1, (.int .i64 p1)), (10, (.bool true))] ⟨rfl, rfl, rfl, trivial⟩ ⟨_, _, _, rfl, H⟩
      · replace H := H.2 g5
        refine tr_p (y_move rfl) rfl rfl ?_
        refine tr_p (y_gtr rfl rfl) rfl rfl ?_
        refine tr_p (y_pick_f rfl rfl) rfl rfl ?_
        refine tr_nil ?_
        refine tr_thenN ?_
        exact tr_join [(0, (.pointer p0)), (1, (.int .i64 p1)), (10, (.bool (decide (p1 > 1099511627776))))] ⟨rfl, rfl, rfl, trivial⟩ ⟨_, _, _, rfl, H⟩

/-- (*spate/spateref5.Chain).lay -/
def F.spateref5_Chain_lay (p0 : Option Addr) (p1 : S_spateref5_Version) (h : H) (Q : Int → H → Prop) : Prop :=
  new h p1.cells.toArray ty_89 fun a2 h1 =>
  ldI .i64 h1 (a2.add 0) fun y3 =>
  F.spateref5_Chain_newest p0 h1 fun r6 h5 =>
  cellH h5 (a2.add 0) = some (.int .i64 y3) ∧
  (((r6.Epoch == y3)) = true →
  nn p0 fun a9 =>
  ldL h5 (a9.add 0) fun y11 =>
  nn p0 fun a13 =>
  ldL h5 (a13.add 0) fun y15 =>
  ld_S_spateref5_Version h5 a2 fun y17 =>
  idxA y11 (IntKind.wrap .i64 ((y15.len : Int) - 1)) 3 fun a19 =>
  stH h5 a19 y17.cells fun h21 =>
  Q 0 h21) ∧
  (((r6.Epoch == y3)) = false →
  nn p0 fun a22 =>
  ldL h5 (a22.add 0) fun y24 =>
  ld_S_spateref5_Version h5 a2 fun y26 =>
  newL h5 ((y26.cells).toArray) ty_89 1 fun s29 h28 =>
  cellH h28 (a22.add 0) = some y24.enc ∧
  runL PP (Builtin.append_ #[62, 62] 62 #[y24.enc, s29.enc]) h28 fun s32 h31 =>
  nn p0 fun a33 =>
  stH h31 (a33.add 0) [s32.enc] fun h35 =>
  Q 1 h35)
theorem F.spateref5_Chain_lay_ok {p0 : Option Addr} {p1 : S_spateref5_Version} {h : H} {Q : Int → H → Prop} (H : F.spateref5_Chain_lay p0 p1 h Q) : Fn PP 74 ([(.pointer p0), (.agg p1.cells.toArray)] : List Value).toArray h fun r h' => ∃ r0, r = (.int .i64 r0) ∧ Q r0 h' := by
  unfold F.spateref5_Chain_lay at H
  refine fn_of Try.func74 Try.ntmps74 rfl rfl fun w0 => ?_
  refine tr_sub [(0, (.pointer p0)), (1, (.agg p1.cells.toArray))] ⟨rfl, rfl, trivial⟩ ?_
  refine tr_seq ?_
  refine tr_region ?_
  refine tr_e (f_box (cs := p1.cells.toArray) rfl rfl H) rfl rfl ?_
  rintro _ h1 ⟨a2, rfl, H⟩
  refine tr_p (y_assign rfl) rfl rfl ?_
  refine tr_nil ?_
  refine tr_thenN ?_
  refine tr_seq ?_
  refine tr_seq ?_
  refine tr_draw mixed [0, 1, 3, 0, 8, 31] (by kernel_rfl) ?_
  refine g_p 0 1 rfl (by kernel_rfl) (y_move rfl) rfl rfl ?_
  refine g_p 3 9 rfl (by kernel_rfl) (y_fa (off := 0) Try.runUnderlying89 fo_89_0 rfl) rfl rfl ?_
  obtain ⟨y3, k4, H⟩ := H
  refine g_h 4 25 rfl (by kernel_rfl) (y_ld Try.isAgg3 rfl) k4 rfl rfl ?_
  refine g_e 1 27 [(4, fun h => cellH h (a2.add 0) = some (.int .i64 y3))] (by kernel_rfl) rfl (by kernel_rfl) (e_call Try.call70 rfl (F.spateref5_Chain_newest_ok H)) rfl rfl ?_
  rintro _ h5 ⟨r6, rfl, H⟩
  obtain ⟨k7, H⟩ := H
  refine ⟨And.intro k7 trivial, ?_⟩
  refine g_p 2 31 rfl (by kernel_rfl) (y_field (fl_89_0 r6) rfl) rfl rfl ?_
  refine g_p 5 63 rfl (by kernel_rfl) (y_eql rfl rfl) rfl rfl ?_
  refine g_d (by kernel_rfl) ?_
  refine tr_thenN ?_
  refine tr_cond rfl (fun g8 => ?_) (fun g8 => ?_)
  · replace H := H.1 g8
    refine tr_seq ?_
    refine tr_draw mixed [0, 1, 3, 7, 0, 16, 48, 112, 240, 496, 0, 2047, 4095] (by kernel_rfl) ?_
    refine g_p 0 1 rfl (by kernel_rfl) (y_move rfl) rfl rfl ?_
    obtain ⟨a9, e10, H⟩ := H
    refine g_p 1 3 rfl (by kernel_rfl) (f_nn rfl e10) rfl rfl ?_
    refine g_p 2 7 rfl (by kernel_rfl) (y_fa (off := 0) Try.runUnderlying64 fo_64_0 rfl) rfl rfl ?_
    obtain ⟨y11, k12, H⟩ := H
    refine g_h 3 15 rfl (by kernel_rfl) (y_ld Try.isAgg62 rfl) k12 rfl rfl ?_
    refine g_p 4 31 rfl (by kernel_rfl) (y_move rfl) rfl rfl ?_
    obtain ⟨a13, e14, H⟩ := H
    refine g_p 5 63 rfl (by kernel_rfl) (f_nn rfl e14) rfl rfl ?_
    refine g_p 6 127 rfl (by kernel_rfl) (y_fa (off := 0) Try.runUnderlying64 fo_64_0 rfl) rfl rfl ?_
    obtain ⟨y15, k16, H⟩ := H
    refine g_h 7 255 rfl (by kernel_rfl) (y_ld Try.isAgg62 rfl) k16 rfl rfl ?_
    refine g_p 8 511 rfl (by kernel_rfl) (y_len (ts := #[]) Try.runUnderlying62 (o := y15.ptr) (n := y15.len) (cap := y15.cap) rfl) rfl rfl ?_
    refine g_p 9 1023 rfl (by kernel_rfl) (y_sub rfl rfl) rfl rfl ?_
    obtain ⟨y17, k18, H⟩ := H
    refine g_h 10 2047 rfl (by kernel_rfl) (y_ldS Try.isAgg89 Try.sizeOf89 rfl rfl) k18 rfl rfl ?_
    obtain ⟨a19, e20, H⟩ := H
    refine g_p 11 4095 rfl (by kernel_rfl) (f_idx (s := y11) Try.runUnderlying62 Try.sizeOf89 rfl rfl e20) rfl rfl ?_
    refine g_e 12 8191 [] (by kernel_rfl) rfl (by kernel_rfl) (f_store (vs := y17.cells) Try.sizeOf89 rfl rfl cellsOfStruct rfl (by intro v hv; exact ones_S_spateref5_Version _ v hv) H) rfl rfl ?_
    rintro _ h21 ⟨rfl, H⟩
    refine ⟨trivial, ?_⟩
    refine g_d (by kernel_rfl) ?_
    refine tr_thenN ?_
    refine tr_seq ?_
    refine tr_region ?_
    refine tr_p (y_assign rfl) rfl rfl ?_
    refine tr_nil ?_
    refine tr_thenN ?_
    refine tr_ret ?_
    refine tr_thenR ?_
    exact tr_ret1 rfl rfl ⟨_, rfl, H⟩
  · replace H := H.2 g8
    refine tr_skip ?_
    refine tr_thenN ?_
    refine tr_seq ?_
    refine tr_draw mixed [0, 0, 2, 6, 14, 0, 32, 126, 255, 511, 1023] (by kernel_rfl) ?_
    refine g_p 0 1 rfl (by kernel_rfl) (y_move rfl) rfl rfl ?_
    refine g_p 1 3 rfl (by kernel_rfl) (y_move rfl) rfl rfl ?_
    obtain ⟨a22, e23, H⟩ := H
    refine g_p 2 7 rfl (by kernel_rfl) (f_nn rfl e23) rfl rfl ?_
    refine g_p 3 15 rfl (by kernel_rfl) (y_fa (off := 0) Try.runUnderlying64 fo_64_0 rfl) rfl rfl ?_
    obtain ⟨y24, k25, H⟩ := H
    refine g_h 4 31 rfl (by kernel_rfl) (y_ld Try.isAgg62 rfl) k25 rfl rfl ?_
    obtain ⟨y26, k27, H⟩ := H
    refine g_h 5 63 rfl (by kernel_rfl) (y_ldS Try.isAgg89 Try.sizeOf89 rfl rfl) k27 rfl rfl ?_
    refine g_e 6 127 [(4, fun h => cellH h (a22.add 0) = some y24.enc)] (by kernel_rfl) rfl (by kernel_rfl) (f_buildL (cs := (y26.cells).toArray) rfl rfl (bl_62_1_0 y26) H) rfl rfl ?_
    rintro _ h28 ⟨s29, rfl, H⟩
    obtain ⟨k30, H⟩ := H
    refine ⟨And.intro k30 trivial, ?_⟩
    refine g_e 7 255 [] (by kernel_rfl) rfl (by kernel_rfl) (f_app rfl H) rfl rfl ?_
    rintro _ h31 ⟨s32, rfl, H⟩
    refine ⟨trivial, ?_⟩
    obtain ⟨a33, e34, H⟩ := H
    refine g_p 8 511 rfl (by kernel_rfl) (f_nn rfl e34) rfl rfl ?_
    refine g_p 9 1023 rfl (by kernel_rfl) (y_fa (off := 0) Try.runUnderlying64 fo_64_0 rfl) rfl rfl ?_
    refine g_e 10 2047 [] (by kernel_rfl) rfl (by kernel_rfl) (f_store (vs := [s32.enc]) Try.sizeOf62 rfl rfl rfl rfl (one1 rfl) H) rfl rfl ?_
    rintro _ h35 ⟨rfl, H⟩
    refine ⟨trivial, ?_⟩
    refine g_d (by kernel_rfl) ?_
    refine tr_thenN ?_
    refine tr_seq ?_
    refine tr_region ?_
    refine tr_p (y_assign rfl) rfl rfl ?_
    refine tr_nil ?_
    refine tr_thenN ?_
    refine tr_ret ?_
    exact tr_ret1 rfl rfl ⟨_, rfl, H⟩

/-- (*spate/spateref5.Chain).Put -/
def F.spateref5_Chain_Put (p0 : Option Addr) (p1 : Int) (p2 : Int) (h : H) (Q : Int → Int → H → Prop) : Prop :=
  F.spateref5_Chain_wrong p0 p1 h fun r2 h1 =>
  (((r2 != 0)) = true →
  Q 0 r2 h1) ∧
  (((r2 != 0)) = false →
  F.spateref5_Chain_lay p0 (⟨p1, p2, true⟩ : S_spateref5_Version) h1 fun r5 h4 =>
  Q r5 0 h4)
theorem F.spateref5_Chain_Put_ok {p0 : Option Addr} {p1 : Int} {p2 : Int} {h : H} {Q : Int → Int → H → Prop} (H : F.spateref5_Chain_Put p0 p1 p2 h Q) : Fn PP 63 ([(.pointer p0), (.int .i64 p1), (.int .i64 p2)] : List Value).toArray h fun r h' => ∃ r0 r1, r = .tuple #[(.int .i64 r0), (.int .i64 r1)] ∧ Q r0 r1 h' := by
  unfold F.spateref5_Chain_Put at H
  refine fn_of Try.func63 Try.ntmps63 rfl rfl fun w0 => ?_
  refine tr_sub [(0, (.pointer p0)), (1, (.int .i64 p1)), (2, (.int .i64 p2))] ⟨rfl, rfl, rfl, trivial⟩ ?_
  refine tr_seq ?_
  refine tr_region ?_
  refine tr_p (y_assign rfl) rfl rfl ?_
  refine tr_p (y_assign rfl) rfl rfl ?_
  refine tr_nil ?_
  refine tr_thenN ?_
  refine tr_seq ?_
  refine tr_region ?_
  refine tr_p (y_move rfl) rfl rfl ?_
  refine tr_p (y_move rfl) rfl rfl ?_
  refine tr_e (e_call Try.call73 rfl (F.spateref5_Chain_wrong_ok H)) rfl rfl ?_
  rintro _ h1 ⟨r2, rfl, H⟩
  refine tr_p (y_assign rfl) rfl rfl ?_
  refine tr_nil ?_
  refine tr_thenN ?_
  refine tr_seq ?_
  refine tr_seq ?_
  refine tr_region ?_
  refine tr_p (y_move rfl) rfl rfl ?_
  refine tr_p (y_neq rfl rfl) rfl rfl ?_
  refine tr_nil ?_
  refine tr_thenN ?_
  refine tr_cond rfl (fun g3 => ?_) (fun g3 => ?_)
  · replace H := H.1 g3
    refine tr_seq ?_
    refine tr_region ?_
    refine tr_p (y_move rfl) rfl rfl ?_
    refine tr_p (y_assign rfl) rfl rfl ?_
    refine tr_p (y_assign rfl) rfl rfl ?_
    refine tr_nil ?_
    refine tr_thenN ?_
    refine tr_ret ?_
    refine tr_thenR ?_
    exact tr_ret2 rfl rfl rfl ⟨_, _, rfl, H⟩
  · replace H := H.2 g3
    refine tr_skip ?_
    refine tr_thenN ?_
    refine tr_seq ?_
    refine tr_region ?_
    refine tr_p (y_move rfl) rfl rfl ?_
    refine tr_p (y_move rfl) rfl rfl ?_
    refine tr_p (y_move rfl) rfl rfl ?_
    refine tr_p (f_build rfl (bd_89_0_1_2 p1 p2 true)) rfl rfl ?_
    refine tr_e (e_call Try.call74 rfl (F.spateref5_Chain_lay_ok H)) rfl rfl ?_
    rintro _ h4 ⟨r5, rfl, H⟩
    refine tr_p (y_assign rfl) rfl rfl ?_
    refine tr_p (y_assign rfl) rfl rfl ?_
    refine tr_nil ?_
    refine tr_thenN ?_
    refine tr_ret ?_
    exact tr_ret2 rfl rfl rfl ⟨_, _, rfl, H⟩

end Go.Proofs.Ytapomjhjpejimaa.V
