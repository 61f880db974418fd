/- What Compare tells; the laws MergeKeys and MergeTurns answer true; no condition. -/
import Derived.Test.YtidpbnbjpglhfaaMi
namespace Go.Proofs.Ytidpbnbjpglhfaa.V
open Go
set_option linter.unusedVariables false
set_option linter.unusedSimpArgs false

/-! ### Texts in order -/
theorem cmpB_eq : ∀ (a b : List UInt8), Lib.compareBytes a b = if a = b then 0 else if Op.bytesLess a b then -1 else 1
  | [], [] => rfl
  | [], _ :: _ => rfl
  | _ :: _, [] => rfl
  | a :: ra, b :: rb => by
    rw [Lib.compareBytes, cmpB_eq ra rb, Op.bytesLess]
    by_cases h1 : a < b
    · have : a ≠ b := fun e => by subst e; exact absurd h1 (by simp)
      simp [h1, this]
    · by_cases h2 : b < a
      · have : a ≠ b := fun e => by subst e; exact absurd h2 (by simp)
        simp [h1, h2, this]
      · have : a = b := UInt8.le_antisymm (UInt8.not_lt.1 h2) (UInt8.not_lt.1 h1)
        subst this
        simp
def cmpI (x y : Int) : Int := if x < y then -1 else if x > y then 1 else 0
def cmpC (a b : Cel) : Int := if cmpI a.View b.View ≠ 0 then cmpI a.View b.View else if cmpM a.Key b.Key ≠ 0 then cmpM a.Key b.Key else cmpI a.Start b.Start
theorem cmpInt_spec {x y : Int} {h : H} {Q : Int → H → Prop} (k : Q (cmpI x y) h) : F.cmp_Compare_int x y h Q := by
  unfold F.cmp_Compare_int F.cmp_isNaN_int
  unfold cmpI at k
  simp only [bne_self_eq_false, Bool.false_eq_true, false_implies, true_implies, true_and, decide_eq_true_eq, decide_eq_false_iff_not]
  by_cases h1 : x < y
  · simp only [h1, if_true] at k; exact ⟨fun _ => k, fun g => absurd h1 g⟩
  · simp only [h1, if_false] at k
    by_cases h2 : x > y
    · simp only [h2, if_true] at k; exact ⟨fun g => absurd g h1, fun _ => ⟨fun _ => k, fun g => absurd h2 g⟩⟩
    · simp only [h2, if_false] at k; exact ⟨fun g => absurd g h1, fun _ => ⟨fun g => absurd g h2, fun _ => k⟩⟩
theorem cmpInt64_spec {x y : Int} {h : H} {Q : Int → H → Prop} (k : Q (cmpI x y) h) : F.cmp_Compare_int64 x y h Q := by
  unfold F.cmp_Compare_int64 F.cmp_isNaN_int64
  unfold cmpI at k
  simp only [bne_self_eq_false, Bool.false_eq_true, false_implies, true_implies, true_and, decide_eq_true_eq, decide_eq_false_iff_not]
  by_cases h1 : x < y
  · simp only [h1, if_true] at k; exact ⟨fun _ => k, fun g => absurd h1 g⟩
  · simp only [h1, if_false] at k
    by_cases h2 : x > y
    · simp only [h2, if_true] at k; exact ⟨fun g => absurd g h1, fun _ => ⟨fun _ => k, fun g => absurd h2 g⟩⟩
    · simp only [h2, if_false] at k; exact ⟨fun g => absurd g h1, fun _ => ⟨fun g => absurd g h2, fun _ => k⟩⟩
theorem or3_spec {n : Nat} {a b c : Int} {h : H} {Q : Int → H → Prop} (bl : Blk h n #[.int .i64 a, .int .i64 b, .int .i64 c] 3) (k : Q (if a ≠ 0 then a else if b ≠ 0 then b else c) h) : F.cmp_Or_int ⟨some ⟨n, 0, none⟩, 3, 3⟩ h Q := by
  unfold F.cmp_Or_int
  refine ⟨4, ?_⟩
  have c0 : cellH h ⟨n, 0, none⟩ = some (.int .i64 a) := bl.cell rfl
  have c1 : cellH h ⟨n, 1, none⟩ = some (.int .i64 b) := bl.cell rfl
  have c2 : cellH h ⟨n, 2, none⟩ = some (.int .i64 c) := bl.cell rfl
  unfold F.cmp_Or_int.l1
  refine ⟨fun _ => ?_, fun g => by simp at g⟩
  refine idxA_of (i := 0) rfl (by simp) rfl ?_
  rw [Nat.zero_mul, ldI_iff c0, bne_iff_ne, bne_eq_false_iff_eq]
  refine ⟨fun g => by rw [if_pos g] at k; exact k, fun g => ?_⟩
  rw [if_neg (by simpa using g)] at k
  rw [show IntKind.wrap .i64 (0 + 1) = ((1 : Nat) : Int) from by decide]
  unfold F.cmp_Or_int.l1
  refine ⟨fun _ => ?_, fun g => by simp at g⟩
  refine idxA_of (i := 1) rfl (by simp) rfl ?_
  rw [Nat.one_mul, ldI_iff c1, bne_iff_ne, bne_eq_false_iff_eq]
  refine ⟨fun g => by rw [if_pos g] at k; exact k, fun g => ?_⟩
  rw [if_neg (by simpa using g)] at k
  rw [show IntKind.wrap .i64 (((1 : Nat) : Int) + 1) = ((2 : Nat) : Int) from by decide]
  unfold F.cmp_Or_int.l1
  refine ⟨fun _ => ?_, fun g => by simp at g⟩
  refine idxA_of (i := 2) rfl (by simp) rfl ?_
  rw [show 2 * 1 = 2 from rfl, ldI_iff c2, bne_iff_ne, bne_eq_false_iff_eq]
  refine ⟨fun g => k, fun g => ?_⟩
  rw [show IntKind.wrap .i64 (((2 : Nat) : Int) + 1) = ((3 : Nat) : Int) from by decide]
  unfold F.cmp_Or_int.l1
  refine ⟨fun g => by simp at g, fun _ => ?_⟩
  rw [g] at k; exact k
theorem Compare_spec {a b : Cel} {h : H} {Q : Int → H → Prop} (k : ∀ h', Ext h h' → Q (cmpC a b) h') : F.merge_Compare a b h Q := by
  unfold F.merge_Compare
  refine new_of fun n h1 e1 e2 e3 e4 => new_of fun m h3 f1 f2 f3 f4 => ?_
  have b1 : Blk h3 n a.cells.toArray 34 := f3.block e2 (fun f => f)
  have b2 : Blk h3 m b.cells.toArray 34 := f2
  have a0 : cellH h3 ⟨n, 0, none⟩ = some (.int .i64 a.View) := b1.cell rfl
  have a1 : cellH h3 ⟨n, 1, none⟩ = some (.string a.Key) := b1.cell rfl
  have a2 : cellH h3 ⟨n, 2, none⟩ = some (.int .i64 a.Start) := b1.cell rfl
  have c0 : cellH h3 ⟨m, 0, none⟩ = some (.int .i64 b.View) := b2.cell rfl
  have c1 : cellH h3 ⟨m, 1, none⟩ = some (.string b.Key) := b2.cell rfl
  have c2 : cellH h3 ⟨m, 2, none⟩ = some (.int .i64 b.Start) := b2.cell rfl
  simp only [add_lit, Nat.zero_add, ldI_iff a0, ldI_iff c0, ldS_iff a1, ldS_iff c1, ldI_iff a2, ldI_iff c2]
  refine cmpInt_spec ⟨c2, a2, c1, a1, ?_⟩
  unfold F.strings_Compare F.internal_bytealg_CompareString
  refine ⟨c2, a2, cmpInt64_spec ?_⟩
  refine newL_of fun q h5 g1 g2 g3 g4 => ?_
  exact or3_spec g2 (k h5 ((e3.trans f3).trans g3))
/-! ### The document's Compare -/
def cmpR8 (a b : Cel) : Int := if a.View ≠ b.View then (if a.View < b.View then -1 else 1) else if a.Key.toList ≠ b.Key.toList then (if Op.bytesLess a.Key.toList b.Key.toList then -1 else 1) else if a.Start ≠ b.Start then (if a.Start < b.Start then -1 else 1) else 0
theorem cmpR8_eq (a b : Cel) : cmpR8 a b = cmpC a b := by
  unfold cmpR8 cmpC cmpI cmpM
  rw [cmpB_eq, toList_data, toList_data]
  by_cases h1 : a.View = b.View
  · rw [h1]
    simp only [ne_eq, not_true_eq_false, if_false, Int.lt_irrefl, gt_iff_lt]
    by_cases h2 : a.Key.data.toList = b.Key.data.toList
    · rw [h2]
      simp only [not_true_eq_false, if_false, if_true]
      by_cases h3 : a.Start = b.Start
      · rw [h3]; simp
      · rw [if_pos h3]
        by_cases h4 : a.Start < b.Start
        · rw [if_pos h4, if_pos h4]
        · rw [if_neg h4, if_neg h4, if_pos (by omega)]
    · rw [if_pos h2]
      by_cases h4 : Op.bytesLess a.Key.data.toList b.Key.data.toList
      · simp [h2, h4]
      · simp [h2, h4]
  · rw [if_pos h1]
    by_cases h4 : a.View < b.View
    · simp [h4]
    · rw [if_neg h4, if_neg h4, if_pos (show a.View > b.View by omega)]; simp
theorem sign_spec {b : Bool} {h : H} {Q : Int → H → Prop} (k : Q (if b then -1 else 1) h) : F.spateref8_sign b h Q := by
  unfold F.spateref8_sign
  cases b with
  | true => exact ⟨fun _ => k, fun h => by cases h⟩
  | false => exact ⟨(fun h => by cases h), fun _ => k⟩
theorem CompareR_spec {a b : Cel} {h : H} {Q : Int → H → Prop} (k : ∀ h', Ext h h' → Q (cmpC a b) h') : F.spateref8_Compare a b h Q := by
  unfold F.spateref8_Compare
  refine new_of fun n h1 e1 e2 e3 e4 => new_of fun m h3 f1 f2 f3 f4 => ?_
  have b1 : Blk h3 n a.cells.toArray 34 := f3.block e2 (fun f => f)
  have b2 : Blk h3 m b.cells.toArray 34 := f2
  have a0 : cellH h3 ⟨n, 0, none⟩ = some (.int .i64 a.View) := b1.cell rfl
  have a1 : cellH h3 ⟨n, 1, none⟩ = some (.string a.Key) := b1.cell rfl
  have a2 : cellH h3 ⟨n, 2, none⟩ = some (.int .i64 a.Start) := b1.cell rfl
  have c0 : cellH h3 ⟨m, 0, none⟩ = some (.int .i64 b.View) := b2.cell rfl
  have c1 : cellH h3 ⟨m, 1, none⟩ = some (.string b.Key) := b2.cell rfl
  have c2 : cellH h3 ⟨m, 2, none⟩ = some (.int .i64 b.Start) := b2.cell rfl
  have k := k h3 (e3.trans f3)
  rw [← cmpR8_eq] at k
  unfold cmpR8 at k
  simp only [add_lit, Nat.zero_add, ldI_iff a0, ldI_iff c0, ldS_iff a1, ldS_iff c1, ldI_iff a2, ldI_iff c2, bne_iff_ne, bne_eq_false_iff_eq]
  refine ⟨fun g => sign_spec ?_, fun g => ⟨fun g2 => sign_spec ?_, fun g2 => ⟨fun g3 => sign_spec ?_, fun g3 => ?_⟩⟩⟩
  · rw [if_pos g] at k; simpa using k
  · rw [if_neg (by simpa using g), if_pos (by simpa using g2)] at k; simpa using k
  · rw [if_neg (by simpa using g), if_neg (by simpa using g2), if_pos g3] at k; simpa using k
  · rw [if_neg (by simpa using g), if_neg (by simpa using g2), if_neg (by simpa using g3)] at k; exact k
theorem cmpC_self (a : Cel) : cmpC a a = 0 := by
  unfold cmpC cmpI cmpM
  rw [cmpB_eq]; simp
theorem keys_j1 {h0 h : H} {n m q r : Nat} {a b c d : Cel} {x7 x9 : ByteArray} {x8 x10 x12 x14 : Int} {Q : Bool → H → Prop} (e0 : Ext h0 h) (b3 : Blk h n a.cells.toArray 34) (b4 : Blk h m b.cells.toArray 34) (b11 : Blk h q c.cells.toArray 34) (b13 : Blk h r d.cells.toArray 34) (g7 : x7 = x9) (g8 : x8 = x10) (g11 : c = d) (g12 : x12 = x14) (k : ∀ h', Ext h0 h' → Q true h') :
    F.spatelaw8_MergeKeys.j1 Q ⟨n, 0, none⟩ ⟨m, 0, none⟩ x7 x8 x9 x10 ⟨q, 0, none⟩ x12 ⟨r, 0, none⟩ x14 h := by
  subst g7; subst g8; subst g11; subst g12
  unfold F.spatelaw8_MergeKeys.j1
  refine ⟨fun _ => ⟨fun _ => ⟨c, b11.cells3, c, b13.cells3, fun _ => ⟨fun _ => ⟨a, b3.cells3, b, b4.cells3, a, b3.cells3, b, b4.cells3, ?_⟩, fun g => by simp at g⟩, fun g => by simp at g⟩, fun g => by simp at g⟩, fun g => by simp at g⟩
  refine Compare_spec fun h1 e1 => ⟨Blk.cells3 (e := 34) (e1.block b4 (fun f => f)), Blk.cells3 (e := 34) (e1.block b3 (fun f => f)), ?_⟩
  refine CompareR_spec fun h2 e2 => ?_
  have x2 := e1.trans e2
  have d3 : Blk h2 n a.cells.toArray 34 := x2.block b3 (fun f => f)
  have d4 : Blk h2 m b.cells.toArray 34 := x2.block b4 (fun f => f)
  refine ⟨fun _ => ⟨b, d4.cells3, a, d3.cells3, b, d4.cells3, a, d3.cells3, ?_⟩, fun g => by simp at g⟩
  refine Compare_spec fun h3 e3 => ⟨Blk.cells3 (e := 34) (e3.block d3 (fun f => f)), Blk.cells3 (e := 34) (e3.block d4 (fun f => f)), ?_⟩
  refine CompareR_spec fun h4 e4 => ?_
  have x4 := x2.trans (e3.trans e4)
  have f3 : Blk h4 n a.cells.toArray 34 := x4.block b3 (fun f => f)
  refine ⟨fun _ => ⟨a, f3.cells3, a, f3.cells3, ?_⟩, fun g => by simp at g⟩
  refine Compare_spec fun h5 e5 => ?_
  rw [cmpC_self]
  exact k h5 (e0.trans (x4.trans e5))
theorem MergeKeys_spec {h : H} {a b : Cel} {s : ByteArray} {Q : Bool → H → Prop} (hs : s.size < 140737488355328) (k : ∀ h', Ext h h' → Q true h') : F.spatelaw8_MergeKeys a b s h Q := by
  unfold F.spatelaw8_MergeKeys
  refine new_of fun n h1 p1 b1 e1 z1 => new_of fun m h3 p3 b3 e3 z3 => ?_
  refine known8_spec fun h5 e5 => ⟨(fun h => by cases h), fun _ => ?_⟩
  have bn : Blk h5 n a.cells.toArray 34 := e5.block (e3.block b1 (fun f => f)) (fun f => f)
  have bm : Blk h5 m b.cells.toArray 34 := e5.block b3 (fun f => f)
  have x5 := (e1.trans e3).trans e5
  refine ⟨a, bn.cells3, ?_⟩
  -- both Keys tell the same
  have rest : ∀ (x : ByteArray) (e : Int) (h10 : H), Ext h5 h10 → F.merge_Cell s h10 fun r19 r20 h18 =>
      new h18 (((⟨0, (⟨#[]⟩ : ByteArray), 0⟩ : S_api_Cell) : S_api_Cell).cells.toArray) ty_34 fun a22 h21 => stH h21 a22 r19.cells fun h23 => F.spateref8_Cell s h23 fun r25 r26 h24 =>
      new h24 (((⟨0, (⟨#[]⟩ : ByteArray), 0⟩ : S_api_Cell) : S_api_Cell).cells.toArray) ty_34 fun a28 h27 => stH h27 a28 r25.cells fun h29 =>
      (((r26 != 0)) = true → stH h29 a28 ((⟨0, (⟨#[]⟩ : ByteArray), 0⟩ : S_api_Cell).cells) fun h75 => F.spatelaw8_MergeKeys.j1 Q ⟨n, 0, none⟩ ⟨m, 0, none⟩ x e x e a22 r20 a28 r26 h75) ∧
      (((r26 != 0)) = false → F.spatelaw8_MergeKeys.j1 Q ⟨n, 0, none⟩ ⟨m, 0, none⟩ x e x e a22 r20 a28 r26 h29) := fun x e h10 e10 => by
    refine Cell_spec hs fun h18 e18 => ?_
    refine new_of fun q h21 p21 b21 e21 z21 => ?_
    refine st_cell (c := zeroC) b21 fun h23 b23 o23 z23 => ?_
    have y23 : Ext h18 h23 := e21.step o23 fun m hm e => by omega
    refine CellR_spec hs fun h24 e24 => ?_
    refine new_of fun r h27 p27 b27 e27 z27 => ?_
    refine st_cell (c := zeroC) b27 fun h29 b29 o29 z29 => ?_
    have y29 : Ext h24 h29 := e27.step o29 fun m hm e => by omega
    obtain ⟨c1, c2⟩ := cellR_eq s.data.toList
    rw [c1]
    have all : Ext h5 h29 := (((e10.trans e18).trans y23).trans e24).trans y29
    have bq : Blk h29 q (cellM s.data.toList).1.cells.toArray 34 := (e24.trans y29).block b23 (fun f => f)
    have hqr : q ≠ r := by have := block_lt b23; have := e24.size; omega
    have s5 := x5.size
    have sall := all.size
    refine ⟨fun g => ?_, fun g => ?_⟩
    · rw [bne_iff_ne] at g
      refine st_cell (d := zeroC) b29 fun h75 b75 o75 z75 => ?_
      have y75 : Ext h5 h75 := all.step o75 fun m hm e => by
        have := e10.size; have := e18.size; have := y23.size; have := e24.size; omega
      exact keys_j1 (x5.trans y75) (y75.block bn (fun f => f)) (y75.block bm (fun f => f)) (o75.block bq hqr) b75 rfl rfl (cell_none g) rfl k
    · rw [bne_eq_false_iff_eq] at g
      exact keys_j1 (x5.trans all) (all.block bn (fun f => f)) (all.block bm (fun f => f)) bq b29 rfl rfl (c2 g).symm rfl k
  refine Key_spec (fun g h10 e10 => ⟨a, Blk.cells3 (e := 34) (e10.block bn (fun f => f)), ?_⟩) fun g h10 e10 => ⟨a, Blk.cells3 (e := 34) (e10.block bn (fun f => f)), ?_⟩
  · exact KeyR_spec (fun _ h15 e15 => rest _ _ h15 (e10.trans e15)) fun g2 => absurd g2 g
  · exact KeyR_spec (fun g2 => absurd g g2) fun _ h15 e15 => rest _ _ h15 (e10.trans e15)
end Go.Proofs.Ytidpbnbjpglhfaa.V
