/- The law MergeOrder answers true for all its arguments. No condition. -/
import Derived.Test.YtidpbnbjpglhfaaRows
import Derived.WalkKit
import Derived.ProofKit
import Derived.OpenShut
import Derived.ShutString
import Derived.ChangeOld
import Derived.Below
import Derived.Test.YtidpbnbjpglhfaaMk
import Derived.Test.YtidpbnbjpglhfaaMn
namespace Go.Proofs.Ytidpbnbjpglhfaa.mergeOrder
open Go.ChangeShapes Go.WideShapes Go.ChangeAt Go.RowKit
open Go.ChangeMaps (open_string shut_string)
set_option linter.unusedVariables false

theorem own : ownKnob Try.prog.godebug = none := by kernel_rfl
theorem laidOut : laidOutB Try.prog = true := by kernel_rfl

set_option maxRecDepth 100000 in
theorem lifted (os : Os) (started : os.Started) (H : Type) (enc : TypeId × Value → H) :
    ReturnsInHanded {} Try.checked os 8 .any (Rows.mergeOrderSpec.pre6 enc Try.prog Try.f8 Rows.mergeOrderRow.domain false) (Rows.mergeOrderSpec.post enc Try.prog Try.f8 false true false false) := by
  refine returnsInHanded_of_change (C := Try.checked) own started (by kernel_rfl) Try.func8
    (ChangeSpec.witness6 (enc := enc) (C := Try.checked) false ⟨#[], #[.agg #[.int .i64 0, .string ByteArray.empty, .int .i64 0], .agg #[.int .i64 0, .string ByteArray.empty, .int .i64 0], .agg #[.int .i64 0, .string ByteArray.empty, .int .i64 0]], []⟩ 8 (by kernel_rfl) (by kernel_rfl) (by kernel_rfl) (by kernel_rfl)) ?_
  intro W base args ds gs before hval0 hW hcnd _
  have hval : ∀ (j : Nat) t v, Try.f8.params[j]? = some t → args[j]? = some v → Value.okWide Try.prog W .any base t v := hval0
  have hW' := hW
  obtain ⟨p, q, hA0, hV, rfl, hfz, hnd⟩ := hW
  have hA : DataW.TrodAll enc Try.prog W 0 (fun _ => true) true Try.f8.params.toList args.toList ds p := hA0
  rw [Try.params8] at hA hval
  obtain ⟨v0, vs0, d0, ds0, p0, q0, hargs, rfl, rfl, h0, r0⟩ := trodAll_cons hA
  obtain ⟨v1, vs1, d1, ds1, p1, q1, rfl, rfl, rfl, h1, r1⟩ := trodAll_cons r0
  obtain ⟨v2, vs2, d2, ds2, p2, q2, rfl, rfl, rfl, h2, r2⟩ := trodAll_cons r1
  obtain ⟨rfl, rfl, rfl⟩ := trodAll_nil r2
  obtain rfl : args = #[v0, v1, v2] := by cases args; simp_all
  obtain ⟨rfl, rfl⟩ := trodVars_none hV
  obtain ⟨cs0, rfl, hz0⟩ := okWide_struct Try.underlying34 (hval 0 34 v0 rfl rfl)
  rw [show Try.prog.cellsOf 34 = 3 from by kernel_rfl] at hz0
  have k0 := h0
  have lt0 : ∀ x ∈ p0, x.block < W.heap.size := by obtain ⟨m, hm⟩ := k0; exact DataW.trod_lt m _ _ _ hm
  obtain ⟨fu0, hf0⟩ := h0
  obtain ⟨c0, e0, vw0, st0, ks0⟩ := V.cell_open hf0 (show cs0.toList.length = 3 from by simpa using hz0)
  replace e0 : cs0.toList = c0.cells := e0
  obtain rfl : cs0 = c0.cells.toArray := by rw [← e0]
  obtain ⟨cs1, rfl, hz1⟩ := okWide_struct Try.underlying34 (hval 1 34 v1 rfl rfl)
  rw [show Try.prog.cellsOf 34 = 3 from by kernel_rfl] at hz1
  have k1 := h1
  have lt1 : ∀ x ∈ p1, x.block < W.heap.size := by obtain ⟨m, hm⟩ := k1; exact DataW.trod_lt m _ _ _ hm
  obtain ⟨fu1, hf1⟩ := h1
  obtain ⟨c1, e1, vw1, st1, ks1⟩ := V.cell_open hf1 (show cs1.toList.length = 3 from by simpa using hz1)
  replace e1 : cs1.toList = c1.cells := e1
  obtain rfl : cs1 = c1.cells.toArray := by rw [← e1]
  obtain ⟨cs2, rfl, hz2⟩ := okWide_struct Try.underlying34 (hval 2 34 v2 rfl rfl)
  rw [show Try.prog.cellsOf 34 = 3 from by kernel_rfl] at hz2
  have k2 := h2
  have lt2 : ∀ x ∈ p2, x.block < W.heap.size := by obtain ⟨m, hm⟩ := k2; exact DataW.trod_lt m _ _ _ hm
  obtain ⟨fu2, hf2⟩ := h2
  obtain ⟨c2, e2, vw2, st2, ks2⟩ := V.cell_open hf2 (show cs2.toList.length = 3 from by simpa using hz2)
  replace e2 : cs2.toList = c2.cells := e2
  obtain rfl : cs2 = c2.cells.toArray := by rw [← e2]
  clear hA0 hval0
  simp only [List.append_nil] at hW'
  have hF := V.F.spatelaw8_MergeOrder_ok (p0 := c0) (p1 := c1) (p2 := c2) (V.MergeOrder_spec (h := W.heap) (Q := fun r h' => r = true ∧ V.Ext W.heap h') st0 st1 fun h' e => ⟨rfl, e⟩)
  refine (callsIn_wide.1 (CallsIn.mono (hF W rfl) (R' := fun e w' => e = .returned (.bool true) ∧ Below W.heap.size W w') fun e w' ⟨r, he, hl, r0, h1, h2, h3⟩ => by
    subst he; subst h1; subst h2
    exact ⟨rfl, hl.os, hl.tape, hl.output, h3.size, fun k hk => h3.same k hk fun f => f⟩)).mono fun e W' ⟨he, bel⟩ => ?_
  subst he
  exact ⟨_, rfl, _, _, _, [], _, [], hW', trodAll_mk1 (shut_bool Try.underlying4 _), (trodAll_cons_mk (Below.trod laidOut (by kernel_rfl) (of_decide_eq_true (by kernel_rfl)) k0 bel lt0) (trodAll_cons_mk (Below.trod laidOut (by kernel_rfl) (of_decide_eq_true (by kernel_rfl)) k1 bel lt1) (trodAll_cons_mk (Below.trod laidOut (by kernel_rfl) (of_decide_eq_true (by kernel_rfl)) k2 bel lt2) trodAll_mk0))), rfl, bel.frame _, fun h => by cases h⟩

theorem over : Rows.mergeOrderRow.holds Try.pinned (OpenSpec.ofChange Rows.mergeOrderSpec) :=
  OpenClaim.holds_of_wide 8 Try.f8 rfl rfl rfl rfl rfl rfl rfl ⟨rfl, rfl, rfl, rfl, rfl⟩ rfl rfl rfl rfl rfl (by kernel_rfl) Try.func8 (by kernel_rfl)
    (of_decide_eq_true (by kernel_rfl)) (by unfold Func.isWrapper; first | (rw [if_pos (by decide +kernel)]; kernel_rfl) | (rw [if_neg (by decide +kernel)]; exact ⟨rfl, rfl⟩))
    (fun os started H enc _ => lifted os started H enc)

/-- The statement. -/
theorem proved : Rows.MergeOrderSaid := over
#print axioms proved
end Go.Proofs.Ytidpbnbjpglhfaa.mergeOrder
