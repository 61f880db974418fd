/- Ranges at many epochs, each twice, all in hand at one time. -/
import Derived.Test.YtoccbnhahaoeiaaQShardAnswers5
import Derived.Test.YtoccbnhahaoeiaaRows
import Derived.WalkKit
import Derived.ProofKit
import Derived.OpenShut
import Derived.ShutString
import Derived.ChangeOld
import Derived.Below
namespace Go.Proofs.Ytoccbnhahaoeiaa.shardAnswers
open Go.ChangeShapes Go.WideShapes Go.ChangeAt Go.RowKit
open Go.ChangeMaps (open_string shut_string)
set_option linter.unusedVariables false

theorem own : ownKnob Try.prog.godebug = none := by kernel_rfl
theorem laidOut : laidOutB Try.prog = true := by kernel_rfl

set_option maxRecDepth 100000 in
theorem lifted (os : Os) (started : os.Started) (H : Type) (enc : TypeId × Value → H) :
    ReturnsInHanded {} Try.checked os 11 .any (Rows.shardAnswersSpec.pre6 enc Try.prog Try.f11 Rows.shardAnswersRow.domain false) (Rows.shardAnswersSpec.post enc Try.prog Try.f11 false true false false) := by
  refine returnsInHanded_of_change (C := Try.checked) own started (by kernel_rfl) Try.func11
    (ChangeSpec.witness6 (enc := enc) (C := Try.checked) false ⟨#[], #[.slice none 0 0], []⟩ 8 (by kernel_rfl) (by kernel_rfl) (by kernel_rfl) (by kernel_rfl)) ?_
  intro W base args ds gs before hval0 hW hcnd _
  have hval : ∀ (j : Nat) t v, Try.f11.params[j]? = some t → args[j]? = some v → Value.okWide Try.prog W .any base t v := hval0
  have hW' := hW
  obtain ⟨p, q, hA0, hV, rfl, hfz, hnd⟩ := hW
  have hA : DataW.TrodAll enc Try.prog W 0 (fun _ => true) true Try.f11.params.toList args.toList ds p := hA0
  rw [Try.params11] at hA hval
  obtain ⟨v0, vs0, d0, ds0, p0, q0, hargs, rfl, rfl, h0, r0⟩ := trodAll_cons hA
  obtain ⟨rfl, rfl, rfl⟩ := trodAll_nil r0
  obtain rfl : args = #[v0] := by cases args; simp_all
  obtain ⟨rfl, rfl⟩ := trodVars_none hV
  obtain ⟨a0, len0, cap0, rfl⟩ := okWide_slice Try.underlying62 (hval 0 62 v0 rfl rfl)
  have k0 := h0
  have lt0 : ∀ x ∈ p0, x.block < W.heap.size := by obtain ⟨m, hm⟩ := k0; exact DataW.trod_lt m _ _ _ hm
  obtain ⟨fu0, hf0⟩ := h0
  obtain ⟨s0, S0, e0, t0, b0, i0, q0, z0⟩ := V.S.steps_open hf0
  obtain rfl : s0 = ⟨a0, len0, cap0⟩ := V.enc_inj.1 e0.symm
  clear hA0 hval0
  have hF := V.F.spatelaw7_ShardAnswers_ok (p0 := ⟨a0, len0, cap0⟩) (V.S.ShardAnswers_spec (h := W.heap) (Q := fun r h' => r = true ∧ V.Ext W.heap h') t0 q0 z0 fun h' e => ⟨rfl, e⟩)
  refine (callsIn_wide.1 (CallsIn.mono (hF W rfl) (R' := fun e w' => e = .returned (.bool true) ∧ Below W.heap.size W w') fun e w' ⟨r, he, hl, r0, h1, h2, h3⟩ => by
    subst he; subst h1; subst h2
    exact ⟨rfl, hl.os, hl.tape, hl.output, h3.size, fun k hk => h3.same k hk fun f => f⟩)).mono fun e W' ⟨he, bel⟩ => ?_
  subst he
  exact ⟨_, rfl, _, _, _, [], _, [], hW', trodAll_mk1 (shut_bool Try.underlying4 _), (trodAll_cons_mk (Below.trod laidOut (by kernel_rfl) (of_decide_eq_true (by kernel_rfl)) k0 bel lt0) trodAll_mk0), rfl, bel.frame _, fun h => by cases h⟩

theorem over : Rows.shardAnswersRow.holds Try.pinned (OpenSpec.ofChange Rows.shardAnswersSpec) :=
  OpenClaim.holds_of_wide 11 Try.f11 rfl rfl rfl rfl rfl rfl rfl ⟨rfl, rfl, rfl, rfl, rfl⟩ rfl rfl rfl rfl rfl (by kernel_rfl) Try.func11 (by kernel_rfl)
    (of_decide_eq_true (by kernel_rfl)) (by unfold Func.isWrapper; first | (rw [if_pos (by decide +kernel)]; kernel_rfl) | (rw [if_neg (by decide +kernel)]; exact ⟨rfl, rfl⟩))
    (fun os started H enc _ => lifted os started H enc)

/-- The statement. -/
theorem proved : Rows.ShardAnswersSaid := over
#print axioms proved
end Go.Proofs.Ytoccbnhahaoeiaa.shardAnswers
