/- any shards, any steps, any bounds: a scan is in order, made of its two halves, and merge's Rows of the shards' ranges -/
import Derived.Test.YtjjchpaomgmmdaaGreatQStoreScans4
import Derived.Test.YtjjchpaomgmmdaaGreatRows
import Derived.WalkKit
import Derived.ProofKit
import Derived.OpenShut
import Derived.ShutString
import Derived.ChangeOld
import Derived.Below
namespace Go.Proofs.YtjjchpaomgmmdaaGreat.storeScans
open Go.ChangeShapes Go.WideShapes Go.ChangeAt Go.RowKit
open Go.ChangeMaps (open_string shut_string)
set_option linter.unusedVariables false

theorem own : ownKnob Tryz.prog.godebug = none := by kernel_rfl
theorem laidOut : laidOutB Tryz.prog = true := by kernel_rfl

set_option maxRecDepth 100000 in
theorem lifted (os : Os) (started : os.Started) (H : Type) (enc : TypeId × Value → H) :
    ReturnsInHanded {} Tryz.checked os 4 .any (Rows.storeScansSpec.pre6 enc Tryz.prog Tryz.f4 Rows.storeScansRow.domain false) (Rows.storeScansSpec.post enc Tryz.prog Tryz.f4 false true false false) := by
  refine returnsInHanded_of_change (C := Tryz.checked) own started (by kernel_rfl) Tryz.func4
    (ChangeSpec.witness6 (enc := enc) (C := Tryz.checked) false ⟨#[], #[.int .i64 0, .slice none 0 0, .agg #[.int .i64 0, .string ByteArray.empty, .int .i64 0], .agg #[.int .i64 0, .string ByteArray.empty, .int .i64 0], .agg #[.int .i64 0, .string ByteArray.empty, .int .i64 0], .int .i64 0], []⟩ 8 (by kernel_rfl) (by kernel_rfl) (by kernel_rfl) (by kernel_rfl)) ?_
  intro W base args ds gs before hval0 hW hcnd _
  have hval : ∀ (j : Nat) t v, Tryz.f4.params[j]? = some t → args[j]? = some v → Value.okWide Tryz.prog W .any base t v := hval0
  have hW' := hW
  obtain ⟨p, q, hA0, hV, rfl, hfz, hnd⟩ := hW
  have hA : DataW.TrodAll enc Tryz.prog W 0 (fun _ => true) true Tryz.f4.params.toList args.toList ds p := hA0
  rw [Tryz.params4] at hA hval
  obtain ⟨v0, vs0, d0, ds0, p0, q0, hargs, rfl, rfl, h0, r0⟩ := trodAll_cons hA
  obtain ⟨v1, vs1, d1, ds1, p1, q1, rfl, rfl, rfl, h1, r1⟩ := trodAll_cons r0
  obtain ⟨v2, vs2, d2, ds2, p2, q2, rfl, rfl, rfl, h2, r2⟩ := trodAll_cons r1
  obtain ⟨v3, vs3, d3, ds3, p3, q3, rfl, rfl, rfl, h3, r3⟩ := trodAll_cons r2
  obtain ⟨v4, vs4, d4, ds4, p4, q4, rfl, rfl, rfl, h4, r4⟩ := trodAll_cons r3
  obtain ⟨v5, vs5, d5, ds5, p5, q5, rfl, rfl, rfl, h5, r5⟩ := trodAll_cons r4
  obtain ⟨rfl, rfl, rfl⟩ := trodAll_nil r5
  obtain rfl : args = #[v0, v1, v2, v3, v4, v5] := by cases args; simp_all
  obtain ⟨rfl, rfl⟩ := trodVars_none hV
  obtain ⟨a0, rfl, rfl, rfl, w0⟩ := open_int Tryz.underlying3 (hval 0 3 v0 rfl rfl) h0
  have i0 := V.i64_of w0
  obtain ⟨a1, len1, cap1, rfl⟩ := okWide_slice Tryz.underlying33 (hval 1 33 v1 rfl rfl)
  have k1 := h1
  have lt1 : ∀ x ∈ p1, x.block < W.heap.size := by obtain ⟨m, hm⟩ := k1; exact DataW.trod_lt m _ _ _ hm
  obtain ⟨fu1, hf1⟩ := h1
  obtain ⟨s1, S1, e1, t1, b1, i1, q1, z1⟩ := V.S.steps_open hf1
  obtain rfl : s1 = ⟨a1, len1, cap1⟩ := V.enc_inj.1 e1.symm
  obtain ⟨cs2, rfl, hz2⟩ := okWide_struct Tryz.underlying35 (hval 2 35 v2 rfl rfl)
  rw [show Tryz.prog.cellsOf 35 = 3 from by kernel_rfl] at hz2
  have k2 := h2
  have lt2 : ∀ x ∈ p2, x.block < W.heap.size := by obtain ⟨m, hm⟩ := k2; exact DataW.trod_lt m _ _ _ hm
  obtain ⟨fu2, hf2⟩ := h2
  obtain ⟨c2, e2, o2⟩ := V.S.cell_open hf2 (show cs2.toList.length = 3 from by simpa using hz2)
  replace e2 : cs2.toList = c2.cells := e2
  obtain rfl : cs2 = c2.cells.toArray := by rw [← e2]
  obtain ⟨cs3, rfl, hz3⟩ := okWide_struct Tryz.underlying35 (hval 3 35 v3 rfl rfl)
  rw [show Tryz.prog.cellsOf 35 = 3 from by kernel_rfl] at hz3
  have k3 := h3
  have lt3 : ∀ x ∈ p3, x.block < W.heap.size := by obtain ⟨m, hm⟩ := k3; exact DataW.trod_lt m _ _ _ hm
  obtain ⟨fu3, hf3⟩ := h3
  obtain ⟨c3, e3, o3⟩ := V.S.cell_open hf3 (show cs3.toList.length = 3 from by simpa using hz3)
  replace e3 : cs3.toList = c3.cells := e3
  obtain rfl : cs3 = c3.cells.toArray := by rw [← e3]
  obtain ⟨cs4, rfl, hz4⟩ := okWide_struct Tryz.underlying35 (hval 4 35 v4 rfl rfl)
  rw [show Tryz.prog.cellsOf 35 = 3 from by kernel_rfl] at hz4
  have k4 := h4
  have lt4 : ∀ x ∈ p4, x.block < W.heap.size := by obtain ⟨m, hm⟩ := k4; exact DataW.trod_lt m _ _ _ hm
  obtain ⟨fu4, hf4⟩ := h4
  obtain ⟨c4, e4, o4⟩ := V.S.cell_open hf4 (show cs4.toList.length = 3 from by simpa using hz4)
  replace e4 : cs4.toList = c4.cells := e4
  obtain rfl : cs4 = c4.cells.toArray := by rw [← e4]
  obtain ⟨a5, rfl, rfl, rfl, w5⟩ := open_int Tryz.underlying3 (hval 5 3 v5 rfl rfl) h5
  have i5 := V.i64_of w5
  clear hA0 hval0
  have hF := V.F.xaa_ok (p0 := a0) (p1 := ⟨a1, len1, cap1⟩) (p2 := c2) (p3 := c3) (p4 := c4) (p5 := a5) (V.S.StoreScans_spec (h := W.heap) (Q := fun r h' => r = true ∧ V.Ext W.heap h') t1 q1 z1 fun h' e => ⟨rfl, e⟩)
  refine (callsIn_wide.1 (CallsIn.mono (hF W rfl) (R' := fun e w' => e = .returned (.bool true) ∧ Below W.heap.size W w') fun e w' ⟨r, he, hl, r0, h1, h2, h3⟩ => by
    subst he; subst h1; subst h2
    exact ⟨rfl, hl.os, hl.tape, hl.output, h3.size, fun k hk => h3.same k hk fun f => f⟩)).mono fun e W' ⟨he, bel⟩ => ?_
  subst he
  exact ⟨_, rfl, _, _, _, [], _, [], hW', trodAll_mk1 (shut_bool Tryz.underlying4 _), (trodAll_cons_mk (shut_int Tryz.underlying3 w0) (trodAll_cons_mk (Below.trod laidOut (by kernel_rfl) (of_decide_eq_true (by kernel_rfl)) k1 bel lt1) (trodAll_cons_mk (Below.trod laidOut (by kernel_rfl) (of_decide_eq_true (by kernel_rfl)) k2 bel lt2) (trodAll_cons_mk (Below.trod laidOut (by kernel_rfl) (of_decide_eq_true (by kernel_rfl)) k3 bel lt3) (trodAll_cons_mk (Below.trod laidOut (by kernel_rfl) (of_decide_eq_true (by kernel_rfl)) k4 bel lt4) (trodAll_cons_mk (shut_int Tryz.underlying3 w5) trodAll_mk0)))))), rfl, bel.frame _, fun h => by cases h⟩

theorem over : Rows.storeScansRow.holds Tryz.pinned (OpenSpec.ofChange Rows.storeScansSpec) :=
  OpenClaim.holds_of_wide 4 Tryz.f4 rfl rfl rfl rfl rfl rfl rfl ⟨rfl, rfl, rfl, rfl, rfl⟩ rfl rfl rfl rfl rfl (by kernel_rfl) Tryz.func4 (by kernel_rfl)
    (of_decide_eq_true (by kernel_rfl)) (by unfold Func.isWrapper; first | (rw [if_pos (by decide +kernel)]; kernel_rfl) | (rw [if_neg (by decide +kernel)]; exact ⟨rfl, rfl⟩))
    (fun os started H enc _ => lifted os started H enc)

/-- The statement. -/
theorem proved : Rows.StoreScansSaid := over
#print axioms proved
end Go.Proofs.YtjjchpaomgmmdaaGreat.storeScans
