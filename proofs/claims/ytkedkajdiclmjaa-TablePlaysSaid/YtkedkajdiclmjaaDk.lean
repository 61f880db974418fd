/- told answers true, where all does; no condition. -/
import Derived.Test.YtkedkajdiclmjaaDj
namespace Go.Proofs.Ytkedkajdiclmjaa.V.D
open Go Go.Proofs.Ytkedkajdiclmjaa.V
set_option linter.unusedVariables false
set_option linter.unusedSimpArgs false

/-- Both tables lie above h0, and h0 is kept. -/
structure K2 (h0 h : H) (n : Nat) (rs es : Sl) (m : Nat) (rd ed : Sl) (T : Tb Int) : Prop where
  tt : TT h n rs es m rd ed T
  ext : Ext h0 h
  mine : ∀ b, FT n rs es b → h0.size ≤ b
  mine2 : ∀ b, FT m rd ed b → h0.size ≤ b
section
variable {h0 h h' : H} {n m : Nat} {rs es rd ed rs' es' : Sl} {T T' : Tb Int} {Q : Bool → H → Prop}
theorem K2.add (k : K2 h0 h n rs es m rd ed T) (e : Ext h h') : K2 h0 h' n rs es m rd ed T := ⟨k.tt.ext e, k.ext.trans e, k.mine, k.mine2⟩
theorem Stp.above (s : Stp h n rs es h' rs' es') {z : Nat} (hz : z ≤ h.size) (mine : ∀ b, FT n rs es b → z ≤ b) : ∀ b, FT n rs' es' b → z ≤ b := fun b hb => by
  rcases s.new b hb with h1 | h1
  · exact mine b h1
  · omega
end
/-- all answers true. -/
abbrev AllSays : Prop := ∀ {h : H} {n m : Nat} {rs es rd ed : Sl} {T : Tb Int} {Q : Bool → H → Prop}, TT h n rs es m rd ed T → TOk T → T.count < 1073741824 → (∀ h', Ext h h' → Q true h') → F.spatelaw6_all (some ⟨n, 0, none⟩) (some ⟨m, 0, none⟩) h Q
section
variable {h0 h h' : H} {n m : Nat} {rs es rd ed : Sl} {T : Tb Int} {x : Step} {Q : Bool → H → Prop}
theorem told_j1 {a : Nat} (t : K2 h0 h n rs es m rd ed T) (ok : TOk T) (hx : StepOk x) (bl : Blk h a x.cells.toArray 46) (k : ∀ h', K2 h0 h' n rs es m rd ed T → Q true h') : F.spatelaw6_told.j1 Q (some ⟨n, 0, none⟩) (some ⟨m, 0, none⟩) ⟨a, 0, none⟩ h := by
  unfold F.spatelaw6_told.j1
  refine sizes_spec t.tt ?_
  refine ⟨fun _ => ?_, fun g => by cases g⟩
  simp only [add_lit, Nat.zero_add]
  rw [ldS_iff (bl.cell (i := 2) (v := .string x.Key) rfl)]
  exact like_spec t.tt ok hx.2.2 fun h1 e1 => k h1 (t.add e1)
theorem told_spec {N : Nat} (al : AllSays) (t : K2 h0 h n rs es m rd ed T) (ok : TOk T) (hx : StepOk x) (hb : Bd N T) (hN : N ≤ 1000000)
    (k : ∀ h' rs' es' rd' ed', K2 h0 h' n rs' es' m rd' ed' (doT T x) → Q true h') : F.spatelaw6_told (some ⟨n, 0, none⟩) (some ⟨m, 0, none⟩) x h Q := by
  obtain ⟨d1, d2⟩ := do_ok ok x
  obtain ⟨b1, b2⟩ := d2 N hb
  unfold F.spatelaw6_told
  refine new_of fun a h1 ha bl e1 _ => ?_
  have t1 := t.add e1
  have z1 := t.ext.size
  have z2 := t1.ext.size
  have fa : ∀ b, FT n rs es b ∨ FT m rd ed b → b ≠ a := fun b hb => by
    rcases hb with hb | hb
    · have := t.tt.t.lt b hb; omega
    · have := t.tt.d.lt b hb; omega
  simp only [add_lit, Nat.zero_add]
  rw [ldI_iff (bl.cell (i := 0) (v := .int .i64 x.Kind) rfl)]
  simp only [beq_iff_eq, beq_eq_false_iff_ne]
  -- what a step of both leaves
  have both : ∀ {h2 h3 : H} {rs2 es2 rd3 ed3 : Sl} {T2 : Tb Int}, TH h2 n rs2 es2 T2 → Stp h1 n rs es h2 rs2 es2 → TD h3 m rd3 ed3 T2 → Stp h2 m rd ed h3 rd3 ed3 → K2 h0 h3 n rs2 es2 m rd3 ed3 T2 ∧ Blk h3 a x.cells.toArray 46 := fun {h2 h3 rs2 es2 rd3 ed3 T2} p s q u => by
    have d2 : TD h2 m rd ed T := t1.tt.d.only s.only fun b hb hf => apart t1.tt.t t1.tt.d b hf hb
    have z3 := s.only.size
    have p3 : TH h3 n rs2 es2 T2 := p.only u.only fun b hb hf => apart p d2 b hb hf
    have m2 := Stp.above s z2 t1.mine
    have m3 := Stp.above u (by omega) t1.mine2
    refine ⟨⟨⟨p3, q⟩, (t1.ext.step s.only fun b hb hf => by have := t1.mine b hf; omega).step u.only fun b hb hf => by have := t1.mine2 b hf; omega, m2, m3⟩, ?_⟩
    refine u.only.block (s.only.block bl fun hf => fa _ (.inl hf) rfl) fun hf => fa _ (.inr hf) rfl
  have keep : ∀ {h2 : H} {rs2 es2 : Sl}, Stp h1 n rs es h2 rs2 es2 → TD h2 m rd ed T ∧ Blk h2 a x.cells.toArray 46 := fun {h2 rs2 es2} s =>
    ⟨t1.tt.d.only s.only fun b hb hf => apart t1.tt.t t1.tt.d b hf hb, s.only.block bl fun hf => fa _ (.inl hf) rfl⟩
  unfold doT at *
  refine ⟨fun g => ?_, fun g => ⟨fun g2 => ?_, fun g2 => ⟨fun g3 => ?_, fun g3 => ⟨fun g4 => ?_, fun g4 => ?_⟩⟩⟩⟩
  · rw [ldS_iff (bl.cell (i := 2) (v := .string x.Key) rfl), ldI_iff (bl.cell (i := 1) (v := .int .i64 x.N) rfl)]
    rw [if_pos g] at b1 b2 d1
    simp only [if_pos g] at k
    obtain ⟨T', p1, _⟩ := put_ok (z := (0 : Int)) ok x.Key x.N
    rw [p1] at b1 b2 k d1
    simp only [Option.getD_some] at b1 b2 k d1
    have hr : T'.row.length ≤ BIG := by simp only [BIG]; omega
    have hc : T'.count ≤ BIG := by simp only [BIG]; omega
    refine V.Put_spec t1.tt.t ok hx.2.2 p1 hr hc fun h2 rs2 es2 t2 s2 => ?_
    obtain ⟨dd, bb⟩ := keep s2
    rw [ldS_iff (bb.cell (i := 2) (v := .string x.Key) rfl), ldI_iff (bb.cell (i := 1) (v := .int .i64 x.N) rfl)]
    refine Put_spec dd ok hx.2.2 p1 hr hc fun h3 rd3 ed3 q u => ?_
    obtain ⟨kk, b3⟩ := both t2 s2 q u
    exact told_j1 kk d1 hx b3 fun h4 k4 => k h4 _ _ _ _ k4
  · rw [ldS_iff (bl.cell (i := 2) (v := .string x.Key) rfl)]
    simp only [if_neg g, if_pos g2] at k d1
    obtain ⟨T', p1, _⟩ := drop_ok (z := (0 : Int)) ok x.Key
    rw [p1] at k d1
    refine V.Drop_spec t1.tt.t ok hx.2.2 p1 fun h2 es2 t2 s2 => ?_
    obtain ⟨dd, bb⟩ := keep s2
    rw [ldS_iff (bb.cell (i := 2) (v := .string x.Key) rfl)]
    refine Drop_spec dd ok hx.2.2 p1 fun h3 ed3 q u => ?_
    obtain ⟨kk, b3⟩ := both t2 s2 q u
    unfold F.spatelaw6_told.j2
    simp only [bne_self_eq_false, beq_self_eq_true, Bool.not_true]
    exact ⟨fun g => (by cases g), fun _ => ⟨fun g => (by cases g), fun _ => told_j1 kk d1 hx b3 fun h4 k4 => k h4 _ _ _ _ k4⟩⟩
  · rw [ldI_iff (bl.cell (i := 1) (v := .int .i64 x.N) rfl), ldI_iff (bl.cell (i := 1) (v := .int .i64 x.N) rfl)]
    simp only [if_neg g, if_neg g2, if_pos g3] at k d1
    obtain ⟨T', p1, _⟩ := move_ok (z := (0 : Int)) ok x.N
    rw [p1] at k d1
    refine V.Move_spec t1.tt.t p1 hx.2.1.2 fun h2 es2 t2 s2 => ?_
    obtain ⟨dd, bb⟩ := keep s2
    refine ⟨bb.cell (i := 1) (v := .int .i64 x.N) rfl, ?_⟩
    refine Move_spec dd p1 hx.2.1.2 fun h3 ed3 q u => ?_
    obtain ⟨kk, b3⟩ := both t2 s2 q u
    simp only [bne_self_eq_false]
    exact ⟨fun g => (by cases g), fun _ => told_j1 kk d1 hx b3 fun h4 k4 => k h4 _ _ _ _ k4⟩
  · simp only [if_neg g, if_neg g2, if_neg g3] at k
    refine al t1.tt ok (by have := hb.1; omega) fun h2 e2 => ?_
    simp only [Bool.not_true]
    exact ⟨fun g => (by cases g), fun _ => told_j1 (t1.add e2) ok hx (e2.block bl fun f => f) fun h4 k4 => k h4 _ _ _ _ k4⟩
  · simp only [if_neg g, if_neg g2, if_neg g3] at k
    exact told_j1 t1 ok hx bl fun h4 k4 => k h4 _ _ _ _ k4
end
end Go.Proofs.Ytkedkajdiclmjaa.V.D
