/- Regions that draw their order, where several may come up that change the world; no condition. -/
import Derived.Test.YtidpbnbjpglhfaaVg
namespace Go.Proofs.Ytidpbnbjpglhfaa.V
open Go
set_option linter.unusedVariables false
section
variable {w0 : World} {N : Nat} {D : List Deferred} {L : List (Nat × Value)} {h : H} {P : Program} {rd : Option Nat} {Q : Exit → Act → World → Prop} {ops : Array Oper} {A : List Nat} {pend : List (Nat × (H → Prop))} {m m' j : Nat} {o : Oper}
/-- What must hold of each one that may come up. -/
def eff1B (ops : Array Oper) (A : List Nat) (m j : Nat) : Bool :=
  match ops[j]? with
  | none => false
  | some o => !m.testBit j && depsB o m && (List.range ops.size).all fun i => match ops[i]? with
    | none => true
    | some x => Nat.beq i j || !m.testBit i || (A.getD j 0).testBit i || x.apart ops o
/-- These may come up, and no others. -/
def effsB (ops : Array Oper) (A : List Nat) (m : Nat) (J : List Nat) : Bool :=
  J.all (eff1B ops A m) && (List.range ops.size).all fun i => match ops[i]? with
    | none => true
    | some x => J.any (Nat.beq i) || m.testBit i || !depsB x m
theorem eff1_spec (hb : eff1B ops A m j = true) (ho : ops[j]? = some o) : m.testBit j = false ∧ (∀ e ∈ bindsOn o, m.testBit e = true) ∧
    ∀ i x, ops[i]? = some x → i ≠ j → m.testBit i = true → (A.getD j 0).testBit i = true ∨ x.apart ops o = true := by
  simp only [eff1B, ho, Bool.and_eq_true, Bool.not_eq_true', depsB, List.all_eq_true, List.mem_range] at hb
  refine ⟨hb.1.1, hb.1.2, fun i x hx hne hm => ?_⟩
  have h1 := hb.2 i (Array.getElem?_eq_some_iff.1 hx).1
  simp only [hx, Bool.or_eq_true, Nat.beq_eq, hne, false_or, hm, Bool.not_true, Bool.false_eq_true] at h1
  exact h1
theorem effs_spec {J : List Nat} (hb : effsB ops A m J = true) : (∀ j ∈ J, eff1B ops A m j = true) ∧ ∀ i x, ops[i]? = some x → i ∈ J ∨ m.testBit i = true ∨ ¬ ∀ e ∈ bindsOn x, m.testBit e = true := by
  simp only [effsB, Bool.and_eq_true, List.all_eq_true, List.mem_range] at hb
  refine ⟨hb.1, fun i x hx => ?_⟩
  have h1 := hb.2 i (Array.getElem?_eq_some_iff.1 hx).1
  simp only [hx, Bool.or_eq_true, List.any_eq_true, Nat.beq_eq, depsB, Bool.not_eq_true', List.all_eq_false] at h1
  rcases h1 with (⟨y, h1, h2⟩ | h1) | ⟨e, h1, h2⟩
  · subst h2; exact .inl h1
  · exact .inr (.inl h1)
  · exact .inr (.inr fun h => h2 (h e h1))
theorem G.effs {a : Act} {w : World} {J : List Nat} (j0 : Nat) (hj0 : j0 ∈ J) (hA : ancB ops A = true) (hb : effsB ops A m J = true)
    (k : ∀ j ∈ J, ∃ o, ops[j]? = some o ∧ Region.wanted o (yielded ops a.tmps) = true ∧ StepV rd P o a.eval w fun v w' => HeldAll (pend.filter fun p => !(A.getD j 0).testBit p.1) w'.heap ∧ G rd P ops A Q (pend.filter fun p => !(A.getD j 0).testBit p.1) (m ||| 2 ^ j) (a.put o.dst v) w') :
    G rd P ops A Q pend m a w := by
  obtain ⟨hJ, hR⟩ := effs_spec hb
  obtain ⟨o0, ho0, _, _⟩ := k j0 hj0
  have h10 := (eff1_spec (hJ j0 hj0) ho0).1
  have hjs : j0 < ops.size := (Array.getElem?_eq_some_iff.1 ho0).1
  intro hH fuel
  induction fuel with
  | zero =>
    intro lr ar hr
    have hju : ¬ inR lr j0 := fun h => by have := hr.sub j0 h; rw [h10] at this; cases this
    have := count_pos (by rw [hr.len]; exact hjs) hju
    have := hr.fuel
    omega
  | succ fuel ih =>
    intro lr ar hr
    have hju0 : ¬ inR lr j0 := fun h => by have := hr.sub j0 h; rw [h10] at this; cases this
    refine ⟨fun h => absurd h (ready_ne hA hr.len hjs hju0), fun i hi => ?_⟩
    by_cases hm : m.testBit i = true
    · exact rel_exec hA hr hH hi hm ih
    · obtain ⟨hu, x, hx, hdeps⟩ := (mem_ready' hr.len).1 hi
      have hiJ : i ∈ J := (hR i x hx).resolve_right fun h => h.elim (fun h => hm h) fun h => h fun e he => hr.sub e (hdeps e he)
      obtain ⟨o, ho, hw, k⟩ := k i hiJ
      obtain ⟨h1, h3, h4⟩ := eff1_spec (hJ i hiJ) ho
      obtain rfl : x = o := by rw [ho] at hx; exact (Option.some.inj hx).symm
      have hju : ¬ inR lr i := fun h => by have := hr.sub i h; rw [h1] at this; cases this
      have hjl : i < lr.size := by rw [hr.len]; exact (Array.getElem?_eq_some_iff.1 ho).1
      have hpa : ∀ q y, ops[q]? = some y → m.testBit q = true → ¬ inR lr q → y.apart ops x = true ∧ (A.getD i 0).testBit q = false := fun q y hy hmq hnq => by
        have hqs : q < ops.size := (Array.getElem?_eq_some_iff.1 hy).1
        have hna : ¬ (A.getD i 0).testBit q = true := fun h => hnq (anc_listed hA (p := inR lr) hr.closed (i + 1) i x (by omega) ho hdeps q hqs h)
        have hqi : q ≠ i := fun e => by subst e; rw [h1] at hmq; cases hmq
        exact ⟨((h4 q y hy hqi) hmq).resolve_left hna, by simpa using hna⟩
      have hag : ∀ t ∈ x.looksAt ops, ar.tmps.getD t undef = a.tmps.getD t undef := fun t ht => hr.get t fun q y hy hmq hnq hd =>
        (Oper.apart_spec (hpa q y hy hmq hnq).1).1 t hd ht
      have hsem : x.semAt rd ar.eval = x.semAt rd a.eval := semAt_congr x (anc_spec hA ho).2.1 (anc_spec hA ho).2.2.1 (ev_agree hag)
      unfold wpOpIn
      simp only [ho]
      rw [if_pos (by rw [wanted_agree hr.size hag]; exact hw)]
      refine StepV.wp ?_
      refine (StepV.congr hsem k).mono fun v w' ⟨hh, hg⟩ => hg hh fuel _ _ ⟨by simpa using hr.len, fun q y hy hq e he => ?_, fun q hq => ?_, fun q y hy hmq e he => ?_, fun q hq hmq hnq => ?_, by rw [put_size, put_size]; exact hr.size, by rw [put_defers, put_defers]; exact hr.defers, fun t ht => ?_, count_set hjl hju hr.fuel⟩
      · rw [inR_set hjl] at hq ⊢
        rcases hq with rfl | hq
        · obtain rfl : y = x := by rw [ho] at hy; exact (Option.some.inj hy).symm
          exact .inr (hdeps e he)
        · exact .inr (hr.closed q y hy hq e he)
      · rw [inR_set hjl] at hq
        rw [testBit_add]
        rcases hq with rfl | hq
        · simp
        · rw [hr.sub q hq]; rfl
      · rw [testBit_add, Bool.or_eq_true, decide_eq_true_iff] at hmq
        rw [testBit_add, Bool.or_eq_true]
        rcases hmq with hmq | rfl
        · exact .inl (hr.below q y hy hmq e he)
        · obtain rfl : y = x := by rw [ho] at hy; exact (Option.some.inj hy).symm
          exact .inl (h3 e he)
      · have hnq' : ¬ inR lr q := fun h => hnq ((inR_set hjl).2 (.inr h))
        have hqi : q ≠ i := fun e => hnq ((inR_set hjl).2 (.inl e))
        rw [testBit_add, Bool.or_eq_true, decide_eq_true_iff] at hmq
        have hmq := hmq.resolve_right hqi
        obtain ⟨g1, g2⟩ := hr.held q hq hmq hnq'
        have hy : ops[q]? = some ops[q] := Array.getElem?_eq_getElem hq
        obtain ⟨p1, p2⟩ := hpa q _ hy hmq hnq'
        have hput : ∀ w, YAt rd P ops q a w → YAt rd P ops q (a.put x.dst v) w := fun w h =>
          YAt.put hA hy (fun t ht => ⟨(Oper.apart_spec p1).2.2 t ht, fun e => (Oper.apart_spec p1).2.1 t e ht⟩) h
        refine ⟨g1, ?_⟩
        rcases g2 with ⟨s, hs, g2⟩ | g2
        · exact .inl ⟨s, List.mem_filter.2 ⟨hs, by show (!(A.getD i 0).testBit q) = true; rw [p2]; rfl⟩, fun w h => hput w (g2 w h)⟩
        · exact .inr fun w => hput w (g2 w)
      · by_cases e : x.dst = some t
        · rcases Nat.lt_or_ge t a.tmps.size with hlt | hge
          · rw [e, put_same hlt, put_same (by rw [hr.size]; exact hlt)]
          · have h1 : ∀ b : Act, b.tmps.size ≤ t → (b.put x.dst v).tmps.getD t undef = undef := fun b hb => by
              rw [Array.getD_eq_getD_getElem?, Array.getElem?_eq_none (by rw [put_size]; exact hb)]; rfl
            rw [h1 a hge, h1 ar (by rw [hr.size]; exact hge)]
        · rw [put_get e, put_get e]
          refine hr.get t fun q y hy hmq hnq hd => ?_
          refine ht q y hy (by rw [testBit_add, hmq]; rfl) (fun h => ?_) hd
          rcases (inR_set hjl).1 h with rfl | h
          · rw [h1] at hmq; cases hmq
          · exact hnq h
/-- Two that may come up. -/
theorem g_e2 (j1 m1 j2 m2 : Nat) (p1 p2 : List (Nat × (H → Prop))) {o1 o2 : Oper} (hb : effsB ops A m [j1, j2] = true) (e1 : m1 = m ||| 2 ^ j1) (e2 : m2 = m ||| 2 ^ j2) (hp1 : pend.filter (fun p => !(A.getD j1 0).testBit p.1) = p1) (hp2 : pend.filter (fun p => !(A.getD j2 0).testBit p.1) = p2)
    (ho1 : ops[j1]? = some o1) (ho2 : ops[j2]? = some o2) (hw1 : gW ops o1 L = some true) (hw2 : gW ops o2 L = some true) (hd1 : ltB o1.dst N = true) (hd2 : ltB o2.dst N = true)
    (s1 : ∃ K : Value → H → Prop, EV rd P o1 L h K ∧ ∀ v h', K v h' → HeldAll p1 h' ∧ TG w0 N D (putL o1.dst v L) h' rd P ops A Q p1 m1)
    (s2 : ∃ K : Value → H → Prop, EV rd P o2 L h K ∧ ∀ v h', K v h' → HeldAll p2 h' ∧ TG w0 N D (putL o2.dst v L) h' rd P ops A Q p2 m2) : TG w0 N D L h rd P ops A Q pend m := fun hA a w ha hh hl => by
  subst hp1; subst hp2; subst e1; subst e2
  obtain ⟨K1, v1, k1⟩ := s1
  obtain ⟨K2, v2, k2⟩ := s2
  refine G.effs j1 (by simp) hA hb fun j hj => ?_
  simp only [List.mem_cons, List.not_mem_nil, or_false] at hj
  rcases hj with rfl | rfl
  · exact ⟨o1, ho1, gW_wanted hw1 ha.get, (v1 a w ha.get hh).mono fun v w' ⟨l, kk⟩ => ⟨(k1 v _ kk).1, (k1 v _ kk).2 hA _ _ (ha.putL hd1 v) rfl (hl.trans l)⟩⟩
  · exact ⟨o2, ho2, gW_wanted hw2 ha.get, (v2 a w ha.get hh).mono fun v w' ⟨l, kk⟩ => ⟨(k2 v _ kk).1, (k2 v _ kk).2 hA _ _ (ha.putL hd2 v) rfl (hl.trans l)⟩⟩
theorem g_e3 (j1 m1 j2 m2 j3 m3 : Nat) (p1 p2 p3 : List (Nat × (H → Prop))) {o1 o2 o3 : Oper} (hb : effsB ops A m [j1, j2, j3] = true) (e1 : m1 = m ||| 2 ^ j1) (e2 : m2 = m ||| 2 ^ j2) (e3 : m3 = m ||| 2 ^ j3) (hp1 : pend.filter (fun p => !(A.getD j1 0).testBit p.1) = p1) (hp2 : pend.filter (fun p => !(A.getD j2 0).testBit p.1) = p2) (hp3 : pend.filter (fun p => !(A.getD j3 0).testBit p.1) = p3)
    (ho1 : ops[j1]? = some o1) (ho2 : ops[j2]? = some o2) (ho3 : ops[j3]? = some o3) (hw1 : gW ops o1 L = some true) (hw2 : gW ops o2 L = some true) (hw3 : gW ops o3 L = some true) (hd1 : ltB o1.dst N = true) (hd2 : ltB o2.dst N = true) (hd3 : ltB o3.dst N = true)
    (s1 : ∃ K : Value → H → Prop, EV rd P o1 L h K ∧ ∀ v h', K v h' → HeldAll p1 h' ∧ TG w0 N D (putL o1.dst v L) h' rd P ops A Q p1 m1)
    (s2 : ∃ K : Value → H → Prop, EV rd P o2 L h K ∧ ∀ v h', K v h' → HeldAll p2 h' ∧ TG w0 N D (putL o2.dst v L) h' rd P ops A Q p2 m2)
    (s3 : ∃ K : Value → H → Prop, EV rd P o3 L h K ∧ ∀ v h', K v h' → HeldAll p3 h' ∧ TG w0 N D (putL o3.dst v L) h' rd P ops A Q p3 m3) : TG w0 N D L h rd P ops A Q pend m := fun hA a w ha hh hl => by
  subst hp1; subst hp2; subst hp3; subst e1; subst e2; subst e3
  obtain ⟨K1, v1, k1⟩ := s1
  obtain ⟨K2, v2, k2⟩ := s2
  obtain ⟨K3, v3, k3⟩ := s3
  refine G.effs j1 (by simp) hA hb fun j hj => ?_
  simp only [List.mem_cons, List.not_mem_nil, or_false] at hj
  rcases hj with rfl | rfl | rfl
  · exact ⟨o1, ho1, gW_wanted hw1 ha.get, (v1 a w ha.get hh).mono fun v w' ⟨l, kk⟩ => ⟨(k1 v _ kk).1, (k1 v _ kk).2 hA _ _ (ha.putL hd1 v) rfl (hl.trans l)⟩⟩
  · exact ⟨o2, ho2, gW_wanted hw2 ha.get, (v2 a w ha.get hh).mono fun v w' ⟨l, kk⟩ => ⟨(k2 v _ kk).1, (k2 v _ kk).2 hA _ _ (ha.putL hd2 v) rfl (hl.trans l)⟩⟩
  · exact ⟨o3, ho3, gW_wanted hw3 ha.get, (v3 a w ha.get hh).mono fun v w' ⟨l, kk⟩ => ⟨(k3 v _ kk).1, (k3 v _ kk).2 hA _ _ (ha.putL hd3 v) rfl (hl.trans l)⟩⟩
end
end Go.Proofs.Ytidpbnbjpglhfaa.V
