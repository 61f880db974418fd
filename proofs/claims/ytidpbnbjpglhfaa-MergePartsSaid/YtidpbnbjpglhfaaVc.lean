/- The calculus, continued: the four moves in a region that draws its order; no condition. -/
import Derived.Test.YtidpbnbjpglhfaaVb
namespace Go.Proofs.Ytidpbnbjpglhfaa.V
open Go
set_option linter.unusedVariables false

section
variable {w0 : World} {N : Nat} {D : List Deferred} {L : List (Nat × Value)} {h : H} {P : Program} {rd : Option Nat} {Q : Exit → Act → World → Prop} {ops : Array Oper} {A : List Nat} {pend : List (Nat × (H → Prop))} {m m' j : Nat} {o : Oper}

theorem testBit_add {m j k : Nat} : (m ||| 2 ^ j).testBit k = (m.testBit k || decide (k = j)) := by
  rw [Nat.testBit_or, Nat.testBit_two_pow]
  by_cases e : j = k
  · subst e; simp
  · simp [e, Ne.symm e]
theorem take_spec (hb : takeB ops A m j m' = true) (ho : ops[j]? = some o) : m.testBit j = false ∧ m' = m ||| 2 ^ j ∧ (∀ e ∈ bindsOn o, m.testBit e = true) ∧ tkB ops A j o = true := by
  simp only [takeB, ho, Bool.and_eq_true, Bool.not_eq_true', Nat.beq_eq, depsB, List.all_eq_true] at hb
  exact ⟨hb.1.1.1, hb.1.1.2, hb.1.2, hb.2⟩
theorem eff_spec (hb : effB ops A m j m' = true) (ho : ops[j]? = some o) : m.testBit j = false ∧ m' = m ||| 2 ^ j ∧ (∀ e ∈ bindsOn o, m.testBit e = true) ∧
    ∀ i x, ops[i]? = some x → i ≠ j → (m.testBit i = true → (A.getD j 0).testBit i = true ∨ x.apart ops o = true) ∧ (m.testBit i = false → ¬ ∀ e ∈ bindsOn x, m.testBit e = true) := by
  simp only [effB, ho, Bool.and_eq_true, Bool.not_eq_true', Nat.beq_eq, depsB, List.all_eq_true, List.mem_range] at hb
  refine ⟨hb.1.1.1, hb.1.1.2, hb.1.2, fun i x hx hne => ?_⟩
  have h1 := hb.2 i (Array.getElem?_eq_some_iff.1 hx).1
  simp only [hx, Bool.or_eq_true, Nat.beq_eq, hne, false_or] at h1
  constructor
  · intro hm; simpa [hm] using h1
  · intro hm; simpa [hm] using h1
theorem YAt.put {k : Nat} {a : Act} {w : World} (hA : ancB ops A = true) {x : Oper} (hx : ops[k]? = some x) {d : Option Tmp} {v : Value} (hl : ∀ t, d = some t → t ∉ x.looksAt ops ∧ x.dst ≠ some t) (hy : YAt rd P ops k a w) : YAt rd P ops k (a.put d v) w := by
  obtain ⟨o, ho, u, h1, h2⟩ := hy
  obtain rfl : o = x := by rw [hx] at ho; exact (Option.some.inj ho).symm
  have hag : ∀ t ∈ o.looksAt ops, (a.put d v).tmps.getD t undef = a.tmps.getD t undef := fun t ht => put_get fun e => (hl t e).1 ht
  refine ⟨o, ho, u, fun t e => ⟨by rw [put_size]; exact (h1 t e).1, by rw [put_get fun e' => (hl t e').2 e]; exact (h1 t e).2⟩, ?_⟩
  rw [wanted_agree put_size hag, semAt_congr o (anc_spec hA ho).2.1 (anc_spec hA ho).2.2.1 (ev_agree hag)]
  exact h2
/-- The two ways of taking one at once have this in common. -/
theorem G.take {a : Act} {w : World} {v : Value} (hA : ancB ops A = true) (hb : takeB ops A m j m' = true) (ho : ops[j]? = some o) (hN : ∀ d, o.dst = some d → d < a.tmps.size) (S : Option (H → Prop))
    (hS : ∀ s, S = some s → s w.heap)
    (hy : ∀ w' : World, (∀ s, S = some s → s w'.heap) → (Region.wanted o (yielded ops a.tmps) = true ∧ (o.semAt rd a.eval).run P w' = .ok (.value v) w') ∨ (Region.wanted o (yielded ops a.tmps) = false ∧ v = undef))
    (k : G rd P ops A Q (match S with | some s => (j, s) :: pend | none => pend) m' (a.put o.dst v) w) : G rd P ops A Q pend m a w := by
  obtain ⟨h1, rfl, h3, h4⟩ := take_spec hb ho
  have hjs : j < ops.size := (Array.getElem?_eq_some_iff.1 ho).1
  intro hH fuel lr ar hr
  have hju : ¬ inR lr j := fun h => by have := hr.sub j h; rw [h1] at this; cases this
  have hself : ∀ d, o.dst = some d → d ∉ o.looksAt ops := fun d hd => by
    rcases tk_spec h4 ho with h | h
    · exact absurd rfl h.1
    · exact (h d hd).1
  have hag : ∀ t ∈ o.looksAt ops, (a.put o.dst v).tmps.getD t undef = a.tmps.getD t undef := fun t ht => put_get fun e => hself t e ht
  have hyj : ∀ w' : World, (∀ s, S = some s → s w'.heap) → YAt rd P ops j (a.put o.dst v) w' := fun w' hs' => by
    refine ⟨o, ho, v, fun d hd => ⟨by rw [put_size]; exact hN d hd, by rw [hd]; exact put_same (hN d hd)⟩, ?_⟩
    rw [wanted_agree put_size hag, semAt_congr o (anc_spec hA ho).2.1 (anc_spec hA ho).2.2.1 (ev_agree hag)]
    exact hy w' hs'
  refine k ?_ fuel lr ar ⟨hr.len, hr.closed, fun i hi => by rw [testBit_add, hr.sub i hi]; rfl, fun i x hx hm e he => ?_, fun i hi hm hn => ?_, by rw [put_size]; exact hr.size, by rw [put_defers]; exact hr.defers, fun t ht => ?_, hr.fuel⟩
  · cases S with
    | none => exact hH
    | some s => exact ⟨hS s rfl, hH⟩
  · rw [testBit_add, Bool.or_eq_true, decide_eq_true_iff] at hm
    rw [testBit_add, Bool.or_eq_true]
    rcases hm with hm | rfl
    · exact .inl (hr.below i x hx hm e he)
    · obtain rfl : x = o := by rw [ho] at hx; exact (Option.some.inj hx).symm
      exact .inl (h3 e he)
  · rw [testBit_add, Bool.or_eq_true, decide_eq_true_iff] at hm
    rcases hm with hm | rfl
    · obtain ⟨g1, g2⟩ := hr.held i hi hm hn
      refine ⟨g1, ?_⟩
      have hx : ops[i]? = some ops[i] := Array.getElem?_eq_getElem hi
      have hput : ∀ w, YAt rd P ops i a w → YAt rd P ops i (a.put o.dst v) w := fun w h => by
        refine YAt.put hA hx (fun t ht => ?_) h
        rcases tk_spec h4 hx with h | h
        · -- number j would be ahead of a listed one
          exfalso
          have := anc_listed hA (p := fun e => m.testBit e = true) hr.below (i + 1) i _ (by omega) hx (hr.below i _ hx hm) j hjs h.2
          rw [h1] at this; cases this
        · exact ⟨(h t ht).1, (h t ht).2.resolve_left fun e => by subst e; rw [h1] at hm; cases hm⟩
      rcases g2 with ⟨s, hs, g2⟩ | g2
      · exact .inl ⟨s, by cases S <;> simp [hs], fun w h => hput w (g2 w h)⟩
      · exact .inr fun w => hput w (g2 w)
    · refine ⟨fun o' ho' => by rw [ho] at ho'; obtain rfl := Option.some.inj ho'; exact h4, ?_⟩
      cases S with
      | none => exact .inr fun w' => hyj w' fun s hs => by cases hs
      | some s => exact .inl ⟨s, by simp, fun w' h => hyj w' fun s' hs' => by obtain rfl := Option.some.inj hs'; exact h⟩
  · by_cases e : o.dst = some t
    · exact absurd e (ht j o ho (by rw [testBit_add]; simp) hju)
    · rw [put_get e]
      exact hr.get t fun i x hx hm hn => ht i x hx (by rw [testBit_add, hm]; rfl) hn
theorem StepV.congr {ρ ρ' : Operand → Value} {w : World} {K : Value → World → Prop} (he : o.semAt rd ρ = o.semAt rd ρ') (k : StepV rd P o ρ' w K) : StepV rd P o ρ w K := by
  unfold StepV at *
  rw [he]; exact k
/-- One that changes the world, or may, and that alone may come up. -/
theorem G.eff {a : Act} {w : World} (hA : ancB ops A = true) (hb : effB ops A m j m' = true) (ho : ops[j]? = some o) (hw : Region.wanted o (yielded ops a.tmps) = true)
    (k : StepV rd P o a.eval w fun v w' => HeldAll (pend.filter fun p => !(A.getD j 0).testBit p.1) w'.heap ∧ G rd P ops A Q (pend.filter fun p => !(A.getD j 0).testBit p.1) m' (a.put o.dst v) w') :
    G rd P ops A Q pend m a w := by
  obtain ⟨h1, rfl, h3, h4⟩ := eff_spec hb ho
  have hjs : j < ops.size := (Array.getElem?_eq_some_iff.1 ho).1
  intro hH fuel
  induction fuel with
  | zero =>
    intro lr ar hr
    have hju : ¬ inR lr j := fun h => by have := hr.sub j h; rw [h1] at this; cases this
    have := count_pos (by rw [hr.len]; exact hjs) hju
    have := hr.fuel
    omega
  | succ fuel ih =>
    intro lr ar hr
    have hju : ¬ inR lr j := fun h => by have := hr.sub j h; rw [h1] at this; cases this
    refine ⟨fun h => absurd h (ready_ne hA hr.len hjs hju), fun i hi => ?_⟩
    by_cases hm : m.testBit i = true
    · exact rel_exec hA hr hH hi hm ih
    · obtain ⟨hu, x, hx, hdeps⟩ := (mem_ready' hr.len).1 hi
      have hij : i = j := Classical.byContradiction fun hne => (h4 i x hx hne).2 (by simpa using hm) fun e he => hr.sub e (hdeps e he)
      subst hij
      obtain rfl : x = o := by rw [ho] at hx; exact (Option.some.inj hx).symm
      have hjl : i < lr.size := by rw [hr.len]; exact hjs
      have hpa : ∀ q y, ops[q]? = some y → m.testBit q = true → ¬ inR lr q → y.apart ops x = true ∧ (A.getD i 0).testBit q = false := fun q y hy hmq hnq => by
        have hqs : q < ops.size := (Array.getElem?_eq_some_iff.1 hy).1
        have hna : ¬ (A.getD i 0).testBit q = true := fun h => hnq (anc_listed hA (p := inR lr) hr.closed (i + 1) i x (by omega) ho hdeps q hqs h)
        have hqi : q ≠ i := fun e => by subst e; rw [h1] at hmq; cases hmq
        exact ⟨((h4 q y hy hqi).1 hmq).resolve_left hna, by simpa using hna⟩
      have hag : ∀ t ∈ x.looksAt ops, ar.tmps.getD t undef = a.tmps.getD t undef := fun t ht => hr.get t fun q y hy hmq hnq hd =>
        (Oper.apart_spec (hpa q y hy hmq hnq).1).1 t hd ht
      have hsem : x.semAt rd ar.eval = x.semAt rd a.eval := semAt_congr x (anc_spec hA ho).2.1 (anc_spec hA ho).2.2.1 (ev_agree hag)
      unfold wpOpIn
      simp only [ho]
      rw [if_pos (by rw [wanted_agree hr.size hag]; exact hw)]
      refine StepV.wp ?_
      refine (StepV.congr hsem k).mono fun v w' ⟨hh, hg⟩ => hg hh fuel _ _ ⟨by simpa using hr.len, fun q y hy hq e he => ?_, fun q hq => ?_, fun q y hy hmq e he => ?_, fun q hq hmq hnq => ?_, by rw [put_size, put_size]; exact hr.size, by rw [put_defers, put_defers]; exact hr.defers, fun t ht => ?_, count_set hjl hju hr.fuel⟩
      · rw [inR_set hjl] at hq ⊢
        rcases hq with rfl | hq
        · obtain rfl : y = x := by rw [ho] at hy; exact (Option.some.inj hy).symm
          exact .inr (hdeps e he)
        · exact .inr (hr.closed q y hy hq e he)
      · rw [inR_set hjl] at hq
        rw [testBit_add]
        rcases hq with rfl | hq
        · simp
        · rw [hr.sub q hq]; rfl
      · rw [testBit_add, Bool.or_eq_true, decide_eq_true_iff] at hmq
        rw [testBit_add, Bool.or_eq_true]
        rcases hmq with hmq | rfl
        · exact .inl (hr.below q y hy hmq e he)
        · obtain rfl : y = x := by rw [ho] at hy; exact (Option.some.inj hy).symm
          exact .inl (h3 e he)
      · have hnq' : ¬ inR lr q := fun h => hnq ((inR_set hjl).2 (.inr h))
        have hqi : q ≠ i := fun e => hnq ((inR_set hjl).2 (.inl e))
        rw [testBit_add, Bool.or_eq_true, decide_eq_true_iff] at hmq
        have hmq := hmq.resolve_right hqi
        obtain ⟨g1, g2⟩ := hr.held q hq hmq hnq'
        have hy : ops[q]? = some ops[q] := Array.getElem?_eq_getElem hq
        obtain ⟨p1, p2⟩ := hpa q _ hy hmq hnq'
        have hput : ∀ w, YAt rd P ops q a w → YAt rd P ops q (a.put x.dst v) w := fun w h =>
          YAt.put hA hy (fun t ht => ⟨(Oper.apart_spec p1).2.2 t ht, fun e => (Oper.apart_spec p1).2.1 t e ht⟩) h
        refine ⟨g1, ?_⟩
        rcases g2 with ⟨s, hs, g2⟩ | g2
        · exact .inl ⟨s, List.mem_filter.2 ⟨hs, by show (!(A.getD i 0).testBit q) = true; rw [p2]; rfl⟩, fun w h => hput w (g2 w h)⟩
        · exact .inr fun w => hput w (g2 w)
      · by_cases e : x.dst = some t
        · rcases Nat.lt_or_ge t a.tmps.size with hlt | hge
          · rw [e, put_same hlt, put_same (by rw [hr.size]; exact hlt)]
          · have h1 : ∀ b : Act, b.tmps.size ≤ t → (b.put x.dst v).tmps.getD t undef = undef := fun b hb => by
              rw [Array.getD_eq_getD_getElem?, Array.getElem?_eq_none (by rw [put_size]; exact hb)]; rfl
            rw [h1 a hge, h1 ar (by rw [hr.size]; exact hge)]
        · rw [put_get e, put_get e]
          refine hr.get t fun q y hy hmq hnq hd => ?_
          refine ht q y hy (by rw [testBit_add, hmq]; rfl) (fun h => ?_) hd
          rcases (inR_set hjl).1 h with rfl | h
          · rw [h1] at hmq; cases hmq
          · exact hnq h
theorem G.done {a : Act} {w : World} (hA : ancB ops A = true) (hb : doneB ops m = true) (hq : Q .normal a w) : G rd P ops A Q pend m a w := by
  simp only [doneB, List.all_eq_true, List.mem_range] at hb
  intro hH fuel
  have fin : ∀ fuel lr ar, Rel rd P ops A pend m a w fuel lr ar → Region.ready .any ops lr = [] → Q .normal ar w := by
    intro fuel lr ar hr h0
    have hall : ∀ k, k < ops.size → inR lr k := fun k hk => Classical.byContradiction fun hn => ready_ne hA hr.len hk hn h0
    rw [act_ext hr.defers hr.size fun t => hr.get t fun k x hx _ hn => absurd (hall k (Array.getElem?_eq_some_iff.1 hx).1) hn]
    exact hq
  induction fuel with
  | zero =>
    intro lr ar hr
    have h0 : Region.ready .any ops lr = [] := by
      cases hl : Region.ready .any ops lr with
      | nil => rfl
      | cons i l =>
        obtain ⟨hu, x, hx, _⟩ := (mem_ready' hr.len).1 (hl ▸ List.mem_cons_self : i ∈ Region.ready .any ops lr)
        have := count_pos (by rw [hr.len]; exact (Array.getElem?_eq_some_iff.1 hx).1) hu
        have := hr.fuel
        omega
    exact ⟨h0, fin _ _ _ hr h0⟩
  | succ fuel ih =>
    intro lr ar hr
    refine ⟨fin _ _ _ hr, fun i hi => ?_⟩
    obtain ⟨hu, x, hx, _⟩ := (mem_ready' hr.len).1 hi
    exact rel_exec hA hr hH hi (hb i (Array.getElem?_eq_some_iff.1 hx).1) ih

/-! ### The moves, of frames and heaps -/
def TG (w0 : World) (N : Nat) (D : List Deferred) (L : List (Nat × Value)) (h : H) (rd : Option Nat) (P : Program) (ops : Array Oper) (A : List Nat) (Q : Exit → Act → World → Prop) (pend : List (Nat × (H → Prop))) (m : Nat) : Prop :=
  ancB ops A = true → Tr w0 N D L h (G rd P ops A Q pend m)
theorem ltB_lt {d : Option Tmp} (hd : ltB d N = true) : ∀ t, d = some t → t < N := fun t e => by subst e; simpa [ltB, Nat.blt_eq] using hd
theorem g_p (j m' : Nat) {v : Value} (ho : ops[j]? = some o) (hb : takeB ops A m j m' = true) (hy : YP rd P o L v) (hw : gW ops o L = some true) (hd : ltB o.dst N = true)
    (k : TG w0 N D (putL o.dst v L) h rd P ops A Q pend m') : TG w0 N D L h rd P ops A Q pend m := fun hA a w ha hh hl =>
  G.take hA hb ho (fun t e => by rw [ha.size]; exact ltB_lt hd t e) none (fun s e => by cases e) (fun w' _ => .inl ⟨gW_wanted hw ha.get, hy a w' ha.get⟩) (k hA _ w (ha.putL hd v) hh hl)
theorem g_s (j m' : Nat) (ho : ops[j]? = some o) (hb : takeB ops A m j m' = true) (hw : gW ops o L = some false) (hd : ltB o.dst N = true)
    (k : TG w0 N D (putL o.dst undef L) h rd P ops A Q pend m') : TG w0 N D L h rd P ops A Q pend m := fun hA a w ha hh hl =>
  G.take hA hb ho (fun t e => by rw [ha.size]; exact ltB_lt hd t e) none (fun s e => by cases e) (fun w' _ => .inr ⟨gW_wanted hw ha.get, rfl⟩) (k hA _ w (ha.putL hd undef) hh hl)
theorem g_h (j m' : Nat) {v : Value} {S : H → Prop} (ho : ops[j]? = some o) (hb : takeB ops A m j m' = true) (hy : YH rd P o L S v) (hS : S h) (hw : gW ops o L = some true) (hd : ltB o.dst N = true)
    (k : TG w0 N D (putL o.dst v L) h rd P ops A Q ((j, S) :: pend) m') : TG w0 N D L h rd P ops A Q pend m := fun hA a w ha hh hl =>
  G.take hA hb ho (fun t e => by rw [ha.size]; exact ltB_lt hd t e) (some S) (fun s e => by obtain rfl := Option.some.inj e; rw [hh]; exact hS) (fun w' hs => .inl ⟨gW_wanted hw ha.get, hy a w' ha.get (hs S rfl)⟩) (k hA _ w (ha.putL hd v) hh hl)
theorem g_e (j m' : Nat) (pend' : List (Nat × (H → Prop))) (hp : pend.filter (fun p => !(A.getD j 0).testBit p.1) = pend') {K : Value → H → Prop} (ho : ops[j]? = some o) (hb : effB ops A m j m' = true) (he : EV rd P o L h K) (hw : gW ops o L = some true) (hd : ltB o.dst N = true)
    (k : ∀ v h', K v h' → HeldAll pend' h' ∧ TG w0 N D (putL o.dst v L) h' rd P ops A Q pend' m') : TG w0 N D L h rd P ops A Q pend m := fun hA a w ha hh hl => by
  subst hp
  exact G.eff hA hb ho (gW_wanted hw ha.get) ((he a w ha.get hh).mono fun v w' ⟨l, kk⟩ => ⟨(k v _ kk).1, (k v _ kk).2 hA _ _ (ha.putL hd v) rfl (hl.trans l)⟩)
theorem g_d (hb : doneB ops m = true) (k : Tr w0 N D L h (Q .normal)) : TG w0 N D L h rd P ops A Q pend m := fun hA a w ha hh hl => G.done hA hb (k a w ha hh hl)
theorem g_split {t : Nat} {b : Bool} (hv : lk L t = some (.bool b)) (k1 : b = true → TG w0 N D ((t, .bool true) :: L) h rd P ops A Q pend m) (k0 : b = false → TG w0 N D ((t, .bool false) :: L) h rd P ops A Q pend m) : TG w0 N D L h rd P ops A Q pend m := fun hA a w ha hh hl => by
  have fr : ∀ c, b = c → Frm a N D ((t, .bool c) :: L) := fun c e => ⟨ha.size, ha.defers, fun u v hu => by
    rw [lk_cons] at hu
    by_cases e' : t = u
    · subst e'; simp at hu; subst hu; rw [ha.get _ _ hv, e]
    · simp [e'] at hu; exact ha.get u v hu⟩
  cases hb : b with
  | true => exact k1 hb hA a w (fr true hb) hh hl
  | false => exact k0 hb hA a w (fr false hb) hh hl
theorem tr_draw {id : Nat} (hm : P.follows .mixedOrders = true) (A : List Nat) (hA : ancB ops A = true) (k : TG w0 N D L h rd P ops A Q [] 0) : Tr w0 N D L h ((Code.region id ops true).wpIn (Fz rd) 0 P Q) := fun a w ha hh hl => by
  refine wpIn_region_any hm ?_
  refine k hA a { w with drawn := w.drawn + 1 } ha hh ⟨hl.os, hl.tape, hl.output⟩ trivial _ _ _ ⟨by simp, fun k o _ hk => ?_, fun k hk => ?_, fun k o _ hk => by simp at hk, fun k _ hk => by simp at hk, rfl, rfl, fun _ _ => rfl, ?_⟩
  · exfalso
    rcases Nat.lt_or_ge k ops.size with hlt | hge <;> simp [inR, *] at hk
  · exfalso
    rcases Nat.lt_or_ge k ops.size with hlt | hge <;> simp [inR, *] at hk
  · simp
end
end Go.Proofs.Ytidpbnbjpglhfaa.V
