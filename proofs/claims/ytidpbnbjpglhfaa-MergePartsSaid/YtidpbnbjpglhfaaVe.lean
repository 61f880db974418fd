/- The calculus, continued: operations that change the heap, calls, the way into a function and out of it; no condition. -/
import Derived.Test.YtidpbnbjpglhfaaVd
namespace Go.Proofs.Ytidpbnbjpglhfaa.V
open Go
set_option linter.unusedVariables false
set_option linter.unusedSimpArgs false

/-- A computation that goes through in every world with this heap: it yields v, and leaves h'. -/
def RunS {α : Type} (P : Program) (s : Sem α) (h : H) (K : α → H → Prop) : Prop :=
  ∀ w : World, w.heap = h → ∃ v w', s.run P w = .ok v w' ∧ Like w w' ∧ K v w'.heap
theorem RunS.mono {α : Type} {P : Program} {s : Sem α} {h : H} {K K' : α → H → Prop} (hr : RunS P s h K) (hk : ∀ v h', K v h' → K' v h') : RunS P s h K' := fun w hw =>
  let ⟨v, w', e, l, k⟩ := hr w hw; ⟨v, w', e, l, hk _ _ k⟩
theorem RunS.pure {α : Type} {P : Program} {a : α} {h : H} {K : α → H → Prop} (k : K a h) : RunS P (Pure.pure a : Sem α) h K := fun w hw => ⟨a, w, by simp [go_sem], Like.refl w, hw ▸ k⟩
theorem RunS.bind {α β : Type} {P : Program} {s : Sem α} {f : α → Sem β} {h : H} {K : β → H → Prop} (k : RunS P s h fun v h' => RunS P (f v) h' K) : RunS P (s >>= f) h K := fun w hw => by
  obtain ⟨v, w1, e1, l1, k1⟩ := k w hw
  obtain ⟨u, w2, e2, l2, k2⟩ := k1 w1 rfl
  exact ⟨u, w2, by simp [go_sem, e1, e2], l1.trans l2, k2⟩
theorem RunS.of_run {α : Type} {P : Program} {s : Sem α} {v : α} {h : H} {K : α → H → Prop} (hr : ∀ w : World, w.heap = h → s.run P w = .ok v w) (k : K v h) : RunS P s h K := fun w hw => ⟨v, w, hr w hw, Like.refl w, hw ▸ k⟩

section
variable {P : Program} {rd : Option Nat} {L : List (Nat × Value)} {h : H} {d : Option Tmp} {ty : TypeId} {ps : String} {af : Array Edge} {g : Option (Nat × Bool)} {x y c : Operand} {vx vy v : Value}
theorem ev_of {o : Oper} {K : Value → H → Prop} (hd : ∀ c, o.op ≠ .defer c) {s : Sem Value} (he : ∀ a, Ag a L → execOp a.eval o = (do pure (.value (← s)) : Sem Next)) (hs : RunS P s h K) : EV rd P o L h K := fun a w ha hw => by
  obtain ⟨v, w', e, l, k⟩ := hs w hw
  unfold StepV
  rw [Oper.semAt_eq rd _ o hd, he a ha]
  simp only [show ((do pure (.value (← s)) : Sem Next)).run P w = .ok (.value v) w' from by simp [go_sem, e]]
  exact ⟨l, k⟩
theorem eu_of {o : Oper} {K : Value → H → Prop} (hd : ∀ c, o.op ≠ .defer c) {s : Sem Unit} (he : ∀ a, Ag a L → execOp a.eval o = (do s; pure .skip : Sem Next)) (hs : RunS P s h fun _ h' => K undef h') : EV rd P o L h K := fun a w ha hw => by
  obtain ⟨v, w', e, l, k⟩ := hs w hw
  unfold StepV
  rw [Oper.semAt_eq rd _ o hd, he a ha]
  simp only [show ((do s; pure .skip : Sem Next)).run P w = .ok .skip w' from by simp [go_sem, e]]
  exact ⟨l, k⟩

/-! ### New memory -/
theorem RunS.newObj {o : Obj} {K : Nat → H → Prop} (k : K h.size (h.push o)) : RunS P (newObj o) h K := fun w hw => ⟨w.heap.size, { w with heap := w.heap.push o }, rfl, ⟨rfl, rfl, rfl⟩, by subst hw; exact k⟩
theorem RunS.newRow {e : TypeId} {cs : Array Value} {K : Addr → H → Prop} (k : K ⟨h.size, 0, none⟩ (h.push (.cells cs e))) : RunS P (newRow e cs) h K := RunS.bind (RunS.newObj (RunS.pure k))
theorem e_box {e : TypeId} {K : Value → H → Prop} (hx : evL L x = some vx) (k : K (.pointer (some ⟨h.size, 0, none⟩)) (h.push (.cells vx.cells e))) : EV rd P ⟨d, .box e x, ty, ps, af, g⟩ L h K :=
  ev_of (by simp) (s := Instr.box e vx) (fun a ha => by simp only [execOp, ha.ev hx]) (RunS.bind (RunS.newRow (RunS.pure k)))
theorem e_alloc {e : TypeId} {z : Value} {K : Value → H → Prop} (hz : ∀ w, (zeroValue e).run P w = .ok z w) (k : K (.pointer (some ⟨h.size, 0, none⟩)) (h.push (.cells z.cells e))) : EV rd P ⟨d, .alloc e, ty, ps, af, g⟩ L h K :=
  ev_of (by simp) (s := Instr.alloc e true (.tuple #[])) (fun a ha => by simp only [execOp]) (RunS.bind (RunS.of_run (fun w _ => hz w) (RunS.bind (RunS.newRow (RunS.pure k)))))

/-! ### Stores -/
theorem RunS.store {a : Addr} {v old : Value} {K : Unit → H → Prop} (hv : v.oneCell' = true) (hc : cellH h a = some old) (hf : frozenH h a = false) (k : K () (setH h a v)) : RunS P (store a v) h K := fun w hw => by
  subst hw
  have hc' : w.cell? a = some old := hc
  have hf' : w.frozen? a = false := hf
  refine ⟨(), w.setCell a v, ?_, ⟨rfl, rfl, rfl⟩, k⟩
  cases v <;> simp [Value.oneCell'] at hv <;> simp [store, Sem.run, hc', hf']
/-- The heap with the cells from p on written. -/
def setHs (h : H) (p : Addr) : List Value → Nat → H
  | [], _ => h
  | v :: r, i => setHs (setH h (p.add i) v) p r (i + 1)
theorem cellH_set_other {h : H} {a b : Addr} {v : Value} (hne : a.block ≠ b.block ∨ a.off ≠ b.off) : cellH (setH h a v) b = cellH h b := by
  unfold cellH setH
  by_cases e : a.block = b.block
  · rw [e]
    cases hb : h[b.block]? with
    | none => simp [Array.getElem?_modify, hb]
    | some o =>
      have ho : a.off ≠ b.off := hne.resolve_left fun k => k e
      cases o <;> simp [Array.getElem?_modify, hb]
      split
      · rfl
      · split
        · rfl
        · rw [Array.getElem?_setIfInBounds_ne ho]
  · simp [Array.getElem?_modify, e]
theorem cellH_set_same {h : H} {a : Addr} {v old : Value} (hc : cellH h a = some old) : cellH (setH h a v) a = some v := by
  unfold cellH at hc
  unfold cellH setH
  cases hb : h[a.block]? with
  | none => simp [hb] at hc
  | some o =>
    cases o <;> simp [hb] at hc
    rename_i c e fr
    obtain ⟨h1, h2⟩ := hc
    have hlt : a.off < c.size := (Array.getElem?_eq_some_iff.1 h2).1
    simp [Array.getElem?_modify, hb, h1, hlt]
theorem frozenH_set {h : H} {a b : Addr} {v : Value} : frozenH (setH h a v) b = frozenH h b := by
  unfold frozenH setH
  by_cases e : a.block = b.block
  · rw [e]
    cases hb : h[b.block]? with
    | none => simp [Array.getElem?_modify, hb]
    | some o => cases o <;> simp [Array.getElem?_modify, hb]
  · simp [Array.getElem?_modify, e]
theorem cellH_spot {h : H} {a : Addr} {v : Value} (hc : cellH h a = some v) : a.spot = none := by
  unfold cellH at hc
  split at hc
  · split at hc
    · cases hc
    · rename_i h; simpa using h
  · cases hc
theorem Addr.add_off (p : Addr) (i : Nat) : (p.add i).off = p.off + i := by unfold Addr.add; split <;> simp_all
theorem Addr.add_block (p : Addr) (i : Nat) : (p.add i).block = p.block := by unfold Addr.add; split <;> rfl
theorem RunS.storeCells {p : Addr} {K : Unit → H → Prop} : ∀ (vs : List Value) (i : Nat) (h : H), (∀ v ∈ vs, v.oneCell' = true) → (∀ j, j < vs.length → (cellH h (p.add (i + j))).isSome = true ∧ frozenH h (p.add (i + j)) = false) → K () (setHs h p vs i) → RunS P (storeCells p vs i) h K
  | [], i, h, _, _, k => RunS.pure k
  | v :: r, i, h, ho, hc, k => by
    obtain ⟨h0, f0⟩ := hc 0 (by simp)
    obtain ⟨old, hold⟩ := Option.isSome_iff_exists.1 h0
    rw [Nat.add_zero] at hold f0
    refine RunS.bind (RunS.store (ho v (by simp)) hold f0 ?_)
    refine RunS.storeCells r (i + 1) _ (fun u hu => ho u (List.mem_cons_of_mem _ hu)) (fun j hj => ?_) k
    obtain ⟨h1, f1⟩ := hc (j + 1) (by simp; omega)
    rw [show i + (j + 1) = i + 1 + j from by omega] at h1 f1
    rw [cellH_set_other (.inr (by simp only [Addr.add_off]; omega)), frozenH_set]
    exact ⟨h1, f1⟩
theorem e_store {t : TypeId} {p : Addr} {n : Nat} {K : Value → H → Prop} (hz : ∀ w, (sizeOf t).run P w = .ok n w) (hx : evL L x = some (.pointer (some p))) (hy : evL L y = some vy) (hn : vy.cells.size = n)
    (ho : ∀ v ∈ vy.cells.toList, v.oneCell' = true) (hc : ∀ j, j < n → (cellH h (p.add j)).isSome = true ∧ frozenH h (p.add j) = false) (k : K undef (setHs h p vy.cells.toList 0)) : EV rd P ⟨d, .store t x y, ty, ps, af, g⟩ L h K :=
  eu_of (by simp) (s := Instr.storeAt t (.pointer (some p)) vy) (fun a ha => by simp only [execOp, ha.ev hx, ha.ev hy]) (by
    unfold Instr.storeAt
    refine RunS.bind (RunS.pure ?_)
    unfold storeVar
    refine RunS.bind (RunS.of_run (fun w _ => hz w) ?_)
    simp only [hn, ne_eq, not_true_eq_false, if_false]
    refine RunS.bind (RunS.pure ?_)
    refine RunS.storeCells _ 0 _ ho (fun j hj => ?_) k
    rw [Nat.zero_add]
    exact hc j (by simpa [hn] using hj))

/-! ### Calls -/
def evLs (L : List (Nat × Value)) : List Operand → Option (List Value)
  | [] => some []
  | x :: r => match evL L x, evLs L r with
    | some v, some vs => some (v :: vs)
    | _, _ => none
theorem Ag.evs {a : Act} (ha : Ag a L) : ∀ {xs : List Operand} {vs : List Value}, evLs L xs = some vs → xs.map a.eval = vs := by
  intro xs
  induction xs with
  | nil => intro vs h; simp [evLs] at h; subst h; rfl
  | cons x r ih =>
    intro vs h
    unfold evLs at h
    split at h
    · rename_i v vs' h1 h2
      simp at h; subst h
      simp [ha.ev h1, ih h2]
    · cases h
theorem e_call {f : FuncId} {as : List Operand} {ts : Array TypeId} {vs : List Value} {K : Value → H → Prop} (hc : ∀ args w, (callFunc f args).run P w = .ok (.enter f args) w) (ha : evLs L as = some vs) (hF : Fn P f vs.toArray h K) :
    EV rd P ⟨d, .call { callee := .value (.func f), args := as.toArray, argTypes := ts }, ty, ps, af, g⟩ L h K := fun a w hag hw => by
  unfold StepV
  rw [Oper.semAt_eq rd _ _ (by simp)]
  have hr : (execOp a.eval ⟨d, .call { callee := .value (.func f), args := as.toArray, argTypes := ts }, ty, ps, af, g⟩).run P w = .ok (.enter f vs.toArray) w := by
    simp only [execOp, resolve, List.map_toArray, hag.evs ha, Act.eval, Deferred.ofValue]
    simp [invoke, go_sem, hc]
  rw [hr]
  exact CallsIn.mono (hF w hw) fun e w' ⟨r, he, hl, q⟩ => ⟨r, he, hl, q⟩
/-- A call of a value that is a function of the program. -/
theorem e_callV {f : FuncId} {as : List Operand} {ts : Array TypeId} {vs : List Value} {fi ca : Array Value} {K : Value → H → Prop} (hc : ∀ args w, (callFunc f args).run P w = .ok (.enter f args) w) (hx : evL L x = some (.func (.func f) fi ca)) (ha : evLs L as = some vs) (hF : Fn P f (fi ++ vs.toArray ++ ca) h K) :
    EV rd P ⟨d, .call { callee := .value x, args := as.toArray, argTypes := ts }, ty, ps, af, g⟩ L h K := fun a w hag hw => by
  unfold StepV
  rw [Oper.semAt_eq rd _ _ (by simp)]
  have hr : (execOp a.eval ⟨d, .call { callee := .value x, args := as.toArray, argTypes := ts }, ty, ps, af, g⟩).run P w = .ok (.enter f (fi ++ vs.toArray ++ ca)) w := by
    simp only [execOp, resolve, List.map_toArray, hag.evs ha, hag.ev hx, Deferred.ofValue]
    simp [invoke, go_sem, hc]
  rw [hr]
  exact CallsIn.mono (hF w hw) fun e w' ⟨r, he, hl, q⟩ => ⟨r, he, hl, q⟩
end

/-- One that changes nothing, taken in its turn. -/
theorem yp_ev {P : Program} {rd : Option Nat} {L : List (Nat × Value)} {h : H} {o : Oper} {v : Value} (hy : YP rd P o L v) : EV rd P o L h fun u h' => u = v ∧ h' = h :=
  YH.ev (S := fun _ => True) (fun a w ha _ => hy a w ha) trivial
/-! ### Into a function, and out -/
def initL : List Value → Nat → List (Nat × Value)
  | [], _ => []
  | v :: r, i => (i, v) :: initL r (i + 1)
theorem initL_lk : ∀ (vs : List Value) (i t : Nat) (v : Value), lk (initL vs i) t = some v → i ≤ t ∧ vs[t - i]? = some v
  | [], i, t, v, h => by simp [initL, lk] at h
  | u :: r, i, t, v, h => by
    rw [initL, lk_cons] at h
    by_cases e : i = t
    · subst e; simp at h; subst h; simp
    · simp [e] at h
      obtain ⟨h1, h2⟩ := initL_lk r (i + 1) t v h
      refine ⟨by omega, ?_⟩
      rw [show t - i = (t - (i + 1)) + 1 from by omega, List.getElem?_cons_succ]
      exact h2
def PostF (P : Program) (fn : Func) (Q : Value → H → Prop) (w0 : World) : Exit → Act → World → Prop :=
  bodyPost P fn fun e w' => ∃ r, e = .returned r ∧ Like w0 w' ∧ Q r w'.heap
theorem fn_of {P : Program} {f : FuncId} {fn : Func} {c : Code} {vs : List Value} {h : H} {Q : Value → H → Prop} {N : Nat} (hf : P.funcs[f]? = some fn) (hN : fn.ntmps = N) (hb : fn.body = some c) (hn : Nat.ble vs.length N = true)
    (k : ∀ w0, Tr w0 N [] (initL vs 0) h (c.wpIn (Fz none) 0 P (PostF P fn Q w0))) : Fn P f vs.toArray h Q := fun w hw => by
  subst hN
  refine callsIn_of_wp hf hb trivial ?_
  refine k w _ w ⟨?_, rfl, fun t v ht => ?_⟩ hw (Like.refl w)
  · have := Nat.le_of_ble_eq_true hn
    simp; omega
  · obtain ⟨_, h2⟩ := initL_lk vs 0 t v ht
    rw [Nat.sub_zero] at h2
    have hlt : t < vs.length := (List.getElem?_eq_some_iff.1 h2).1
    rw [Array.getD_eq_getD_getElem?, Array.getElem?_append_left (by simpa using hlt)]
    simp [h2]
section
variable {w0 : World} {N : Nat} {L : List (Nat × Value)} {h : H} {P : Program} {fn : Func} {Q : Value → H → Prop} {v : Value}
theorem tr_ret0 (hr : fn.results = #[]) (k : Q (.tuple #[]) h) : Tr w0 N [] L h (PostF P fn Q w0 .ret) := fun a w ha hh hl =>
  ⟨ha.defers, _, results_none hr _ _ _, _, rfl, hl, hh ▸ k⟩
theorem tr_end0 (hr : fn.results = #[]) (k : Q (.tuple #[]) h) : Tr w0 N [] L h (PostF P fn Q w0 .normal) := fun a w ha hh hl =>
  ⟨ha.defers, _, results_none hr _ _ _, _, rfl, hl, hh ▸ k⟩
theorem tr_ret1 {t : Tmp} (hr : fn.results = #[.tmp t]) (hv : lk L t = some v) (k : Q v h) : Tr w0 N [] L h (PostF P fn Q w0 .ret) := fun a w ha hh hl => by
  refine ⟨ha.defers, _, results_tmp hr _ _ _, _, rfl, hl, ?_⟩
  rw [ha.get _ _ hv, hh]; exact k
theorem tr_ret2 {t u : Tmp} {v1 v2 : Value} (hr : fn.results = #[.tmp t, .tmp u]) (h1 : lk L t = some v1) (h2 : lk L u = some v2) (k : Q (.tuple #[v1, v2]) h) : Tr w0 N [] L h (PostF P fn Q w0 .ret) := fun a w ha hh hl => by
  refine ⟨ha.defers, _, results_tmp2 hr _ _ _, _, rfl, hl, ?_⟩
  rw [ha.get _ _ h1, ha.get _ _ h2, hh]; exact k
theorem tr_ret3 {t u s : Tmp} {v1 v2 v3 : Value} (hr : fn.results = #[.tmp t, .tmp u, .tmp s]) (h1 : lk L t = some v1) (h2 : lk L u = some v2) (h3 : lk L s = some v3) (k : Q (.tuple #[v1, v2, v3]) h) : Tr w0 N [] L h (PostF P fn Q w0 .ret) := fun a w ha hh hl => by
  refine ⟨ha.defers, _, results_tmp3 hr _ _ _, _, rfl, hl, ?_⟩
  rw [ha.get _ _ h1, ha.get _ _ h2, ha.get _ _ h3, hh]; exact k
end
end Go.Proofs.Ytidpbnbjpglhfaa.V
