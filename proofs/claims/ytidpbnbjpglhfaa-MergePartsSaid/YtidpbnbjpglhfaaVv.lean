/- More of the calculus: maps and arrays as kinds of their own, a lock's marks and atomic words, deferred calls; no condition. -/
import Derived.Test.YtidpbnbjpglhfaaVn
import Derived.Laws.Externs
import Derived.Laws.LoneSync
import Derived.MapKept
namespace Go.Proofs.Ytidpbnbjpglhfaa.V
open Go
set_option linter.unusedVariables false
set_option linter.unusedSimpArgs false

def ldM (h : H) (a : Addr) (K : Option Nat → Prop) : Prop := ∃ n, cellH h a = some (.map n) ∧ K n
theorem ldM_of {h : H} {a : Addr} {n : Option Nat} {K : Option Nat → Prop} (hc : cellH h a = some (.map n)) (kk : K n) : ldM h a K := ⟨n, hc, kk⟩
theorem ldM_iff {h : H} {a : Addr} {n : Option Nat} {K : Option Nat → Prop} (hc : cellH h a = some (.map n)) : ldM h a K ↔ K n := by
  constructor
  · rintro ⟨m, h1, k⟩; rw [hc] at h1; cases h1; exact k
  · exact ldM_of hc
/-- An array's value is read: n things, m cells. -/
def ldA {α : Type} (f : α → List Value) (n m : Nat) (h : H) (a : Addr) (K : List α → Prop) : Prop := ∃ L : List α, (L.flatMap f).length = m ∧ L.length = n ∧ Cells h a (L.flatMap f) ∧ K L
def idxV {α : Type} (L : List α) (n : Nat) (i : Int) (K : α → Prop) : Prop := ∃ x, (0 ≤ i ∧ i < (n : Int) ∧ L.length = n ∧ L[i.toNat]? = some x) ∧ K x
/-- There is something at a. -/
def hasC (h : H) (a : Addr) : Prop := ∃ v, cellH h a = some v
def casI (k : IntKind) (h : H) (a : Addr) (x y : Int) (K : Bool → H → Prop) : Prop := ∃ n, cellH h a = some (.int k n) ∧ frozenH h a = false ∧ (n = x → K true (setH h a (.int k y))) ∧ (¬ n = x → K false h)
def addI (k : IntKind) (h : H) (a : Addr) (y : Int) (K : Int → H → Prop) : Prop := ∃ n, cellH h a = some (.int k n) ∧ frozenH h a = false ∧ K (k.wrap (n + y)) (setH h a (.int k (k.wrap (n + y))))
theorem ones_flat {α : Type} {f : α → List Value} (hf : ∀ x, ∀ v ∈ f x, v.oneCell' = true) (l : List α) : ∀ v ∈ l.flatMap f, v.oneCell' = true := fun v hv => by
  obtain ⟨x, _, hx⟩ := List.mem_flatMap.1 hv
  exact hf x v hx
theorem flat_at {α : Type} (f : α → List Value) (k : Nat) : ∀ (L : List α) (i : Nat) (x : α), (∀ y ∈ L, (f y).length = k) → L[i]? = some x → ((L.flatMap f).drop (i * k)).take k = f x
  | [], i, x, _, hx => by simp at hx
  | y :: r, 0, x, hf, hx => by
    simp at hx; subst hx
    rw [Nat.zero_mul, List.drop_zero, List.flatMap_cons]
    have := hf y (by simp)
    rw [List.take_append_of_le_length (by omega), ← this, List.take_length]
  | y :: r, i + 1, x, hf, hx => by
    simp only [List.getElem?_cons_succ] at hx
    rw [List.flatMap_cons, show (i + 1) * k = (f y).length + i * k from by rw [hf y (by simp), Nat.add_mul]; omega, ← List.drop_drop, List.drop_left']
    · exact flat_at f k r i x (fun z hz => hf z (by simp [hz])) hx
    · rfl
section
variable {P : Program} {rd : Option Nat} {L : List (Nat × Value)} {h : H} {d : Option Tmp} {ty : TypeId} {ps : String} {af : Array Edge} {g : Option (Nat × Bool)} {x y c : Operand} {vx vy v : Value}
/-- A thing of an array's value, that is a struct. -/
theorem f_idxVS {α : Type} {f : α → List Value} {M : List α} {t e : TypeId} {n m : Nat} {i : Int} {k : IntKind} {z : α} (hs : ∀ w, (underlying t).run P w = .ok (.array n e) w) (ha : ∀ w, (isAgg e).run P w = .ok true w) (hz : ∀ w, (sizeOf e).run P w = .ok m w)
    (hf : ∀ z, (f z).length = m) (hx : evL L x = some (.agg (M.flatMap f).toArray)) (hy : evL L y = some (.int k i)) (hi : 0 ≤ i ∧ i < (n : Int) ∧ M.length = n ∧ M[i.toNat]? = some z) :
    YP rd P ⟨d, .index t x y, ty, ps, af, g⟩ L (.agg (f z).toArray) := yp_of (by simp) fun a w hag => by
  obtain ⟨h0, h1, _, h2⟩ := hi
  have hd := flat_at f m M i.toNat z (fun y _ => hf y) h2
  simp only [execOp, hag.ev hx, hag.ev hy]
  have : (part e (M.flatMap f).toArray (i.toNat * m)).run P w = .ok (.agg (f z).toArray) w := by
    simp only [part, Sem.run_bind, ha, hz, Result.andThen, if_true, Sem.run_pure]
    rw [← hd]
    simp [List.extract_eq_take_drop]
  refine run_via ?_
  unfold Instr.index
  simp only [asIntOf, Sem.run_bind, Sem.run_pure, hs, Result.andThen, h0, h1, and_self, if_true, hz, this]
/-- One that is one cell. -/
theorem f_idxV1 {α : Type} {f : α → List Value} {M : List α} {t e : TypeId} {n : Nat} {i : Int} {k : IntKind} {z : α} {u : Value} (hs : ∀ w, (underlying t).run P w = .ok (.array n e) w) (ha : ∀ w, (isAgg e).run P w = .ok false w) (hz : ∀ w, (sizeOf e).run P w = .ok 1 w)
    (hf : ∀ z, (f z).length = 1) (hu : f z = [u]) (hx : evL L x = some (.agg (M.flatMap f).toArray)) (hy : evL L y = some (.int k i)) (hi : 0 ≤ i ∧ i < (n : Int) ∧ M.length = n ∧ M[i.toNat]? = some z) :
    YP rd P ⟨d, .index t x y, ty, ps, af, g⟩ L u := yp_of (by simp) fun a w hag => by
  obtain ⟨h0, h1, _, h2⟩ := hi
  have hd := flat_at f 1 M i.toNat z (fun y _ => hf y) h2
  rw [hu] at hd
  have hg : (M.flatMap f)[i.toNat * 1]? = some u := by
    have := congrArg (·[0]?) hd
    simpa [List.getElem?_take] using this
  simp only [execOp, hag.ev hx, hag.ev hy]
  have : (part e (M.flatMap f).toArray (i.toNat * 1)).run P w = .ok u w := by
    simp only [part, Sem.run_bind, ha, Result.andThen, Bool.false_eq_true, if_false, List.getElem?_toArray, hg, Sem.run_pure]
  refine run_via ?_
  unfold Instr.index
  simp only [asIntOf, Sem.run_bind, Sem.run_pure, hs, Result.andThen, h0, h1, and_self, if_true, hz, this]
theorem f_idxArr {t e : TypeId} {n size : Nat} {i : Int} {k : IntKind} {p : Addr} (hs : ∀ w, (underlying t).run P w = .ok (.array n e) w) (hz : ∀ w, (sizeOf e).run P w = .ok size w)
    (hx : evL L x = some (.pointer (some p))) (hy : evL L y = some (.int k i)) (hi : 0 ≤ i ∧ i < (n : Int)) :
    YP rd P ⟨d, .indexAddr t x y, ty, ps, af, g⟩ L (.pointer (some (p.add (i.toNat * size)))) := yp_of (by simp) fun a w hag => by
  obtain ⟨h0, h1⟩ := hi
  simp only [execOp, hag.ev hx, hag.ev hy]
  simp [Instr.indexAt, Instr.sureAddr, asIntOf, hs, h0, h1, hz, go_sem]
theorem f_sliceArr {t e : TypeId} {n size : Nat} {p : Addr} (hs : ∀ w, (underlying t).run P w = .ok (.array n e) w) (hz : ∀ w, (sizeOf e).run P w = .ok size w) (hx : evL L x = some (.pointer (some p))) :
    YP rd P ⟨d, .slice t x none none none, ty, ps, af, g⟩ L (.slice (some p) n n) := yp_of (by simp) fun a w hag => by
  have hb : (Instr.sliceBounds false n n none none none).run P w = .ok (0, n, n) w := by simp [Instr.sliceBounds, go_sem]
  simp only [execOp, hag.ev hx, Option.map_none]
  simp [Instr.sliceAt, Instr.sureAddr, hs, hz, hb, go_sem]
theorem map_nil {t kt et : TypeId} {p : Option Nat} (hs : ∀ w, (underlying t).run P w = .ok (.map kt et) w) (n : Nat) (w : World) : (Op.equalIn (n + 1) t (.map p) (.map none)).run P w = .ok p.isNone w := by
  cases p <;> unfold Op.equalIn <;> simp only [Sem.run_bind, hs, Result.andThen, Sem.run_pure, Option.isNone_none, Option.isNone_some]
theorem y_mnil_eql {t t' kt et : TypeId} {p : Option Nat} (hs : ∀ w, (underlying t).run P w = .ok (.map kt et) w) (hx : evL L x = some (.map p)) (hy : evL L y = some (.map none)) : YP rd P ⟨d, .binOp .eql t x y t', ty, ps, af, g⟩ L (.bool p.isNone) :=
  nil_eql hx hy (map_nil hs) (fun op => .inr (by cases op <;> rfl)) (by cases p <;> rfl)
theorem y_mnil_neq {t t' kt et : TypeId} {p : Option Nat} (hs : ∀ w, (underlying t).run P w = .ok (.map kt et) w) (hx : evL L x = some (.map p)) (hy : evL L y = some (.map none)) : YP rd P ⟨d, .binOp .neq t x y t', ty, ps, af, g⟩ L (.bool (!p.isNone)) :=
  nil_neq hx hy (map_nil hs) (fun op => .inr (by cases op <;> rfl)) (by cases p <;> rfl)
/-! ### A lock's marks and words -/
/-- A function without a body that leaves all as it is. -/
def Still (P : Program) (f : FuncId) (vs : List Value) : Prop := ∀ w : World, (callFunc f vs.toArray).run P w = .ok (.value (.tuple #[])) w
theorem y_still {f : FuncId} {as : List Operand} {ts : Array TypeId} {vs : List Value} (hc : Still P f vs) (ha : evLs L as = some vs) :
    YP rd P ⟨d, .call { callee := .value (.func f), args := as.toArray, argTypes := ts }, ty, ps, af, g⟩ L (.tuple #[]) := fun ac w hag => by
  rw [Oper.semAt_eq rd _ _ (by simp)]
  simp only [execOp, resolve, List.map_toArray, hag.evs ha, Act.eval, Deferred.ofValue]
  have := hc w
  simp [invoke, go_sem, this]
theorem y_upt {s t e : TypeId} {p : Addr} (hs : P.underlying s = some (.pointer e)) (hd : P.underlying t = some .unsafePointer) (hz : (P.info? e).map (fun i => decide (i.size = 0)) = some false) {q : Option Addr} (hx : evL L x = some (.pointer q)) (hp : q = some p) :
    YH rd P ⟨d, .convert s t x, ty, ps, af, g⟩ L (fun h => hasC h p) (.pointer (some p)) := yh_of (by simp) fun a w ha hc => by
  obtain ⟨v, hv⟩ := hc
  subst hp
  simp only [execOp, ha.ev hx]
  have := run_convert_to_unsafe (P := P) hs hd hz (a := p) (v := v) (w := w) hv
  simp [go_sem, this]
def CasF (P : Program) (f : FuncId) (k : IntKind) : Prop := ∀ (a : Addr) (n x y : Int) (w : World), w.cell? a = some (.int k n) → w.frozen? a = false →
  (callFunc f #[.pointer (some a), .int k x, .int k y]).run P w = if n = x then .ok (.value (.bool true)) (w.setCell a (.int k y)) else .ok (.value (.bool false)) w
def AddF (P : Program) (f : FuncId) (k : IntKind) : Prop := ∀ (a : Addr) (n y : Int) (w : World), w.cell? a = some (.int k n) → w.frozen? a = false →
  (callFunc f #[.pointer (some a), .int k y]).run P w = .ok (.value (.int k (k.wrap (n + y)))) (w.setCell a (.int k (k.wrap (n + y))))
theorem casF_of {f : FuncId} {fn : Func} {k : IntKind} (hf : P.funcs[f]? = some fn) (hname : (fn.name == "runtime.NumGoroutine") = false) (hb : fn.body.isNone = true) (hn : Extern.findNext fn = none) (he : Extern.find fn = some (Extern.Atomic.casT (.int k))) : CasF P f k := fun a n x y w hc hz => by
  by_cases e : n = x
  · subst e; rw [if_pos rfl]; exact run_call_cas_hit hf hname hb hn k he hc hz
  · rw [if_neg e]; exact run_call_cas_miss hf hname hb hn k he hc hz e
theorem addF_of {f : FuncId} {fn : Func} {k : IntKind} (hf : P.funcs[f]? = some fn) (hname : (fn.name == "runtime.NumGoroutine") = false) (hb : fn.body.isNone = true) (hn : Extern.findNext fn = none) (he : Extern.find fn = some (Extern.Atomic.update (Op.intArith .add) k true)) : AddF P f k := fun a n y w hc hz =>
  run_call_add hf hname hb hn k he hc hz (by simp [Op.intArith, go_sem])
theorem f_cas {f : FuncId} {as : List Operand} {ts : Array TypeId} {k : IntKind} {a : Addr} {m n : Int} {K : Bool → H → Prop} (hc : CasF P f k) (ha : evLs L as = some [.pointer (some a), .int k m, .int k n]) (kk : casI k h a m n K) :
    EV rd P ⟨d, .call { callee := .value (.func f), args := as.toArray, argTypes := ts }, ty, ps, af, g⟩ L h fun v h' => ∃ b, v = .bool b ∧ K b h' := fun ac w hag hw => by
  subst hw
  obtain ⟨z, h1, h2, k1, k0⟩ := kk
  unfold StepV
  rw [Oper.semAt_eq rd _ _ (by simp)]
  simp only [execOp, resolve, List.map_toArray, hag.evs ha, Act.eval, Deferred.ofValue]
  have := hc a z m n w h1 h2
  by_cases e : z = m
  · rw [if_pos e] at this
    simp [invoke, go_sem, this]
    exact ⟨⟨rfl, rfl, rfl⟩, k1 e⟩
  · rw [if_neg e] at this
    simp [invoke, go_sem, this]
    exact ⟨Like.refl _, k0 e⟩
theorem f_addI {f : FuncId} {as : List Operand} {ts : Array TypeId} {k : IntKind} {a : Addr} {n : Int} {K : Int → H → Prop} (hc : AddF P f k) (ha : evLs L as = some [.pointer (some a), .int k n]) (kk : addI k h a n K) :
    EV rd P ⟨d, .call { callee := .value (.func f), args := as.toArray, argTypes := ts }, ty, ps, af, g⟩ L h fun v h' => ∃ m, v = .int k m ∧ K m h' := fun ac w hag hw => by
  subst hw
  obtain ⟨z, h1, h2, k1⟩ := kk
  unfold StepV
  rw [Oper.semAt_eq rd _ _ (by simp)]
  simp only [execOp, resolve, List.map_toArray, hag.evs ha, Act.eval, Deferred.ofValue]
  have := hc a z n w h1 h2
  simp [invoke, go_sem, this]
  exact ⟨⟨rfl, rfl, rfl⟩, k1⟩
end
/-! ### Interfaces; a map's clone -/
def isIf : TypeDesc → Bool
  | .interface _ => true
  | _ => false
/-- v is what e makes of some y. -/
def asV {α : Type} (v : Value) (e : α → Value) (K : α → Prop) : Prop := ∃ y, v = e y ∧ K y
def clM (h : H) (p : Option Nat) (K : Nat → H → Prop) : Prop := ∃ b es clock, p = some b ∧ h[b]? = some (.map es clock) ∧ K h.size (h.push (.map es clock))
def CloneF (P : Program) (f : FuncId) : Prop := ∀ (t : TypeId) (b : Nat) (es : Array MapEntry) (clock : Nat) (w : World), w.heap[b]? = some (.map es clock) →
  (callFunc f #[.iface t (.map (some b))]).run P w = .ok (.value (.iface t (.map (some w.heap.size)))) (w.alloc (.map es clock))
theorem cloneF_of {P : Program} {f : FuncId} {fn : Func} (hf : P.funcs[f]? = some fn) (hname : (fn.name == "runtime.NumGoroutine") = false) (hb : fn.body.isNone = true) (hn : Extern.findNext fn = none) (he : Extern.find fn = some Extern.MapsClone.clone) : CloneF P f := fun t b es clock w hw => by
  rw [run_callFunc_extern hf hname hb hn he]
  have e : Extern.MapsClone.clone #[.iface t (.map (some b))] = (getObj b >>= fun o => match o with
      | .map entries clock => (newObj (.map entries clock) >>= fun n => pure (.iface t (.map (some n))))
      | _ => stuck "maps.clone: a map expected") := rfl
  rw [e]
  simp [MapKept.run_getObj_map hw, Result.andThen, go_sem]
section
variable {P : Program} {rd : Option Nat} {L : List (Nat × Value)} {h : H} {d : Option Tmp} {ty : TypeId} {ps : String} {af : Array Edge} {g : Option (Nat × Bool)} {x y c : Operand} {vx vy v : Value}
theorem y_mkif {t : TypeId} {e : TypeDesc} (hs : ∀ w, (underlying t).run P w = .ok e w) (he : isIf e = false) (hx : evL L x = some v) : YP rd P ⟨d, .makeInterface t x, ty, ps, af, g⟩ L (.iface t v) := yp_of (by simp) fun a w ha => by
  simp only [execOp, ha.ev hx]
  refine run_via ?_
  unfold Instr.makeInterface
  simp only [Sem.run_bind, hs, Result.andThen]
  cases e <;> first | rfl | cases he
theorem y_tas {t xT : TypeId} {e : TypeDesc} {u : Value} (hs : ∀ w, (underlying t).run P w = .ok e w) (he : isIf e = false) (hx : evL L x = some u) (hu : u = .iface t v) : YP rd P ⟨d, .typeAssert x xT t false, ty, ps, af, g⟩ L v := yp_of (by simp) fun a w ha => by
  subst hu
  simp only [execOp, ha.ev hx]
  refine run_via ?_
  unfold Instr.typeAssert
  simp only [Sem.run_bind, hs, Result.andThen]
  cases e <;> first | (cases he; done) | (simp [go_sem])
theorem f_clone {f : FuncId} {as : List Operand} {ts : Array TypeId} {t : TypeId} {p : Option Nat} {K : Nat → H → Prop} (hc : CloneF P f) (ha : evLs L as = some [.iface t (.map p)]) (kk : clM h p K) :
    EV rd P ⟨d, .call { callee := .value (.func f), args := as.toArray, argTypes := ts }, ty, ps, af, g⟩ L h fun v h' => ∃ b, v = .iface t (.map (some b)) ∧ K b h' := fun ac w hag hw => by
  subst hw
  obtain ⟨b, es, clock, rfl, h1, k1⟩ := kk
  unfold StepV
  rw [Oper.semAt_eq rd _ _ (by simp)]
  simp only [execOp, resolve, List.map_toArray, hag.evs ha, Act.eval, Deferred.ofValue]
  have := hc t b es clock w h1
  simp [invoke, go_sem, this]
  exact ⟨⟨rfl, rfl, rfl⟩, k1⟩
end
/-! ### Deferred calls -/
/-- Fn, entered as a deferred call. -/
def DFn (P : Program) (f : FuncId) (args : Array Value) (h : H) (Q : Value → H → Prop) : Prop :=
  ∀ (w : World) (u : FrameMode), w.heap = h → CallsDIn Fence.wide 0 P f args u w fun e u' w' => u' = u ∧ ∃ r, e = .returned r ∧ Like w w' ∧ Q r w'.heap
/-- A value that is a function of the program. -/
def fnV (v : Value) (K : FuncId → Array Value → Array Value → Prop) : Prop := ∃ f fi ca, v = .func (.func f) fi ca ∧ K f fi ca
/-- A call that was deferred. -/
def dcall (P : Program) (f : FuncId) (args : Array Value) (h : H) (K : H → Prop) : Prop := (∀ args w, (callFunc f args).run P w = .ok (.enter f args) w) ∧ DFn P f args h fun _ h' => K h'
theorem dfn_of {P : Program} {f : FuncId} {fn : Func} {c : Code} {vs : List Value} {h : H} {Q : Value → H → Prop} {N : Nat} (hf : P.funcs[f]? = some fn) (hN : fn.ntmps = N) (hb : fn.body = some c) (hn : Nat.ble vs.length N = true)
    (k : ∀ w0, Tr w0 N [] (initL vs 0) h (c.wpIn (Fz none) 0 P (PostF P fn Q w0))) : DFn P f vs.toArray h Q := fun w u hw => by
  subst hN
  refine callsDIn_of_wp (R := fun e w' => ∃ r, e = .returned r ∧ Like w w' ∧ Q r w'.heap) hf hb trivial ?_
  refine k w _ w ⟨?_, rfl, fun t v ht => ?_⟩ hw (Like.refl w)
  · have := Nat.le_of_ble_eq_true hn
    simp; omega
  · obtain ⟨_, h2⟩ := initL_lk vs 0 t v ht
    rw [Nat.sub_zero] at h2
    have hlt : t < vs.length := (List.getElem?_eq_some_iff.1 h2).1
    rw [Array.getD_eq_getD_getElem?, Array.getElem?_append_left (by simpa using hlt)]
    simp [h2]
section
variable {w0 : World} {N : Nat} {D : List Deferred} {L : List (Nat × Value)} {h : H} {P : Program} {rd : Option Nat} {Q : Exit → Act → World → Prop} {ops : Array Oper} {rest : List Oper}
theorem tr_defer {x : Operand} {as : List Operand} {ts : Array TypeId} {ty : TypeId} {ps : String} {af : Array Edge} {g : Option (Nat × Bool)} {vs : List Value} {f : FuncId} {fi ca : Array Value} (hx : evL L x = some (.func (.func f) fi ca)) (ha : evLs L as = some vs)
    (hw : gW ops ⟨none, .defer { callee := .value x, args := as.toArray, argTypes := ts }, ty, ps, af, g⟩ L = some true)
    (k : Tr w0 N ({ target := .fn (.func f) ca, args := fi ++ vs.toArray } :: D) L h (wpListIn (Fz none) 0 P ops Q rest)) :
    Tr w0 N D L h (wpListIn (Fz none) 0 P ops Q (⟨none, .defer { callee := .value x, args := as.toArray, argTypes := ts }, ty, ps, af, g⟩ :: rest)) := fun a w hf hh hl => by
  unfold wpListIn
  rw [if_pos (gW_wanted hw hf.get)]
  refine ⟨fun _ _ => trivial, ?_⟩
  have hrun : (Oper.semAt (Fz none).round a.eval ⟨none, .defer { callee := .value x, args := as.toArray, argTypes := ts }, ty, ps, af, g⟩).run P w = .ok (.defer { target := .fn (.func f) ca, args := fi ++ vs.toArray }) w := by
    have e : Oper.semAt (Fz none).round a.eval ⟨none, .defer { callee := .value x, args := as.toArray, argTypes := ts }, ty, ps, af, g⟩ = (do pure (.defer (← Deferred.ofValue (a.eval x) (as.toArray.map a.eval))) : Sem Next) := rfl
    rw [e, List.map_toArray, hf.get.evs ha, hf.get.ev hx]
    rfl
  rw [hrun]
  exact k _ _ ⟨hf.size, by simp [Act.put, hf.defers], hf.get⟩ hh hl
theorem tr_dcall {fn : Func} {Q : Value → H → Prop} {X : H → Prop} {f : FuncId} {ca as : Array Value} (H : dcall P f (as ++ ca) h X)
    (hx : ∀ h9, X h9 → Tr w0 N D L h9 (PostFM P fn Q w0 .ret)) : Tr w0 N ({ target := .fn (.func f) ca, args := as } :: D) L h (PostFM P fn Q w0 .ret) := fun a w ha hh hl => by
  subst hh
  show LeavesInM (Fz none) 0 P fn a.tmps _ a.defers .returning w
  rw [ha.defers]
  refine ⟨(fun h => by cases h), .inr ⟨(fun h => by cases h), _, _, f, _, rfl, H.1 _ w, fun _ _ => trivial, ?_⟩⟩
  refine (H.2 w .returning rfl).mono ?_
  rintro e u' w' ⟨rfl, r, rfl, hl', hX⟩
  have := hx _ hX { a with defers := D } w' ⟨ha.size, rfl, ha.get⟩ rfl (hl.trans hl')
  exact this
theorem tr_pm0 {fn : Func} {Q : Value → H → Prop} (k : Tr w0 N [] L h (PostF P fn Q w0 .ret)) : Tr w0 N [] L h (PostFM P fn Q w0 .ret) :=
  tr_shut (X := fun h9 => h9 = h) [] rfl rfl fun h9 e => by subst e; exact k
theorem tr_pmN {fn : Func} {Q : Value → H → Prop} (k : Tr w0 N D L h (PostFM P fn Q w0 .ret)) : Tr w0 N D L h (PostFM P fn Q w0 .normal) := k
end
end Go.Proofs.Ytidpbnbjpglhfaa.V
