/- A small calculus over the kit's 'wpIn': frames as lists of what is known of their slots, the heap apart from the rest of the world, one rule for each form of code; no condition. -/
import Derived.TacticsIn
import Derived.LoopNIn
import Derived.OrdersIn
import Derived.RangeFuncLeaves
import Derived.WalkKit
namespace Go.Proofs.Ytidpbnbjpglhfaa.V
open Go

set_option linter.unusedVariables false
abbrev H := Array Obj
abbrev Fz (rd : Option Nat) : Fence := { Fence.wide with round := rd }

structure Like (w0 w : World) : Prop where
  os : w.os = w0.os
  tape : w.tape = w0.tape
  output : w.output = w0.output
theorem Like.refl (w : World) : Like w w := ⟨rfl, rfl, rfl⟩
theorem Like.trans {a b c : World} (h : Like a b) (k : Like b c) : Like a c := ⟨k.os.trans h.os, k.tape.trans h.tape, k.output.trans h.output⟩

def cellH (h : H) (a : Addr) : Option Value :=
  match h[a.block]? with
  | some (.cells c _ _) => if a.spot.isSome then none else c[a.off]?
  | _ => none
def frozenH (h : H) (a : Addr) : Bool :=
  match h[a.block]? with
  | some (.cells _ _ (lo, hi)) => lo ≤ a.off && a.off < hi
  | _ => false
def setH (h : H) (a : Addr) (v : Value) : H :=
  h.modify a.block fun
    | .cells c elem frozen => .cells (if a.spot.isSome then c else c.setIfInBounds a.off v) elem frozen
    | o => o
theorem cellH_eq (w : World) (a : Addr) : w.cell? a = cellH w.heap a := rfl
theorem frozenH_eq (w : World) (a : Addr) : w.frozen? a = frozenH w.heap a := rfl

/-- What a call of function f does: it returns some r, and leaves a heap h', of which Q is known. -/
def Fn (P : Program) (f : FuncId) (args : Array Value) (h : H) (Q : Value → H → Prop) : Prop :=
  ∀ w : World, w.heap = h → CallsIn Fence.wide 0 P f args w fun e w' => ∃ r, e = .returned r ∧ Like w w' ∧ Q r w'.heap
theorem Fn.mono {P : Program} {f : FuncId} {args : Array Value} {h : H} {Q Q' : Value → H → Prop} (hf : Fn P f args h Q) (hq : ∀ r h', Q r h' → Q' r h') : Fn P f args h Q' :=
  fun w hw => CallsIn.mono (hf w hw) fun _ _ ⟨r, he, hl, q⟩ => ⟨r, he, hl, hq _ _ q⟩

/-! ### Frames -/
def lk : List (Nat × Value) → Nat → Option Value
  | [], _ => none
  | p :: r, t => match Nat.beq p.1 t with
    | true => some p.2
    | false => lk r t
theorem lk_cons (k : Nat) (v : Value) (r : List (Nat × Value)) (t : Nat) : lk ((k, v) :: r) t = if k = t then some v else lk r t := by
  show (match Nat.beq k t with
    | true => some v
    | false => lk r t) = _
  by_cases h : k = t
  · subst h; rw [show Nat.beq k k = true from Nat.beq_refl k]; simp
  · have : Nat.beq k t = false := by
      cases hb : Nat.beq k t
      · rfl
      · exact absurd (Nat.eq_of_beq_eq_true hb) h
    rw [this]; simp [h]
def evL (L : List (Nat × Value)) : Operand → Option Value
  | .tmp t => lk L t
  | .const v => some v
  | .global g => some (.pointer (some ⟨g, 0, none⟩))
  | .func f => some (.func (.func f) #[] #[])
def Ag (a : Act) (L : List (Nat × Value)) : Prop := ∀ t v, lk L t = some v → a.tmps.getD t undef = v
structure Frm (a : Act) (N : Nat) (D : List Deferred) (L : List (Nat × Value)) : Prop where
  size : a.tmps.size = N
  defers : a.defers = D
  get : Ag a L
theorem Ag.ev {a : Act} {L : List (Nat × Value)} (h : Ag a L) {x : Operand} {v : Value} (hx : evL L x = some v) : a.eval x = v := by
  cases x <;> simp only [evL] at hx
  · exact h _ _ hx
  all_goals (simp at hx; subst hx; rfl)
theorem Frm.put {a : Act} {N : Nat} {D : List Deferred} {L : List (Nat × Value)} (h : Frm a N D L) {d : Nat} (hd : d < N) (v : Value) : Frm (a.put (some d) v) N D ((d, v) :: L) := by
  refine ⟨by simp [Act.put, h.size], h.defers, fun t u hu => ?_⟩
  rw [lk_cons] at hu
  have hs := h.size
  by_cases e : d = t
  · subst e
    simp at hu; subst hu
    simp [Act.put, show d < a.tmps.size by omega]
  · simp [e] at hu
    have := h.get t u hu
    simpa [Act.put, Array.getElem?_setIfInBounds_ne e] using this
theorem Frm.put_none {a : Act} {N : Nat} {D : List Deferred} {L : List (Nat × Value)} (h : Frm a N D L) (v : Value) : Frm (a.put none v) N D L := h
def SubL : List (Nat × Value) → List (Nat × Value) → Prop
  | [], _ => True
  | p :: r, L => lk L p.1 = some p.2 ∧ SubL r L
theorem SubL.lk {L' L : List (Nat × Value)} (h : SubL L' L) : ∀ t v, V.lk L' t = some v → V.lk L t = some v := by
  induction L' with
  | nil => intro t v h; simp [V.lk] at h
  | cons p r ih =>
    obtain ⟨k, u⟩ := p
    intro t v hv
    rw [lk_cons] at hv
    by_cases e : k = t
    · subst e; simp at hv; subst hv; exact h.1
    · simp [e] at hv; exact ih h.2 t v hv
theorem Frm.sub {a : Act} {N : Nat} {D : List Deferred} {L L' : List (Nat × Value)} (h : Frm a N D L) (hs : SubL L' L) : Frm a N D L' := ⟨h.size, h.defers, fun t v hv => h.get t v (hs.lk t v hv)⟩

/-- X holds of every frame and world that are as L and h say. -/
def Tr (w0 : World) (N : Nat) (D : List Deferred) (L : List (Nat × Value)) (h : H) (X : Act → World → Prop) : Prop :=
  ∀ a w, Frm a N D L → w.heap = h → Like w0 w → X a w
section
variable {w0 : World} {N : Nat} {D : List Deferred} {L : List (Nat × Value)} {h : H} {P : Program} {rd : Option Nat} {Q : Exit → Act → World → Prop}
theorem tr_sub {X : Act → World → Prop} (L' : List (Nat × Value)) (hs : SubL L' L) (k : Tr w0 N D L' h X) : Tr w0 N D L h X := fun a w ha hw hl => k a w (ha.sub hs) hw hl
theorem tr_seq {x y : Code} (k : Tr w0 N D L h (x.wpIn (Fz rd) 0 P (Exit.then (y.wpIn (Fz rd) 0 P Q) Q))) : Tr w0 N D L h ((Code.seq x y).wpIn (Fz rd) 0 P Q) :=
  fun a w ha hw hl => wpIn_seq (k a w ha hw hl)
theorem tr_skip (k : Tr w0 N D L h (Q .normal)) : Tr w0 N D L h (Code.skip.wpIn (Fz rd) 0 P Q) := fun a w ha hw hl => wpIn_skip (k a w ha hw hl)
theorem tr_exit {id : Nat} (k : Tr w0 N D L h (Q (.exit id))) : Tr w0 N D L h ((Code.exit id).wpIn (Fz rd) 0 P Q) := fun a w ha hw hl => wpIn_exit (k a w ha hw hl)
theorem tr_ret (k : Tr w0 N D L h (Q .ret)) : Tr w0 N D L h (Code.ret.wpIn (Fz rd) 0 P Q) := fun a w ha hw hl => wpIn_ret (k a w ha hw hl)
theorem tr_block {id : Nat} {c : Code} (k : Tr w0 N D L h (c.wpIn (Fz rd) 0 P (Exit.inBlock id Q))) : Tr w0 N D L h ((Code.block id c).wpIn (Fz rd) 0 P Q) := fun a w ha hw hl => wpIn_block (k a w ha hw hl)
theorem tr_hit {id : Nat} (k : Tr w0 N D L h (Q .normal)) : Tr w0 N D L h (Exit.inBlock id Q (.exit id)) := fun a w ha hw hl => by
  simp only [Exit.inBlock, if_true]; exact k a w ha hw hl
theorem tr_miss {id id' : Nat} (hne : Nat.beq id' id = false) (k : Tr w0 N D L h (Q (.exit id'))) : Tr w0 N D L h (Exit.inBlock id Q (.exit id')) := fun a w ha hw hl => by
  have : id' ≠ id := fun e => by subst e; simp at hne
  simp only [Exit.inBlock, this, if_false]; exact k a w ha hw hl
theorem tr_cond {c : Operand} {x y : Code} {t : Bool} (hc : evL L c = some (.bool t)) (k : t = true → Tr w0 N D L h (x.wpIn (Fz rd) 0 P Q)) (k' : t = false → Tr w0 N D L h (y.wpIn (Fz rd) 0 P Q)) :
    Tr w0 N D L h ((Code.cond c x y).wpIn (Fz rd) 0 P Q) := fun a w ha hw hl =>
  wpIn_cond_split (ha.get.ev hc) (fun e => k e a w ha hw hl) (fun e => k' e a w ha hw hl)
theorem tr_cond_t {c : Operand} {x y : Code} (hc : evL L c = some (.bool true)) (k : Tr w0 N D L h (x.wpIn (Fz rd) 0 P Q)) : Tr w0 N D L h ((Code.cond c x y).wpIn (Fz rd) 0 P Q) :=
  tr_cond hc (fun _ => k) (fun e => by cases e)
theorem tr_cond_f {c : Operand} {x y : Code} (hc : evL L c = some (.bool false)) (k : Tr w0 N D L h (y.wpIn (Fz rd) 0 P Q)) : Tr w0 N D L h ((Code.cond c x y).wpIn (Fz rd) 0 P Q) :=
  tr_cond hc (fun e => by cases e) (fun _ => k)
theorem tr_loop {c : Code} (m : Nat) (k : Tr w0 N D L h (Code.roundsIn (Fz rd) 0 P c Q m)) : Tr w0 N D L h ((Code.loop c).wpIn (Fz rd) 0 P Q) := fun a w ha hw hl => wpIn_loop_rounds m (k a w ha hw hl)
theorem tr_round {c : Code} {m : Nat} (k : Tr w0 N D L h (c.wpIn (Fz rd) 0 P (Exit.then (Code.roundsIn (Fz rd) 0 P c Q m) Q))) : Tr w0 N D L h (Code.roundsIn (Fz rd) 0 P c Q (m + 1)) := k
theorem tr_region {id : Nat} {l : List Oper} (k : Tr w0 N D L h (wpListIn (Fz rd) 0 P l.toArray Q l)) : Tr w0 N D L h ((Code.region id l.toArray false).wpIn (Fz rd) 0 P Q) :=
  fun a w ha hw hl => wpIn_region_lit (k a w ha hw hl)
theorem tr_split {X : Act → World → Prop} {t : Nat} {b : Bool} (hv : lk L t = some (.bool b)) (k1 : b = true → Tr w0 N D ((t, .bool true) :: L) h X) (k0 : b = false → Tr w0 N D ((t, .bool false) :: L) h X) : Tr w0 N D L h X := fun a w ha hh hl => by
  have fr : ∀ c, b = c → Frm a N D ((t, .bool c) :: L) := fun c e => ⟨ha.size, ha.defers, fun u v hu => by
    rw [lk_cons] at hu
    by_cases e' : t = u
    · subst e'; simp at hu; subst hu; rw [ha.get _ _ hv, e]
    · simp [e'] at hu; exact ha.get u v hu⟩
  cases hb : b with
  | true => exact k1 hb a w (fr true hb) hh hl
  | false => exact k0 hb a w (fr false hb) hh hl
/-- Where several ways meet. -/
def JoinP (w0 : World) (N : Nat) (D : List Deferred) (I : List (Nat × Value) → H → Prop) : Act → World → Prop := fun a w => ∃ L, Frm a N D L ∧ Like w0 w ∧ I L w.heap
theorem tr_join {I : List (Nat × Value) → H → Prop} (L' : List (Nat × Value)) (hs : SubL L' L) (k : I L' h) : Tr w0 N D L h (JoinP w0 N D I) := fun a w ha hh hl => ⟨L', ha.sub hs, hl, hh ▸ k⟩
theorem tr_seq_j {x y : Code} (I : List (Nat × Value) → H → Prop) (hj : ∀ L' h', I L' h' → Tr w0 N D L' h' (y.wpIn (Fz rd) 0 P Q)) (k : Tr w0 N D L h (x.wpIn (Fz rd) 0 P (Exit.then (JoinP w0 N D I) Q))) : Tr w0 N D L h ((Code.seq x y).wpIn (Fz rd) 0 P Q) :=
  fun a w ha hh hl => wpIn_seq (wpIn_mono (k a w ha hh hl) fun e a' w' q => by
    cases e with
    | normal => obtain ⟨L', hf, hk, hi⟩ := q; exact hj L' _ hi a' w' hf rfl hk
    | _ => exact q)
theorem tr_loop_j {c : Code} (I : Nat → List (Nat × Value) → H → Prop) (h0 : ∀ L' h', ¬ I 0 L' h') (hs : ∀ m L' h', I (m + 1) L' h' → Tr w0 N D L' h' (c.wpIn (Fz rd) 0 P (Exit.then (JoinP w0 N D (I m)) Q)))
    (m : Nat) (k : I m L h) : Tr w0 N D L h ((Code.loop c).wpIn (Fz rd) 0 P Q) := tr_loop m (by
  induction m generalizing L h with
  | zero => exact absurd k (h0 _ _)
  | succ m ih =>
    intro a w ha hh hl
    refine wpIn_mono (hs m L h k a w ha hh hl) fun e a' w' q => ?_
    cases e with
    | normal => obtain ⟨L', hf, hk, hi⟩ := q; exact ih hi a' w' hf rfl hk
    | _ => exact q)
theorem tr_thenN {K : Act → World → Prop} (k : Tr w0 N D L h K) : Tr w0 N D L h (Exit.then K Q .normal) := k
theorem tr_thenE {K : Act → World → Prop} {id : Nat} (k : Tr w0 N D L h (Q (.exit id))) : Tr w0 N D L h (Exit.then K Q (.exit id)) := k
theorem tr_thenR {K : Act → World → Prop} (k : Tr w0 N D L h (Q .ret)) : Tr w0 N D L h (Exit.then K Q .ret) := k
theorem tr_blockN {id : Nat} (k : Tr w0 N D L h (Q .normal)) : Tr w0 N D L h (Exit.inBlock id Q .normal) := k
theorem tr_blockR {id : Nat} (k : Tr w0 N D L h (Q .ret)) : Tr w0 N D L h (Exit.inBlock id Q .ret) := k
theorem tr_nil {ops : Array Oper} (k : Tr w0 N D L h (Q .normal)) : Tr w0 N D L h (wpListIn (Fz rd) 0 P ops Q []) := k
end

/-! ### One operation -/
/-- What operation o does in w, its operands read by ρ: it yields v, and leaves w', of which K is known. -/
def StepV (rd : Option Nat) (P : Program) (o : Oper) (ρ : Operand → Value) (w : World) (K : Value → World → Prop) : Prop :=
  match (o.semAt rd ρ).run P w with
  | .ok (.value v) w' => K v w'
  | .ok .skip w' => K undef w'
  | .ok (.enter f args) w' => CallsIn Fence.wide 0 P f args w' fun e w'' => ∃ v, e = .returned v ∧ K v w''
  | .ok (.row row args) w' => RowsIn Fence.wide 0 P row args w' K
  | .ok (.round l f tmps assign body) w' => RoundIn Fence.wide 0 P l f tmps assign body w' fun e w'' => ∃ v, e = .returned v ∧ K v w''
  | _ => False
theorem StepV.mono {rd : Option Nat} {P : Program} {o : Oper} {ρ : Operand → Value} {w : World} {K K' : Value → World → Prop} (h : StepV rd P o ρ w K) (hk : ∀ v w, K v w → K' v w) : StepV rd P o ρ w K' := by
  unfold StepV at *
  split at h
  · exact hk _ _ h
  · exact hk _ _ h
  · exact CallsIn.mono h fun _ _ ⟨v, he, k⟩ => ⟨v, he, hk _ _ k⟩
  · exact RowsIn.mono h hk
  · exact RoundIn.mono h fun _ _ ⟨v, he, k⟩ => ⟨v, he, hk _ _ k⟩
  · exact h.elim
theorem StepV.wp {rd : Option Nat} {P : Program} {o : Oper} {a : Act} {w : World} {Q : Exit → Act → World → Prop} {next : Act → World → Prop}
    (h : StepV rd P o a.eval w fun v w' => next (a.put o.dst v) w') : o.wpIn (Fz rd) 0 P a w next Q := by
  unfold StepV at h
  refine ⟨fun _ _ => trivial, ?_⟩
  show Oper.uponIn (Fz rd) 0 P o a next Q ((o.semAt rd a.eval).run P w)
  generalize (o.semAt rd a.eval).run P w = r at h
  cases r with
  | ok n w' =>
    cases n <;> simp only [Oper.uponIn] at h ⊢
    case value v => exact h
    case skip => exact h
    case enter f args => exact ⟨(fun h => by cases h), CallsIn.mono h fun _ _ ⟨v, he, k⟩ => by subst he; exact k⟩
    case row row args => exact ⟨(fun h => by cases h), h⟩
    case round l f tmps assign body => exact ⟨(fun h => by cases h), RoundIn.mono h fun _ _ ⟨v, he, k⟩ => by subst he; exact k⟩
  | halt x w' => exact h.elim
end Go.Proofs.Ytidpbnbjpglhfaa.V
