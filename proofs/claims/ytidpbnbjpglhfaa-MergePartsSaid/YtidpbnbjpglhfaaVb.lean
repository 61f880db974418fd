/- The calculus, continued: a list of operations in the text's order; and a region that draws its order, walked once: what only reads is taken at once, and what it read is held till whatever may come between has come; no condition. -/
import Derived.Test.YtidpbnbjpglhfaaVa
namespace Go.Proofs.Ytidpbnbjpglhfaa.V
open Go

def putL (d : Option Tmp) (v : Value) (L : List (Nat × Value)) : List (Nat × Value) :=
  match d with
  | some d => (d, v) :: L
  | none => L
def ltB (d : Option Tmp) (N : Nat) : Bool :=
  match d with
  | some d => Nat.blt d N
  | none => true
theorem Frm.putL {a : Act} {N : Nat} {D : List Deferred} {L : List (Nat × Value)} (h : Frm a N D L) {d : Option Tmp} (hd : ltB d N = true) (v : Value) : Frm (a.put d v) N D (V.putL d v L) := by
  cases d with
  | none => exact h
  | some d => exact h.put (by simpa [ltB, Nat.blt_eq] using hd) v
/-- Is the operation carried out? -/
def gW (ops : Array Oper) (o : Oper) (L : List (Nat × Value)) : Option Bool :=
  match o.guard with
  | none => some true
  | some (j, want) => match (ops[j]?).bind (·.dst) with
    | none => none
    | some t => match lk L t with
      | some (.bool b) => some (b == want)
      | some (.tuple _) => some false
      | _ => none
theorem getD_tuple {t : Array Value} {i : Nat} {vs : Array Value} (h : t.getD i undef = .tuple vs) : t[i]? = none ∨ t[i]? = some (.tuple vs) := by
  rcases Nat.lt_or_ge i t.size with hlt | hge
  · right; simp [hlt] at h ⊢; exact h
  · left; exact Array.getElem?_eq_none hge
theorem getD_some {t : Array Value} {i : Nat} {b : Bool} (h : t.getD i undef = .bool b) : t[i]? = some (.bool b) := by
  rcases Nat.lt_or_ge i t.size with hlt | hge
  · simp [hlt] at h ⊢; exact h
  · rw [Array.getD_eq_getD_getElem?, Array.getElem?_eq_none hge] at h
    simp [undef] at h
theorem gW_wanted {ops : Array Oper} {o : Oper} {L : List (Nat × Value)} {b : Bool} (h : gW ops o L = some b) {a : Act} (ha : Ag a L) : Region.wanted o (yielded ops a.tmps) = b := by
  unfold gW at h
  unfold Region.wanted
  cases hg : o.guard with
  | none => simp [hg] at h; simp [h]
  | some p =>
    obtain ⟨j, want⟩ := p
    simp only [hg] at h
    cases ht : (ops[j]?).bind (·.dst) with
    | none => simp [ht] at h
    | some t =>
      simp only [ht] at h
      split at h
      · rename_i c hc
        simp at h
        have := getD_some (ha _ _ hc)
        simp [yielded, ht, this, ← h]
      · rename_i vs hc
        simp at h
        rcases getD_tuple (ha _ _ hc) with hn | hn <;> simp [yielded, ht, hn, ← h]
      · cases h

/-! ### What an operation does, by what is known of the frame -/
def YP (rd : Option Nat) (P : Program) (o : Oper) (L : List (Nat × Value)) (v : Value) : Prop :=
  ∀ a w, Ag a L → (o.semAt rd a.eval).run P w = .ok (.value v) w
def YH (rd : Option Nat) (P : Program) (o : Oper) (L : List (Nat × Value)) (S : H → Prop) (v : Value) : Prop :=
  ∀ a w, Ag a L → S w.heap → (o.semAt rd a.eval).run P w = .ok (.value v) w
def EV (rd : Option Nat) (P : Program) (o : Oper) (L : List (Nat × Value)) (h : H) (K : Value → H → Prop) : Prop :=
  ∀ a w, Ag a L → w.heap = h → StepV rd P o a.eval w fun v w' => Like w w' ∧ K v w'.heap

section
variable {w0 : World} {N : Nat} {D : List Deferred} {L : List (Nat × Value)} {h : H} {P : Program} {rd : Option Nat} {Q : Exit → Act → World → Prop} {ops : Array Oper} {o : Oper} {rest : List Oper}
theorem tr_e {K : Value → H → Prop} (he : EV rd P o L h K) (hw : gW ops o L = some true) (hd : ltB o.dst N = true)
    (k : ∀ v h', K v h' → Tr w0 N D (putL o.dst v L) h' (wpListIn (Fz rd) 0 P ops Q rest)) : Tr w0 N D L h (wpListIn (Fz rd) 0 P ops Q (o :: rest)) := by
  intro a w ha hh hl
  unfold wpListIn
  rw [if_pos (gW_wanted hw ha.get)]
  exact ((he a w ha.get hh).mono fun v w' ⟨l, kk⟩ => k v _ kk _ _ (ha.putL hd v) rfl (hl.trans l)).wp
theorem YH.ev {S : H → Prop} {v : Value} (hy : YH rd P o L S v) (hS : S h) : EV rd P o L h fun u h' => u = v ∧ h' = h := by
  intro a w ha hh
  unfold StepV
  rw [hy a w ha (hh ▸ hS)]
  exact ⟨Like.refl w, rfl, hh⟩
theorem tr_h {S : H → Prop} {v : Value} (hy : YH rd P o L S v) (hS : S h) (hw : gW ops o L = some true) (hd : ltB o.dst N = true)
    (k : Tr w0 N D (putL o.dst v L) h (wpListIn (Fz rd) 0 P ops Q rest)) : Tr w0 N D L h (wpListIn (Fz rd) 0 P ops Q (o :: rest)) :=
  tr_e (hy.ev hS) hw hd fun _ _ ⟨e1, e2⟩ => by rw [e1, e2]; exact k
theorem tr_p {v : Value} (hy : YP rd P o L v) (hw : gW ops o L = some true) (hd : ltB o.dst N = true)
    (k : Tr w0 N D (putL o.dst v L) h (wpListIn (Fz rd) 0 P ops Q rest)) : Tr w0 N D L h (wpListIn (Fz rd) 0 P ops Q (o :: rest)) :=
  tr_h (S := fun _ => True) (fun a w ha _ => hy a w ha) trivial hw hd k
theorem tr_s (hw : gW ops o L = some false) (hd : ltB o.dst N = true)
    (k : Tr w0 N D (putL o.dst undef L) h (wpListIn (Fz rd) 0 P ops Q rest)) : Tr w0 N D L h (wpListIn (Fz rd) 0 P ops Q (o :: rest)) := by
  intro a w ha hh hl
  unfold wpListIn
  rw [if_neg (by rw [gW_wanted hw ha.get]; simp)]
  exact ⟨fun _ _ => trivial, k _ _ (ha.putL hd undef) hh hl⟩
end

/-! ### A region that draws its order -/
/-- Bits: which operations have come up. -/
def bindsOn (o : Oper) : List Nat := (o.after.toList.filter (Region.binds .any)).map (·.on)
/-- A's row j: operations ahead of number j, each told by an edge, or by one of a number ahead. -/
def ancB (ops : Array Oper) (A : List Nat) : Bool :=
  (List.range ops.size).all fun j => match ops[j]? with
    | none => false
    | some o => (bindsOn o).all (fun e => Nat.blt e j) && (match o.op with | .select .. => false | .defer .. => false | _ => true) &&
      (List.range ops.size).all fun i => !(A.getD j 0).testBit i || (bindsOn o).any fun e => Nat.beq e i || (A.getD e 0).testBit i
def depsB (o : Oper) (m : Nat) : Bool := (bindsOn o).all fun e => m.testBit e
/-- Nobody but those that wait for number j looks at its slot, or writes it. -/
def tkB (ops : Array Oper) (A : List Nat) (j : Nat) (o : Oper) : Bool :=
  (List.range ops.size).all fun i => match ops[i]? with
    | none => false
    | some x => (!Nat.beq i j && (A.getD i 0).testBit j) || (match o.dst with
      | none => true
      | some d => !(x.looksAt ops).contains d && (Nat.beq i j || x.dst != some d))
def takeB (ops : Array Oper) (A : List Nat) (m j m' : Nat) : Bool :=
  match ops[j]? with
  | none => false
  | some o => !m.testBit j && Nat.beq m' (m ||| 2 ^ j) && depsB o m && tkB ops A j o
def effB (ops : Array Oper) (A : List Nat) (m j m' : Nat) : Bool :=
  match ops[j]? with
  | none => false
  | some o => !m.testBit j && Nat.beq m' (m ||| 2 ^ j) && depsB o m && (List.range ops.size).all fun i => match ops[i]? with
    | none => false
    | some x => Nat.beq i j || (if m.testBit i then (A.getD j 0).testBit i || x.apart ops o else !depsB x m)
def doneB (ops : Array Oper) (m : Nat) : Bool := (List.range ops.size).all fun i => m.testBit i

/-- Operation i has yielded in w what stands in its slot. -/
def YAt (rd : Option Nat) (P : Program) (ops : Array Oper) (i : Nat) (a : Act) (w : World) : Prop :=
  ∃ o, ops[i]? = some o ∧ ∃ v, (∀ d, o.dst = some d → d < a.tmps.size ∧ a.tmps.getD d undef = v) ∧
    ((Region.wanted o (yielded ops a.tmps) = true ∧ (o.semAt rd a.eval).run P w = .ok (.value v) w) ∨ (Region.wanted o (yielded ops a.tmps) = false ∧ v = undef))

def inR (l : Array Bool) (k : Nat) : Prop := l.getD k false = true
structure Rel (rd : Option Nat) (P : Program) (ops : Array Oper) (A : List Nat) (pend : List (Nat × (H → Prop))) (m : Nat) (a : Act) (w : World) (fuel : Nat) (lr : Array Bool) (ar : Act) : Prop where
  len : lr.size = ops.size
  closed : ∀ k o, ops[k]? = some o → inR lr k → ∀ e ∈ bindsOn o, inR lr e
  sub : ∀ k, inR lr k → m.testBit k = true
  below : ∀ k o, ops[k]? = some o → m.testBit k = true → ∀ e ∈ bindsOn o, m.testBit e = true
  held : ∀ k, k < ops.size → m.testBit k = true → ¬ inR lr k → (∀ o, ops[k]? = some o → tkB ops A k o = true) ∧ ((∃ S, (k, S) ∈ pend ∧ ∀ w : World, S w.heap → YAt rd P ops k a w) ∨ ∀ w, YAt rd P ops k a w)
  size : ar.tmps.size = a.tmps.size
  defers : ar.defers = a.defers
  get : ∀ t, (∀ k o, ops[k]? = some o → m.testBit k = true → ¬ inR lr k → o.dst ≠ some t) → ar.tmps.getD t undef = a.tmps.getD t undef
  fuel : lr.toList.count false ≤ fuel
def HeldAll : List (Nat × (H → Prop)) → H → Prop
  | [], _ => True
  | p :: r, h => p.2 h ∧ HeldAll r h
theorem HeldAll.mem {l : List (Nat × (H → Prop))} {h : H} (hl : HeldAll l h) : ∀ p ∈ l, p.2 h := by
  induction l with
  | nil => intro p hp; cases hp
  | cons q r ih =>
    intro p hp
    cases hp with
    | head => exact hl.1
    | tail _ hp => exact ih hl.2 p hp
def G (rd : Option Nat) (P : Program) (ops : Array Oper) (A : List Nat) (Q : Exit → Act → World → Prop) (pend : List (Nat × (H → Prop))) (m : Nat) (a : Act) (w : World) : Prop :=
  HeldAll pend w.heap → ∀ fuel lr ar, Rel rd P ops A pend m a w fuel lr ar → wpAnyIn (Fz rd) 0 P .any ops Q fuel lr ar w

theorem semAt_congr {rd : Option Nat} {ρ ρ' : Operand → Value} (o : Oper) (hs : ∀ cs b, o.op ≠ .select cs b) (hdf : ∀ c, o.op ≠ .defer c) (h : ∀ x ∈ o.op.operands, ρ x = ρ' x) : o.semAt rd ρ = o.semAt rd ρ' := by
  rw [Oper.semAt_eq rd ρ o hdf, Oper.semAt_eq rd ρ' o hdf]
  exact execOp_congr o hs h
theorem mem_looks {ops : Array Oper} {o : Oper} {t : Tmp} (h : Operand.tmp t ∈ o.op.operands) : t ∈ o.looksAt ops :=
  List.mem_append_left _ (List.mem_filterMap.2 ⟨.tmp t, by simpa using h, rfl⟩)
/-- Two frames that agree where o looks. -/
theorem ev_agree {ops : Array Oper} {o : Oper} {a b : Act} (h : ∀ t ∈ o.looksAt ops, a.tmps.getD t undef = b.tmps.getD t undef) : ∀ x ∈ o.op.operands, a.eval x = b.eval x := by
  intro x hx
  cases x with
  | tmp t => exact h t (mem_looks hx)
  | _ => rfl
theorem wanted_agree {ops : Array Oper} {o : Oper} {a b : Act} (hs : a.tmps.size = b.tmps.size) (h : ∀ t ∈ o.looksAt ops, a.tmps.getD t undef = b.tmps.getD t undef) :
    Region.wanted o (yielded ops a.tmps) = Region.wanted o (yielded ops b.tmps) := by
  unfold Region.wanted
  cases hg : o.guard with
  | none => rfl
  | some p =>
    obtain ⟨j, want⟩ := p
    have : yielded ops a.tmps j = yielded ops b.tmps j := by
      unfold yielded
      cases ht : (ops[j]?).bind (·.dst) with
      | none => rfl
      | some t =>
        have ht' : t ∈ o.looksAt ops := List.mem_append_right _ (by simp [hg, ht])
        have := h t ht'
        simp only [Option.bind_some]
        rcases Nat.lt_or_ge t a.tmps.size with hlt | hge
        · have hlt' : t < b.tmps.size := hs ▸ hlt
          rw [Array.getD_eq_getD_getElem?, Array.getD_eq_getD_getElem?, Array.getElem?_eq_getElem hlt, Array.getElem?_eq_getElem hlt'] at this
          rw [Array.getElem?_eq_getElem hlt, Array.getElem?_eq_getElem hlt']
          simp only [Option.getD_some] at this
          rw [this]
        · rw [Array.getElem?_eq_none hge, Array.getElem?_eq_none (hs ▸ hge)]
    simp only [this]
section
variable {rd : Option Nat} {P : Program} {ops : Array Oper} {A : List Nat} {Q : Exit → Act → World → Prop} {pend : List (Nat × (H → Prop))} {m m' j : Nat} {a : Act} {w : World}
theorem anc_spec (hA : ancB ops A = true) {k : Nat} {o : Oper} (ho : ops[k]? = some o) : (∀ e ∈ bindsOn o, e < k) ∧ (∀ cs b, o.op ≠ .select cs b) ∧ (∀ c, o.op ≠ .defer c) ∧
    ∀ i, i < ops.size → (A.getD k 0).testBit i = true → ∃ e ∈ bindsOn o, e = i ∨ (A.getD e 0).testBit i = true := by
  have hk : k < ops.size := (Array.getElem?_eq_some_iff.1 ho).1
  simp only [ancB, List.all_eq_true, List.mem_range] at hA
  have h1 := hA k hk
  simp only [ho, Bool.and_eq_true, List.all_eq_true, List.mem_range] at h1
  obtain ⟨⟨h1, h2⟩, h3⟩ := h1
  refine ⟨fun e he => by simpa [Nat.blt_eq] using h1 e he, ?_, ?_, fun i hi ht => ?_⟩
  · intro cs b e; rw [e] at h2; simp at h2
  · intro c e; rw [e] at h2; simp at h2
  · have := h3 i hi
    simp only [ht, Bool.not_true, Bool.false_or, List.any_eq_true, Bool.or_eq_true, Nat.beq_eq] at this
    exact this
/-- What is ahead of one that is listed is listed. -/
theorem anc_listed (hA : ancB ops A = true) {p : Nat → Prop} (hc : ∀ k o, ops[k]? = some o → p k → ∀ e ∈ bindsOn o, p e) :
    ∀ n k o, k < n → ops[k]? = some o → (∀ e ∈ bindsOn o, p e) → ∀ i, i < ops.size → (A.getD k 0).testBit i = true → p i := by
  intro n
  induction n with
  | zero => intro k o hk; omega
  | succ n ih =>
    intro k o hk ho hd i hi ht
    obtain ⟨h1, _, _, h4⟩ := anc_spec hA ho
    obtain ⟨e, he, heq⟩ := h4 i hi ht
    rcases heq with rfl | heq
    · exact hd _ he
    · have hlt := h1 e he
      have hk' : k < ops.size := (Array.getElem?_eq_some_iff.1 ho).1
      have hoe : ops[e]? = some ops[e] := Array.getElem?_eq_getElem (by omega)
      exact ih e ops[e] (by omega) hoe (hc e _ hoe (hd e he)) i hi heq
theorem mem_ready' {k : Nat} {lr : Array Bool} (hlen : lr.size = ops.size) : k ∈ Region.ready .any ops lr ↔ ¬ inR lr k ∧ ∃ o, ops[k]? = some o ∧ ∀ e ∈ bindsOn o, inR lr e := by
  rw [mem_ready]
  have e1 : ∀ o, ops[k]? = some o → (lr.getD k true = false ↔ ¬ inR lr k) := fun o ho => by
    have hk : k < lr.size := by rw [hlen]; exact (Array.getElem?_eq_some_iff.1 ho).1
    simp [inR, hk]
  have e2 : ∀ o : Oper, (∀ e ∈ o.after, Region.binds .any e = true → lr.getD e.on false = true) ↔ ∀ e ∈ bindsOn o, inR lr e := fun o => by
    simp only [bindsOn, List.mem_map, List.mem_filter, Array.mem_toList_iff, inR]
    constructor
    · rintro h _ ⟨e, ⟨he, hb⟩, rfl⟩; exact h e he hb
    · intro h e he hb; exact h _ ⟨e, ⟨he, hb⟩, rfl⟩
  constructor
  · rintro ⟨h0, o, ho, h1⟩; exact ⟨(e1 o ho).1 h0, o, ho, (e2 o).1 h1⟩
  · rintro ⟨h0, o, ho, h1⟩; exact ⟨(e1 o ho).2 h0, o, ho, (e2 o).2 h1⟩
/-- While one is not listed, one may come up. -/
theorem ready_ne (hA : ancB ops A = true) {lr : Array Bool} (hlen : lr.size = ops.size) {k : Nat} (hk : k < ops.size) (hu : ¬ inR lr k) : Region.ready .any ops lr ≠ [] := by
  intro he
  have key : ∀ n k, k < n → k < ops.size → ¬ inR lr k → False := by
    intro n
    induction n with
    | zero => intro k hk; omega
    | succ n ih =>
      intro k hk hks hu
      have ho : ops[k]? = some ops[k] := Array.getElem?_eq_getElem hks
      have hnr : k ∉ Region.ready .any ops lr := by rw [he]; simp
      rw [mem_ready' hlen] at hnr
      have : ¬ ∀ e ∈ bindsOn ops[k], inR lr e := fun h => hnr ⟨hu, _, ho, h⟩
      simp only [Classical.not_forall] at this
      obtain ⟨e, hm, hne⟩ := this
      have := (anc_spec hA ho).1 e hm
      exact ih e (by omega) (by omega) hne
  exact key (k + 1) k (by omega) hk hu
theorem inR_set {lr : Array Bool} {i k : Nat} (hi : i < lr.size) : inR (lr.setIfInBounds i true) k ↔ k = i ∨ inR lr k := by
  unfold inR
  by_cases h : i = k
  · subst h; simp [hi]
  · simp [Array.getElem?_setIfInBounds_ne h, Ne.symm h]
theorem count_set {lr : Array Bool} {i f : Nat} (hi : i < lr.size) (hu : ¬ inR lr i) (hf : lr.toList.count false ≤ f + 1) : (lr.setIfInBounds i true).toList.count false ≤ f := by
  have h1 : lr.toList[i]'(by simpa using hi) = false := by simpa [inR, hi] using hu
  rw [Array.toList_setIfInBounds, List.count_set (by simpa using hi)]
  rw [h1]
  show lr.toList.count false - 1 + 0 ≤ f
  omega
theorem count_pos {lr : Array Bool} {i : Nat} (hi : i < lr.size) (hu : ¬ inR lr i) : 0 < lr.toList.count false := by
  have h1 : lr.toList[i]'(by simpa using hi) = false := by simpa [inR, hi] using hu
  exact List.count_pos_iff.2 (h1 ▸ List.getElem_mem _)
theorem act_ext {a b : Act} (hd : a.defers = b.defers) (hs : a.tmps.size = b.tmps.size) (hg : ∀ t, a.tmps.getD t undef = b.tmps.getD t undef) : a = b := by
  obtain ⟨ta, da⟩ := a
  obtain ⟨tb, db⟩ := b
  simp only at hd hs hg
  subst hd
  have : ta = tb := Array.ext hs fun i h1 h2 => by
    have := hg i
    simpa [h1, h2] using this
  rw [this]
theorem put_get {a : Act} {d : Option Tmp} {v : Value} {t : Nat} (h : d ≠ some t) : (a.put d v).tmps.getD t undef = a.tmps.getD t undef := by
  cases d with
  | none => rfl
  | some d =>
    have hne : d ≠ t := fun e => h (by rw [e])
    simp [Act.put, Array.getElem?_setIfInBounds_ne hne]
theorem put_same {a : Act} {d : Nat} {v : Value} (h : d < a.tmps.size) : (a.put (some d) v).tmps.getD d undef = v := by simp [Act.put, h]
theorem put_size {a : Act} {d : Option Tmp} {v : Value} : (a.put d v).tmps.size = a.tmps.size := by cases d <;> simp [Act.put]
theorem put_defers {a : Act} {d : Option Tmp} {v : Value} : (a.put d v).defers = a.defers := by cases d <;> rfl

theorem tk_spec {k i : Nat} {o x : Oper} (h : tkB ops A k o = true) (hx : ops[i]? = some x) : (i ≠ k ∧ (A.getD i 0).testBit k = true) ∨ ∀ d, o.dst = some d → d ∉ x.looksAt ops ∧ (i = k ∨ x.dst ≠ some d) := by
  simp only [tkB, List.all_eq_true, List.mem_range] at h
  have h1 := h i (Array.getElem?_eq_some_iff.1 hx).1
  simp only [hx, Bool.or_eq_true, Bool.and_eq_true, Bool.not_eq_true'] at h1
  rcases h1 with ⟨h1, h2⟩ | h1
  · exact .inl ⟨(fun e => by subst e; rw [show Nat.beq i i = true from Nat.beq_refl i] at h1; cases h1), h2⟩
  · refine .inr fun d hd => ?_
    simp only [hd, Bool.and_eq_true, Bool.not_eq_true', Bool.or_eq_true, bne_iff_ne] at h1
    exact ⟨fun hm => by simp [hm] at h1, h1.2.imp (fun e => Nat.eq_of_beq_eq_true e) id⟩
/-- One that is held comes up. -/
theorem rel_exec (hA : ancB ops A = true) {fuel : Nat} {lr : Array Bool} {ar : Act} (hr : Rel rd P ops A pend m a w (fuel + 1) lr ar) (hH : HeldAll pend w.heap) {i : Nat} (hi : i ∈ Region.ready .any ops lr) (hm : m.testBit i = true)
    (ih : ∀ lr ar, Rel rd P ops A pend m a w fuel lr ar → wpAnyIn (Fz rd) 0 P .any ops Q fuel lr ar w) :
    wpOpIn (Fz rd) 0 P ops Q i (wpAnyIn (Fz rd) 0 P .any ops Q fuel (lr.setIfInBounds i true)) ar w := by
  obtain ⟨hu, o, ho, hdeps⟩ := (mem_ready' hr.len).1 hi
  have his : i < ops.size := (Array.getElem?_eq_some_iff.1 ho).1
  have hil : i < lr.size := by rw [hr.len]; exact his
  have hY : YAt rd P ops i a w := by
    rcases (hr.held i his hm hu).2 with ⟨S, hS, hy⟩ | hy
    · exact hy w (hH.mem _ hS)
    · exact hy w
  obtain ⟨o', ho', v, hv, hc⟩ := hY
  obtain rfl : o' = o := by rw [ho] at ho'; exact (Option.some.inj ho').symm
  have hag : ∀ t ∈ o'.looksAt ops, ar.tmps.getD t undef = a.tmps.getD t undef := fun t ht => hr.get t fun k x hx hmk hnk hd => by
    have hks : k < ops.size := (Array.getElem?_eq_some_iff.1 hx).1
    rcases tk_spec ((hr.held k hks hmk hnk).1 x hx) ho with h1 | h1
    · exact hnk (anc_listed hA hr.closed (i + 1) i o' (by omega) ho hdeps k hks h1.2)
    · exact (h1 t hd).1 ht
  have hsem : o'.semAt rd ar.eval = o'.semAt rd a.eval := semAt_congr o' (anc_spec hA ho).2.1 (anc_spec hA ho).2.2.1 (ev_agree hag)
  have hwant := wanted_agree hr.size hag
  have hrel : Rel rd P ops A pend m a w fuel (lr.setIfInBounds i true) (ar.put o'.dst v) := by
    refine ⟨by simpa using hr.len, fun k x hx hk e he => ?_, fun k hk => ?_, ?_, fun k hk hmk hnk => ?_, by rw [put_size]; exact hr.size, by rw [put_defers]; exact hr.defers, fun t ht => ?_, count_set hil hu hr.fuel⟩
    · rw [inR_set hil] at hk ⊢
      rcases hk with rfl | hk
      · obtain rfl : x = o' := by rw [ho] at hx; exact (Option.some.inj hx).symm
        exact .inr (hdeps e he)
      · exact .inr (hr.closed k x hx hk e he)
    · rw [inR_set hil] at hk
      rcases hk with rfl | hk
      · exact hm
      · exact hr.sub k hk
    · exact hr.below
    · exact hr.held k hk hmk fun h => hnk ((inR_set hil).2 (.inr h))
    · by_cases e : o'.dst = some t
      · obtain ⟨h1, h2⟩ := hv t e
        rw [e, put_same (by rw [hr.size]; exact h1), h2]
      · rw [put_get e]
        refine hr.get t fun k x hx hmk hnk hd => ?_
        by_cases hki : k = i
        · subst hki
          obtain rfl : x = o' := by rw [ho] at hx; exact (Option.some.inj hx).symm
          exact e hd
        · exact ht k x hx hmk (fun h => by rcases (inR_set hil).1 h with h | h; exact hki h; exact hnk h) hd
  unfold wpOpIn
  simp only [ho]
  rcases hc with ⟨h1, h2⟩ | ⟨h1, rfl⟩
  · rw [if_pos (by rw [hwant]; exact h1)]
    refine StepV.wp ?_
    unfold StepV
    rw [hsem, h2]
    exact ih _ _ hrel
  · rw [if_neg (by rw [hwant, h1]; simp)]
    exact ⟨fun _ _ => trivial, ih _ _ hrel⟩
end
end Go.Proofs.Ytidpbnbjpglhfaa.V
