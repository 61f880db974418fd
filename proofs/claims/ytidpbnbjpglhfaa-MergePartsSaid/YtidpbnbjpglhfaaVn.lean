/- A range over a function: one statement of the calculus; the marks that it leaves, taken at the function's end; no condition. -/
import Derived.Test.YtidpbnbjpglhfaaVk
import Derived.RangeFuncRecord
import Derived.RangeFuncNested
namespace Go.Proofs.Ytidpbnbjpglhfaa.V
open Go
set_option linter.unusedVariables false
set_option linter.unusedSimpArgs false

def put (h : H) (l : Nat) (o : Obj) : H := h.setIfInBounds l o
theorem put_heap (w : World) (l : Nat) (o : Obj) : (w.putObj l o).heap = put w.heap l o := rfl
/-- A round, as the loop's body gives it: the record's turn to 'busy'; the record's place; what yield was handed; the heap; what holds where the body ends, and where it leaves by jump number j. -/
abbrev RB := (H → (H → Prop) → Prop) → Nat → List Value → H → (H → Prop) → (Nat → H → Prop) → Prop
/-- The one call of the function that is ranged over. -/
def rngCall (P : Program) (v arg : Value) (h : H) (K : H → Prop) : Prop :=
  ∃ f fi ca, v = .func (.func f) fi ca ∧ (∀ args w, (callFunc f args).run P w = .ok (.enter f args) w) ∧ Fn P f (fi ++ #[arg] ++ ca) h fun _ h' => K h'
/-- What a call of yield does, if the record at l is as R says. -/
def yields (P : Program) (R : LoopState → Option Code → Obj) (l : Nat) (js : List Code) (B : RB) : Prop :=
  ∀ (h' : H) (args : List Value) (K : Value → H → Prop), h'[l]? = some (R .ready none) →
    B (fun h4 k => h4[l]? = some (R .ready none) ∧ k (put h4 l (R .busy none))) l args h' (fun h2 => h2[l]? = some (R .busy none) ∧ K (.bool true) (put h2 l (R .ready none)))
      (fun j h2 => ∃ c, js[j]? = some c ∧ h2[l]? = some (R .busy none) ∧ K (.bool false) (put h2 l (R .done (some c)))) →
    CV P (.func (.yield l) #[] #[]) args h' K
/-- What is known when the function has returned. -/
def rngEnd (R : LoopState → Option Code → Obj) (l : Nat) (js : List Code) (Kn : H → Prop) (Kj : Nat → H → Prop) (h2 : H) : Prop :=
  (h2[l]? = some (R .ready none) ∧ Kn (put h2 l (R .exhausted none))) ∨ ∃ j c, js[j]? = some c ∧ h2[l]? = some (R .done (some c)) ∧ Kj j (put h2 l (R .exhausted (some c)))
/-- An outermost loop. -/
def rng (P : Program) (v : Value) (h : H) (js : List Code) (B : RB) (Kn : H → Prop) (Kj : Nat → H → Prop) : Prop :=
  ∀ (R : LoopState → Option Code → Obj), (∀ s p, ∃ r, R s p = .loop r) → yields P R (h.size + 1) js B →
    rngCall P v (.func (.yield (h.size + 1)) #[] #[]) ((h.push (.deferred (some []))).push (R .ready none)) (rngEnd R (h.size + 1) js Kn Kj)
/-- A loop within a round of another. -/
def rngN (P : Program) (l0 : Nat) (v : Value) (h : H) (js : List Code) (B : RB) (Kn : H → Prop) (Kj : Nat → H → Prop) : Prop :=
  (∃ r, h[l0]? = some (.loop r)) ∧ ∀ (R : LoopState → Option Code → Obj), (∀ s p, ∃ r, R s p = .loop r) → yields P R h.size js B →
    rngCall P v (.func (.yield h.size) #[] #[]) (h.push (R .ready none)) (rngEnd R h.size js Kn Kj)
def zipL : List Tmp → List Value → List (Nat × Value) → List (Nat × Value)
  | t :: ts, v :: vs, L => zipL ts vs ((t, v) :: L)
  | _, _, L => L
def Qround (w0 : World) (K : H → Prop) (J : Nat → H → Prop) (js : List Code) : Exit → Act → World → Prop
  | .normal, _, w => Like w0 w ∧ K w.heap
  | .ret, _, w => Like w0 w ∧ ∃ j, js[j]? = some .ret ∧ J j w.heap
  | .exit id, _, w => Like w0 w ∧ ∃ j, js[j]? = some (.exit id) ∧ J j w.heap
  | _, _, _ => False
/-- What 'bg' stands for. -/
def Begins (P : Program) (bg : H → (H → Prop) → Prop) (l : Nat) : Prop := ∀ (w : World) (k : H → Prop), bg w.heap k → ∃ w₂, (Instr.beginRound l).run P w = .ok () w₂ ∧ Like w w₂ ∧ k w₂.heap
section
variable {w0 : World} {N : Nat} {D : List Deferred} {L : List (Nat × Value)} {h : H} {P : Program} {rd : Option Nat} {Q : Exit → Act → World → Prop}
theorem tr_bgn {bg : H → (H → Prop) → Prop} {l : Nat} {k : H → Prop} {Y : Act → World → Prop} (hbg : Begins P bg l) (H : bg h k) (hk : ∀ h5, k h5 → Tr w0 N D L h5 Y) : Tr w0 N D L h (fun a₁ w₁ => ∃ w₂, (Instr.beginRound l).run P w₁ = .ok () w₂ ∧ Y a₁ w₂) := fun a w ha hh hl => by
  subst hh
  obtain ⟨w₂, h1, h2, h3⟩ := hbg w k H
  exact ⟨w₂, h1, hk _ h3 a w₂ ha rfl (hl.trans h2)⟩
theorem tr_rN {K : H → Prop} {J : Nat → H → Prop} {js : List Code} (k : K h) : Tr w0 N D L h (Qround w0 K J js .normal) := fun a w ha hh hl => ⟨hl, hh ▸ k⟩
theorem tr_rR {K : H → Prop} {J : Nat → H → Prop} {js : List Code} (j : Nat) (hj : js[j]? = some .ret) (k : J j h) : Tr w0 N D L h (Qround w0 K J js .ret) := fun a w ha hh hl => ⟨hl, j, hj, hh ▸ k⟩
theorem tr_rE {K : H → Prop} {J : Nat → H → Prop} {js : List Code} {id : Nat} (j : Nat) (hj : js[j]? = some (.exit id)) (k : J j h) : Tr w0 N D L h (Qround w0 K J js (.exit id)) := fun a w ha hh hl => ⟨hl, j, hj, hh ▸ k⟩
theorem zip_frm : ∀ (ts : List Tmp) (vs : List Value) (L : List (Nat × Value)) (tm : Array Value), tm.size = N → ts.length = vs.length → ts.all (fun t => Nat.blt t N) = true → (∀ t v, lk L t = some v → tm.getD t undef = v) →
    ((ts.zip vs).foldl (fun tm p => tm.setIfInBounds p.1 p.2) tm).size = N ∧ ∀ t v, lk (zipL ts vs L) t = some v → ((ts.zip vs).foldl (fun tm p => tm.setIfInBounds p.1 p.2) tm).getD t undef = v
  | [], [], L, tm, hs, _, _, hl => ⟨hs, hl⟩
  | t :: ts, [], L, tm, _, hlen, _, _ => by simp at hlen
  | [], v :: vs, L, tm, _, hlen, _, _ => by simp at hlen
  | t :: ts, v :: vs, L, tm, hs, hlen, hb, hl => by
    simp only [List.all_cons, Bool.and_eq_true, Nat.blt_eq] at hb
    refine zip_frm ts vs ((t, v) :: L) (tm.setIfInBounds t v) (by simpa using hs) (by simpa using hlen) hb.2 fun t' v' h' => ?_
    rw [lk_cons] at h'
    by_cases e : t = t'
    · subst e
      simp at h'; subst h'
      have ht : (t : Nat) < tm.size := by rw [hs]; exact hb.1
      simp [ht]
    · simp [e] at h'
      have := hl t' v' h'
      simpa [Array.getElem?_setIfInBounds_ne e] using this
/-- yield, out of a round's body. -/
theorem yields_of {fn : FuncId} {tm : Array Value} {ps : Array Tmp} {assign body : Code} {D0 : Nat} {js : List Code} {B : RB} {l : Nat} (hs : tm.size = N) (hL : ∀ t v, lk L t = some v → tm.getD t undef = v) (hps : ps.toList.all (fun t => Nat.blt t N) = true)
    (hb : ∀ bg args h' K J w0', Begins P bg l → B bg l args h' K J → args.length = ps.size ∧ Tr w0' N [] (zipL ps.toList args L) h' (assign.wpIn (Fz (some l)) 0 P (Exit.then (fun a₁ w₁ => ∃ w₂, (Instr.beginRound l).run P w₁ = .ok () w₂ ∧ body.wpIn (Fz (some l)) 0 P (Qround w0' K J js) a₁ w₂) (fun _ _ _ => False)))) :
    yields P (fun s p => .loop { state := s, pending := p, fn, tmps := tm, params := ps, assign, body, defers := D0 }) l js B := fun h' args K hl hB w hw => by
  subst hw
  have hbg : Begins P (fun h4 k => h4[l]? = some (.loop { state := .ready, pending := none, fn, tmps := tm, params := ps, assign, body, defers := D0 }) ∧ k (put h4 l (.loop { state := .busy, pending := none, fn, tmps := tm, params := ps, assign, body, defers := D0 }))) l := fun w k ⟨h1, h2⟩ =>
    ⟨_, run_beginRound h1 rfl, ⟨rfl, rfl, rfl⟩, h2⟩
  obtain ⟨hlen, htr⟩ := hb _ args w.heap _ _ w hbg hB
  have hr : ((do let d ← Deferred.ofValue (.func (.yield l) #[] #[]) args.toArray; invoke d.target d.args) : Sem Next).run P w = .ok (.round l fn ((ps.zip args.toArray).foldl (fun tmps (t, a) => tmps.setIfInBounds t a) tm) assign body) w := by
    have := run_yield (P := P) (args := args.toArray) hl (by simpa using hlen)
    simp only at this
    show (Instr.yield l (#[] ++ args.toArray ++ #[])).run P w = _
    simpa using this
  unfold CallV
  rw [hr]
  refine roundIn_of_wpIn (F := Fence.wide) trivial ?_
  have hfold : (ps.zip args.toArray).foldl (fun tmps (t, a) => tmps.setIfInBounds t a) tm = (ps.toList.zip args).foldl (fun tm p => tm.setIfInBounds p.1 p.2) tm := by
    rw [← Array.foldl_toList]; simp
  obtain ⟨z1, z2⟩ := zip_frm (N := N) ps.toList args L tm hs (by simpa using hlen.symm) hps hL
  rw [hfold]
  refine wpIn_mono (htr { tmps := _, defers := [] } w ⟨z1, rfl, z2⟩ rfl (Like.refl w)) fun e a1 w1 q => ?_
  cases e with
  | normal =>
    obtain ⟨w2, hbr, hbody⟩ := q
    refine ⟨w2, hbr, wpIn_mono hbody fun e a3 w3 q => ?_⟩
    cases e with
    | normal =>
      obtain ⟨hlk, h1, h2⟩ := q
      exact ⟨_, _, run_endRound none h1, _, rfl, ⟨hlk.os, hlk.tape, hlk.output⟩, h2⟩
    | ret =>
      obtain ⟨hlk, j, hj, c, hc, h1, h2⟩ := q
      rw [hj] at hc; cases hc
      exact ⟨_, _, run_endRound (some .ret) h1, _, rfl, ⟨hlk.os, hlk.tape, hlk.output⟩, h2⟩
    | exit id =>
      obtain ⟨hlk, j, hj, c, hc, h1, h2⟩ := q
      rw [hj] at hc; cases hc
      exact ⟨_, _, run_endRound (some (.exit id)) h1, _, rfl, ⟨hlk.os, hlk.tape, hlk.output⟩, h2⟩
    | _ => exact q.elim
  | _ => exact q.elim
abbrev markD (d : Nat) : Deferred := { target := .collected d, args := #[] }
/-- The statement, outermost. -/
theorem tr_range {g : Operand} {ps : Array Tmp} {assign body : Code} {v : Value} {js : List Code} {B : RB} {Kn : H → Prop} {Kj : Nat → H → Prop} (hv : evL L g = some v) (hps : ps.toList.all (fun t => Nat.blt t N) = true) (H : rng P v h js B Kn Kj)
    (hb : ∀ bg l args h' K J w0', Begins P bg l → B bg l args h' K J → args.length = ps.size ∧ Tr w0' N [] (zipL ps.toList args L) h' (assign.wpIn (Fz (some l)) 0 P (Exit.then (fun a₁ w₁ => ∃ w₂, (Instr.beginRound l).run P w₁ = .ok () w₂ ∧ body.wpIn (Fz (some l)) 0 P (Qround w0' K J js) a₁ w₂) (fun _ _ _ => False))))
    (hn : ∀ h', Kn h' → Tr w0 N (markD h.size :: D) L h' (Q .normal))
    (hj : ∀ j c h', js[j]? = some c → Kj j h' → Tr w0 N (markD h.size :: D) L h' (c.wpIn (Fz none) 0 P Q)) :
    Tr w0 N D L h ((Code.rangeFunc g ps assign body).wpIn (Fz none) 0 P Q) := fun a w ha hh hl => by
  subst hh
  refine wpIn_rangeFunc fun fn _ => ?_
  obtain ⟨f, fi, ca, rfl, hc, hfn⟩ := H (fun s p => .loop { state := s, pending := p, fn, tmps := a.tmps, params := ps, assign, body, defers := w.heap.size }) (fun s p => ⟨_, rfl⟩)
    (yields_of (N := N) (L := L) ha.size ha.get hps fun bg args h' K J w0' => hb bg _ args h' K J w0')
  obtain ⟨W1, hW1⟩ : ∃ W1, (w.alloc (.deferred (some []))).alloc (.loop { state := .ready, pending := none, fn, tmps := a.tmps, params := ps, assign, body, defers := w.heap.size }) = W1 := ⟨_, rfl⟩
  have hl1 : Like w W1 := by subst hW1; exact ⟨rfl, rfl, rfl⟩
  refine ⟨w.heap.size + 1, [markD w.heap.size], W1, { target := .fn (.func f) (fi, ca).2, args := fi ++ #[.func (.yield (w.heap.size + 1)) #[] #[]] }, W1, f, fi ++ #[.func (.yield (w.heap.size + 1)) #[] #[]] ++ ca, W1, hW1 ▸ run_enterLoop_outer _ _ _ _ _, ?_, fun _ _ => trivial, ?_, (fun h => by cases h), ?_⟩
  · have he := ha.get.ev hv
    simp only [resolve, he]
    simp [go_sem, Deferred.ofValue]
  · simp [invoke, hc]
  · refine CallsIn.mono (hfn W1 (by rw [← hW1]; rfl)) fun e w3 ⟨r, he, hlk, hq⟩ => ?_
    subst he
    have fr : Frm { a with defers := [markD w.heap.size] ++ a.defers } N (markD w.heap.size :: D) L := ⟨ha.size, by rw [← ha.defers]; rfl, ha.get⟩
    rcases hq with ⟨h1, h2⟩ | ⟨j, c, hjc, h1, h2⟩
    · exact ⟨none, _, run_endLoop h1 (by simp), hn _ h2 _ _ fr rfl ((hl.trans hl1).trans ⟨hlk.os, hlk.tape, hlk.output⟩)⟩
    · exact ⟨some c, _, run_endLoop h1 (by simp), hj j c _ hjc h2 _ _ fr rfl ((hl.trans hl1).trans ⟨hlk.os, hlk.tape, hlk.output⟩)⟩
/-- The statement, within a round. -/
theorem tr_rangeN {l0 : Nat} {g : Operand} {ps : Array Tmp} {assign body : Code} {v : Value} {js : List Code} {B : RB} {Kn : H → Prop} {Kj : Nat → H → Prop} (hv : evL L g = some v) (hps : ps.toList.all (fun t => Nat.blt t N) = true) (H : rngN P l0 v h js B Kn Kj)
    (hb : ∀ bg l args h' K J w0', Begins P bg l → B bg l args h' K J → args.length = ps.size ∧ Tr w0' N [] (zipL ps.toList args L) h' (assign.wpIn (Fz (some l)) 0 P (Exit.then (fun a₁ w₁ => ∃ w₂, (Instr.beginRound l).run P w₁ = .ok () w₂ ∧ body.wpIn (Fz (some l)) 0 P (Qround w0' K J js) a₁ w₂) (fun _ _ _ => False))))
    (hn : ∀ h', Kn h' → Tr w0 N D L h' (Q .normal))
    (hj : ∀ j c h', js[j]? = some c → Kj j h' → Tr w0 N D L h' (c.wpIn (Fz (some l0)) 0 P Q)) :
    Tr w0 N D L h ((Code.rangeFunc g ps assign body).wpIn (Fz (some l0)) 0 P Q) := fun a w ha hh hl => by
  subst hh
  refine wpIn_rangeFunc fun fn _ => ?_
  obtain ⟨⟨r0, hr0⟩, H⟩ := H
  obtain ⟨f, fi, ca, rfl, hc, hfn⟩ := H (fun s p => .loop { state := s, pending := p, fn, tmps := a.tmps, params := ps, assign, body, defers := r0.defers }) (fun s p => ⟨_, rfl⟩)
    (yields_of (N := N) (L := L) ha.size ha.get hps fun bg args h' K J w0' => hb bg _ args h' K J w0')
  obtain ⟨W1, hW1⟩ : ∃ W1, w.alloc (.loop { state := .ready, pending := none, fn, tmps := a.tmps, params := ps, assign, body, defers := r0.defers }) = W1 := ⟨_, rfl⟩
  have hl1 : Like w W1 := by subst hW1; exact ⟨rfl, rfl, rfl⟩
  refine ⟨w.heap.size, [], W1, { target := .fn (.func f) (fi, ca).2, args := fi ++ #[.func (.yield w.heap.size) #[] #[]] }, W1, f, fi ++ #[.func (.yield w.heap.size) #[] #[]] ++ ca, W1, hW1 ▸ run_enterLoop_inner hr0 _ _ _ _ _, ?_, fun _ _ => trivial, ?_, (fun h => by cases h), ?_⟩
  · have he := ha.get.ev hv
    simp only [resolve, he]
    simp [go_sem, Deferred.ofValue]
  · simp [invoke, hc]
  · refine CallsIn.mono (hfn W1 (by rw [← hW1]; rfl)) fun e w3 ⟨r, he, hlk, hq⟩ => ?_
    subst he
    have fr : Frm { a with defers := [] ++ a.defers } N D L := ⟨ha.size, ha.defers, ha.get⟩
    rcases hq with ⟨h1, h2⟩ | ⟨j, c, hjc, h1, h2⟩
    · exact ⟨none, _, run_endLoop h1 (by simp), hn _ h2 _ _ fr rfl ((hl.trans hl1).trans ⟨hlk.os, hlk.tape, hlk.output⟩)⟩
    · exact ⟨some c, _, run_endLoop h1 (by simp), hj j c _ hjc h2 _ _ fr rfl ((hl.trans hl1).trans ⟨hlk.os, hlk.tape, hlk.output⟩)⟩
/-! ### Where ways meet, with marks -/
def JoinD (w0 : World) (N : Nat) (I : List Nat → List (Nat × Value) → H → Prop) : Act → World → Prop := fun a w => ∃ ds L, Frm a N (ds.map markD) L ∧ Like w0 w ∧ I ds L w.heap
theorem tr_joinD {I : List Nat → List (Nat × Value) → H → Prop} (ds : List Nat) (L' : List (Nat × Value)) (hD : D = ds.map markD) (hs : SubL L' L) (k : I ds L' h) : Tr w0 N D L h (JoinD w0 N I) := fun a w ha hh hl => ⟨ds, L', hD ▸ ha.sub hs, hl, hh ▸ k⟩
theorem tr_seq_jD {x y : Code} (I : List Nat → List (Nat × Value) → H → Prop) (hj : ∀ ds L' h', I ds L' h' → Tr w0 N (ds.map markD) L' h' (y.wpIn (Fz rd) 0 P Q)) (k : Tr w0 N D L h (x.wpIn (Fz rd) 0 P (Exit.then (JoinD w0 N I) Q))) : Tr w0 N D L h ((Code.seq x y).wpIn (Fz rd) 0 P Q) :=
  fun a w ha hh hl => wpIn_seq (wpIn_mono (k a w ha hh hl) fun e a' w' q => by
    cases e with
    | normal => obtain ⟨ds, L', hf, hk, hi⟩ := q; exact hj ds L' _ hi a' w' hf rfl hk
    | _ => exact q)
theorem tr_loop_jD {c : Code} (I : Nat → List Nat → List (Nat × Value) → H → Prop) (h0 : ∀ ds L' h', ¬ I 0 ds L' h') (hs : ∀ m ds L' h', I (m + 1) ds L' h' → Tr w0 N (ds.map markD) L' h' (c.wpIn (Fz rd) 0 P (Exit.then (JoinD w0 N (I m)) Q)))
    (m : Nat) (ds : List Nat) (hD : D = ds.map markD) (k : I m ds L h) : Tr w0 N D L h ((Code.loop c).wpIn (Fz rd) 0 P Q) := tr_loop m (by
  subst hD
  induction m generalizing L h ds with
  | zero => exact absurd k (h0 _ _ _)
  | succ m ih =>
    intro a w ha hh hl
    refine wpIn_mono (hs m ds L h k a w ha hh hl) fun e a' w' q => ?_
    cases e with
    | normal => obtain ⟨ds', L', hf, hk, hi⟩ := q; exact ih ds' hi a' w' hf rfl hk
    | _ => exact q)
/-! ### A function's end, its marks taken -/
def shuts : List Nat → H → (H → Prop) → Prop
  | [], h, K => K h
  | d :: r, h, K => h[d]? = some (.deferred (some [])) ∧ shuts r (put h d (.deferred none)) K
def PostFM (P : Program) (fn : Func) (Q : Value → H → Prop) (w0 : World) : Exit → Act → World → Prop :=
  bodyPostM (Fz none) 0 P fn fun e w' => ∃ r, e = .returned r ∧ Like w0 w' ∧ Q r w'.heap
theorem fn_ofM {f : FuncId} {fn : Func} {c : Code} {vs : List Value} {Q : Value → H → Prop} (hf : P.funcs[f]? = some fn) (hN : fn.ntmps = N) (hb : fn.body = some c) (hn : Nat.ble vs.length N = true)
    (k : ∀ w0, Tr w0 N [] (initL vs 0) h (c.wpIn (Fz none) 0 P (PostFM P fn Q w0))) : Fn P f vs.toArray h Q := fun w hw => by
  subst hN
  refine callsIn_of_wp_marks hf hb trivial ?_
  refine k w _ w ⟨?_, rfl, fun t v ht => ?_⟩ hw (Like.refl w)
  · have := Nat.le_of_ble_eq_true hn
    simp; omega
  · obtain ⟨_, h2⟩ := initL_lk vs 0 t v ht
    rw [Nat.sub_zero] at h2
    have hlt : t < vs.length := (List.getElem?_eq_some_iff.1 h2).1
    rw [Array.getD_eq_getD_getElem?, Array.getElem?_append_left (by simpa using hlt)]
    simp [h2]
theorem leaves_of {fn : Func} {tm : Array Value} {R : Ending → World → Prop} : ∀ (ds : List Nat) (w : World) (K : H → Prop), shuts ds w.heap K → (∀ w', Like w w' → K w'.heap → ∃ v, (results fn tm).run P w' = .ok v w' ∧ R (.returned v) w') → LeavesInM (Fz none) 0 P fn tm R (ds.map markD) .returning w
  | [], w, K, h, hk => hk w (Like.refl w) h
  | d :: r, w, K, h, hk => ⟨(fun h => by cases h), .inl ⟨d, _, rfl, run_takeDeferred h.1, leaves_of r (w.putObj d (.deferred none)) K h.2 fun w' hl hq => hk w' ⟨hl.os, hl.tape, hl.output⟩ hq⟩⟩
theorem tr_shut {fn : Func} {Q : Value → H → Prop} {X : H → Prop} (ds : List Nat) (hD : D = ds.map markD) (H : shuts ds h X) (hx : ∀ h9, X h9 → Tr w0 N [] L h9 (PostF P fn Q w0 .ret)) : Tr w0 N D L h (PostFM P fn Q w0 .ret) := fun a w ha hh hl => by
  subst hh
  show LeavesInM (Fz none) 0 P fn a.tmps _ a.defers .returning w
  rw [ha.defers, hD]
  refine leaves_of ds w X H fun w' hl' hq => ?_
  exact (hx _ hq { a with defers := [] } w' ⟨ha.size, rfl, ha.get⟩ rfl (hl.trans hl')).2
theorem tr_shutN {fn : Func} {Q : Value → H → Prop} {X : H → Prop} (ds : List Nat) (hD : D = ds.map markD) (H : shuts ds h X) (hx : ∀ h9, X h9 → Tr w0 N [] L h9 (PostF P fn Q w0 .normal)) : Tr w0 N D L h (PostFM P fn Q w0 .normal) := fun a w ha hh hl => by
  subst hh
  show LeavesInM (Fz none) 0 P fn a.tmps _ a.defers .returning w
  rw [ha.defers, hD]
  refine leaves_of ds w X H fun w' hl' hq => ?_
  exact (hx _ hq { a with defers := [] } w' ⟨ha.size, rfl, ha.get⟩ rfl (hl.trans hl')).2
end
end Go.Proofs.Ytidpbnbjpglhfaa.V
