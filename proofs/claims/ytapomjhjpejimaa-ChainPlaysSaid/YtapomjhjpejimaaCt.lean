/- The law ChainSeqs answers true; no condition. -/
import Derived.Test.YtapomjhjpejimaaCp
namespace Go.Proofs.Ytapomjhjpejimaa.V
open Go
set_option linter.unusedVariables false
set_option linter.unusedSimpArgs false

/-- What the iterator of a chain does, called with a loop's yield. -/
theorem all_core2 {h1 : H} {a l : Nat} {r : Sl} {L : List Ver} {js : List Code} {R : LoopState → Option Code → Obj} {BB : Nat → Int → Bool → H → (H → Prop) → (Nat → H → Prop) → Prop} {Kn : H → Prop} {Kj : Nat → H → Prop} (I : Nat → H → Prop) (E : Nat → H → Prop) (hR : ∀ s p, ∃ r, R s p = .loop r) (hL : L.length < 1073741824)
    (hst : ∀ i h' h'', I i h' → Only (· = l) h' h'' → I i h'') (hstE : ∀ j h' h'', E j h' → Only (· = l) h' h'' → E j h'') (hown : ∀ i h', I i h' → Blk h' a #[r.enc] 72 ∧ Owns h' r 76 3 (L.flatMap (·.cells)))
    (hB : ∀ (X : Obj) (i : Nat) (x : Ver) (h5 : H) (K : H → Prop) (J : Nat → H → Prop), (∃ r, X = .loop r) → I i h5 → h5[l]? = some X → L[i]? = some x → (∀ h2, I (i + 1) h2 → h2[l]? = some X → K h2) → (∀ j h2, E j h2 → h2[l]? = some X → J j h2) → BB l x.epoch (!x.dead) h5 K J)
    (hn : ∀ h', I L.length h' → Kn h') (hj : ∀ j h', E j h' → ∃ c, js[j]? = some c ∧ Kj j h')
    (hy : yields PP R l js (fun bg l args h' K J => ∃ (e : Int), ∃ (is : Bool), args = [.int .i64 e, .bool is] ∧ bg h' fun h5 => BB l e is h5 K J)) (h0 : I 0 h1) (hr : h1[l]? = some (R .ready none)) :
    F.chain_Chain_int_All_1 (.func (.yield l) #[] #[]) ⟨a, 0, none⟩ h1 (rngEnd R l js Kn Kj) := by
  unfold F.chain_Chain_int_All_1
  obtain ⟨b0, o0⟩ := hown 0 h1 h0
  rw [ldL_iff (b0.cell (i := 0) rfl)]
  have hrl := own_len ver_len (by omega) o0
  refine ⟨L.length + 1, ?_⟩
  rw [hrl]
  have key : ∀ (m i : Nat) (h' : H), i ≤ L.length → L.length - i < m → I i h' → h'[l]? = some (R .ready none) → F.chain_Chain_int_All_1.l1 (rngEnd R l js Kn Kj) m (.func (.yield l) #[] #[]) r (L.length : Int) (i : Int) h' := by
    intro m
    induction m with
    | zero => intro i h' _ hm; omega
    | succ m ih =>
      intro i h' hi hm hI hrd
      unfold F.chain_Chain_int_All_1.l1
      simp only [decide_eq_true_eq, decide_eq_false_iff_not]
      refine ⟨fun g => ?_, fun g => ?_⟩
      · obtain ⟨x, hx⟩ : ∃ x, L[i]? = some x := ⟨_, List.getElem?_eq_getElem (by omega)⟩
        obtain ⟨bi, oi⟩ := hown i h' hI
        obtain ⟨bb, a1, a2⟩ := own_at ver_len (by omega) oi hx
        refine idxA_of (i := i) a1 (by omega) rfl ⟨x, a2, ?_⟩
        refine new_of fun n h2 e1 e2 e3 e4 => ?_
        refine stH_of e2 (by simp [S_chain_version_int.cells]) fun h3 f1 f2 f3 => ?_
        rw [writeA_all (by simp [S_chain_version_int.cells])] at f1
        have x3 : Ext h' h3 := e3.step f2 fun m hm e => by omega
        simp only [add_lit, Nat.zero_add, Nat.add_zero]
        rw [ldI_iff (f1.cell (i := 0) (v := .int .i64 x.epoch) rfl), ldB_iff (f1.cell (i := 2) (v := .bool x.dead) rfl)]
        have hI3 : I i h3 := hst i h' h3 hI x3.only
        have hr3 : h3[l]? = some (R .ready none) := x3.block hrd (fun f => f)
        refine hy h3 _ _ hr3 ⟨x.epoch, !x.dead, rfl, hr3, ?_⟩
        refine hB (R .busy none) i x _ _ _ (hR _ _) (hst i h3 _ hI3 (put_only h3 l _)) (put_at hr3) hx (fun h4 hI4 hb4 => ⟨hb4, true, rfl, (fun h => by cases h), fun _ => ?_⟩) (fun j h4 hE hb4 => ?_)
        · rw [show IntKind.wrap .i64 ((i : Int) + 1) = ((i + 1 : Nat) : Int) from by rw [w64 (by omega) (by omega)]; omega]
          exact ih (i + 1) _ (by omega) (by omega) (hst (i + 1) h4 _ hI4 (put_only h4 l _)) (put_at hb4)
        · obtain ⟨c, hc, _⟩ := hj j h4 hE
          refine ⟨c, hc, hb4, false, rfl, fun _ => ?_, fun h => by cases h⟩
          have hE2 := hstE j h4 _ hE (put_only h4 l (R .done (some c)))
          have hp := put_at (o := R .done (some c)) hb4
          obtain ⟨c', hc', hk⟩ := hj j _ (hstE j _ _ hE2 (put_only _ l (R .exhausted (some c))))
          exact .inr ⟨j, c, hc, hp, hk⟩
      · have : i = L.length := by omega
        subst this
        exact .inl ⟨hrd, hn _ (hst _ h' _ hI (put_only h' l _))⟩
  exact key _ 0 h1 (by omega) (by omega) h0 hr
/-- A range over a chain's sequence, outermost: l is the record's place, D that of the block for deferred calls. -/
theorem range_all2 {h : H} {a : Nat} {r : Sl} {L : List Ver} {js : List Code} {BB : Nat → Int → Bool → H → (H → Prop) → (Nat → H → Prop) → Prop} {Kn : H → Prop} {Kj : Nat → H → Prop} (I : Nat → H → Prop) (E : Nat → H → Prop) (hL : L.length < 1073741824)
    (hst : ∀ i h' h'', I i h' → Only (· = h.size + 1) h' h'' → I i h'') (hstE : ∀ j h' h'', E j h' → Only (· = h.size + 1) h' h'' → E j h'') (hown : ∀ i h', I i h' → Blk h' a #[r.enc] 72 ∧ Owns h' r 76 3 (L.flatMap (·.cells)))
    (h0 : I 0 (h.push (.deferred (some []))))
    (hB : ∀ (X : Obj) (i : Nat) (x : Ver) (h5 : H) (K : H → Prop) (J : Nat → H → Prop), (∃ r, X = .loop r) → I i h5 → h5[h.size + 1]? = some X → L[i]? = some x → (∀ h2, I (i + 1) h2 → h2[h.size + 1]? = some X → K h2) → (∀ j h2, E j h2 → h2[h.size + 1]? = some X → J j h2) → BB (h.size + 1) x.epoch (!x.dead) h5 K J)
    (hn : ∀ h', I L.length h' → Kn h') (hj : ∀ j h', E j h' → ∃ c, js[j]? = some c ∧ Kj j h') :
    rng PP (.func (.func 43) #[] #[.pointer (some ⟨a, 0, none⟩)]) h js (fun bg l args h' K J => ∃ (e : Int), ∃ (is : Bool), args = [.int .i64 e, .bool is] ∧ bg h' fun h5 => BB l e is h5 K J) Kn Kj := fun R hR hy => by
  refine ⟨43, #[], #[.pointer (some ⟨a, 0, none⟩)], rfl, fun a w => Try.call43 a w, ?_⟩
  have := F.chain_Chain_int_All_1_ok (all_core2 I E hR hL hst hstE hown hB hn hj hy (h1 := (h.push (.deferred (some []))).push (R .ready none)) (hst 0 _ _ h0 (.push _ _)) (by rw [Array.getElem?_push, if_pos (by simp)]))
  exact this.mono fun r h' ⟨_, q⟩ => q

/-- Where the law's variables lie. -/
structure SK where
  h0 : H
  p1 : Sl
  st : Int
  S1 : List (Step × List Int)
  p : Nat
  a2 : Nat
  a4 : Nat
  a6 : Nat
  a17 : Nat
  a24 : Nat
  a : Nat
  a31 : Nat
  a42 : Nat
  sW : Sl
  r : Sl
  L : List Ver
structure SKok (c : SK) : Prop where
  o0 : c.h0.size ≤ c.a2
  o2 : c.a2 < c.a4
  o4 : c.a4 < c.a6
  o6 : c.a6 < c.p
  op : c.p < c.a17
  o17 : c.a17 < c.a24
  o24 : c.a24 < c.a
  oa : c.a < c.a31
  o31 : c.a31 < c.a42
  oW : ∀ b, c.sW.blk = some b → c.a17 < b ∧ b < c.a24
  or_ : ∀ b, c.r.blk = some b → c.a24 < b ∧ b < c.a31 ∧ b ≠ c.a
  scr : Script c.h0 c.p1 c.S1
  rise : Rise c.L
  len : c.L.length ≤ 2000
/-- What holds all the while: ds, the blocks of deferred calls; z, what else is to be left alone; k, the counter; u, how many versions the chain has at most. -/
structure SQ (c : SK) (ds z : List Nat) (k : Int) (u : Nat) (h : H) : Prop where
  ext : Ext c.h0 h
  b2 : Blk h c.a2 #[c.p1.enc] 23
  b4 : Blk h c.a4 #[.int .i64 c.st] 3
  b6 : ∃ b, Blk h c.a6 #[.bool b] 4
  b17 : Blk h c.a17 #[.pointer (some ⟨c.p, 0, none⟩)] 25
  b24 : Blk h c.a24 #[c.sW.enc] 24
  ba : Blk h c.a #[c.r.enc] 72
  b31 : Blk h c.a31 #[.func (.func 43) #[] #[.pointer (some ⟨c.a, 0, none⟩)]] 45
  b42 : Blk h c.a42 #[.int .i64 k] 3
  oW : Owns h c.sW 3 1 ((c.L.map codV).flatMap cI)
  or_ : Owns h c.r 76 3 (c.L.flatMap (·.cells))
  ch : ∃ M B, Ch h c.p M B ∧ Rise M ∧ M.length ≤ u ∧ ∀ b, B = some b → ((c.a6 < b ∧ b < c.a17) ∨ c.a42 < b) ∧ b ∉ ds ∧ b ∉ z
  dsd : ∀ d ∈ ds, h[d]? = some (.deferred (some []))
  dsb : ∀ d ∈ ds, c.a42 < d
  zb : ∀ d ∈ z, c.a42 < d
  nd : ds.Nodup
section
variable {c : SK} {ds z : List Nat} {k k' : Int} {u : Nat} {h h' : H}
theorem SQ.dlt (q : SQ c ds z k u h) : ∀ d ∈ ds, d < h.size := fun d hd => block_lt (q.dsd d hd)
theorem SQ.lt (q : SQ c ds z k u h) : c.a42 < h.size := block_lt q.b42
theorem SQ.ext' (ok : SKok c) (q : SQ c ds z k u h) (e : Ext h h') : SQ c ds z k u h' := by
  obtain ⟨M, B, g1, g2, g3, g4⟩ := q.ch
  obtain ⟨b, g6⟩ := q.b6
  have nf : ∀ b : Nat, ¬ False := fun _ f => f
  exact ⟨q.ext.trans e, e.block q.b2 (fun f => f), e.block q.b4 (fun f => f), ⟨b, e.block g6 (fun f => f)⟩, e.block q.b17 (fun f => f), e.block q.b24 (fun f => f), e.block q.ba (fun f => f), e.block q.b31 (fun f => f), e.block q.b42 (fun f => f), q.oW.ext e, q.or_.ext e, ⟨M, B, g1.ext e, g2, g3, g4⟩, fun d hd => e.block (q.dsd d hd) (fun f => f), q.dsb, q.zb, q.nd⟩
/-- Only what lies beyond the variables, and is none of ds nor the chain's row, turns. -/
theorem SQ.only (ok : SKok c) (q : SQ c ds z k u h) {l : Nat} (hl : l ∈ z) (hld : l ∉ ds) (o : Only (· = l) h h') : SQ c ds z k u h' := by
  obtain ⟨M, B, g1, g2, g3, g4⟩ := q.ch
  obtain ⟨b, g6⟩ := q.b6
  have z1 := q.zb l hl
  obtain ⟨o0, o2, o4, o6, op, o17, o24, oa, o31, oW, or_, scr, rise, len⟩ := ok
  have hs := q.ext.size
  exact ⟨q.ext.step o fun n hn e => by omega, o.block q.b2 (by omega), o.block q.b4 (by omega), ⟨b, o.block g6 (by omega)⟩, o.block q.b17 (by omega), o.block q.b24 (by omega), o.block q.ba (by omega), o.block q.b31 (by omega), o.block q.b42 (by omega),
    q.oW.only o fun b hb e => by have := oW b hb; omega, q.or_.only o fun b hb e => by have := or_ b hb; omega, ⟨M, B, g1.only o (by omega) fun b hb e => (g4 b hb).2.2 (by rw [e]; exact hl), g2, g3, g4⟩, fun d hd => o.block (q.dsd d hd) fun e => hld (by rw [← e]; exact hd), q.dsb, q.zb, q.nd⟩
/-- The counter is written. -/
theorem SQ.setk (ok : SKok c) (q : SQ c ds z k u h) {K : H → Prop} (kk : ∀ h', SQ c ds z k' u h' → (∀ n x, n ≠ c.a42 → h[n]? = some x → h'[n]? = some x) → K h') : stH h ⟨c.a42, 0, none⟩ [.int .i64 k'] K := by
  obtain ⟨M, B, g1, g2, g3, g4⟩ := q.ch
  obtain ⟨b, g6⟩ := q.b6
  obtain ⟨o0, o2, o4, o6, op, o17, o24, oa, o31, oW, or_, scr, rise, len⟩ := ok
  refine stH_of q.b42 (by simp) fun h' f1 o f3 => kk h' ?_ fun n x hn hx => o.block hx hn
  rw [writeA_all (by simp)] at f1
  have hdb := q.dsb
  exact ⟨q.ext.step o fun n hn e => by omega, o.block q.b2 (by omega), o.block q.b4 (by omega), ⟨b, o.block g6 (by omega)⟩, o.block q.b17 (by omega), o.block q.b24 (by omega), o.block q.ba (by omega), o.block q.b31 (by omega), f1,
    q.oW.only o fun b hb e => by have := oW b hb; omega, q.or_.only o fun b hb e => by have := or_ b hb; omega, ⟨M, B, g1.only o (by omega) fun b hb e => by have := (g4 b hb).1; omega, g2, g3, g4⟩, fun d hd => o.block (q.dsd d hd) fun e => by have := hdb d hd; omega, q.dsb, q.zb, q.nd⟩
/-- The answer is written. -/
theorem SQ.set6 (ok : SKok c) (q : SQ c ds z k u h) {v : Bool} {K : H → Prop} (kk : ∀ h', SQ c ds z k u h' → Blk h' c.a6 #[.bool v] 4 → K h') : stH h ⟨c.a6, 0, none⟩ [.bool v] K := by
  obtain ⟨M, B, g1, g2, g3, g4⟩ := q.ch
  obtain ⟨b, g6⟩ := q.b6
  obtain ⟨o0, o2, o4, o6, op, o17, o24, oa, o31, oW, or_, scr, rise, len⟩ := ok
  refine stH_of g6 (by simp) fun h' f1 o f3 => ?_
  rw [writeA_all (by simp)] at f1
  refine kk h' ?_ f1
  have hdb := q.dsb
  exact ⟨q.ext.step o fun n hn e => by omega, o.block q.b2 (by omega), o.block q.b4 (by omega), ⟨v, f1⟩, o.block q.b17 (by omega), o.block q.b24 (by omega), o.block q.ba (by omega), o.block q.b31 (by omega), o.block q.b42 (by omega),
    q.oW.only o fun b hb e => by have := oW b hb; omega, q.or_.only o fun b hb e => by have := or_ b hb; omega, ⟨M, B, g1.only o (by omega) fun b hb e => by have := (g4 b hb).1; omega, g2, g3, g4⟩, fun d hd => o.block (q.dsd d hd) fun e => by have := hdb d hd; omega, q.dsb, q.zb, q.nd⟩
/-- A step is done on the chain. -/
theorem SQ.do_ (ok : SKok c) (q : SQ c ds z k u h) (hz : ∀ d ∈ z, d < h.size) (hu : u ≤ 10000) {x : Step} {E : List Int} (rd : Reads c.h0 x.L 1 (E.flatMap cI)) (hcap : x.L.len ≤ x.L.cap) (hEb : E ≠ [] → ∀ b, x.L.blk = some b → b < c.h0.size) {K : H → Prop}
    (kk : ∀ h', SQ c ds z k (u + 1) h' → (∀ n y, (n ∈ z ∨ n ∈ ds) → h[n]? = some y → h'[n]? = some y) → K h') : F.spatelaw5_do (some ⟨c.p, 0, none⟩) x h K := by
  obtain ⟨M, B, g1, g2, g3, g4⟩ := q.ch
  obtain ⟨b, g6⟩ := q.b6
  obtain ⟨o0, o2, o4, o6, op, o17, o24, oa, o31, oW, or_, scr, rise, len⟩ := ok
  have hs0 := q.ext.size
  refine do_spec g1 g2 (by omega) (rd.ext q.ext) hcap (fun hn b hb => by have := hEb hn b hb; omega) fun h' B' q1 o q3 => ?_
  have hdb := q.dsb
  have hdl := q.dlt
  have hzb := q.zb
  have hlt := q.lt
  have off : ∀ n, (n ≤ c.a6 ∨ (c.a17 ≤ n ∧ n ≤ c.a42)) → ¬ FP c.p B n := fun n hn e => by
    rcases e with e | e
    · omega
    · have := (g4 n e).1; omega
  have offz : ∀ n, (n ∈ z ∨ n ∈ ds) → ¬ FP c.p B n := fun n hn e => by
    have : c.a42 < n := by
      rcases hn with hn | hn
      · exact hzb n hn
      · exact hdb n hn
    rcases e with e | e
    · omega
    · have := g4 n e
      rcases hn with hn | hn
      · exact this.2.2 hn
      · exact this.2.1 hn
  refine kk h' ?_ fun n y hn hy => o.block hy (offz n hn)
  exact ⟨q.ext.step o fun n hn e => off n (by omega) e, o.block q.b2 (off _ (by omega)), o.block q.b4 (off _ (by omega)), ⟨b, o.block g6 (off _ (by omega))⟩, o.block q.b17 (off _ (by omega)), o.block q.b24 (off _ (by omega)), o.block q.ba (off _ (by omega)), o.block q.b31 (off _ (by omega)), o.block q.b42 (off _ (by omega)),
    q.oW.only o fun b hb => off b (by have := oW b hb; omega), q.or_.only o fun b hb => off b (by have := or_ b hb; omega), ⟨_, B', q1, rise_do g2 x E, by have := do_len M x E; omega, fun b hb => by
      rcases q3 with q3 | q3 | ⟨b', q3, q4⟩
      · exact g4 b (by rw [← q3]; exact hb)
      · rw [q3] at hb; cases hb
      · rw [q3] at hb; cases hb
        exact ⟨by omega, fun hd => by have := hdl _ hd; omega, fun hd => by have := hz _ hd; omega⟩⟩, fun d hd => o.block (q.dsd d hd) (offz d (.inr hd)), q.dsb, q.zb, q.nd⟩
/-- A new block to be left alone. -/
theorem SQ.addz (q : SQ c ds z k u h) {n : Nat} (h1 : c.a42 < n) (h3 : ∀ M B, Ch h c.p M B → B ≠ some n) : SQ c ds (n :: z) k u h := by
  obtain ⟨M, B, g1, g2, g3, g4⟩ := q.ch
  exact ⟨q.ext, q.b2, q.b4, q.b6, q.b17, q.b24, q.ba, q.b31, q.b42, q.oW, q.or_, ⟨M, B, g1, g2, g3, fun b hb => ⟨(g4 b hb).1, (g4 b hb).2.1, fun hm => by
    rcases List.mem_cons.1 hm with e | e
    · subst e; exact h3 M B g1 hb
    · exact (g4 b hb).2.2 e⟩⟩, q.dsd, q.dsb, fun d hd => by
    rcases List.mem_cons.1 hd with e | e
    · subst e; exact h1
    · exact q.zb d e, q.nd⟩
theorem SQ.lessz (q : SQ c ds z k u h) {z' : List Nat} (hz : ∀ n ∈ z', n ∈ z) : SQ c ds z' k u h := by
  obtain ⟨M, B, g1, g2, g3, g4⟩ := q.ch
  exact ⟨q.ext, q.b2, q.b4, q.b6, q.b17, q.b24, q.ba, q.b31, q.b42, q.oW, q.or_, ⟨M, B, g1, g2, g3, fun b hb => ⟨(g4 b hb).1, (g4 b hb).2.1, fun hm => (g4 b hb).2.2 (hz b hm)⟩⟩, q.dsd, q.dsb, fun d hd => q.zb d (hz d hd), q.nd⟩
theorem SQ.more (q : SQ c ds z k u h) {u' : Nat} (hu : u ≤ u') : SQ c ds z k u' h := by
  obtain ⟨M, B, g1, g2, g3, g4⟩ := q.ch
  exact ⟨q.ext, q.b2, q.b4, q.b6, q.b17, q.b24, q.ba, q.b31, q.b42, q.oW, q.or_, ⟨M, B, g1, g2, by omega, g4⟩, q.dsd, q.dsb, q.zb, q.nd⟩
/-- Where a loop begins: the block of deferred calls is laid, the record's block will be next. -/
theorem SQ.begin (ok : SKok c) (q : SQ c ds z k u h) : SQ c (h.size :: ds) z k u (h.push (.deferred (some []))) := by
  have q' := q.ext' ok (.push h (.deferred (some [])))
  obtain ⟨M, B, g1, g2, g3, g4⟩ := q.ch
  have hlt := g1.ltB
  exact ⟨q'.ext, q'.b2, q'.b4, q'.b6, q'.b17, q'.b24, q'.ba, q'.b31, q'.b42, q'.oW, q'.or_, ⟨M, B, g1.ext (.push h _), g2, g3, fun b hb => ⟨(g4 b hb).1, fun hm => by
    rcases List.mem_cons.1 hm with e | e
    · have := hlt b hb; omega
    · exact (g4 b hb).2.1 e, (g4 b hb).2.2⟩⟩, fun d hd => by
    rcases List.mem_cons.1 hd with e | e
    · subst e; simp
    · exact q'.dsd d e, fun d hd => by
    rcases List.mem_cons.1 hd with e | e
    · subst e; exact q.lt
    · exact q.dsb d e, q'.zb, List.nodup_cons.2 ⟨fun hm => by have := q.dlt _ hm; omega, q.nd⟩⟩
end
end Go.Proofs.Ytapomjhjpejimaa.V
