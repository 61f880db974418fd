/- The law ChainSeqs answers true, continued: its loops; no condition. -/
import Derived.Test.YtapomjhjpejimaaCt
namespace Go.Proofs.Ytapomjhjpejimaa.V
open Go
set_option linter.unusedVariables false
set_option linter.unusedSimpArgs false

theorem shuts_of {K : H → Prop} : ∀ (ds : List Nat) (h : H), ds.Nodup → (∀ d ∈ ds, h[d]? = some (.deferred (some []))) → (∀ h', Only (· ∈ ds) h h' → K h') → shuts ds h K
  | [], h, _, _, k => k h (.refl _)
  | d :: r, h, hn, hd, k => by
    have h1 := List.nodup_cons.1 hn
    refine ⟨hd d (by simp), shuts_of r _ h1.2 (fun e he => ?_) fun h' o => k h' ?_⟩
    · exact (put_only h d _).block (hd e (List.mem_cons_of_mem _ he)) fun e' => h1.1 (by rw [← e']; exact he)
    · exact ((put_only h d (.deferred none)).mono fun n _ e => by rw [e]; simp).trans o fun n _ e => List.mem_cons_of_mem _ e
section
variable {c : SK} {Q : Bool → H → Prop} {ds z : List Nat} {k : Int} {u : Nat} {h : H}
theorem SQ.wlen (ok : SKok c) (q : SQ c ds z k u h) : c.sW.len = c.L.length := by have := own_len cI_len (by omega) q.oW; simpa using this
/-- What is told is what was wanted. -/
theorem seqs_check (ok : SKok c) (q : SQ c ds z k u h) {i n : Nat} {x : Ver} (hx : c.L[i]? = some x) (hc : cellH h ⟨n, 0, none⟩ = some (.int .i64 (i : Int))) (G : Bool → H → Prop) (kk : G false h) :
    ldI .i64 h ⟨n, 0, none⟩ fun y68 => ldL h ⟨c.a24, 0, none⟩ fun y70 => ((decide (y68 ≥ (y70.len : Int))) = true → G true h) ∧ ((decide (y68 ≥ (y70.len : Int))) = false →
      ldL h ⟨c.a24, 0, none⟩ fun y73 => ldI .i64 h ⟨n, 0, none⟩ fun y75 => idxA y73 y75 1 fun a77 => ldI .i64 h a77 fun y79 => F.spatelaw5_coded x.epoch (!x.dead) h fun r82 h81 =>
        cellH h81 a77 = some (.int .i64 y79) ∧ cellH h81 ⟨n, 0, none⟩ = some (.int .i64 y75) ∧ cellH h81 ⟨c.a24, 0, none⟩ = some y73.enc ∧ G (y79 != r82) h81) := by
  have h24 : cellH h ⟨c.a24, 0, none⟩ = some c.sW.enc := q.b24.cell rfl
  have hlt := (List.getElem?_eq_some_iff.1 hx).1
  rw [ldI_iff hc, ldL_iff h24, q.wlen ok]
  simp only [decide_eq_true_eq, decide_eq_false_iff_not]
  refine ⟨fun g => by omega, fun _ => ?_⟩
  rw [ldL_iff h24, ldI_iff hc]
  obtain ⟨b, r1, r2⟩ := own_at cI_len (by omega) q.oW (i := i) (x := codV x) (by rw [List.getElem?_map, hx]; rfl)
  refine idxA_of (i := i) r1 (by rw [q.wlen ok]; exact hlt) rfl ?_
  rw [ldI_iff r2.one]
  refine coded_spec ⟨r2.one, hc, h24, ?_⟩
  rw [bne_self_eq_false]; exact kk
/-- A loop over the sequence begins. -/
theorem SQ.start (ok : SKok c) (q : SQ c ds z k u h) : SQ c (h.size :: ds) [h.size + 1] k u (h.push (.deferred (some []))) := by
  refine (((q.begin ok).lessz (z' := []) (fun n hn => by cases hn)).addz (n := h.size + 1) (by have := q.lt; omega) fun M B g e => ?_)
  have := g.ltB _ e
  simp at this
theorem SQ.l_not (q : SQ c ds z k u h) : h.size + 1 ∉ h.size :: ds := fun hm => by
  rcases List.mem_cons.1 hm with e | e
  · omega
  · have := q.dlt _ e; omega
/-- The first loop's round: a step is done. -/
theorem seqs_one (ok : SKok c) {i l : Nat} {X : Obj} {x : Ver} (q : SQ c ds [l] (i : Int) u h) (hX : h[l]? = some X) (hx : c.L[i]? = some x) (hu : u ≤ 10000) {K : H → Prop} {J : Nat → H → Prop} {l1 : Nat} (kK : ∀ h2, SQ c ds [l] ((i + 1 : Nat) : Int) (u + 1) h2 → h2[l]? = some X → K h2) :
    F.spatelaw5_ChainSeqs.j3 Q K J l1 ⟨c.a2, 0, none⟩ ⟨c.a6, 0, none⟩ ⟨c.a17, 0, none⟩ ⟨c.a42, 0, none⟩ false h := by
  unfold F.spatelaw5_ChainSeqs.j3 F.spatelaw5_ChainSeqs.j1
  refine ⟨(fun h => by cases h), fun _ => ?_⟩
  have hlen := ok.len
  have hlt := (List.getElem?_eq_some_iff.1 hx).1
  have hla : l ≠ c.a42 := by have := q.zb l (by simp); omega
  have j2 : ∀ h', SQ c ds [l] (i : Int) (u + 1) h' → h'[l]? = some X → F.spatelaw5_ChainSeqs.j2 Q K J l1 ⟨c.a42, 0, none⟩ h' := fun h' q' hX' => by
    unfold F.spatelaw5_ChainSeqs.j2
    rw [ldI_iff (q'.b42.cell (i := 0) rfl), wrap_succ (by omega)]
    exact q'.setk ok fun h2 q2 f => kK h2 q2 (f l X hla hX')
  rw [ldI_iff (q.b42.cell (i := 0) rfl), ldL_iff (q.b2.cell (i := 0) rfl)]
  refine ⟨fun g => ?_, fun _ => j2 h (q.more (by omega)) hX⟩
  rw [decide_eq_true_eq] at g
  rw [ldP_iff (q.b17.cell (i := 0) rfl), ldL_iff (q.b2.cell (i := 0) rfl), ldI_iff (q.b42.cell (i := 0) rfl)]
  have hl := rd_len (f := fun p : Step × List Int => p.1.cells) scr_len (by omega) ok.scr.1
  obtain ⟨s, hs⟩ : ∃ s, c.S1[i]? = some s := ⟨_, List.getElem?_eq_getElem (by omega)⟩
  refine scr_get (ok.scr.ext q.ext) hs rfl fun a ha => ⟨s.1, ha, ?_⟩
  obtain ⟨d1, d2, d3, _⟩ := ok.scr.2.2 s (List.mem_of_getElem? hs)
  exact q.do_ ok (fun d hd => by simp at hd; subst hd; exact block_lt hX) hu d1 d2 d3 fun h' q' f => j2 h' q' (f l X (.inl (by simp)) hX)
/-- The last loop. -/
theorem seqs_last (ok : SKok c) (q : SQ c ds [] k u h) (kQ : ∀ h', Ext c.h0 h' → Q true h') : F.spatelaw5_ChainSeqs.j7 Q ds ⟨c.a6, 0, none⟩ ⟨c.a24, 0, none⟩ ⟨c.a31, 0, none⟩ ⟨c.a42, 0, none⟩ h := by
  unfold F.spatelaw5_ChainSeqs.j7
  have hlen := ok.len
  refine q.setk ok (k' := 0) fun h1 q1 _ => ?_
  rw [ldV_iff (q1.b31.cell (i := 0) rfl)]
  refine range_all2 (fun i h' => SQ c (h1.size :: ds) [h1.size + 1] (i : Int) u h') (fun _ _ => False) (by omega) (fun i h' h'' t o => t.only ok (by simp) q1.l_not o) (fun _ _ _ f _ => f) (fun i h' t => ⟨t.ba, t.or_⟩) (q1.start ok) ?_ ?_ (fun _ _ f => f.elim)
  · intro X i x h5 K J hXl t hX hx kK kJ
    have hlt := (List.getElem?_eq_some_iff.1 hx).1
    refine seqs_check ok t hx (t.b42.cell (i := 0) rfl) (F.spatelaw5_ChainSeqs.j9 Q K J (h1.size + 1) ⟨c.a6, 0, none⟩ ⟨c.a42, 0, none⟩) ?_
    unfold F.spatelaw5_ChainSeqs.j9 F.spatelaw5_ChainSeqs.j8
    refine ⟨(fun h => by cases h), fun _ => ?_⟩
    rw [ldI_iff (t.b42.cell (i := 0) rfl), wrap_succ (by omega)]
    exact t.setk ok fun h2 q2 f => kK h2 q2 (f _ X (by have := q1.lt; omega) hX)
  · intro h' t
    rw [ldI_iff (t.b42.cell (i := 0) rfl), ldL_iff (t.b24.cell (i := 0) rfl), t.wlen ok, show ((c.L.length : Int) == (c.L.length : Int)) = true from by simp]
    refine t.set6 ok fun h2 q2 b2 => ?_
    have hdb := q2.dsb
    have h6 := ok.o6; have hp := ok.op; have h17 := ok.o17; have h24 := ok.o24; have ha := ok.oa; have h31 := ok.o31; have h0 := ok.o0; have ho2 := ok.o2; have ho4 := ok.o4
    refine shuts_of _ h2 q2.nd q2.dsd fun h3 o => ?_
    have b3 : Blk h3 c.a6 #[.bool true] 4 := o.block b2 fun hm => by have := hdb _ hm; omega
    rw [ldB_iff (b3.cell (i := 0) rfl)]
    have hs := q2.ext.size
    exact kQ h3 (q2.ext.step o fun n hn hm => by have := hdb _ hm; omega)
/-- The loop within: its own counter lies at n. -/
theorem seqs_inner (ok : SKok c) {l : Nat} {i : Nat} {X : Obj} (hX : ∃ r, X = .loop r) (q : SQ c ds [l] (i : Int) u h) (hl : h[l]? = some X) (hld : l ∉ ds) (hi : i < c.L.length) {K : H → Prop} {J : Nat → H → Prop}
    (kK : ∀ h2, SQ c ds [l] ((i + 1 : Nat) : Int) u h2 → h2[l]? = some X → K h2) (kJ : ∀ h2, (∃ k, SQ c ds [l] k u h2) → h2[l]? = some X → J 1 h2) :
    F.spatelaw5_ChainSeqs.j10 Q K J l ⟨c.a4, 0, none⟩ ⟨c.a6, 0, none⟩ ⟨c.a24, 0, none⟩ ⟨c.a31, 0, none⟩ ⟨c.a42, 0, none⟩ h := by
  unfold F.spatelaw5_ChainSeqs.j10
  have hlen := ok.len
  refine new_of fun n h1 e1 e2 e3 e4 => ?_
  refine stH_of e2 (by simp) fun h2 f1 f2 f3 => ?_
  rw [writeA_all (by simp)] at f1
  have x2 : Ext h h2 := e3.step f2 fun m hm e => by omega
  have q2 : SQ c ds [l] (i : Int) u h2 := q.ext' ok x2
  have hl2 : h2[l]? = some X := x2.block hl (fun f => f)
  rw [ldV_iff (q2.b31.cell (i := 0) rfl)]
  have hnl : n ≠ l := by have := block_lt hl; omega
  have hB : ∀ M B, Ch h2 c.p M B → B ≠ some n → B ≠ some h2.size := fun M B g _ e => by have := g.ltB _ e; omega
  -- the chain's row is not n
  obtain ⟨M, B, g1, g2, g3, g4⟩ := q.ch
  have hnB : ∀ b, B = some b → b ≠ n := fun b hb => by have := g1.ltB b hb; omega
  have q3 : SQ c ds [n, h2.size, l] (i : Int) u h2 := ⟨q2.ext, q2.b2, q2.b4, q2.b6, q2.b17, q2.b24, q2.ba, q2.b31, q2.b42, q2.oW, q2.or_, ⟨M, B, g1.ext x2, g2, g3, fun b hb => ⟨(g4 b hb).1, (g4 b hb).2.1, fun hm => by
      have := g1.ltB b hb
      have hs := x2.size
      have hs2 := e3.size
      have hn2 := block_lt f1
      simp at hm
      rcases hm with e | e | e
      · exact hnB b hb e
      · omega
      · exact (g4 b hb).2.2 (by simp [e])⟩⟩, q2.dsd, q2.dsb, fun d hd => by
      have := q.lt
      simp at hd
      rcases hd with e | e | e
      · omega
      · have := x2.size; omega
      · subst e; exact q.zb d (by simp), q2.nd⟩
  have hdl := q2.dlt
  have hnd : n ∉ ds := fun hm => by have := q.dlt _ hm; omega
  have hsd : h2.size ∉ ds := fun hm => by have := hdl _ hm; omega
  have hnlt := block_lt f1
  have hllt := block_lt hl2
  refine range_allN (by obtain ⟨r, rfl⟩ := hX; exact ⟨r, hl2⟩) (fun j h' => SQ c ds [n, h2.size, l] (i : Int) u h' ∧ Blk h' n #[.int .i64 (j : Int)] 3 ∧ h'[l]? = some X) (fun _ _ => False) (by omega) (fun j h' h'' t o => ⟨t.1.only ok (by simp) hsd o, o.block t.2.1 (by omega), o.block t.2.2 (by omega)⟩) (fun _ _ _ f _ => f) (fun i h' t => ⟨t.1.ba, t.1.or_⟩) ⟨q3, f1, hl2⟩ ?_ ?_ (fun _ _ f => f.elim)
  · intro Y j x h5 K' J' t hY hx kK' kJ'
    have hlt := (List.getElem?_eq_some_iff.1 hx).1
    obtain ⟨t1, t2, t3⟩ := t
    refine seqs_check ok t1 hx (t2.cell (i := 0) rfl) (F.spatelaw5_ChainSeqs.j12 Q K' J' h2.size ⟨c.a6, 0, none⟩ ⟨n, 0, none⟩) ?_
    unfold F.spatelaw5_ChainSeqs.j12 F.spatelaw5_ChainSeqs.j11
    refine ⟨(fun h => by cases h), fun _ => ?_⟩
    rw [ldI_iff (t2.cell (i := 0) rfl), wrap_succ (by omega)]
    refine stH_of t2 (by simp) fun h6 u1 u2 u3 => ?_
    rw [writeA_all (by simp)] at u1
    exact kK' h6 ⟨t1.only ok (by simp) hnd u2, u1, u2.block t3 (Ne.symm hnl)⟩ (u2.block hY (by omega))
  · intro h' t
    obtain ⟨t1, t2, t3⟩ := t
    rw [ldI_iff (t2.cell (i := 0) rfl), ldL_iff (t1.b24.cell (i := 0) rfl), t1.wlen ok, bne_self_eq_false]
    refine ⟨(fun h => by cases h), fun _ => ?_⟩
    rw [ldI_iff (t1.b42.cell (i := 0) rfl), wrap_succ (by omega)]
    refine t1.setk ok fun h7 q7 f7 => ?_
    have hl7 : h7[l]? = some X := f7 l X (by have := q.zb l (by simp); omega) t3
    rw [ldI_iff (q7.b42.cell (i := 0) rfl), ldI_iff (q7.b4.cell (i := 0) rfl)]
    have q8 : SQ c ds [l] ((i + 1 : Nat) : Int) u h7 := q7.lessz fun m hm => by simp at hm; simp [hm]
    exact within_eq (by omega) (by omega) fun _ _ => ⟨q7.b42.cell (i := 0) rfl, fun _ => kJ h7 ⟨_, q8⟩ hl7, fun _ => kK h7 q8 hl7⟩
/-- The loop with another one within, and what comes behind. -/
theorem seqs_two (ok : SKok c) (q : SQ c ds [] k u h) (kQ : ∀ h', Ext c.h0 h' → Q true h') {C1 : List Nat → Addr → Addr → Addr → Addr → Addr → Addr → Addr → Int → H → Prop} {x13 : Int} :
    F.spatelaw5_ChainSeqs.j6 Q C1 ds ⟨c.a2, 0, none⟩ ⟨c.a4, 0, none⟩ ⟨c.a6, 0, none⟩ ⟨c.a17, 0, none⟩ ⟨c.a24, 0, none⟩ ⟨c.a31, 0, none⟩ ⟨c.a42, 0, none⟩ x13 false h := by
  unfold F.spatelaw5_ChainSeqs.j6
  have hlen := ok.len
  refine ⟨(fun h => by cases h), fun _ => ?_⟩
  refine q.setk ok (k' := 0) fun h1 q1 _ => ?_
  rw [ldV_iff (q1.b31.cell (i := 0) rfl)]
  have hnot := q1.l_not
  refine range_all2 (fun i h' => SQ c (h1.size :: ds) [h1.size + 1] (i : Int) u h') (fun j h' => j = 1 ∧ ∃ k, SQ c (h1.size :: ds) [h1.size + 1] k u h') (by omega) (fun i h' h'' t o => t.only ok (by simp) hnot o) (fun j h' h'' ⟨e, k, t⟩ o => ⟨e, k, t.only ok (by simp) hnot o⟩) (fun i h' t => ⟨t.ba, t.or_⟩) (q1.start ok) ?_ ?_ ?_
  · intro X i x h5 K J hXl t hX hx kK kJ
    have hlt := (List.getElem?_eq_some_iff.1 hx).1
    refine seqs_check ok t hx (t.b42.cell (i := 0) rfl) (F.spatelaw5_ChainSeqs.j13 Q K J (h1.size + 1) ⟨c.a4, 0, none⟩ ⟨c.a6, 0, none⟩ ⟨c.a24, 0, none⟩ ⟨c.a31, 0, none⟩ ⟨c.a42, 0, none⟩) ?_
    unfold F.spatelaw5_ChainSeqs.j13
    exact ⟨(fun h => by cases h), fun _ => seqs_inner ok hXl t hX hnot hlt kK fun h2 e hX2 => kJ 1 h2 ⟨rfl, e⟩ hX2⟩
  · intro h' t
    exact seqs_last ok (t.lessz fun n hn => by cases hn) kQ
  · rintro j h' ⟨rfl, k, t⟩
    exact ⟨_, rfl, (fun h => by cases h), fun _ => seqs_last ok (t.lessz fun n hn => by cases hn) kQ⟩
/-- The steps between. -/
theorem seqs_steps (ok : SKok c) (kQ : ∀ h', Ext c.h0 h' → Q true h') : ∀ (m i : Nat) (h : H) (u : Nat), SQ c ds [] k u h → u ≤ 6000 + i → i ≤ 2000 → 2000 - i < m → F.spatelaw5_ChainSeqs.l4 Q m ds ⟨c.a2, 0, none⟩ ⟨c.a4, 0, none⟩ ⟨c.a6, 0, none⟩ ⟨c.a17, 0, none⟩ ⟨c.a24, 0, none⟩ ⟨c.a31, 0, none⟩ ⟨c.a42, 0, none⟩ (i : Int) h
  | 0, i, h, u, _, _, _, hm => by omega
  | m + 1, i, h, u, q, hu, hi, hm => by
    unfold F.spatelaw5_ChainSeqs.l4
    have hl := rd_len (f := fun p : Step × List Int => p.1.cells) scr_len (by omega) ok.scr.1
    rw [ldL_iff (q.b2.cell (i := 0) rfl), hl]
    simp only [decide_eq_true_eq, decide_eq_false_iff_not]
    refine ⟨fun g => ?_, fun g => seqs_two ok q kQ⟩
    by_cases hi2 : i < 2000
    · rw [show decide ((i : Int) < 2000) = true from by simp; omega]
      unfold F.spatelaw5_ChainSeqs.j6 F.spatelaw5_ChainSeqs.j5
      refine ⟨fun _ => ?_, fun h => by cases h⟩
      rw [ldP_iff (q.b17.cell (i := 0) rfl), ldL_iff (q.b2.cell (i := 0) rfl)]
      obtain ⟨s, hs⟩ : ∃ s, c.S1[i]? = some s := ⟨_, List.getElem?_eq_getElem (by omega)⟩
      refine scr_get (ok.scr.ext q.ext) hs rfl fun a ha => ⟨s.1, ha, ?_⟩
      obtain ⟨d1, d2, d3, _⟩ := ok.scr.2.2 s (List.mem_of_getElem? hs)
      refine q.do_ ok (fun d hd => by cases hd) (by omega) d1 d2 d3 fun h' q' f => ?_
      rw [wrap_succ (by omega)]
      exact seqs_steps ok kQ m (i + 1) h' (u + 1) q' (by omega) (by omega) (by omega)
    · rw [show decide ((i : Int) < 2000) = false from by simp; omega]
      exact seqs_two ok q kQ
end
theorem ChainSeqs_spec {h : H} {x0 x1 : Sl} {S S1 : List (Step × List Int)} {st : Int} {Q : Bool → H → Prop} (t0 : Script h x0 S) (t1 : Script h x1 S1) (k : ∀ h', Ext h h' → Q true h') : F.spatelaw5_ChainSeqs x0 x1 st h Q := by
  unfold F.spatelaw5_ChainSeqs
  refine new_of fun a2 h1 p1 b2 e1 z1 => new_of fun a4 h3 p3 b4 e3 z3 => new_of fun a6 h5 p5 b6 e5 z5 => ?_
  refine known_spec fun h7 e7 => ⟨(fun h => by cases h), fun _ => ?_⟩
  have x7 : Ext h h7 := ((e1.trans e3).trans e5).trans e7
  refine open_facts (t0.ext x7) fun p h14 B L hL hp c14 e14 hB hr hep hln => ?_
  refine new_of fun a17 h16 p16 b17 e16 z16 => ?_
  refine stH_of b17 (by simp) fun h18 f1 f2 f3 => ?_
  rw [writeA_all (by simp)] at f1
  have x18 : Ext h14 h18 := e16.step f2 fun m hm e => by omega
  rw [ldP_iff (f1.cell (i := 0) rfl)]
  refine told_spec (c14.ext x18) (by omega) fun sW h21 o21 e21 m21 => ?_
  refine new_of fun a24 h23 p23 b24 e23 z23 => ?_
  refine stH_of b24 (by simp) fun h25 g1 g2 g3 => ?_
  rw [writeA_all (by simp)] at g1
  have x25 : Ext h21 h25 := e23.step g2 fun m hm e => by omega
  have f25 : Blk h25 a17 #[.pointer (some ⟨p, 0, none⟩)] 25 := x25.block (e21.block f1 (fun f => f)) (fun f => f)
  rw [ldP_iff (f25.cell (i := 0) rfl)]
  refine All_spec (((c14.ext x18).ext e21).ext x25) (by omega) fun a r h28 ba or_ pa pr e28 => ?_
  refine new_of fun a31 h30 p30 b31 e30 z30 => ⟨rfl, rfl, ?_⟩
  refine stH_of b31 (by simp) fun h32 k1 k2 k3 => ?_
  rw [writeA_all (by simp)] at k1
  have x32 : Ext h28 h32 := e30.step k2 fun m hm e => by omega
  rw [ldV_iff (k1.cell (i := 0) rfl)]
  refine ⟨.inr (.inl ⟨_, _, _, rfl⟩), (fun h => by cases h), fun _ => ?_⟩
  refine new_of fun a42 h41 p41 b42 e41 z41 => ?_
  refine stH_of b42 (by simp) fun h43 l1 l2 l3 => ?_
  rw [writeA_all (by simp)] at l1
  have x43 : Ext h32 h43 := e41.step l2 fun m hm e => by omega
  have k43 : Blk h43 a31 #[.func (.func 43) #[] #[.pointer (some ⟨a, 0, none⟩)]] 45 := x43.block k1 (fun f => f)
  rw [ldV_iff (k43.cell (i := 0) rfl)]
  -- where all lies
  have s7 := e7.size; have s14 := e14.size; have s18 := x18.size; have s21 := e21.size; have s25 := x25.size; have s28 := e28.size; have s32 := x32.size
  have hpl := c14.lt
  have hBl := c14.ltB
  have a_lt := block_lt ba
  obtain ⟨c, hc⟩ : ∃ c : SK, c = ⟨h, x1, st, S1, p, a2, a4, a6, a17, a24, a, a31, a42, sW, r, L⟩ := ⟨_, rfl⟩
  have hlen2 : (L.map codV).length = L.length := by simp
  have ok : SKok c := by
    subst hc
    refine ⟨by show h.size ≤ a2; omega, by show a2 < a4; omega, by show a4 < a6; omega, by show a6 < p; omega, by show p < a17; omega, by show a17 < a24; omega, by show a24 < a; omega, by show a < a31; omega, by show a31 < a42; omega, fun b hb => ?_, fun b hb => ?_, t1, hr, hln⟩
    · show a17 < b ∧ b < a24
      have h1 := m21 b hb
      have h2 := o21.blk_lt hb
      omega
    · show a24 < b ∧ b < a31 ∧ b ≠ a
      have h1 := pr b hb
      have h2 := or_.blk_lt hb
      omega
  have y25 : Ext h25 h43 := (e28.trans x32).trans x43
  have y18 : Ext h18 h43 := (e21.trans x25).trans y25
  have y14 : Ext h14 h43 := x18.trans y18
  have q : SQ c [] [] 0 2000 h43 := by
    subst hc
    refine ⟨(x7.trans e14).trans y14, ?_, ?_, ⟨false, ?_⟩, ?_, ?_, ?_, k43, l1, ?_, ?_, ⟨L, B, c14.ext y14, hr, hln, fun b hb => ⟨.inl ?_, by simp, by simp⟩⟩, by simp, by simp, by simp, by simp⟩
    · exact y14.block (e14.block (e7.block (e5.block (e3.block b2 (fun f => f)) (fun f => f)) (fun f => f)) (fun f => f)) (fun f => f)
    · exact y14.block (e14.block (e7.block (e5.block b4 (fun f => f)) (fun f => f)) (fun f => f)) (fun f => f)
    · exact y14.block (e14.block (e7.block b6 (fun f => f)) (fun f => f)) (fun f => f)
    · exact y18.block f1 (fun f => f)
    · exact y25.block g1 (fun f => f)
    · exact (x32.trans x43).block ba (fun f => f)
    · exact (o21.ext x25).ext y25
    · exact or_.ext (x32.trans x43)
    · have := hB b hb
      have := hBl b hb
      show a6 < b ∧ b < a17
      omega
  have hE : ∀ h', Ext c.h0 h' → Q true h' := by subst hc; exact k
  have hcs : c.a2 = a2 ∧ c.a4 = a4 ∧ c.a6 = a6 ∧ c.a17 = a17 ∧ c.a24 = a24 ∧ c.a = a ∧ c.a31 = a31 ∧ c.a42 = a42 ∧ c.r = r ∧ c.L = L ∧ c.sW = sW := by subst hc; exact ⟨rfl, rfl, rfl, rfl, rfl, rfl, rfl, rfl, rfl, rfl, rfl⟩
  clear hc
  obtain ⟨rfl, rfl, rfl, rfl, rfl, rfl, rfl, rfl, rfl, rfl, rfl⟩ := hcs
  refine range_all2 (fun i h' => SQ c (h43.size :: []) [h43.size + 1] (i : Int) (2000 + i) h') (fun _ _ => False) (by omega) (fun i h' h'' t o => t.only ok (by simp) q.l_not o) (fun _ _ _ f _ => f) (fun i h' t => ⟨t.ba, t.or_⟩) (q.start ok) ?_ ?_ (fun _ _ f => f.elim)
  · intro X i x h5 K J hXl t hX hx kK kJ
    have hlt := (List.getElem?_eq_some_iff.1 hx).1
    refine seqs_check ok t hx (t.b42.cell (i := 0) rfl) (F.spatelaw5_ChainSeqs.j3 Q K J (h43.size + 1) ⟨c.a2, 0, none⟩ ⟨c.a6, 0, none⟩ ⟨c.a17, 0, none⟩ ⟨c.a42, 0, none⟩) ?_
    exact seqs_one ok t hX hx (by omega) fun h2 q2 hX2 => kK h2 q2 hX2
  · intro h' t
    rw [ldI_iff (t.b42.cell (i := 0) rfl), ldL_iff (t.b24.cell (i := 0) rfl), t.wlen ok, bne_self_eq_false]
    refine ⟨(fun h => by cases h), fun _ => ⟨2001, ?_⟩⟩
    exact seqs_steps ok hE 2001 0 h' _ (t.lessz fun n hn => by cases hn) (by omega) (by omega) (by omega)
end Go.Proofs.Ytapomjhjpejimaa.V
