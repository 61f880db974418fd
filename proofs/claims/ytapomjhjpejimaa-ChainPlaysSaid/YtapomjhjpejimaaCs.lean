/- The law ChainApart answers true; no condition. -/
import Derived.Test.YtapomjhjpejimaaCp
namespace Go.Proofs.Ytapomjhjpejimaa.V
open Go
set_option linter.unusedVariables false
set_option linter.unusedSimpArgs false

theorem Twin_spec {h : H} {p : Nat} {L : List Ver} {B : Option Nat} {Q : Option Addr → H → Prop} (c : Ch h p L B) (hL : L.length < 1073741824) (k : ∀ q h' B', h.size ≤ q → Ch h' q L B' → Ext h h' → (∀ b, B' = some b → h.size ≤ b) → Q (some ⟨q, 0, none⟩) h') : F.chain_Chain_int_Twin (some ⟨p, 0, none⟩) h Q := by
  obtain ⟨s, hb, ho, hB, hne⟩ := c
  have hc0 : cellH h ⟨p, 0, none⟩ = some s.enc := hb.cell rfl
  simp only [F.chain_Chain_int_Twin, nn_some, add_lit, Nat.add_zero, ldL_iff hc0]
  refine Clone_spec ho.reads hL fun r h1 r1 r2 r3 => ?_
  refine new_of fun n h2 e1 e2 e3 e4 => ?_
  have hs := r2.size
  have hne2 : r.blk ≠ some n := fun e => by have := r1.blk_lt e; omega
  exact k n h2 r.blk (by omega) ⟨r, e2, r1.ext e3, rfl, hne2⟩ (r2.trans e3) r3
theorem alike_spec {h : H} {p q : Nat} {L : List Ver} {B C : Option Nat} {Q : Bool → H → Prop} (c : Ch h p L B) (d : Ch h q L C) (hr : Rise L) (hL : L.length < 10000000) (k : ∀ h', Ext h h' → Q true h') : F.spatelaw5_alike (some ⟨p, 0, none⟩) (some ⟨q, 0, none⟩) h Q := by
  unfold F.spatelaw5_alike
  refine epochs_spec c (by omega) fun r2 h1 o1 e1 m1 => ?_
  refine Newest_spec (c.ext e1) (by omega) fun h3 e3 => Newest_spec ((d.ext e1).ext e3) (by omega) fun h7 e7 => ?_
  have x7 := (e1.trans e3).trans e7
  refine epochs_spec (d.ext x7) (by omega) fun r12 h11 o11 e11 m11 => ?_
  have x11 := x7.trans e11
  have o2 : Owns h11 r2 3 1 ((L.map (fun x : Ver => x.epoch)).flatMap cI) := ((o1.ext e3).ext e7).ext e11
  refine same_spec o2.reads o11.reads (by simp; omega) ?_
  rw [decide_eq_true rfl]
  refine ⟨fun _ => ?_, fun h => by cases h⟩
  refine at_spec (c.ext x11) hr (by omega) o2.reads (by simp; omega) fun r17 h16 o16 e16 m16 => ?_
  refine at_spec ((d.ext x11).ext e16) hr (by omega) (o2.reads.ext e16) (by simp; omega) fun r19 h18 o18 e18 m18 => ?_
  refine same_spec (o16.reads.ext e18) o18.reads (by rw [atL_len]; simp; omega) ?_
  rw [decide_eq_true rfl]
  have x18 := (x11.trans e16).trans e18
  refine ⟨fun _ => ?_, fun h => by cases h⟩
  simp only [beq_self_eq_true, true_implies, Bool.true_eq_false, false_implies, and_true]
  refine Len_spec (c.ext x18) (Len_spec (d.ext x18) ?_)
  rw [show ((L.length : Int) == (L.length : Int)) = true from by simp]
  exact k h18 x18
theorem Pair.do_ {h0 h : H} {p q : Nat} {L M : List Ver} {B C : Option Nat} {x : Step} {E : List Int} {Q : H → Prop} (t : Pair h0 h p q L M B C) (hr : Rise L) (hL : L.length < 1073741000) (rd : Reads h x.L 1 (E.flatMap cI)) (hcap : x.L.len ≤ x.L.cap) (hEb : E ≠ [] → ∀ b, x.L.blk = some b → b < h.size)
    (k : ∀ h' B', Pair h0 h' p q (doM L x E) M B' C → Q h') : F.spatelaw5_do (some ⟨p, 0, none⟩) x h Q :=
  do_spec t.l hr hL rd hcap hEb fun h' B' q1 q2 q3 => k h' B' (t.turn q1 q2 q3)
theorem run_step {L : List Ver} {S : List (Step × List Int)} {i : Nat} {x : Step × List Int} (hx : S[i]? = some x) : runM L (S.take (i + 1)) = doM (runM L (S.take i)) x.1 x.2 := by rw [List.take_add_one, hx]; simp [runM]
theorem run_stay {L : List Ver} {S : List (Step × List Int)} {i : Nat} (hi : S.length ≤ i) : runM L (S.take (i + 1)) = runM L (S.take i) := by rw [List.take_of_length_le (by omega), List.take_of_length_le hi]
theorem take_end {S : List (Step × List Int)} {i : Nat} (h : i = 2000 ∨ S.length ≤ i) (hi : i ≤ 2000) : S.take 2000 = S.take i := by
  rcases h with rfl | h
  · rfl
  · rw [List.take_of_length_le (by omega), List.take_of_length_le h]
theorem run_len2 (L : List Ver) (S : List (Step × List Int)) (i : Nat) (hi : i ≤ 2000) (hL : L.length ≤ 2000) : (runM L (S.take i)).length ≤ 4000 := by
  have := run_len (S.take i) L
  rw [List.length_take] at this; omega
section
variable {h0 : H} {x0 x1 x2 : Sl} {S S1 S2 : List (Step × List Int)} {L : List Ver} {Q : Bool → H → Prop}
/-- The end. -/
theorem apart_end {A M : List Ver} {a b c d : Nat} {Ba Bb Bc Bd : Option Nat} {h : H} (ca : Ch h a A Ba) (cb : Ch h b M Bb) (cc : Ch h c A Bc) (cd : Ch h d M Bd) (hA : Rise A) (hM : Rise M) (lA : A.length ≤ 4000) (lM : M.length ≤ 4000) (e0 : Ext h0 h) (k : ∀ h', Ext h0 h' → Q true h') :
    F.spatelaw5_alike (some ⟨a, 0, none⟩) (some ⟨c, 0, none⟩) h fun r39 h38 => (r39 = true → F.spatelaw5_alike (some ⟨b, 0, none⟩) (some ⟨d, 0, none⟩) h38 fun r42 h41 => Q r42 h41) ∧ (r39 = false → Q false h38) :=
  alike_spec ca cc hA (by omega) fun h1 e1 => ⟨fun _ => alike_spec (cb.ext e1) (cd.ext e1) hM (by omega) fun h2 e2 => k h2 ((e0.trans e1).trans e2), fun h => by cases h⟩
theorem apart_l9 {hb : H} {a b c d : Nat} {Ba Bb : Option Nat} (t2 : Script h0 x2 S2) (e0 : Ext h0 hb) (ca : Ch hb a (runM L (S1.take 2000)) Ba) (cb : Ch hb b (runM L (S2.take 2000)) Bb) (hr : Rise L) (hL : L.length ≤ 2000) (k : ∀ h', Ext h0 h' → Q true h') :
    ∀ (m i : Nat) (h : H) (C D : Option Nat), Pair hb h d c (runM L (S2.take i)) (runM L (S1.take 2000)) D C → i ≤ 2000 → i ≤ S2.length → 2000 - i < m → F.spatelaw5_ChainApart.l9 Q m x2 (some ⟨a, 0, none⟩) (some ⟨b, 0, none⟩) (some ⟨c, 0, none⟩) (some ⟨d, 0, none⟩) (i : Int) h
  | 0, i, h, C, D, _, _, _, hm => by omega
  | m + 1, i, h, C, D, t, hi, hiS, hm => by
    unfold F.spatelaw5_ChainApart.l9 F.spatelaw5_ChainApart.j11 F.spatelaw5_ChainApart.j10
    have hl := rd_len (f := fun p : Step × List Int => p.1.cells) scr_len (by omega) t2.1
    rw [hl]
    simp only [decide_eq_true_eq, decide_eq_false_iff_not]
    have hend : (i = 2000 ∨ S2.length ≤ i) → F.spatelaw5_alike (some ⟨a, 0, none⟩) (some ⟨c, 0, none⟩) h fun r39 h38 => (r39 = true → F.spatelaw5_alike (some ⟨b, 0, none⟩) (some ⟨d, 0, none⟩) h38 fun r42 h41 => Q r42 h41) ∧ (r39 = false → Q false h38) := fun hh => by
      have := take_end hh hi
      rw [← this] at t
      exact apart_end (ca.ext t.ext) (cb.ext t.ext) t.r t.l (rise_run _ hr) (rise_run _ hr) (run_len2 _ _ _ (by omega) hL) (run_len2 _ _ _ (by omega) hL) (e0.trans t.ext) k
    refine ⟨fun g => ⟨fun g2 => ?_, fun g2 => hend (by omega)⟩, fun g => ⟨(fun h => by cases h), fun _ => hend (by omega)⟩⟩
    obtain ⟨x, hx⟩ : ∃ x, S2[i]? = some x := ⟨_, List.getElem?_eq_getElem (by omega)⟩
    have te := t2.ext (e0.trans t.ext)
    refine scr_get te hx rfl fun a ha => ⟨x.1, ha, ?_⟩
    obtain ⟨d1, d2, d3, _⟩ := te.2.2 x (List.mem_of_getElem? hx)
    refine t.do_ (rise_run _ hr) (by have := run_len2 L S2 i hi hL; omega) d1 d2 d3 fun h' B' q1 => ?_
    rw [wrap_succ (by omega)]
    rw [← run_step hx] at q1
    exact apart_l9 t2 e0 ca cb hr hL k m (i + 1) h' C B' q1 (by omega) (by omega) (by omega)
theorem apart_l6 {hb : H} {a b c d : Nat} {Ba Bb : Option Nat} (t1 : Script h0 x1 S1) (t2 : Script h0 x2 S2) (e0 : Ext h0 hb) (ca : Ch hb a (runM L (S1.take 2000)) Ba) (cb : Ch hb b (runM L (S2.take 2000)) Bb) (hr : Rise L) (hL : L.length ≤ 2000) (k : ∀ h', Ext h0 h' → Q true h') :
    ∀ (m i : Nat) (h : H) (C D : Option Nat), Pair hb h c d (runM L (S1.take i)) L C D → i ≤ 2000 → i ≤ S1.length → 2000 - i < m → F.spatelaw5_ChainApart.l6 Q m x1 x2 (some ⟨a, 0, none⟩) (some ⟨b, 0, none⟩) (some ⟨c, 0, none⟩) (some ⟨d, 0, none⟩) (i : Int) h
  | 0, i, h, C, D, _, _, _, hm => by omega
  | m + 1, i, h, C, D, t, hi, hiS, hm => by
    unfold F.spatelaw5_ChainApart.l6 F.spatelaw5_ChainApart.j8 F.spatelaw5_ChainApart.j7
    have hl := rd_len (f := fun p : Step × List Int => p.1.cells) scr_len (by omega) t1.1
    rw [hl]
    simp only [decide_eq_true_eq, decide_eq_false_iff_not]
    have hend : (i = 2000 ∨ S1.length ≤ i) → ∃ m, F.spatelaw5_ChainApart.l9 Q m x2 (some ⟨a, 0, none⟩) (some ⟨b, 0, none⟩) (some ⟨c, 0, none⟩) (some ⟨d, 0, none⟩) 0 h := fun hh => by
      have := take_end hh hi
      rw [← this] at t
      exact ⟨2001, apart_l9 t2 e0 ca cb hr hL k 2001 0 h C D (by simpa [runM] using t.swap) (by omega) (by omega) (by omega)⟩
    refine ⟨fun g => ⟨fun g2 => ?_, fun g2 => hend (by omega)⟩, fun g => ⟨(fun h => by cases h), fun _ => hend (by omega)⟩⟩
    obtain ⟨x, hx⟩ : ∃ x, S1[i]? = some x := ⟨_, List.getElem?_eq_getElem (by omega)⟩
    have te := t1.ext (e0.trans t.ext)
    refine scr_get te hx rfl fun a ha => ⟨x.1, ha, ?_⟩
    obtain ⟨d1, d2, d3, _⟩ := te.2.2 x (List.mem_of_getElem? hx)
    refine t.do_ (rise_run _ hr) (by have := run_len2 L S1 i hi hL; omega) d1 d2 d3 fun h' B' q1 => ?_
    rw [wrap_succ (by omega)]
    rw [← run_step hx] at q1
    exact apart_l6 t1 t2 e0 ca cb hr hL k m (i + 1) h' B' D q1 (by omega) (by omega) (by omega)
theorem apart_l1 {a b : Nat} (t0 : Script h0 x0 S) (t1 : Script h0 x1 S1) (t2 : Script h0 x2 S2) (hLS : L = runM [] (S.take 2000)) (hr : Rise L) (hL : L.length ≤ 2000) (k : ∀ h', Ext h0 h' → Q true h') :
    ∀ (m i : Nat) (h : H) (A B : Option Nat), Pair h0 h a b (runM L (S1.take i)) (runM L (S2.take i)) A B → i ≤ 2000 → 2000 - i < m → F.spatelaw5_ChainApart.l1 Q m x0 x1 x2 (some ⟨a, 0, none⟩) (some ⟨b, 0, none⟩) (i : Int) h
  | 0, i, h, A, B, _, _, hm => by omega
  | m + 1, i, h, A, B, t, hi, hm => by
    unfold F.spatelaw5_ChainApart.l1 F.spatelaw5_ChainApart.j5 F.spatelaw5_ChainApart.j2
    have hl1 := rd_len (f := fun p : Step × List Int => p.1.cells) scr_len (by omega) t1.1
    have hl2 := rd_len (f := fun p : Step × List Int => p.1.cells) scr_len (by omega) t2.1
    rw [hl1, hl2]
    simp only [decide_eq_true_eq, decide_eq_false_iff_not]
    -- the loop's end
    have hend : (i = 2000 ∨ S1.length ≤ i) → (i = 2000 ∨ S2.length ≤ i) → F.spatelaw5_open x0 h fun r23 h22 => F.spatelaw5_open x0 h22 fun r25 h24 => ∃ m, F.spatelaw5_ChainApart.l6 Q m x1 x2 (some ⟨a, 0, none⟩) (some ⟨b, 0, none⟩) r23 r25 0 h24 := fun hh1 hh2 => by
      have g1 := take_end hh1 hi
      have g2 := take_end hh2 hi
      rw [← g1, ← g2] at t
      refine open_facts (t0.ext t.ext) fun c h22 Bc L2 hL2 hc cc ec hBc hr2 hep2 hln2 => ?_
      refine open_facts ((t0.ext t.ext).ext ec) fun d h24 Bd L3 hL3 hd cd ed hBd hr3 hep3 hln3 => ?_
      rw [← hLS] at hL2 hL3
      subst hL2; subst hL3
      have hs := ec.size
      have hcl := cc.lt
      have hcb := cc.ltB
      refine ⟨2001, apart_l6 (c := c) (d := d) t1 t2 t.ext t.l t.r hr hL k 2001 0 h24 Bc Bd ⟨by simpa [runM] using cc.ext ed, cd, by omega, fun e => by have := hcb d e; omega, fun e => by have := hBd c e; omega, fun b hb e => by have := hcb b hb; have := hBd b e; omega, ec.trans ed, by omega, by omega, hBc, fun b hb => by have := hBd b hb; omega⟩ (by omega) (by omega) (by omega)⟩
    -- one step of b
    have hb4 : ∀ (h' : H) (A' : Option Nat), i < 2000 → Pair h0 h' a b (runM L (S1.take (i + 1))) (runM L (S2.take i)) A' B → F.spatelaw5_ChainApart.j4 Q (F.spatelaw5_ChainApart.l1 Q m) x0 x1 x2 (some ⟨a, 0, none⟩) (some ⟨b, 0, none⟩) (i : Int) h' := fun h' A' hi2 t' => by
      unfold F.spatelaw5_ChainApart.j4 F.spatelaw5_ChainApart.j3
      rw [hl2]
      simp only [decide_eq_true_eq, decide_eq_false_iff_not]
      refine ⟨fun g => ?_, fun g => ?_⟩
      · obtain ⟨x, hx⟩ : ∃ x, S2[i]? = some x := ⟨_, List.getElem?_eq_getElem (by omega)⟩
        have te := t2.ext t'.ext
        refine scr_get te hx rfl fun a ha => ⟨x.1, ha, ?_⟩
        obtain ⟨d1, d2, d3, _⟩ := te.2.2 x (List.mem_of_getElem? hx)
        refine t'.swap.do_ (rise_run _ hr) (by have := run_len2 L S2 i hi hL; omega) d1 d2 d3 fun h' B' q1 => ?_
        rw [wrap_succ (by omega)]
        rw [← run_step hx] at q1
        exact apart_l1 t0 t1 t2 hLS hr hL k m (i + 1) h' A' B' q1.swap (by omega) (by omega)
      · rw [wrap_succ (by omega)]
        rw [← run_stay (S := S2) (i := i) (by omega)] at t'
        exact apart_l1 t0 t1 t2 hLS hr hL k m (i + 1) h' A' B t' (by omega) (by omega)
    have hb2 : i < 2000 → ((i : Int) < (S1.length : Int) → idxA x1 (i : Int) 4 fun a16 => ld_S_spatelaw5_Step h a16 fun y18 => F.spatelaw5_do (some ⟨a, 0, none⟩) y18 h fun h20 => F.spatelaw5_ChainApart.j4 Q (F.spatelaw5_ChainApart.l1 Q m) x0 x1 x2 (some ⟨a, 0, none⟩) (some ⟨b, 0, none⟩) (i : Int) h20) ∧ (¬ (i : Int) < (S1.length : Int) → F.spatelaw5_ChainApart.j4 Q (F.spatelaw5_ChainApart.l1 Q m) x0 x1 x2 (some ⟨a, 0, none⟩) (some ⟨b, 0, none⟩) (i : Int) h) := fun hi2 => by
      refine ⟨fun g => ?_, fun g => ?_⟩
      · obtain ⟨x, hx⟩ : ∃ x, S1[i]? = some x := ⟨_, List.getElem?_eq_getElem (by omega)⟩
        have te := t1.ext t.ext
        refine scr_get te hx rfl fun a ha => ⟨x.1, ha, ?_⟩
        obtain ⟨d1, d2, d3, _⟩ := te.2.2 x (List.mem_of_getElem? hx)
        refine t.do_ (rise_run _ hr) (by have := run_len2 L S1 i hi hL; omega) d1 d2 d3 fun h' B' q1 => ?_
        rw [← run_step hx] at q1
        exact hb4 h' B' hi2 q1
      · rw [← run_stay (S := S1) (i := i) (by omega)] at t
        exact hb4 h A hi2 t
    refine ⟨fun g => ⟨fun g2 => hb2 (by omega), fun g2 => hend (by omega) (by omega)⟩, fun g => ⟨fun g2 => ⟨fun g3 => hb2 (by omega), fun g3 => hend (by omega) (by omega)⟩, fun g2 => ⟨(fun h => by cases h), fun _ => hend (by omega) (by omega)⟩⟩⟩
end
theorem ChainApart_spec {h : H} {x0 x1 x2 : Sl} {S S1 S2 : List (Step × List Int)} {Q : Bool → H → Prop} (t0 : Script h x0 S) (t1 : Script h x1 S1) (t2 : Script h x2 S2) (k : ∀ h', Ext h h' → Q true h') : F.spatelaw5_ChainApart x0 x1 x2 h Q := by
  unfold F.spatelaw5_ChainApart
  refine known_spec fun h1 e1 => ⟨(fun h => by cases h), fun _ => ?_⟩
  refine open_facts (t0.ext e1) fun p h4 B L hL hp c4 e4 hB hr hep hln => ?_
  refine Twin_spec c4 (by omega) fun q h6 B6 hq c6 e6 hB6 => ⟨(fun h => by cases h), fun _ => ?_⟩
  have hs1 := e1.size
  have hs4 := e4.size
  have hpl := c4.lt
  have hBl := c4.ltB
  refine ⟨2001, apart_l1 (L := L) t0 t1 t2 hL hr hln k 2001 0 h6 B B6 ?_ (by omega) (by omega)⟩
  exact ⟨by simpa [runM] using c4.ext e6, by simpa [runM] using c6, by omega, fun e => by have := hBl q e; omega, fun e => by have := hB6 p e; omega, fun b hb e => by have := hBl b hb; have := hB6 b e; omega, (e1.trans e4).trans e6, by omega, by omega, fun b hb => by have := hB b hb; omega, fun b hb => by have := hB6 b hb; omega⟩
end Go.Proofs.Ytapomjhjpejimaa.V
