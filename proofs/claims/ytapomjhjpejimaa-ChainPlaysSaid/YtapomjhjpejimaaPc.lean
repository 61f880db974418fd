/- Three chains side by side in the law ChainPlays: their sequences; a step; the law answers true; no condition. -/
import Derived.Test.YtapomjhjpejimaaPb
import Derived.Test.YtapomjhjpejimaaCt
import Derived.Test.YtapomjhjpejimaaCu
namespace Go.Proofs.Ytapomjhjpejimaa.V
open Go
set_option linter.unusedVariables false
set_option linter.unusedSimpArgs false

section
variable {h0 hs h : H} {w pa pb pr : Nat} {Ba Bb Br : Option Nat} {L : List Ver} {Q : Bool → H → Prop}
theorem all_check {a2 c i : Nat} {x : Ver} (t : PW h0 hs w pa pb pr Ba Bb Br L L L) (b2 : Blk hs a2 #[.pointer (some ⟨w, 0, none⟩)] 56) (e : Ext hs h) (bc : Blk h c #[.int .i64 (i : Int)] 3) (hx : L[i]? = some x) (G : Bool → H → Prop) (kk : G false h) :
    ldI .i64 h ⟨c, 0, none⟩ fun y31 => ldP h ⟨a2, 0, none⟩ fun y33 => nn y33 fun a35 => ldP h (a35.add 2) fun y37 => nn y37 fun a39 => ldL h (a39.add 0) fun y41 =>
      ((decide (y31 ≥ (y41.len : Int))) = true → G true h) ∧ ((decide (y31 ≥ (y41.len : Int))) = false →
      ldP h ⟨a2, 0, none⟩ fun y44 => nn y44 fun a46 => ldP h (a46.add 2) fun y48 => nn y48 fun a50 => ldL h (a50.add 0) fun y52 => ldI .i64 h ⟨c, 0, none⟩ fun y54 => idxA y52 y54 3 fun a56 => ldI .i64 h (a56.add 0) fun y58 =>
        (((y58 != x.epoch)) = true → G true h) ∧ (((y58 != x.epoch)) = false →
        ldP h ⟨a2, 0, none⟩ fun y61 => nn y61 fun a63 => ldP h (a63.add 2) fun y65 => nn y65 fun a67 => ldL h (a67.add 0) fun y69 => ldI .i64 h ⟨c, 0, none⟩ fun y71 => idxA y69 y71 3 fun a73 => ldB h (a73.add 2) fun y75 => G (!(y75 == (!x.dead))) h)) := by
  have t' := t.ext' e
  have b2' : Blk h a2 #[.pointer (some ⟨w, 0, none⟩)] 56 := e.block b2 (fun f => f)
  have c2 : cellH h ⟨a2, 0, none⟩ = some (.pointer (some ⟨w, 0, none⟩)) := b2'.cell rfl
  obtain ⟨s, sb, so, sB, sne⟩ := id t'.r
  have sl := CR.len so
  have sc : cellH h ⟨pr, 0, none⟩ = some s.enc := sb.cell rfl
  have cc : cellH h ⟨c, 0, none⟩ = some (.int .i64 (i : Int)) := bc.cell rfl
  have hlt := (List.getElem?_eq_some_iff.1 hx).1
  have pre : ∀ K : Sl → Prop, K s → ldP h ⟨a2, 0, none⟩ fun y44 => nn y44 fun a46 => ldP h (a46.add 2) fun y48 => nn y48 fun a50 => ldL h (a50.add 0) fun y52 => K y52 := fun K k => by
    rw [ldP_iff c2]
    simp only [nn_some, add_lit, Nat.zero_add, Nat.add_zero]
    rw [ldP_iff t'.cr]
    simp only [nn_some, add_lit, Nat.zero_add, Nat.add_zero]
    rw [ldL_iff sc]; exact k
  obtain ⟨b, a1, x2, x3, x4, x5⟩ := CR.at so hx
  rw [ldI_iff cc]
  refine pre _ ⟨fun g => by rw [decide_eq_true_eq] at g; omega, fun _ => pre _ ?_⟩
  rw [ldI_iff cc]
  refine idxA_of (i := i) a1 (by omega) rfl ?_
  rw [add_lit, Nat.add_zero, ldI_iff x2, bne_self_eq_false]
  refine ⟨(fun h => by cases h), fun _ => pre _ ?_⟩
  rw [ldI_iff cc]
  refine idxA_of (i := i) a1 (by omega) rfl ?_
  rw [add_lit, ldB_iff x4]
  simpa using kk
theorem all_len {a2 : Nat} (t : PW h0 hs w pa pb pr Ba Bb Br L L L) (b2 : Blk hs a2 #[.pointer (some ⟨w, 0, none⟩)] 56) (e : Ext hs h) (K : Sl → Prop) (k : ∀ s : Sl, s.len = L.length → K s) :
    ldP h ⟨a2, 0, none⟩ fun y44 => nn y44 fun a46 => ldP h (a46.add 2) fun y48 => nn y48 fun a50 => ldL h (a50.add 0) fun y52 => K y52 := by
  have t' := t.ext' e
  have b2' : Blk h a2 #[.pointer (some ⟨w, 0, none⟩)] 56 := e.block b2 (fun f => f)
  have c2 : cellH h ⟨a2, 0, none⟩ = some (.pointer (some ⟨w, 0, none⟩)) := b2'.cell rfl
  obtain ⟨s, sb, so, sB, sne⟩ := id t'.r
  have sl := CR.len so
  have sc : cellH h ⟨pr, 0, none⟩ = some s.enc := sb.cell rfl
  rw [ldP_iff c2]
  simp only [nn_some, add_lit, Nat.zero_add, Nat.add_zero]
  rw [ldP_iff t'.cr]
  simp only [nn_some, add_lit, Nat.zero_add, Nat.add_zero]
  rw [ldL_iff sc]; exact k s sl
theorem all_turns {a2 a4 aA aB : Nat} {rA rB : Sl} (t : PW h0 hs w pa pb pr Ba Bb Br L L L) (hL : L.length < 10000000) (b2 : Blk hs a2 #[.pointer (some ⟨w, 0, none⟩)] 56) (b4 : Blk hs a4 #[.bool false] 4) (h4 : h0.size ≤ a4)
    (bA : Blk hs aA #[rA.enc] 72) (oA : Owns hs rA 76 3 (L.flatMap (·.cells))) (bB : Blk hs aB #[rB.enc] 84) (oB : Owns hs rB 103 4 (L.flatMap wc)) (k : ∀ h', PW h0 h' w pa pb pr Ba Bb Br L L L → Q true h') :
    ∀ (m n : Nat) (ds : List Nat) (h : H), Ext hs h → (∀ d ∈ ds, h[d]? = some (.deferred (some [])) ∧ hs.size ≤ d) → ds.Nodup → n ≤ 2 → 2 - n < m →
      F.spatelaw5_World_all.l2 Q m ds ⟨a2, 0, none⟩ ⟨a4, 0, none⟩ (.func (.func 43) #[] #[.pointer (some ⟨aA, 0, none⟩)]) (.func (.func 69) #[] #[.pointer (some ⟨aB, 0, none⟩)]) (n : Int) h
  | 0, n, ds, h, _, _, _, _, hm => by omega
  | m + 1, n, ds, h, e0, hd, hnd, hn, hm => by
    unfold F.spatelaw5_World_all.l2
    have l4 := block_lt b4
    have lA := block_lt bA
    have lB := block_lt bB
    have l2 := block_lt b2
    refine ⟨fun g => ?_, fun g => ?_⟩
    · rw [decide_eq_true_eq] at g
      refine new_of fun c h22 p1 bc e1 z1 => ?_
      refine stH_of bc (by simp) fun h24 f1 f2 f3 => ?_
      rw [writeA_all (by simp)] at f1
      have x24 : Ext h h24 := e1.step f2 fun i hi e => by omega
      have hclt := block_lt f1
      have hs0 := e0.size
      have hs24 := x24.size
      refine range_all (fun i h' => Ext h h' ∧ Blk h' c #[.int .i64 (i : Int)] 3 ∧ h'[h24.size]? = some (.deferred (some []))) (fun _ _ => False) (by omega) (fun i h' h'' t o => ⟨t.1.step o fun n hn e => by omega, o.block t.2.1 (by omega), o.block t.2.2 (by omega)⟩) (fun _ _ _ f _ => f) (fun i h' t => ⟨(e0.trans t.1).block bA (fun f => f), oA.ext (e0.trans t.1)⟩)
        ⟨x24.trans (.push _ _), Only.block (.push (S := fun _ => False) _ _) f1 (fun f => f), by simp⟩ ?_ ?_ (fun _ _ f => f.elim)
      · intro X i x h5 K J t5 hX hx kK kJ
        obtain ⟨u1, u2, u3⟩ := t5
        have hlt := (List.getElem?_eq_some_iff.1 hx).1
        refine all_check t b2 (e0.trans u1) u2 hx (F.spatelaw5_World_all.j5 Q K J (h24.size + 1) ⟨a4, 0, none⟩ ⟨c, 0, none⟩) ?_
        unfold F.spatelaw5_World_all.j5 F.spatelaw5_World_all.j4
        refine ⟨(fun h => by cases h), fun _ => ?_⟩
        rw [ldI_iff (u2.cell (i := 0) rfl), wrap_succ (by omega)]
        refine stH_of u2 (by simp) fun h6 v1 v2 v3 => ?_
        rw [writeA_all (by simp)] at v1
        exact kK h6 ⟨u1.step v2 fun n hn e => by omega, v1, v2.block u3 (by omega)⟩ (v2.block hX (by omega))
      · intro h77 t77
        obtain ⟨u1, u2, u3⟩ := t77
        refine new_of fun c2 h78 p2 bc2 e2 z2 => ?_
        refine stH_of bc2 (by simp) fun h80 g1 g2 g3 => ?_
        rw [writeA_all (by simp)] at g1
        have x80 : Ext h77 h80 := e2.step g2 fun i hi e => by omega
        have hc2 := block_lt g1
        have hs77 := u1.size
        have hs80 := x80.size
        have l3 := block_lt u3
        refine rangeW_all (fun i h' => Ext h77 h' ∧ Blk h' c2 #[.int .i64 (i : Int)] 3 ∧ h'[h80.size]? = some (.deferred (some []))) (fun _ _ => False) (by omega) (fun i h' h'' t o => ⟨t.1.step o fun n hn e => by omega, o.block t.2.1 (by omega), o.block t.2.2 (by omega)⟩) (fun _ _ _ f _ => f) (fun i h' t => ⟨((e0.trans u1).trans t.1).block bB (fun f => f), oB.ext ((e0.trans u1).trans t.1)⟩)
          ⟨x80.trans (.push _ _), Only.block (.push (S := fun _ => False) _ _) g1 (fun f => f), by simp⟩ ?_ ?_ (fun _ _ f => f.elim)
        · intro X i x h5 K J t5 hX hx kK kJ
          obtain ⟨y1, y2, y3⟩ := t5
          have hlt := (List.getElem?_eq_some_iff.1 hx).1
          refine all_check t b2 ((e0.trans u1).trans y1) y2 hx (F.spatelaw5_World_all.j7 Q K J (h80.size + 1) ⟨a4, 0, none⟩ ⟨c2, 0, none⟩) ?_
          unfold F.spatelaw5_World_all.j7 F.spatelaw5_World_all.j6
          refine ⟨(fun h => by cases h), fun _ => ?_⟩
          rw [ldI_iff (y2.cell (i := 0) rfl), wrap_succ (by omega)]
          refine stH_of y2 (by simp) fun h6 v1 v2 v3 => ?_
          rw [writeA_all (by simp)] at v1
          exact kK h6 ⟨y1.step v2 fun n hn e => by omega, v1, v2.block y3 (by omega)⟩ (v2.block hX (by omega))
        · intro h133 t133
          obtain ⟨y1, y2, y3⟩ := t133
          have bc1 : Blk h133 c #[.int .i64 (L.length : Int)] 3 := y1.block u2 (fun f => f)
          have eAll := (e0.trans u1).trans y1
          rw [ldI_iff (bc1.cell (i := 0) rfl)]
          refine all_len t b2 eAll _ fun s1 hs1 => ?_
          rw [hs1, bne_self_eq_false]
          refine ⟨(fun h => by cases h), fun _ => ?_⟩
          rw [ldI_iff (y2.cell (i := 0) rfl)]
          refine all_len t b2 eAll _ fun s2 hs2 => ?_
          rw [hs2, bne_self_eq_false]
          unfold F.spatelaw5_World_all.j8 F.spatelaw5_World_all.j3
          refine ⟨(fun h => by cases h), fun _ => ?_⟩
          rw [wrap_succ (by omega)]
          have hdl : ∀ d ∈ ds, d < h.size := fun d hd' => block_lt (hd d hd').1
          refine all_turns t hL b2 b4 h4 bA oA bB oB k m (n + 1) _ h133 eAll (fun d hd' => ?_) ?_ (by omega) (by omega)
          · rcases List.mem_cons.1 hd' with e | hd'
            · subst e; exact ⟨y3, by omega⟩
            · rcases List.mem_cons.1 hd' with e | hd'
              · subst e; exact ⟨y1.block u3 (fun f => f), by omega⟩
              · exact ⟨(u1.trans y1).block (hd d hd').1 (fun f => f), (hd d hd').2⟩
          · refine List.nodup_cons.2 ⟨fun hm => ?_, List.nodup_cons.2 ⟨fun hm => ?_, hnd⟩⟩
            · rcases List.mem_cons.1 hm with e | hm
              · omega
              · have := hdl _ hm; omega
            · have := hdl _ hm; omega
    · have b4' : Blk h a4 #[.bool false] 4 := e0.block b4 (fun f => f)
      refine stH_of b4' (by simp) fun h6 v1 v2 v3 => ?_
      rw [writeA_all (by simp)] at v1
      refine shuts_of ds h6 hnd (fun d hd' => v2.block (hd d hd').1 (by have := (hd d hd').2; omega)) fun h7 o => ?_
      have b7 : Blk h7 a4 #[.bool true] 4 := o.block v1 fun hm => by have := (hd _ hm).2; omega
      rw [ldB_iff (b7.cell (i := 0) rfl)]
      have oo : Only (· = a4) hs h7 := ((e0.only (S := (· = a4))).trans v2 fun _ _ e => e).trans o fun n hn hm => by have := (hd _ hm).2; omega
      exact k h7 (t.only oo fun n e => by subst e; exact ⟨h4, 4, ⟨_, b4⟩, by simp⟩)
theorem all_spec (t : PW h0 h w pa pb pr Ba Bb Br L L L) (hL : L.length < 10000000) (k : ∀ h', PW h0 h' w pa pb pr Ba Bb Br L L L → Q true h') : F.spatelaw5_World_all (some ⟨w, 0, none⟩) h Q := by
  unfold F.spatelaw5_World_all
  refine new_of fun a2 h1 p1 b2 e1 z1 => new_of fun a4 h3 p2 b4 e2 z2 => ?_
  have t3 := (t.ext' e1).ext' e2
  have b23 : Blk h3 a2 #[.pointer (some ⟨w, 0, none⟩)] 56 := e2.block b2 (fun f => f)
  rw [ldP_iff (b23.cell (i := 0) rfl)]
  simp only [nn_some, add_lit, Nat.zero_add]
  rw [ldP_iff t3.ca]
  refine All_spec t3.a (by omega) fun aA rA h11 bA oA pA qA eA => ?_
  have t11 := t3.ext' eA
  have b211 : Blk h11 a2 #[.pointer (some ⟨w, 0, none⟩)] 56 := eA.block b23 (fun f => f)
  rw [ldP_iff (b211.cell (i := 0) rfl)]
  simp only [nn_some, add_lit, Nat.zero_add]
  rw [ldP_iff t11.cb]
  refine AllW_spec t11.b (by omega) fun aB rB h19 bB oB pB qB eB => ?_
  have t19 := t11.ext' eB
  refine ⟨.inr (.inl ⟨_, _, _, rfl⟩), (fun h => by cases h), fun _ => ⟨.inr (.inl ⟨_, _, _, rfl⟩), ?_⟩⟩
  unfold F.spatelaw5_World_all.j9 F.spatelaw5_World_all.j1
  refine ⟨(fun h => by cases h), fun _ => ⟨3, ?_⟩⟩
  have hsz := t.ext.size
  have hs1 := e1.size
  exact all_turns t19 hL ((eA.trans eB).block b23 (fun f => f)) ((eA.trans eB).block b4 (fun f => f)) (by omega) (eB.block bA (fun f => f)) (oA.ext eB) bB oB k 3 0 [] h19 (.refl _) (fun d hd => by cases hd) List.nodup_nil (by omega) (by omega)
/-- What a step does to the list (a Twin leaves it as it is). -/
theorem wstep_spec {x : Step} {E : List Int} (t : PW h0 h w pa pb pr Ba Bb Br L L L) (hr : Rise L) (hL : L.length < 10000) (rd : Reads h x.L 1 (E.flatMap cI)) (hcap : x.L.len ≤ x.L.cap) (hEb : E ≠ [] → ∀ b, x.L.blk = some b → b < h0.size)
    (k : ∀ h' pa' pb' Ba' Bb' Br' L', (L' = doM L x E) → PW h0 h' w pa' pb' pr Ba' Bb' Br' L' L' L' → Q true h') : F.spatelaw5_World_step (some ⟨w, 0, none⟩) x h Q := by
  unfold F.spatelaw5_World_step
  refine new_of fun n h1 e1 e2 e3 e4 => ?_
  have t1 := t.ext' e3
  have bl : Blk h1 n x.cells.toArray 50 := e2
  have hs := t.ext.size
  have stay : ∀ L', L' = L → ∀ h', PW h0 h' w pa pb pr Ba Bb Br L' L' L' → (doM L x E = L) → Q true h' := fun L' e h' t' hd => by subst e; exact k h' _ _ _ _ _ _ hd.symm t'
  simp only [add_lit, Nat.zero_add, Nat.add_zero, ldI_iff (bl.cell (i := 0) (v := .int .i64 x.Kind) rfl), ldI_iff (bl.cell (i := 1) (v := .int .i64 x.A) rfl), ldI_iff (bl.cell (i := 2) (v := .int .i64 x.B) rfl), ldL_iff (bl.cell (i := 3) (v := x.L.enc) rfl), beq_iff_eq, beq_eq_false_iff_ne]
  refine ⟨fun g => ?_, fun g => ⟨fun g2 => ?_, fun g2 => ⟨fun g3 => ?_, fun g3 => ⟨fun g4 => ?_, fun g4 => ⟨fun g5 => ?_, fun g5 => ⟨fun g6 => ?_, fun g6 => ⟨fun g7 => ?_, fun g7 => ⟨fun g8 => ?_, fun g8 => ?_⟩⟩⟩⟩⟩⟩⟩⟩
  · exact wput_spec t1 (by omega) fun h' A B R t' => k h' _ _ A B R _ (by unfold doM; rw [if_pos g]) t'
  · exact wkill_spec t1 (by omega) fun h' A B R t' => k h' _ _ A B R _ (by unfold doM; rw [if_neg g, if_pos g2]) t'
  · exact wnear_spec t1 (by omega) fun h2 t2 x2 => ⟨x2.cell (bl.cell (i := 2) (v := .int .i64 x.B) rfl) (fun f => f), wput_spec t2 (by omega) fun h' A B R t' => k h' _ _ A B R _ (by unfold doM; rw [if_neg g, if_neg g2, if_pos g3]) t'⟩
  · exact wnear_spec t1 (by omega) fun h2 t2 x2 => wkill_spec t2 (by omega) fun h' A B R t' => k h' _ _ A B R _ (by unfold doM; rw [if_neg g, if_neg g2, if_neg g3, if_pos g4]) t'
  · exact asks_spec t1 hr (by omega) fun h' t' => stay L rfl h' t' (by unfold doM; rw [if_neg g, if_neg g2, if_neg g3, if_neg g4, if_neg (by omega)])
  · have hdo : doM L x E = pruneM L (E.take 200) := by unfold doM; rw [if_neg g, if_neg g2, if_neg g3, if_neg g4, if_pos g6]
    refine held_spec (rd.ext e3) hcap fun r r1 r2 r3 => ?_
    have hEl : (E.take 200).length ≤ 200 := by rw [List.length_take]; omega
    have hrb : E.take 200 ≠ [] → ∀ b, r.blk = some b → b < h0.size := fun hn b hb => hEb (fun e => hn (by rw [e]; rfl)) b (by rw [← r3]; exact hb)
    generalize hE' : E.take 200 = E' at *
    refine lent_spec r1 (by omega) fun b h2 hb o2 x2 => ?_
    have t2 := t1.ext' x2
    have hs2 := t2.ext.size
    have hs1 := t1.ext.size
    simp only [nn_some, add_lit, Nat.zero_add, Nat.add_zero]
    rw [ldP_iff t2.ca]
    have hpt := t2.a.typ
    have hb2 : b < h2.size := o2.blk_lt (b := b) rfl
    have hwb : WB h2 b 3 := o2.typ rfl
    have hbp : b ≠ pa := hwb.ne hpt.1 (by simp)
    refine Prune_spec t2.a hr (by omega) (by omega) (lent_reads o2) (fun hn c hc => by rw [slcut_blk] at hc; simp [Sl.blk] at hc; omega) fun h3 A3 q1 q2 q3 => ?_
    have t3 := t2.turnA q1 (q2.mono fun _ _ e => .inl e) q3
    have o3 : Owns h3 ⟨some ⟨b, 0, none⟩, E'.length + 5, E'.length + 5⟩ 3 1 ((E' ++ marksL E'.length).flatMap cI) := o2.only q2 fun c hc e => by simp [Sl.blk] at hc; omega
    have hpa := t2.ha
    have r13 : Reads h3 r 1 (E'.flatMap cI) := (r1.ext x2).keep q2 fun hn c hc e => by have := hrb hn c hc; omega
    refine kept_spec (by omega) r13 (fun hn e => by have := hrb hn b e; omega) o3 fun h4 o4 => ?_
    have t4 := t3.only o4 fun m e => by subst e; exact ⟨by omega, 3, o3.typ rfl, by simp⟩
    rw [ldP_iff t4.cb]
    have r14 : Reads h4 r 1 (E'.flatMap cI) := r13.keep o4 fun hn c hc e => by have := hrb hn c hc; omega
    refine lent_spec r14 (by omega) fun b5 h5 hb5 o5 x5 => ?_
    have t5 := t4.ext' x5
    refine ⟨t5.cb, ?_⟩
    have hb52 : b5 < h5.size := o5.blk_lt (b := b5) rfl
    refine PruneW_spec t5.b hr (by omega) (by omega) (lent_reads o5) (fun hn c hc => by rw [slcut_blk] at hc; simp [Sl.blk] at hc; omega) fun h6 B6 s1 s2 s3 => ?_
    have t6 := t5.turnB s1 (s2.mono fun _ _ e => .inl e) s3
    rw [ldP_iff t6.cr]
    have hpb := t5.hb
    have r16 : Reads h6 r 1 (E'.flatMap cI) := (r14.ext x5).keep s2 fun hn c hc e => by have := hrb hn c hc; omega
    have hs6 := t6.ext.size
    refine PruneR_spec t6.r hr (by omega) (by omega) r16 (fun hn c hc => by have := hrb hn c hc; omega) fun h7 R7 u1 u2 u3 => ?_
    have t7 := t6.turnR u1 (u2.mono fun _ _ e => .inl e) u3
    simp only [beq_self_eq_true, true_implies, Bool.true_eq_false, false_implies, and_true]
    exact ⟨k h7 _ _ _ _ _ _ (by rw [hdo]) t7, fun g => absurd rfl g⟩
  · exact all_spec t1 (by omega) fun h' t' => stay L rfl h' t' (by unfold doM; rw [if_neg g, if_neg g2, if_neg g3, if_neg g4, if_neg (by omega)])
  · have hdo : doM L x E = L := by unfold doM; rw [if_neg g, if_neg g2, if_neg g3, if_neg g4, if_neg (by omega)]
    simp only [nn_some, add_lit, Nat.zero_add, Nat.add_zero]
    rw [ldP_iff t1.ca]
    refine Twin_spec t1.a (by omega) fun q h2 A2 hq c2 x2 hA2 => ?_
    have t2 := t1.ext' x2
    have hs1 := t1.ext.size
    refine stH_of t2.bw (by simp) fun h3 f1 f2 f3 => ?_
    have wt : WB h2 w 66 := ⟨_, t2.bw⟩
    have nw : ∀ (m : Nat) (e : TypeId), WB h2 m e → e ≠ 66 → ¬ m = w := fun m e hm he e' => hm.ne wt he e'
    obtain ⟨b1, b2⟩ := t2.b.typ
    obtain ⟨d1, d2⟩ := t2.r.typ
    obtain ⟨a1, a2⟩ := c2.typ
    have t3 : PW h0 h3 w q pb pr A2 Bb Br L L L := ⟨t2.ext.step f2 fun n hn e => by have := t2.hw; omega, by rw [show (writeA #[Value.pointer (some ⟨pa, 0, none⟩), Value.pointer (some ⟨pb, 0, none⟩), Value.pointer (some ⟨pr, 0, none⟩)] 0 [Value.pointer (some ⟨q, 0, none⟩)]) = #[.pointer (some ⟨q, 0, none⟩), .pointer (some ⟨pb, 0, none⟩), .pointer (some ⟨pr, 0, none⟩)] from rfl] at f1; exact f1,
      c2.only f2 (nw _ _ a1 (by simp)) fun b hb => nw _ _ (a2 b hb) (by simp), t2.b.only f2 (nw _ _ b1 (by simp)) fun b hb => nw _ _ (b2 b hb) (by simp), t2.r.only f2 (nw _ _ d1 (by simp)) fun b hb => nw _ _ (d2 b hb) (by simp), t2.hw, by omega, t2.hb, t2.hr, fun b hb => by have := hA2 b hb; omega, t2.hBb, t2.hBr⟩
    rw [ldP_iff t3.cb]
    refine TwinW_spec t3.b (by omega) fun q5 h5 B5 hq5 c5 x5 hB5 => ?_
    have t5 := t3.ext' x5
    have hs3 := t3.ext.size
    refine stH_of t5.bw (by simp) fun h6 g1 g2' g3' => ?_
    have wt5 : WB h5 w 66 := ⟨_, t5.bw⟩
    have nw5 : ∀ (m : Nat) (e : TypeId), WB h5 m e → e ≠ 66 → ¬ m = w := fun m e hm he e' => hm.ne wt5 he e'
    obtain ⟨a1', a2'⟩ := t5.a.typ
    obtain ⟨d1', d2'⟩ := t5.r.typ
    obtain ⟨b1', b2'⟩ := c5.typ
    have t6 : PW h0 h6 w q q5 pr A2 B5 Br L L L := ⟨t5.ext.step g2' fun n hn e => by have := t5.hw; omega, by rw [show (writeA #[Value.pointer (some ⟨q, 0, none⟩), Value.pointer (some ⟨pb, 0, none⟩), Value.pointer (some ⟨pr, 0, none⟩)] 1 [Value.pointer (some ⟨q5, 0, none⟩)]) = #[.pointer (some ⟨q, 0, none⟩), .pointer (some ⟨q5, 0, none⟩), .pointer (some ⟨pr, 0, none⟩)] from rfl] at g1; exact g1,
      t5.a.only g2' (nw5 _ _ a1' (by simp)) fun b hb => nw5 _ _ (a2' b hb) (by simp), c5.only g2' (nw5 _ _ b1' (by simp)) fun b hb => nw5 _ _ (b2' b hb) (by simp), t5.r.only g2' (nw5 _ _ d1' (by simp)) fun b hb => nw5 _ _ (d2' b hb) (by simp), t5.hw, t5.ha, by omega, t5.hr, t5.hBa, fun b hb => by have := hB5 b hb; omega, t5.hBr⟩
    rw [ldP_iff t6.ca]
    refine ⟨fun _ => ?_, fun h => by cases h⟩
    rw [ldP_iff t6.cb]
    exact k h6 _ _ _ _ _ _ hdo.symm t6
  · exact stay L rfl h1 t1 (by unfold doM; rw [if_neg g, if_neg g2, if_neg g3, if_neg g4, if_neg g6])
end
theorem plays_loop {h0 : H} {x0 : Sl} {S : List (Step × List Int)} {w pr : Nat} {Q : Bool → H → Prop} (t0 : Script h0 x0 S) (k : ∀ h', Ext h0 h' → Q true h') :
    ∀ (m i : Nat) (h : H) (pa pb : Nat) (A B R : Option Nat) (L : List Ver), PW h0 h w pa pb pr A B R L L L → Rise L → L.length ≤ i → i ≤ 2000 → 2000 - i < m → F.spatelaw5_ChainPlays.l1 Q m x0 ⟨w, 0, none⟩ (i : Int) h
  | 0, i, h, pa, pb, A, B, R, L, _, _, _, _, hm => by omega
  | m + 1, i, h, pa, pb, A, B, R, L, t, hr, hL, hi, hm => by
    unfold F.spatelaw5_ChainPlays.l1
    have hl := rd_len (f := fun p : Step × List Int => p.1.cells) scr_len (by omega) t0.1
    rw [hl]
    have hend : ∀ C1, F.spatelaw5_ChainPlays.j3 Q C1 x0 ⟨w, 0, none⟩ (i : Int) false h := fun C1 => by
      unfold F.spatelaw5_ChainPlays.j3
      refine ⟨(fun h => by cases h), fun _ => all_spec t (by omega) fun h1 t1 => ⟨fun _ => asks_spec t1 hr (by omega) fun h2 t2 => k h2 t2.ext, fun h => by cases h⟩⟩
    simp only [decide_eq_true_eq, decide_eq_false_iff_not]
    refine ⟨fun g => ?_, fun g => hend _⟩
    by_cases hi2 : i < 2000
    · rw [show decide ((i : Int) < 2000) = true from by simp; omega]
      unfold F.spatelaw5_ChainPlays.j3 F.spatelaw5_ChainPlays.j2
      refine ⟨fun _ => ?_, fun h => by cases h⟩
      obtain ⟨x, hx⟩ : ∃ x, S[i]? = some x := ⟨_, List.getElem?_eq_getElem (by omega)⟩
      refine scr_get (t0.ext t.ext) hx rfl fun a ha => ⟨x.1, ha, ?_⟩
      obtain ⟨d1, d2, d3, _⟩ := t0.2.2 x (List.mem_of_getElem? hx)
      refine wstep_spec (E := x.2) t hr (by omega) (d1.ext t.ext) d2 d3 fun h' pa' pb' A' B' R' L' hL' t' => ⟨(fun h => by cases h), fun _ => ?_⟩
      rw [wrap_succ (by omega)]
      have hdl := do_len L x.1 x.2
      exact plays_loop t0 k m (i + 1) h' pa' pb' A' B' R' L' t' (by rw [hL']; exact rise_do hr _ _) (by rw [hL']; omega) (by omega) (by omega)
    · rw [show decide ((i : Int) < 2000) = false from by simp; omega]
      exact hend _
theorem ChainPlays_spec {h : H} {x0 : Sl} {S : List (Step × List Int)} {Q : Bool → H → Prop} (t0 : Script h x0 S) (k : ∀ h', Ext h h' → Q true h') : F.spatelaw5_ChainPlays x0 h Q := by
  unfold F.spatelaw5_ChainPlays
  refine known_spec fun h1 e1 => ⟨(fun h => by cases h), fun _ => ?_⟩
  refine New_spec fun pa h4 p4 c4 e4 => NewW_spec fun pb h6 p6 c6 e6 => ?_
  refine new_of fun pr h8 p8 b8 e8 z8 => new_of fun w h10 p10 b10 e10 z10 => ?_
  have s1 := e1.size; have s4 := e4.size; have s6 := e6.size; have s8 := e8.size
  refine ⟨2001, plays_loop (w := w) (pr := pr) t0 k 2001 0 h10 pa pb none none none [] ⟨(((e1.trans e4).trans e6).trans e8).trans e10, b10, ((c4.ext e6).ext e8).ext e10, (c6.ext e8).ext e10, ⟨⟨none, 0, 0⟩, e10.block b8 (fun f => f), Owns.nil _ _ _, rfl, by simp⟩, by omega, by omega, by omega, by omega, fun b hb => (by cases hb), fun b hb => (by cases hb), fun b hb => (by cases hb)⟩ List.Pairwise.nil (by simp) (by omega) (by omega)⟩
end Go.Proofs.Ytapomjhjpejimaa.V
