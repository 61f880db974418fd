/- The law ChainPrunes answers true; no condition. -/
import Derived.Test.YtapomjhjpejimaaCn
namespace Go.Proofs.Ytapomjhjpejimaa.V
open Go
set_option linter.unusedVariables false
set_option linter.unusedSimpArgs false

theorem EpOk.put {L : List Ver} (h : EpOk L) (e v : Int) : EpOk (putM L e v) := by
  unfold putM; split
  · rename_i hm; exact h.lay hm
  · exact h
theorem EpOk.kill {L : List Ver} (h : EpOk L) (e : Int) : EpOk (killM L e) := by
  unfold killM; split
  · rename_i hm; exact h.lay hm.1
  · exact h
theorem EpOk.do_ {L : List Ver} (h : EpOk L) (x : Step) (E : List Int) : EpOk (doM L x E) := by
  unfold doM
  repeat' split
  · exact h.put _ _
  · exact h.kill _
  · exact h.put _ _
  · exact h.kill _
  · exact h.sub (prune_sub _ _)
  · exact h
theorem EpOk.run : ∀ (S : List (Step × List Int)) {L : List Ver}, EpOk L → EpOk (runM L S)
  | [], L, h => h
  | p :: r, L, h => EpOk.run r (h.do_ p.1 p.2)
/-- A chain behind a script, and what is known of its list. -/
theorem open_facts {h : H} {s : Sl} {S : List (Step × List Int)} {Q : Option Addr → H → Prop} (t : Script h s S)
    (k : ∀ p h' B L, L = runM [] (S.take 2000) → h.size ≤ p → Ch h' p L B → Ext h h' → (∀ b, B = some b → h.size ≤ b) → Rise L → EpOk L → L.length ≤ 2000 → Q (some ⟨p, 0, none⟩) h') : F.spatelaw5_open s h Q :=
  open_spec t fun p h' B h1 c e hb => k p h' B _ rfl h1 c e hb (rise_run _ List.Pairwise.nil) (EpOk.run _ (fun x hx => by cases hx)) (by
    have := run_len (S.take 2000) []
    rw [List.length_take] at this; simp at this; omega)

theorem rise_epochs {L : List Ver} (hr : Rise L) {i j : Nat} {x y : Int} (hij : i < j) (hx : (L.map (fun x : Ver => x.epoch))[i]? = some x) (hy : (L.map (fun x : Ver => x.epoch))[j]? = some y) : x < y := by
  rw [List.getElem?_map] at hx hy
  obtain ⟨a, ha, rfl⟩ := Option.map_eq_some_iff.1 hx
  obtain ⟨b, hb, rfl⟩ := Option.map_eq_some_iff.1 hy
  exact hr.lt hij ha hb
section
variable {h0 : H} {p : Nat} {L R : List Ver} {B : Option Nat} {x1 x13 : Sl} {E : List Int} {nw : Int} {Q : Bool → H → Prop}
/-- The end: Prune again. -/
theorem prunes_end {h : H} (c : Ch h p R B) (e0 : Ext h0 h) (hp : h0.size ≤ p) (hr : Rise R) (hL : R.length ≤ 2000) (hag : pruneM R E = R) (rd : Reads h x1 1 (E.flatMap cI)) (hE : E.length ≤ 200) (hEb : E ≠ [] → ∀ b, x1.blk = some b → b < h.size) (k : ∀ h', Ext h0 h' → Q true h') :
    F.spatelaw5_ChainPrunes.j5 Q x1 (some ⟨p, 0, none⟩) h := by
  unfold F.spatelaw5_ChainPrunes.j5
  refine Prune_spec c hr (by omega) (by omega) rd hEb fun h1 B1 q1 q2 q3 => ?_
  rw [hag] at q1 ⊢
  have e1 : Ext h0 h1 := e0.step q2 fun n hn e => by omega
  refine ⟨fun _ => ?_, fun g => by rw [beq_eq_false_iff_ne] at g; omega⟩
  refine epochs_spec q1 (by omega) fun r h2 o2 e2 m2 => Len_spec (q1.ext e2) ?_
  have hl := own_len cI_len (by omega) o2
  rw [List.length_map] at hl
  rw [hl, show (((R.length : Nat) : Int) == (R.length : Int)) = true from by simp]
  exact k h2 (e1.trans e2)
theorem prunes_loop (hp : h0.size ≤ p) (hr : Rise R) (hL : R.length ≤ 2000) (hag : pruneM R E = R) (hlone : ∀ x, R = [x] → x.dead = false) (hnw : ∀ x ∈ R, x.epoch ≤ nw) (hE : E.length ≤ 200) (k : ∀ h', Ext h0 h' → Q true h') {h : H} (c : Ch h p R B) (e0 : Ext h0 h) (rd : Reads h x1 1 (E.flatMap cI)) (hEb : E ≠ [] → ∀ b, x1.blk = some b → b < h.size) (o : Reads h x13 1 ((R.map (fun x : Ver => x.epoch)).flatMap cI)) :
    ∀ (m i : Nat), i ≤ R.length → R.length - i < m → F.spatelaw5_ChainPrunes.l2 Q m x1 (some ⟨p, 0, none⟩) nw x13 (i : Int) h
  | 0, i, hi, hm => by omega
  | m + 1, i, hi, hm => by
    unfold F.spatelaw5_ChainPrunes.l2 F.spatelaw5_ChainPrunes.j4 F.spatelaw5_ChainPrunes.j3
    have hl := rd_len cI_len (by omega) o
    rw [List.length_map] at hl
    rw [hl]
    simp only [decide_eq_true_eq, decide_eq_false_iff_not]
    refine ⟨fun g => ?_, fun g => ?_⟩
    · obtain ⟨y, hy⟩ : ∃ y, R[i]? = some y := ⟨_, List.getElem?_eq_getElem (by omega)⟩
      have hy2 : (R.map (fun x : Ver => x.epoch))[i]? = some y.epoch := by rw [List.getElem?_map, hy]; rfl
      obtain ⟨q, a1, a2, a3⟩ := rd_at cI_len (by omega) o hy2
      refine idxR_of (i := i) a1 (by omega) rfl ?_
      rw [ldI_iff a3.one]
      have hyn := hnw y (List.mem_of_getElem? hy)
      have hgo : F.spatelaw5_ChainPrunes.l2 Q m x1 (some ⟨p, 0, none⟩) nw x13 (IntKind.wrap .i64 ((i : Int) + 1)) h := by
        rw [wrap_succ (by omega)]
        exact prunes_loop hp hr hL hag hlone hnw hE k c e0 rd hEb o m (i + 1) (by omega) (by omega)
      refine ⟨fun g2 => by omega, fun _ => ?_⟩
      rw [w64 (n := (R.length : Int) - 1) (by omega) (by omega)]
      refine ⟨fun g2 => ?_, fun g2 => ⟨(fun h => by cases h), fun _ => hgo⟩⟩
      refine idxR_of (i := i) a1 (by omega) rfl ?_
      rw [ldI_iff a3.one]
      obtain ⟨z, hz⟩ : ∃ z, R[i + 1]? = some z := ⟨_, List.getElem?_eq_getElem (by omega)⟩
      have hz2 : (R.map (fun x : Ver => x.epoch))[i + 1]? = some z.epoch := by rw [List.getElem?_map, hz]; rfl
      obtain ⟨q, b1, b2, b3⟩ := rd_at cI_len (by omega) o hz2
      refine idxR_of (i := i + 1) b1 (by omega) (by rw [wrap_succ (by omega)]) ?_
      rw [ldI_iff b3.one]
      have hlt := hr.lt (show i < i + 1 by omega) hy hz
      exact ⟨fun g3 => by omega, fun _ => hgo⟩
    · refine Newest_spec c (by omega) fun h1 e1 => ?_
      unfold F.spatelaw5_ChainPrunes.j6
      have hend := prunes_end (Q := Q) (c.ext e1) (e0.trans e1) hp hr hL hag (rd.ext e1) hE (fun hn b hb => Nat.lt_of_lt_of_le (hEb hn b hb) e1.size) k
      simp only [beq_iff_eq, beq_eq_false_iff_ne]
      refine ⟨fun g2 => ⟨fun g3 => ?_, fun _ => hend⟩, fun g2 => ⟨(fun h => by cases h), fun _ => hend⟩⟩
      exfalso
      obtain ⟨x, hx⟩ := List.length_eq_one_iff.1 (show R.length = 1 by omega)
      have := hlone x hx
      rw [hx] at g3
      simp [newestM, this] at g3
end
theorem ChainPrunes_spec {h : H} {s l : Sl} {S : List (Step × List Int)} {E : List Int} {Q : Bool → H → Prop} (t : Script h s S) (rd : Reads h l 1 (E.flatMap cI)) (hcap : l.len ≤ l.cap) (hEb : E ≠ [] → ∀ b, l.blk = some b → b < h.size) (k : ∀ h', Ext h h' → Q true h') : F.spatelaw5_ChainPrunes s l h Q := by
  unfold F.spatelaw5_ChainPrunes
  refine known_spec fun h1 e1 => ⟨(fun h => by cases h), fun _ => ?_⟩
  refine open_facts (t.ext e1) fun p h4 B L hL hp c4 e4 hB hr hep hln => ?_
  have x4 := e1.trans e4
  refine held_spec (rd.ext x4) hcap fun r r1 r2 r3 => ?_
  obtain ⟨E', hE'⟩ : ∃ E', E' = E.take 200 := ⟨_, rfl⟩
  rw [← hE'] at r1
  have hEl : E'.length ≤ 200 := by rw [hE', List.length_take]; omega
  have hrb : E' ≠ [] → ∀ b, r.blk = some b → b < h.size := fun hn b hb => hEb (fun e => hn (by rw [hE', e]; rfl)) b (by rw [← r3]; exact hb)
  have hs1 := e1.size
  refine Newest_spec c4 (by omega) fun h8 e8 => ?_
  obtain ⟨nw, hnw⟩ : ∃ nw, nw = (newestM L).2.1 := ⟨_, rfl⟩
  rw [← hnw]
  have hnb := hep.newest
  rw [← hnw] at hnb
  rw [w64 (n := nw + 1) (by omega) (by omega)]
  refine newL_of fun n h12 f1 f2 f3 f4 => ?_
  have x12 : Ext h h12 := (x4.trans e8).trans f3
  have hs8 := e8.size
  have hs4 := x4.size
  have hp4 := c4.lt
  refine app_mine (h0 := h8) (f := cI) (L := [nw, nw + 1, 1125899906842624]) (M := E') f3 (fun b hb => by simp [Sl.blk] at hb; omega) cI_len (by omega) elI (blk_owns (size := 1) (m := 3) (show Blk h12 n (([nw, nw + 1, 1125899906842624] : List Int).flatMap cI).toArray 3 from f2) rfl (by simp [maxLen])) (r1.ext (e8.trans f3)) (fun x => one1 rfl) (by simp; omega) fun s15 h14 q1 q2 q3 q4 q5 => ?_
  obtain ⟨A, hA⟩ : ∃ A : List Int, A = [nw, nw + 1, 1125899906842624] ++ E' := ⟨_, rfl⟩
  rw [← hA] at q1
  have hAl : A.length ≤ 203 := by rw [hA]; simp; omega
  have c14 : Ch h14 p L B := (c4.ext e8).ext q2
  refine at_spec c14 hr (by omega) q1.reads (by omega) fun r17 h16 o17 e16 m17 => ?_
  refine Len_spec (c14.ext e16) ?_
  have x14 : Ext h h14 := (x4.trans e8).trans q2
  have x16 := x14.trans e16
  have hs14 := x14.size
  have hs16 := e16.size
  have hs814 := q2.size
  have rd16 : Reads h16 r 1 (E'.flatMap cI) := r1.ext ((e8.trans q2).trans e16)
  refine Prune_spec (c14.ext e16) hr (by omega) (by omega) rd16 (fun hn b hb => by have := hrb hn b hb; omega) fun h20 B20 c20 o20 k20 => ?_
  obtain ⟨R, hR⟩ : ∃ R, R = pruneM L E' := ⟨_, rfl⟩
  rw [← hR] at c20 ⊢
  have hrR : Rise R := by rw [hR]; exact rise_prune hr E'
  have hRl : R.length ≤ L.length := by rw [hR]; exact prune_le L E'
  have x20 : Ext h h20 := x16.step o20 fun n hn e => by omega
  have o15 : Owns h20 s15 3 1 (A.flatMap cI) := (q1.ext e16).only o20 fun b hb e => by have := q3 b hb; omega
  have o17' : Owns h20 r17 3 1 ((atL L A).flatMap cI) := o17.only o20 fun b hb e => by have := m17 b hb; omega
  have rd20 : Reads h20 r 1 (E'.flatMap cI) := rd16.keep o20 fun hn b hb e => by have := hrb hn b hb; omega
  refine at_spec c20 hrR (by omega) o15.reads (by omega) fun r56 h55 o56 e55 m56 => ?_
  have heq : atL R A = atL L A := by
    unfold atL
    have : ∀ e ∈ A, atV R e = atV L e := fun e he => by
      unfold atV
      have : atM R e = atM L e := by
        rw [hR]
        rw [hA] at he
        rcases List.mem_append.1 he with he | he
        · refine prune_at_new hr E' ?_
          rw [← hnw]
          simp at he
          rcases he with rfl | rfl | rfl <;> omega
        · exact prune_at hr he
      rw [this]
    rw [List.flatMap_def, List.flatMap_def, List.map_congr_left this]
  rw [heq] at o56
  refine same_spec o56.reads (o17'.reads.ext e55) (by rw [atL_len]; omega) ?_
  rw [decide_eq_true rfl]
  refine ⟨(fun h => by cases h), fun _ => ?_⟩
  have c55 := c20.ext e55
  refine Len_spec c55 ?_
  rw [w64 (by omega) (by omega), show ((L.length : Int) - ((L.length : Int) - (R.length : Int))) = (R.length : Int) from by omega, bne_self_eq_false]
  refine ⟨(fun h => by cases h), fun _ => ?_⟩
  simp only [decide_eq_true_eq, decide_eq_false_iff_not]
  refine ⟨fun g => by omega, fun _ => ?_⟩
  refine Len_spec c55 ?_
  have rd55 := rd20.ext e55
  have hs20 := o20.size
  have hs55 := e55.size
  refine unlike_spec rd55 r2 (by omega) ?_
  have hfew := prune_fewU L E'
  rw [← hR] at hfew
  have hul : cntU [] E' ≤ E'.length := by
    have : ∀ (E S : List Int), cntU S E ≤ E.length := fun E => by
      induction E with
      | nil => intro S; simp [cntU]
      | cons e r ih => intro S; have := ih (S ++ [e]); simp only [cntU, List.length_cons]; split <;> omega
    exact this E' []
  rw [w64 (by omega) (by omega)]
  unfold F.spatelaw5_ChainPrunes.j7 F.spatelaw5_ChainPrunes.j1
  simp only [decide_eq_true_eq, decide_eq_false_iff_not]
  refine ⟨fun g => by omega, fun _ => ?_⟩
  refine epochs_spec c55 (by omega) fun r23 h22 o23 e22 m23 => ⟨R.length + 1, ?_⟩
  have hs22 := e22.size
  refine prunes_loop (h0 := h) (E := E') (by omega) hrR (by omega) (by rw [hR]; exact prune_again hr E') (fun x hx => prune_lone L E' (by rw [← hR]; exact hx)) (fun x hx => ?_) hEl k (c55.ext e22) ((x20.trans e55).trans e22) (rd55.ext e22) (fun hn b hb => by have := hrb hn b hb; omega) o23.reads _ 0 (by omega) (by omega)
  rw [hnw]
  exact newest_ge hr ((prune_sub L E').subset (by rw [← hR]; exact hx))
end Go.Proofs.Ytapomjhjpejimaa.V
