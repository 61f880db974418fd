/- The document's book in the heap; its Held; a let go; no condition. -/
import Derived.Test.YtgcmojbajjajgaaGreatZo
namespace Go.Proofs.YtgcmojbajjajgaaGreat.V
open Go Go.Proofs.YtgcmojbajjajgaaGreat.V.N
set_option linter.unusedVariables false
set_option linter.unusedSimpArgs false
set_option maxRecDepth 20000
abbrev cL (s : Sl) : List Value := [s.enc]
theorem cL_len (s : Sl) : (cL s).length = 1 := rfl
theorem Owns.isblk {h : H} {s : Sl} {e : TypeId} {n : Nat} {cs : List Value} (o : Owns h s e n cs) {x : Nat} (hx : s.blk = some x) : ∃ c, Blk h x c e := by
  obtain ⟨_, ⟨h1, _⟩ | ⟨b, c, h1, h2, _⟩⟩ := o
  · simp [Sl.blk, h1] at hx
  · simp [Sl.blk, h1] at hx; subst hx; exact ⟨c, h2⟩
theorem blk_typ {h : H} {x : Nat} {c c' : Array Value} {e e' : TypeId} (a : Blk h x c e) (b : Blk h x c' e') : e = e' := by
  unfold Blk at a b; rw [a] at b; cases b; rfl
/-- What a step of the document's book leaves alone: the books' blocks, the law's steps. -/
def RS (h0 h h' : H) : Prop := ∃ S, Only S h h' ∧ ∀ x, S x → h0.size ≤ x ∧ ∃ c e, Blk h x c e ∧ e ≠ tn_epoch_Book ∧ e ≠ tn_spatelaw9_Step
section
variable {h0 h h' h'' : H}
theorem RS.of_ext (e : Ext h h') : RS h0 h h' := ⟨fun _ => False, e, fun _ f => f.elim⟩
theorem RS.trans (a : RS h0 h h') (b : RS h0 h' h'') : RS h0 h h'' := by
  obtain ⟨S, o, s⟩ := a
  obtain ⟨S', o', s'⟩ := b
  refine ⟨fun x => S x ∨ (S' x ∧ x < h.size), (o.mono fun x _ hx => .inl hx).trans o' fun x hx hs => .inr ⟨hs, hx⟩, fun x hx => ?_⟩
  rcases hx with hx | ⟨hx, hl⟩
  · exact s x hx
  · by_cases hs : S x
    · exact s x hs
    · obtain ⟨h1, c, e, h2, h3⟩ := s' x hx
      refine ⟨h1, c, e, ?_, h3⟩
      unfold Blk at h2 ⊢
      rw [← o.same x hl hs]; exact h2
theorem RS.bks {FP : Nat → Prop} {L : List (Nat × Bk)} (r : RS h0 h h') (b : BKs h0 h FP L) : BKs h0 h' FP L := by
  obtain ⟨S, o, s⟩ := r
  refine b.only o (fun x hx hf => ?_) fun x hx hf => by have := (s x hf).1; omega
  obtain ⟨_, c, e, h1, h2, _⟩ := s x hf
  exact h2 (b.kind hx h1)
theorem RS.stp (r : RS h0 h h') {x : Nat} {c : Array Value} (k : Blk h x c tn_spatelaw9_Step) : Blk h' x c tn_spatelaw9_Step := by
  obtain ⟨S, o, s⟩ := r
  refine o.block k fun hf => ?_
  obtain ⟨_, c, e, h1, _, h2⟩ := s x hf
  exact h2 (blk_typ h1 k)
end
/-- Those of a sweep. -/
def swL (B : Bk) : List Int := (B.die.filter fun p => p.2 == 1).map (·.1)
structure DB (h0 h : H) (rn : Nat) (T : S_spateref9_Book) (rows : List Sl) (B : Bk) : Prop where
  tab : Blk h rn T.cells.toArray tn_spateref9_Book
  pins : T.Pins = B.pins
  now : T.Epoch = B.now
  on : T.On = B.sw
  sets : Owns h T.Sets tn_Slint 1 (rows.flatMap cL)
  rl : rows.length = 65
  ol : B.os.length = 65
  row : ∀ (i : Nat) r x, rows[i]? = some r → B.os[i]? = some x → Owns h r 3 1 (x.1.flatMap cI)
  ins : Owns h T.In 3 1 ((B.os.map (·.2)).flatMap cI)
  dy : Owns h T.Die 3 1 ((dieL B).flatMap cI)
  swp : B.sw = true → Owns h T.Sweep 3 1 ((swL B).flatMap cI)
  nr : ∀ r ∈ rows, ∀ x, r.blk = some x → T.In.blk ≠ some x
  nd : ∀ x, T.Die.blk = some x → T.In.blk ≠ some x
  ns : B.sw = true → ∀ x, T.Sweep.blk = some x → T.In.blk ≠ some x
  low : ∀ x, (x = rn ∨ T.Sets.blk = some x ∨ T.In.blk = some x) → h0.size ≤ x
section
variable {h0 h h' : H} {rn : Nat} {T : S_spateref9_Book} {rows : List Sl} {B : Bk} {c : Nat}
theorem DB.keep {S : Nat → Prop} (v : DB h0 h rn T rows B) (o : Only S h h') (hs : ∀ x, S x → ∀ c e, Blk h x c e → e ≠ tn_spateref9_Book ∧ e ≠ tn_Slint ∧ e ≠ 3) : DB h0 h' rn T rows B := by
  have ow : ∀ {r : Sl} {e : TypeId} {n : Nat} {cs : List Value}, Owns h r e n cs → (e = 3 ∨ e = tn_Slint) → Owns h' r e n cs := fun w he => w.only o fun x hx hf => by
    obtain ⟨c, k⟩ := w.isblk hx
    have := hs x hf c _ k
    rcases he with he | he
    · exact this.2.2 he
    · exact this.2.1 he
  exact ⟨o.block v.tab fun hf => (hs _ hf _ _ v.tab).1 rfl, v.pins, v.now, v.on, ow v.sets (.inr rfl), v.rl, v.ol, fun i r x hr hx => ow (v.row i r x hr hx) (.inl rfl), ow v.ins (.inl rfl), ow v.dy (.inl rfl), fun hb => ow (v.swp hb) (.inl rfl), v.nr, v.nd, v.ns, v.low⟩
theorem DB.ext (v : DB h0 h rn T rows B) (e : Ext h h') : DB h0 h' rn T rows B := v.keep e fun _ f => f.elim
theorem DB.stp {F F' : Nat → Prop} {L : List (Nat × Bk)} (v : DB h0 h rn T rows B) (b : BKs h0 h F L) (st : Stpp F h F' h') : DB h0 h' rn T rows B :=
  v.keep st.only fun x hx c e k => by
    have := b.kind hx k
    subst this
    exact ⟨by decide, by decide, by decide⟩
theorem iso_nat {o : Int} (h : isO o = true) : 1 ≤ o.toNat ∧ o.toNat ≤ 64 ∧ ((o.toNat : Nat) : Int) = o := by
  simp [isO] at h; omega
theorem DB.at (v : DB h0 h rn T rows B) {i : Nat} (hi : i < 65) : ∃ r x, rows[i]? = some r ∧ B.os[i]? = some x := ⟨_, _, List.getElem?_eq_getElem (by rw [v.rl]; exact hi), List.getElem?_eq_getElem (by rw [v.ol]; exact hi)⟩
theorem DB.rowAt (v : DB h0 h rn T rows B) {o : Nat} (ho : o < 65) {r : Sl} (hr : rows[o]? = some r) {K : Sl → Prop} (k : K r) : idxA T.Sets (o : Int) 1 fun a => ldL h a K := by
  obtain ⟨b, p1, p2⟩ := own_at cL_len (by omega) v.sets hr
  have hl := own_len cL_len (by omega) v.sets
  exact idxA_of (i := o) p1 (by rw [hl, v.rl]; exact ho) rfl ((ldL_iff p2.one).2 k)
theorem DB.innAt (v : DB h0 h rn T rows B) {o : Nat} {x : List Int × Int} (hx : B.os[o]? = some x) {K : Int → Prop} (k : K x.2) : idxA T.In (o : Int) 1 fun a => ldI .i64 h a K := by
  obtain ⟨b, p1, p2⟩ := own_at cI_len (by omega) v.ins (i := o) (x := x.2) (by rw [List.getElem?_map, hx]; rfl)
  have hl := own_len cI_len (by omega) v.ins
  exact idxA_of (i := o) p1 (by rw [hl, List.length_map]; exact (List.getElem?_eq_some_iff.1 hx).1) rfl ((ldI_iff (n := x.2) p2.one).2 k)
/-- What is held by the owners ahead of o. -/
def Upto (B : Bk) (o : Nat) (e : Int) : Prop := ∃ x ∈ B.os.take o, e ∈ x.1 ∨ (e = x.2 ∧ x.2 ≠ 0)
theorem upto_snoc {B : Bk} {o : Nat} {x : List Int × Int} (hx : B.os[o]? = some x) {e : Int} : Upto B (o + 1) e ↔ Upto B o e ∨ e ∈ x.1 ∨ (e = x.2 ∧ x.2 ≠ 0) := by
  unfold Upto
  rw [take_snoc hx]
  simp only [List.mem_append, List.mem_singleton]
  constructor
  · rintro ⟨y, hy | rfl, hz⟩
    · exact .inl ⟨y, hy, hz⟩
    · exact .inr hz
  · rintro (⟨y, hy, hz⟩ | hz)
    · exact ⟨y, .inl hy, hz⟩
    · exact ⟨x, .inr rfl, hz⟩
theorem upto_rng (ok : Ok B c) {o : Nat} {e : Int} (u : Upto B o e) : 1 ≤ e ∧ e < B.now := by
  obtain ⟨x, hx, h⟩ := u
  have := ok.sets x (List.mem_of_mem_take hx)
  rcases h with h | ⟨rfl, h⟩
  · exact this.2.1 e h
  · exact ⟨by omega, this.2.2.2⟩
theorem upto_len (ok : Ok B c) {A : List Int} (s : A.Pairwise (· < ·)) (m : ∀ e ∈ A, 1 ≤ e ∧ e < B.now) : A.length ≤ c := by
  have := len_lt s (a := 1) (b := B.now) m ok.now.1
  have := ok.now; omega
theorem RHeld_spec {Q : Sl → H → Prop} (v : DB h0 h rn T rows B) (ok : Ok B c) (hc : c < 800000) (os0 : B.os[0]? = some ([], 0)) (k : ∀ r h', Owns h' r 3 1 ((heldL B).flatMap cI) → Mine h r → Ext h h' → Q r h') :
    F.spateref9_Book_Held (some ⟨rn, 0, none⟩) h Q := by
  unfold F.spateref9_Book_Held
  refine ⟨65, ?_⟩
  have owners : ∀ (d o : Nat) (r : Sl) (h' : H) (A : List Int), 1 ≤ o → o ≤ 65 → 65 - o < d → Owns h' r 3 1 (A.flatMap cI) → Mine h r → Ext h h' → A.Pairwise (· < ·) → (∀ e, e ∈ A ↔ Upto B o e) →
      F.spateref9_Book_Held.l1 Q d (some ⟨rn, 0, none⟩) r (o : Int) h' := by
    intro d
    induction d with
    | zero => intro o r h' A _ _ hm; omega
    | succ d ih =>
      intro o r h' A h1o h2o hm w m e' sA mA
      unfold F.spateref9_Book_Held.l1
      simp only [decide_eq_true_eq, decide_eq_false_iff_not]
      refine ⟨fun g => ?_, fun g => ?_⟩
      · obtain ⟨ro, x, hr, hx⟩ := v.at (i := o) (by omega)
        have hxm := List.mem_of_getElem? hx
        have hsx := ok.sets x hxm
        have hxl := upto_len ok hsx.1 hsx.2.1
        have wro := v.row o ro x hr hx
        have j2 : ∀ (r : Sl) (h' : H) (A : List Int), Owns h' r 3 1 (A.flatMap cI) → Mine h r → Ext h h' → A.Pairwise (· < ·) → (∀ e, e ∈ A ↔ Upto B (o + 1) e) → F.spateref9_Book_Held.j2 Q (F.spateref9_Book_Held.l1 Q d) (some ⟨rn, 0, none⟩) r (o : Int) h' := by
          intro r h' A w m e' sA mA
          unfold F.spateref9_Book_Held.j2
          rw [w64n (by omega)]
          exact ih (o + 1) r h' A (by omega) (by omega) (by omega) w m e' sA mA
        refine ⟨x.1.length + 1, ?_⟩
        have inner : ∀ (d2 i : Nat) (r : Sl) (h' : H) (A : List Int), i ≤ x.1.length → x.1.length - i < d2 → Owns h' r 3 1 (A.flatMap cI) → Mine h r → Ext h h' → A.Pairwise (· < ·) → (∀ e, e ∈ A ↔ Upto B o e ∨ e ∈ x.1.take i) →
            F.spateref9_Book_Held.l3 Q (F.spateref9_Book_Held.l1 Q d) d2 (some ⟨rn, 0, none⟩) r (o : Int) (i : Int) h' := by
          intro d2
          induction d2 with
          | zero => intro i r h' A _ hm; omega
          | succ d2 ih2 =>
            intro i r h' A hi hm w m e' sA mA
            have v' := v.ext e'
            have wro' := wro.ext e'
            have hl := own_len cI_len (by omega) wro
            have rng : ∀ e ∈ A, 1 ≤ e ∧ e < B.now := fun e he => by
              rcases (mA e).1 he with h | h
              · exact upto_rng ok h
              · exact hsx.2.1 e (List.mem_of_mem_take h)
            have hAl := upto_len ok sA rng
            unfold F.spateref9_Book_Held.l3
            simp only [decide_eq_true_eq, decide_eq_false_iff_not, add_lit, Nat.zero_add]
            have c2 : cellH h' ⟨rn, 2, none⟩ = some T.Sets.enc := v'.tab.cell (i := 2) rfl
            have c3 : cellH h' ⟨rn, 3, none⟩ = some T.In.enc := v'.tab.cell (i := 3) rfl
            refine ⟨_, rfl, (ldL_iff c2).2 (v'.rowAt (by omega) hr ?_)⟩
            rw [hl]
            refine ⟨fun g2 => ?_, fun g2 => ?_⟩
            · obtain ⟨y, hy⟩ : ∃ y, x.1[i]? = some y := ⟨_, List.getElem?_eq_getElem (by omega)⟩
              refine ⟨_, rfl, (ldL_iff c2).2 (v'.rowAt (by omega) hr (rdI wro'.reads hy (With_spec w.reads sA (by omega) fun r2 h2 w2 m2 e2 => ?_)))⟩
              rw [w64n (by omega)]
              refine ih2 (i + 1) r2 h2 _ (by omega) (by omega) w2 (m2.older e') (e'.trans e2) (ins_sorted sA) fun e => ?_
              rw [mem_ins sA, mA e, take_snoc hy]
              simp only [List.mem_append, List.mem_singleton]
              constructor
              · rintro (h | h | h)
                · exact .inr (.inr h)
                · exact .inl h
                · exact .inr (.inl h)
              · rintro (h | h | h)
                · exact .inr (.inl h)
                · exact .inr (.inr h)
                · exact .inl h
            · have hiL : i = x.1.length := by omega
              subst hiL
              rw [List.take_length] at mA
              refine ⟨_, rfl, (ldL_iff c3).2 (v'.innAt hx ⟨fun g3 => ?_, fun g3 => ?_⟩)⟩
              · have hne : x.2 ≠ 0 := by simpa using g3
                refine ⟨_, rfl, (ldL_iff c3).2 (v'.innAt hx (With_spec w.reads sA (by omega) fun r2 h2 w2 m2 e2 => ?_))⟩
                refine j2 r2 h2 _ w2 (m2.older e') (e'.trans e2) (ins_sorted sA) fun e => ?_
                rw [mem_ins sA, mA e, upto_snoc hx]
                constructor
                · rintro (h | h | h)
                  · exact .inr (.inr ⟨h, hne⟩)
                  · exact .inl h
                  · exact .inr (.inl h)
                · rintro (h | h | h)
                  · exact .inr (.inl h)
                  · exact .inr (.inr h)
                  · exact .inl h.1
              · have hne : x.2 = 0 := by simpa using g3
                refine j2 r h' A w m e' sA fun e => ?_
                rw [mA e, upto_snoc hx]
                constructor
                · rintro (h | h)
                  · exact .inl h
                  · exact .inr (.inl h)
                · rintro (h | h | h)
                  · exact .inl h
                  · exact .inr h
                  · exact absurd hne h.2
        exact inner _ 0 r h' A (by omega) (by omega) w m e' sA fun e => by rw [mA e]; simp
      · have ho : o = 65 := by omega
        subst ho
        have hA : A = heldL B := sorted_eq sA (heldL_sorted B) fun e => by
          rw [mA e, mem_heldL]
          unfold Upto
          rw [List.take_of_length_le (by rw [ok.lo]; omega)]
        subst hA
        exact k r h' w m e'
  exact owners 65 1 _ h [] (by omega) (by omega) (by omega) (by simpa using Owns.nil h 3 1) (.nil _ _ _) (.refl _) .nil fun e => by
    rw [upto_snoc os0]; simp [Upto]
/-- The table's own cell is written. -/
theorem DB.tabSet {T' : S_spateref9_Book} {j : Nat} {u : Value} {K : H → Prop} (v : DB h0 h rn T rows B) (hj : j < 7) (hc : T.cells.toArray.setIfInBounds j u = T'.cells.toArray)
    (k : ∀ h', Blk h' rn T'.cells.toArray tn_spateref9_Book → Only (· = rn) h h' → K h') : stH h ⟨rn, j, none⟩ [u] K := by
  refine stH_of v.tab (by simp [S_spateref9_Book.cells]; omega) fun h' k' o _ => k h' ?_ o
  rw [show writeA T.cells.toArray j [u] = T'.cells.toArray from hc] at k'
  exact k'
theorem DB.rs (v : DB h0 h rn T rows B) (o : Only (· = rn) h h') : RS h0 h h' := ⟨_, o, fun x hx => by subst hx; exact ⟨v.low _ (.inl rfl), _, _, v.tab, by decide, by decide⟩⟩
theorem DB.ow (v : DB h0 h rn T rows B) (o : Only (· = rn) h h') {r : Sl} {e : TypeId} {n : Nat} {cs : List Value} (w : Owns h r e n cs) (he : e ≠ tn_spateref9_Book) : Owns h' r e n cs :=
  w.only o fun x hx hf => by
    subst hf
    obtain ⟨c, k⟩ := w.isblk hx
    exact he (blk_typ k v.tab)
theorem swL_let {e : Int} (hs : e ∉ swL B) : swL (letB B e) = swL B := by
  unfold letB
  split
  · rfl
  · unfold swL
    have : ∀ D : List (Int × Int), e ∉ (D.filter fun p => p.2 == 1).map (·.1) → (putD D e 0).filter (fun p => p.2 == 1) = D.filter fun p => p.2 == 1 := by
      intro D
      induction D with
      | nil => intro _; rfl
      | cons p r ih =>
        intro hn
        simp only [putD]
        split
        · simp
        · split
          · rename_i h1 h2
            subst h2
            have : (p.2 == 1) = false := by
              cases hp : p.2 == 1 with
              | false => rfl
              | true => exfalso; apply hn; simp [List.filter_cons, hp]
            simp [List.filter_cons, this]
          · rw [List.filter_cons, List.filter_cons]
            by_cases hp : (p.2 == 1) = true
            · rw [if_pos hp, if_pos hp, ih fun hm => hn (by rw [List.filter_cons, if_pos hp]; simp only [List.map_cons, List.mem_cons]; exact .inr hm)]
            · rw [if_neg hp, if_neg hp, ih fun hm => hn (by rw [List.filter_cons, if_neg hp]; exact hm)]
    rw [this _ hs]
theorem put_keys (e v : Int) : ∀ D : List (Int × Int), (putD D e v).map (·.1) = insS (D.map (·.1)) e
  | [] => rfl
  | p :: r => by
    simp only [putD, List.map_cons, insS]
    split
    · rfl
    · split
      · rfl
      · rw [List.map_cons, put_keys e v r]
theorem dieL_let {e : Int} : dieL (letB B e) = if heldB B e = true then dieL B else insS (dieL B) e := by
  unfold letB dieL
  split
  · rfl
  · exact put_keys e 0 B.die
theorem letB_pins (B : Bk) (e : Int) : (letB B e).pins = B.pins := by unfold letB; split <;> rfl
theorem letB_sw (B : Bk) (e : Int) : (letB B e).sw = B.sw := by unfold letB; split <;> rfl
theorem loose_spec {e : Int} {Q : H → Prop} (v : DB h0 h rn T rows B) (ok : Ok B c) (hc : c < 800000) (os0 : B.os[0]? = some ([], 0)) (he : 1 ≤ e) (hs : e ∉ swL B)
    (k : ∀ h' T', DB h0 h' rn T' rows (letB B e) → Only (· = rn) h h' → Q h') : F.spateref9_Book_loose (some ⟨rn, 0, none⟩) e h Q := by
  unfold F.spateref9_Book_loose
  refine RHeld_spec v ok hc os0 fun r h1 w m e1 => Has_spec w.reads (by have := ok.heldlen; omega) ?_
  have v1 := v.ext e1
  have hm : decide (e ∈ heldL B) = heldB B e := by
    cases hb : heldB B e with
    | true => exact decide_eq_true ((mem_heldL_iff he).2 hb)
    | false => exact decide_eq_false fun h => by rw [(mem_heldL_iff he).1 h] at hb; cases hb
  rw [hm]
  refine ⟨fun g => ?_, fun g => ?_⟩
  · have hb : heldB B e = false := by simpa using g
    have hdl : (dieL B).length ≤ c := by have := ok.dielen; simpa [dieL] using this
    have hsd : (dieL B).Pairwise (· < ·) := by unfold dieL; rw [List.pairwise_map]; exact ok.die.1
    refine ⟨_, rfl, (ldL_iff (v1.tab.cell (i := 4) rfl)).2 (With_spec v1.dy.reads hsd (by omega) fun r2 h2 w2 m2 e2 => ⟨_, rfl, ?_⟩)⟩
    have v2 := v1.ext e2
    refine v2.tabSet (j := 4) (T' := { T with Die := r2 }) (by omega) rfl fun h3 k3 o3 => ?_
    refine k h3 { T with Die := r2 } ⟨k3, v.pins.trans (letB_pins B e).symm, v.now.trans (letB_now B e).symm, v.on.trans (letB_sw B e).symm, v2.ow o3 v2.sets (by decide), v.rl, by rw [letB_os]; exact v.ol, fun i r x hr hx => ?_, ?_, ?_, fun hb2 => ?_, v.nr, fun x hx => ?_, fun hb2 => v.ns (by rw [letB_sw] at hb2; exact hb2), v.low⟩ (((e1.trans e2).only (S := fun x => x = rn)).trans o3 fun _ _ e => e)
    · rw [letB_os] at hx; exact v2.ow o3 (v2.row i r x hr hx) (by decide)
    · rw [letB_os]; exact v2.ow o3 v2.ins (by decide)
    · rw [dieL_let, if_neg (by rw [hb]; simp)]; exact v2.ow o3 w2 (by decide)
    · rw [letB_sw] at hb2
      rw [swL_let hs]; exact v2.ow o3 (v2.swp hb2) (by decide)
    · intro hi
      have a := m2 x hx
      have b := v1.ins.blk_lt hi
      omega
  · have hb : heldB B e = true := by simpa using g
    refine k h1 T ?_ e1.only
    rw [letB_t hb]; exact v1
end
end Go.Proofs.YtgcmojbajjajgaaGreat.V
