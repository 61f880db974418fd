/- Several books beside one another; the laws' own functions; no condition. -/
import Derived.Test.YtgcmojbajjajgaaGreatEg
namespace Go.Proofs.YtgcmojbajjajgaaGreat.V
open Go Go.Proofs.YtgcmojbajjajgaaGreat.V.N
set_option linter.unusedVariables false
set_option linter.unusedSimpArgs false
structure Ent where
  n : Nat
  bs : List Nat
  db : Nat
  B : Bk
def Ent.fb (e : Ent) (x : Nat) : Prop := FB e.n e.bs e.db x
/-- Books, no block of two of them; FP: their blocks. -/
def BKs (h0 h : H) (FP : Nat → Prop) (L : List (Nat × Bk)) : Prop :=
  ∃ E : List Ent, E.map (fun e => (e.n, e.B)) = L ∧ (∀ x, FP x ↔ ∃ e ∈ E, e.fb x) ∧ (∀ e ∈ E, BH 0 h e.n e.bs e.db e.B) ∧ E.Pairwise (fun a b => ∀ x, a.fb x → ¬ b.fb x) ∧ (∀ x, FP x → h0.size ≤ x) ∧ Ext h0 h
structure Stpp (FP : Nat → Prop) (h : H) (FP' : Nat → Prop) (h' : H) : Prop where
  only : Only FP h h'
  new : ∀ x, FP' x → FP x ∨ h.size ≤ x
theorem Stpp.refl (FP : Nat → Prop) (h : H) : Stpp FP h FP h := ⟨.refl _, fun x hx => .inl hx⟩
theorem Stpp.trans {FP FP' FP'' : Nat → Prop} {h h' h'' : H} (a : Stpp FP h FP' h') (b : Stpp FP' h' FP'' h'') : Stpp FP h FP'' h'' :=
  ⟨a.only.trans b.only fun m hm hf => (a.new m hf).resolve_right (by omega), fun m hm => by
    rcases b.new m hm with h1 | h1
    · exact a.new m h1
    · exact .inr (Nat.le_trans a.only.size h1)⟩
theorem Stpp.of_ext {FP : Nat → Prop} {h h' : H} (e : Ext h h') : Stpp FP h FP h' := ⟨e.only, fun x hx => .inl hx⟩
section
variable {h0 h h' : H} {FP FP' : Nat → Prop} {L : List (Nat × Bk)} {i n : Nat} {B : Bk}
theorem BKs.ext0 (b : BKs h0 h FP L) : Ext h0 h := by obtain ⟨E, _, _, _, _, _, e⟩ := b; exact e
theorem BKs.low (b : BKs h0 h FP L) : ∀ x, FP x → h0.size ≤ x := by obtain ⟨E, _, _, _, _, e, _⟩ := b; exact e
theorem BKs.lt (b : BKs h0 h FP L) : ∀ x, FP x → x < h.size := fun x hx => by
  obtain ⟨E, _, h2, h3, _⟩ := b
  obtain ⟨e, he, hf⟩ := (h2 x).1 hx
  exact (h3 e he).lt x hf
theorem BKs.nil (h0 : H) : BKs h0 h0 (fun _ => False) [] := ⟨[], rfl, by simp, by simp, .nil, fun x hx => hx.elim, .refl _⟩
theorem BKs.only {S : Nat → Prop} (b : BKs h0 h FP L) (o : Only S h h') (hs : ∀ x, FP x → ¬ S x) (h00 : ∀ x, x < h0.size → ¬ S x) : BKs h0 h' FP L := by
  obtain ⟨E, h1, h2, h3, h4, h5, h6⟩ := b
  exact ⟨E, h1, h2, fun e he => (h3 e he).only o fun m hm => hs m ((h2 m).2 ⟨e, he, hm⟩), h4, h5, h6.step o fun m hm hf => h00 m hm hf⟩
theorem BKs.ext (b : BKs h0 h FP L) (o : Ext h h') : BKs h0 h' FP L := b.only o (fun _ _ e => e) fun _ _ e => e
/-- A book's blocks are maps, or of the book's own type. -/
theorem BKs.kind (b : BKs h0 h FP L) {x : Nat} (hx : FP x) {c : Array Value} {e : TypeId} (k : Blk h x c e) : e = tn_epoch_Book := by
  obtain ⟨E, _, h2, h3, _⟩ := b
  obtain ⟨t, ht, hf⟩ := (h2 x).1 hx
  have bh := h3 t ht
  rcases hf with hf | hf | hf
  · obtain ⟨q, tb⟩ := bh.tb
    rw [← hf] at tb
    unfold Blk at k tb
    rw [tb] at k; cases k; rfl
  · have := bh.dy; rw [← hf] at this; exact absurd k this.not_blk
  · obtain ⟨j, hj⟩ := List.mem_iff_getElem?.1 hf
    have hl := (List.getElem?_eq_some_iff.1 hj).1
    have := bh.sets j x _ hj (List.getElem?_eq_getElem (by rw [bh.lo, ← bh.lb]; exact hl))
    exact absurd k this.not_blk
/-- One book's step. -/
theorem BKs.step (b : BKs h0 h FP L) (hi : L[i]? = some (n, B)) : ∃ bs db, BH 0 h n bs db B ∧ (∀ x, FB n bs db x → FP x) ∧
    (∀ h' bs' B', BH 0 h' n bs' db B' → Stp h n bs db h' bs' → ∃ FP', BKs h0 h' FP' (L.set i (n, B')) ∧ Stpp FP h FP' h' ∧ (bs' = bs → ∀ x, FP' x ↔ FP x)) := by
  obtain ⟨E, h1, h2, h3, h4, h5, h6⟩ := b
  subst h1
  rw [List.getElem?_map] at hi
  cases hE : E[i]? with
  | none => rw [hE] at hi; cases hi
  | some e =>
    rw [hE] at hi
    simp only [Option.map_some, Option.some.injEq, Prod.mk.injEq] at hi
    obtain ⟨rfl, rfl⟩ := hi
    have he := List.mem_of_getElem? hE
    have hil := (List.getElem?_eq_some_iff.1 hE).1
    refine ⟨e.bs, e.db, h3 e he, fun x hx => (h2 x).2 ⟨e, he, hx⟩, fun h' bs' B' b' st => ?_⟩
    have hdis : ∀ (j : Nat) (t : Ent), E[j]? = some t → j ≠ i → (∀ x, t.fb x → ¬ e.fb x) := fun j t hj hne x hx hx2 => by
      rw [List.pairwise_iff_getElem] at h4
      have hjl := (List.getElem?_eq_some_iff.1 hj).1
      have e1 := (List.getElem?_eq_some_iff.1 hj).2
      have e2 := (List.getElem?_eq_some_iff.1 hE).2
      rcases Nat.lt_or_gt_of_ne hne with h | h
      · have := h4 j i hjl hil h x (by rw [e1]; exact hx); rw [e2] at this; exact this hx2
      · have := h4 i j hil hjl h x (by rw [e2]; exact hx2); rw [e1] at this; exact this hx
    have hbt : ∀ (j : Nat) (t : Ent), E[j]? = some t → BH 0 h t.n t.bs t.db t.B := fun j t hj => h3 t (List.mem_of_getElem? hj)
    refine ⟨fun x => ∃ t ∈ E.set i ⟨e.n, bs', e.db, B'⟩, t.fb x, ⟨E.set i ⟨e.n, bs', e.db, B'⟩, by rw [List.map_set], fun x => Iff.rfl, fun t ht => ?_, ?_, fun x hx => ?_, ?_⟩, ⟨st.only.mono fun x _ hx => (h2 x).2 ⟨e, he, hx⟩, fun x hx => ?_⟩, fun hbs x => ?_⟩
    · obtain ⟨j, hj⟩ := List.mem_iff_getElem?.1 ht
      rw [List.getElem?_set] at hj
      by_cases hji : i = j
      · rw [if_pos hji, if_pos hil] at hj; cases hj; exact b'
      · rw [if_neg hji] at hj
        exact (hbt j t hj).only st.only fun x hx => hdis j t hj (fun e => hji e.symm) x hx
    · have hd2 : ∀ (j : Nat) (t : Ent), E[j]? = some t → j ≠ i → ∀ x, t.fb x → ¬ FB e.n bs' e.db x := fun j t hj hne x hx hx2 => by
        rcases st.new x hx2 with h7 | h7
        · exact hdis j t hj hne x hx h7
        · have := (hbt j t hj).lt x hx; omega
      rw [List.pairwise_iff_getElem] at h4 ⊢
      intro a c ha hc hac x hx hx2
      simp only [List.length_set] at ha hc
      rw [List.getElem_set] at hx hx2
      by_cases hia : i = a
      · rw [if_pos hia] at hx
        rw [if_neg (by omega)] at hx2
        exact hd2 c _ (List.getElem?_eq_getElem hc) (by omega) x hx2 hx
      · rw [if_neg hia] at hx
        by_cases hic : i = c
        · rw [if_pos hic] at hx2
          exact hd2 a _ (List.getElem?_eq_getElem ha) (by omega) x hx hx2
        · rw [if_neg hic] at hx2
          exact h4 a c ha hc hac x hx hx2
    · obtain ⟨t, ht, hx⟩ := hx
      rcases List.mem_or_eq_of_mem_set ht with ht | rfl
      · exact h5 x ((h2 x).2 ⟨t, ht, hx⟩)
      · rcases st.new x hx with h7 | h7
        · exact h5 x ((h2 x).2 ⟨e, he, h7⟩)
        · have := h6.size; omega
    · exact h6.step st.only fun m hm hf => by
        have := h5 m ((h2 m).2 ⟨e, he, hf⟩); omega
    · obtain ⟨t, ht, hx⟩ := hx
      rcases List.mem_or_eq_of_mem_set ht with ht | rfl
      · exact .inl ((h2 x).2 ⟨t, ht, hx⟩)
      · rcases st.new x hx with h7 | h7
        · exact .inl ((h2 x).2 ⟨e, he, h7⟩)
        · exact .inr h7
    · subst hbs
      rw [h2 x]
      constructor
      · rintro ⟨t, ht, hx⟩
        rcases List.mem_or_eq_of_mem_set ht with ht | rfl
        · exact ⟨t, ht, hx⟩
        · exact ⟨e, he, hx⟩
      · rintro ⟨t, ht, hx⟩
        obtain ⟨j, hj⟩ := List.mem_iff_getElem?.1 ht
        by_cases hji : i = j
        · subst hji
          rw [hE] at hj; cases hj
          exact ⟨⟨e.n, e.bs, e.db, B'⟩, List.mem_iff_getElem?.2 ⟨i, by rw [List.getElem?_set, if_pos rfl, if_pos hil]⟩, hx⟩
        · exact ⟨t, List.mem_iff_getElem?.2 ⟨j, by rw [List.getElem?_set, if_neg hji]; exact hj⟩, hx⟩
theorem set_same {α : Type} {l : List α} {i : Nat} {x : α} (h : l[i]? = some x) : l.set i x = l := by
  apply List.ext_getElem?
  intro j
  rw [List.getElem?_set]
  split
  · rename_i e; subst e; rw [if_pos (List.getElem?_eq_some_iff.1 h).1, h]
  · rfl
/-- A new book. -/
theorem BKs.add {bs : List Nat} {db : Nat} (b : BKs h0 h FP L) (nb : BH 0 h' n bs db B) (o : Only FP h h') (b' : BKs h0 h' FP L) (hn : ∀ x, FB n bs db x → h.size ≤ x) : ∃ FP', BKs h0 h' FP' (L ++ [(n, B)]) ∧ Stpp FP h FP' h' := by
  have hlt := b.lt
  have he0 := b.ext0
  obtain ⟨E, h1, h2, h3, h4, h5, h6⟩ := b'
  refine ⟨fun x => ∃ t ∈ E ++ [⟨n, bs, db, B⟩], t.fb x, ⟨E ++ [⟨n, bs, db, B⟩], by simp [h1], fun x => Iff.rfl, fun t ht => ?_, ?_, fun x hx => ?_, h6⟩, ⟨o, fun x hx => ?_⟩⟩
  · rcases List.mem_append.1 ht with ht | ht
    · exact h3 t ht
    · simp at ht; subst ht; exact nb
  · rw [List.pairwise_append]
    refine ⟨h4, by simp, fun a ha c hc x hx hx2 => ?_⟩
    simp at hc; subst hc
    have := hlt x ((h2 x).2 ⟨a, ha, hx⟩)
    have := hn x hx2
    omega
  · obtain ⟨t, ht, hx⟩ := hx
    rcases List.mem_append.1 ht with ht | ht
    · exact h5 x ((h2 x).2 ⟨t, ht, hx⟩)
    · simp at ht; subst ht
      have := hn x hx; have := he0.size; omega
  · obtain ⟨t, ht, hx⟩ := hx
    rcases List.mem_append.1 ht with ht | ht
    · exact .inl ((h2 x).2 ⟨t, ht, hx⟩)
    · simp at ht; subst ht
      exact .inr (hn x hx)
/-- Slices of whole numbers are no book's. -/
theorem BKs.row (b : BKs h0 h FP L) (st : Stpp FP h FP' h') {r : Sl} {e : TypeId} {size : Nat} {cs : List Value} (w : Owns h r e size cs) (he : e ≠ tn_epoch_Book) : Owns h' r e size cs := by
  refine w.only st.only fun x hx hf => ?_
  obtain ⟨_, ⟨h1, _⟩ | ⟨b', c', h1, h2, _⟩⟩ := w
  · simp [Sl.blk, h1] at hx
  · simp [Sl.blk, h1] at hx; subst hx
    exact he (b.kind hf h2)
/-! ### The calls, of one of them -/
structure Ok (B : Bk) (c : Nat) : Prop where
  lo : B.os.length = 65
  now : 1 ≤ B.now ∧ B.now ≤ (c : Int) + 1
  sets : ∀ x ∈ B.os, x.1.Pairwise (· < ·) ∧ (∀ e ∈ x.1, 1 ≤ e ∧ e < B.now) ∧ 0 ≤ x.2 ∧ x.2 < B.now
  die : B.die.Pairwise (fun p q => p.1 < q.1) ∧ ∀ p ∈ B.die, 1 ≤ p.1 ∧ p.1 < B.now
theorem len_lt : ∀ {l : List Int} {a b : Int}, l.Pairwise (· < ·) → (∀ e ∈ l, a ≤ e ∧ e < b) → a ≤ b → (l.length : Int) ≤ b - a
  | [], a, b, _, _, hab => by simp; omega
  | x :: r, a, b, hp, hm, hab => by
    have h1 := hm x (by simp)
    have := len_lt (l := r) (a := x + 1) (b := b) (List.pairwise_cons.1 hp).2 (fun e he => by
      have := (List.pairwise_cons.1 hp).1 e he; have := hm e (by simp [he]); omega) (by omega)
    simp only [List.length_cons]; omega
theorem Ok.heldlen {c : Nat} (o : Ok B c) : (heldL B).length ≤ c := by
  have := len_lt (heldL_sorted B) (a := 1) (b := B.now) (fun e he => by
    obtain ⟨x, hx, h | ⟨rfl, h⟩⟩ := mem_heldL.1 he
    · exact (o.sets x hx).2.1 e h
    · have := (o.sets x hx).2.2; omega) o.now.1
  have := o.now; omega
theorem Ok.dielen {c : Nat} (o : Ok B c) : B.die.length ≤ c := by
  have h1 : (B.die.map (·.1)).Pairwise (· < ·) := by rw [List.pairwise_map]; exact o.die.1
  have := len_lt h1 (a := 1) (b := B.now) (fun e he => by obtain ⟨p, hp, rfl⟩ := List.mem_map.1 he; exact o.die.2 p hp) o.now.1
  rw [List.length_map] at this
  have := o.now; omega
theorem Ok.setlen {c : Nat} (o : Ok B c) (t : Int) : (setB B t).length ≤ c := by
  unfold setB
  cases hx : B.os[t.toNat]? with
  | none => simp
  | some x =>
    have hm := List.mem_of_getElem? hx
    have := len_lt (o.sets x hm).1 (a := 1) (b := B.now) (o.sets x hm).2.1 o.now.1
    have := o.now
    simp only [Option.getD_some]; omega
theorem now_bk {Q : Int → H → Prop} (b : BKs h0 h FP L) (hi : L[i]? = some (n, B)) (k : ∀ h' FP', BKs h0 h' FP' L → Stpp FP h FP' h' → Q B.now h') : F.epoch_Book_Now (some ⟨n, 0, none⟩) h Q := by
  obtain ⟨bs, db, bh, _, st⟩ := b.step hi
  refine Now_spec bh fun h' b' o => ?_
  obtain ⟨FP', b2, s2, _⟩ := st h' bs B b' (.of_only o)
  rw [set_same hi] at b2
  exact k h' FP' b2 s2
theorem holds_bk {o e : Int} {Q : Bool → H → Prop} (b : BKs h0 h FP L) (hi : L[i]? = some (n, B)) (k : ∀ h' FP', BKs h0 h' FP' L → Stpp FP h FP' h' → Q (holdsB B o e) h') : F.epoch_Book_Holds (some ⟨n, 0, none⟩) o e h Q := by
  obtain ⟨bs, db, bh, _, st⟩ := b.step hi
  refine Holds_spec bh fun h' b' o => ?_
  obtain ⟨FP', b2, s2, _⟩ := st h' bs B b' (.of_only o)
  rw [set_same hi] at b2
  exact k h' FP' b2 s2
theorem live_bk {c : Nat} {Q : Int → H → Prop} (b : BKs h0 h FP L) (hi : L[i]? = some (n, B)) (ok : Ok B c) (hc : c < 1000000) (k : ∀ h' FP', BKs h0 h' FP' L → Stpp FP h FP' h' → Q (((heldL B).length + B.die.length : Nat) : Int) h') : F.epoch_Book_Live (some ⟨n, 0, none⟩) h Q := by
  obtain ⟨bs, db, bh, _, st⟩ := b.step hi
  refine Live_spec bh (by have := ok.heldlen; omega) (by have := ok.dielen; omega) fun h' b' o => ?_
  obtain ⟨FP', b2, s2, _⟩ := st h' bs B b' (.of_only o)
  rw [set_same hi] at b2
  exact k h' FP' b2 s2
theorem held_bk {c : Nat} {Q : Sl → H → Prop} (b : BKs h0 h FP L) (hi : L[i]? = some (n, B)) (ok : Ok B c) (hc : c < 1000000) (k : ∀ r h' FP', BKs h0 h' FP' L → Stpp FP h FP' h' → Owns h' r 3 1 ((heldL B).flatMap cI) → Mine h r → Q r h') : F.epoch_Book_Held (some ⟨n, 0, none⟩) h Q := by
  obtain ⟨bs, db, bh, _, st⟩ := b.step hi
  refine Held_spec bh (by have := ok.heldlen; omega) fun r h' b' o w m => ?_
  obtain ⟨FP', b2, s2, _⟩ := st h' bs B b' (.of_only o)
  rw [set_same hi] at b2
  exact k r h' FP' b2 s2 w m
theorem dying_bk {c : Nat} {Q : Sl → H → Prop} (b : BKs h0 h FP L) (hi : L[i]? = some (n, B)) (ok : Ok B c) (hc : c < 1000000) (k : ∀ r h' FP', BKs h0 h' FP' L → Stpp FP h FP' h' → Owns h' r 3 1 ((dieL B).flatMap cI) → Mine h r → Q r h') : F.epoch_Book_Dying (some ⟨n, 0, none⟩) h Q := by
  obtain ⟨bs, db, bh, _, st⟩ := b.step hi
  refine Dying_spec bh (by have := ok.dielen; omega) fun r h' b' o w m => ?_
  obtain ⟨FP', b2, s2, _⟩ := st h' bs B b' (.of_only o)
  rw [set_same hi] at b2
  exact k r h' FP' b2 s2 w m
theorem seal_bk {c : Nat} {o : Int} {Q : Int → Int → H → Prop} (b : BKs h0 h FP L) (hi : L[i]? = some (n, B)) (ok : Ok B c) (hc : c < 1000000) (k : ∀ h' FP', BKs h0 h' FP' (L.set i (n, (sealB B o).2.2)) → Stpp FP h FP' h' → Q (sealB B o).1 (sealB B o).2.1 h') : F.epoch_Book_Seal (some ⟨n, 0, none⟩) o h Q := by
  obtain ⟨bs, db, bh, _, st⟩ := b.step hi
  refine Seal_spec bh (by have := ok.now; omega) fun h' b' o => ?_
  obtain ⟨FP', b2, s2, _⟩ := st h' bs _ b' (.of_only o)
  exact k h' FP' b2 s2
theorem inner_bk {c : Nat} {o : Int} {Q : Int → Int → H → Prop} (b : BKs h0 h FP L) (hi : L[i]? = some (n, B)) (ok : Ok B c) (hc : c < 1000000) (k : ∀ h' FP', BKs h0 h' FP' (L.set i (n, (innerB B o).2.2)) → Stpp FP h FP' h' → Q (innerB B o).1 (innerB B o).2.1 h') : F.epoch_Book_Inner (some ⟨n, 0, none⟩) o h Q := by
  obtain ⟨bs, db, bh, _, st⟩ := b.step hi
  refine Inner_spec bh (by have := ok.now; omega) fun h' b' o => ?_
  obtain ⟨FP', b2, s2, _⟩ := st h' bs _ b' (.of_only o)
  exact k h' FP' b2 s2
theorem join_bk {o e : Int} {Q : Int → H → Prop} (b : BKs h0 h FP L) (hi : L[i]? = some (n, B)) (k : ∀ h' FP', BKs h0 h' FP' (L.set i (n, (joinB B o e).2)) → Stpp FP h FP' h' → Q (joinB B o e).1 h') : F.epoch_Book_Join (some ⟨n, 0, none⟩) o e h Q := by
  obtain ⟨bs, db, bh, _, st⟩ := b.step hi
  refine Join_spec bh fun h' b' o => ?_
  obtain ⟨FP', b2, s2, _⟩ := st h' bs _ b' (.of_only o)
  exact k h' FP' b2 s2
theorem release_bk {o e : Int} {Q : Int → H → Prop} (b : BKs h0 h FP L) (hi : L[i]? = some (n, B)) (k : ∀ h' FP', BKs h0 h' FP' (L.set i (n, (releaseB B o e).2)) → Stpp FP h FP' h' → Q (releaseB B o e).1 h') : F.epoch_Book_Release (some ⟨n, 0, none⟩) o e h Q := by
  obtain ⟨bs, db, bh, _, st⟩ := b.step hi
  refine Release_spec bh fun h' b' o => ?_
  obtain ⟨FP', b2, s2, _⟩ := st h' bs _ b' (.of_only o)
  exact k h' FP' b2 s2
theorem done_bk {o : Int} {Q : Int → H → Prop} (b : BKs h0 h FP L) (hi : L[i]? = some (n, B)) (k : ∀ h' FP', BKs h0 h' FP' (L.set i (n, (doneO B o).2)) → Stpp FP h FP' h' → Q (doneO B o).1 h') : F.epoch_Book_Done (some ⟨n, 0, none⟩) o h Q := by
  obtain ⟨bs, db, bh, _, st⟩ := b.step hi
  refine Done_spec bh fun h' b' o => ?_
  obtain ⟨FP', b2, s2, _⟩ := st h' bs _ b' (.of_only o)
  exact k h' FP' b2 s2
theorem drop_bk {c : Nat} {o : Int} {Q : Int → H → Prop} (b : BKs h0 h FP L) (hi : L[i]? = some (n, B)) (ok : Ok B c) (hc : c < 1000000) (k : ∀ h' FP', BKs h0 h' FP' (L.set i (n, (dropB B o).2)) → Stpp FP h FP' h' → Q (dropB B o).1 h') : F.epoch_Book_Drop (some ⟨n, 0, none⟩) o h Q := by
  obtain ⟨bs, db, bh, _, st⟩ := b.step hi
  refine Drop_spec bh (by have := ok.setlen o; omega) fun h' bs' b' s => ?_
  obtain ⟨FP', b2, s2, _⟩ := st h' bs' _ b' s
  exact k h' FP' b2 s2
theorem begin_bk {Q : Int → H → Prop} (b : BKs h0 h FP L) (hi : L[i]? = some (n, B)) (k : ∀ h' FP', BKs h0 h' FP' (L.set i (n, (beginB B).2)) → Stpp FP h FP' h' → Q (beginB B).1 h') : F.epoch_Book_Begin (some ⟨n, 0, none⟩) h Q := by
  obtain ⟨bs, db, bh, _, st⟩ := b.step hi
  refine Begin_spec bh fun h' b' o => ?_
  obtain ⟨FP', b2, s2, _⟩ := st h' bs _ b' (.of_only o)
  exact k h' FP' b2 s2
theorem end_bk {c : Nat} {Q : Int → Int → H → Prop} (b : BKs h0 h FP L) (hi : L[i]? = some (n, B)) (ok : Ok B c) (hc : c < 1000000) (k : ∀ h' FP', BKs h0 h' FP' (L.set i (n, (endB B).2.2)) → Stpp FP h FP' h' → Q (endB B).1 (endB B).2.1 h') : F.epoch_Book_End (some ⟨n, 0, none⟩) h Q := by
  obtain ⟨bs, db, bh, _, st⟩ := b.step hi
  refine End_spec bh (by have := ok.dielen; omega) fun h' b' o => ?_
  obtain ⟨FP', b2, s2, _⟩ := st h' bs _ b' (.of_only o)
  exact k h' FP' b2 s2
theorem twin_bk {Q : Option Addr → H → Prop} (b : BKs h0 h FP L) (hi : L[i]? = some (n, B)) (k : ∀ n' h' FP', BKs h0 h' FP' (L ++ [(n', B)]) → Stpp FP h FP' h' → Q (some ⟨n', 0, none⟩) h') : F.epoch_Book_Twin (some ⟨n, 0, none⟩) h Q := by
  obtain ⟨bs, db, bh, hFP, st⟩ := b.step hi
  refine Twin_spec bh fun n' bs' db' h' nb b' o hn => ?_
  obtain ⟨FP1, b2, s2, hF⟩ := st h' bs B b' (.of_only o)
  rw [set_same hi] at b2
  have hFe : FP1 = FP := funext fun x => propext (hF rfl x)
  rw [hFe] at b2
  obtain ⟨FP', b3, s3⟩ := b.add nb (s2.only) b2 hn
  exact k n' h' FP' b3 s3
theorem new_bk {pins : Int} {Q : Option Addr → Int → H → Prop} (b : BKs h0 h FP L) (k0 : (pins < 1 ∨ pins > 64) → Q none 1 h) (k : 1 ≤ pins → pins ≤ 64 → ∀ n h' FP', BKs h0 h' FP' (L ++ [(n, newB pins)]) → Stpp FP h FP' h' → Q (some ⟨n, 0, none⟩) 0 h') : F.epoch_New pins h Q := by
  refine New_spec k0 fun h1 h2 n bs db h' nb e hn => ?_
  obtain ⟨FP', b3, s3⟩ := b.add nb (e.only) (b.ext e) hn
  exact k h1 h2 n h' FP' b3 s3
end
end Go.Proofs.YtgcmojbajjajgaaGreat.V
