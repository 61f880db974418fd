/- The law EpochOwn: lists that are told are the caller's own; no condition. -/
import Derived.Test.YtgcmojbajjajgaaEk
namespace Go.Proofs.Ytgcmojbajjajgaa.V
open Go Go.Proofs.Ytgcmojbajjajgaa.V.N
set_option linter.unusedVariables false
set_option linter.unusedSimpArgs false
abbrev cL (s : Sl) : List Value := [s.enc]
theorem cL_len (s : Sl) : (cL s).length = 1 := rfl
theorem typ_ne {h : H} {s t : Sl} {e e' : TypeId} {n m : Nat} {cs ds : List Value} (a : Owns h s e n cs) (b : Owns h t e' m ds) (he : e ≠ e') {x : Nat} (hx : s.blk = some x) : t.blk ≠ some x := fun hy => by
  obtain ⟨_, ⟨h1, _⟩ | ⟨b1, c1, h1, h2, _⟩⟩ := a
  · simp [Sl.blk, h1] at hx
  · obtain ⟨_, ⟨g1, _⟩ | ⟨b2, c2, g1, g2, _⟩⟩ := b
    · simp [Sl.blk, g1] at hy
    · simp [Sl.blk, h1] at hx
      simp [Sl.blk, g1] at hy
      subst hx; subst hy
      unfold Blk at h2 g2
      rw [h2] at g2; cases g2; exact he rfl
/-- Rows of whole numbers, told by a table. -/
structure Rw (lo : Nat) (h : H) (tb : Sl) (R : List (Sl × List Int)) : Prop where
  tbl : Owns h tb tn_Slint 1 ((R.map (·.1)).flatMap cL)
  own : ∀ p ∈ R, Owns h p.1 3 1 (p.2.flatMap cI)
  dis : R.Pairwise (fun p q => ∀ x, p.1.blk = some x → q.1.blk ≠ some x)
  low : ∀ p ∈ R, ∀ x, p.1.blk = some x → lo ≤ x
  lowt : ∀ x, tb.blk = some x → lo ≤ x
section
variable {lo : Nat} {h h' : H} {tb : Sl} {R : List (Sl × List Int)}
theorem Rw.apart (w : Rw lo h tb R) {j k : Nat} {p q : Sl × List Int} (hj : R[j]? = some p) (hk : R[k]? = some q) (hne : j ≠ k) {x : Nat} (hx : p.1.blk = some x) : q.1.blk ≠ some x := fun hq => by
  have := w.dis
  rw [List.pairwise_iff_getElem] at this
  obtain ⟨h1, e1⟩ := List.getElem?_eq_some_iff.1 hj
  obtain ⟨h2, e2⟩ := List.getElem?_eq_some_iff.1 hk
  rcases Nat.lt_or_gt_of_ne hne with h | h
  · exact this j k h1 h2 h x (by rw [e1]; exact hx) (by rw [e2]; exact hq)
  · exact this k j h2 h1 h x (by rw [e2]; exact hq) (by rw [e1]; exact hx)
/-- Row k is other, maybe elsewhere. -/
theorem Rw.upd (w : Rw lo h tb R) {k : Nat} {p : Sl × List Int} {r : Sl} {L : List Int} (hk : R[k]? = some p) (o : Only (fun x => p.1.blk = some x ∨ tb.blk = some x) h h') (ho : Owns h' r 3 1 (L.flatMap cI)) (hr : r.blk = p.1.blk ∨ ∃ x, r.blk = some x ∧ h.size ≤ x) (hl : lo ≤ h.size)
    (ht : Owns h' tb tn_Slint 1 (((R.set k (r, L)).map (·.1)).flatMap cL)) : Rw lo h' tb (R.set k (r, L)) := by
  have hkl := (List.getElem?_eq_some_iff.1 hk).1
  have hp := w.own p (List.mem_of_getElem? hk)
  have hsome : ∀ x, r.blk = some x → p.1.blk = some x ∨ h.size ≤ x := fun x hx => by
    rcases hr with h1 | ⟨y, h1, h2⟩
    · exact .inl (h1 ▸ hx)
    · rw [h1] at hx; cases hx; exact .inr h2
  refine ⟨ht, fun q hq => ?_, ?_, fun q hq x hx => ?_, w.lowt⟩
  · obtain ⟨j, hj⟩ := List.mem_iff_getElem?.1 hq
    rw [List.getElem?_set] at hj
    by_cases e : k = j
    · rw [if_pos e, if_pos hkl] at hj; cases hj; exact ho
    · rw [if_neg e] at hj
      refine (w.own q (List.mem_of_getElem? hj)).only o fun x hx hf => ?_
      rcases hf with hf | hf
      · exact w.apart hk hj e hf hx
      · exact typ_ne w.tbl (w.own q (List.mem_of_getElem? hj)) (by decide) hf hx
  · have hd := w.dis
    rw [List.pairwise_iff_getElem] at hd ⊢
    intro a b ha hb hab x hx hx2
    simp only [List.length_set] at ha hb
    rw [List.getElem_set] at hx hx2
    have new : ∀ (j : Nat) (hj : j < R.length), k ≠ j → ∀ x, (R[j]).1.blk = some x → r.blk = some x → False := fun j hj hne x h1 h2 => by
      rcases hsome x h2 with h3 | h3
      · exact w.apart hk (List.getElem?_eq_getElem hj) hne h3 h1
      · have := (w.own _ (List.getElem_mem hj)).blk_lt h1; omega
    by_cases e1 : k = a
    · rw [if_pos e1] at hx
      rw [if_neg (by omega)] at hx2
      exact new b hb (by omega) x hx2 hx
    · rw [if_neg e1] at hx
      by_cases e2 : k = b
      · rw [if_pos e2] at hx2
        exact new a ha (by omega) x hx hx2
      · rw [if_neg e2] at hx2
        exact hd a b ha hb hab x hx hx2
  · rcases List.mem_or_eq_of_mem_set hq with hq | rfl
    · exact w.low q hq x hx
    · rcases hsome x hx with h1 | h1
      · exact w.low p (List.mem_of_getElem? hk) x h1
      · omega
theorem Rw.map_set {k : Nat} {p : Sl × List Int} {L : List Int} (hk : R[k]? = some p) : (R.set k (p.1, L)).map (·.1) = R.map (·.1) := by
  rw [List.map_set]
  exact set_same (by rw [List.getElem?_map, hk]; rfl)
/-- Row k, told by the table. -/
theorem Rw.at (w : Rw lo h tb R) {k : Nat} {p : Sl × List Int} (hk : R[k]? = some p) {K : Sl → Prop} (kk : K p.1) : idxA tb (k : Int) 1 fun a => ldL h a K := by
  have hkl := (List.getElem?_eq_some_iff.1 hk).1
  have hl := own_len cL_len (by omega) w.tbl
  rw [List.length_map] at hl
  obtain ⟨b, p1, p2⟩ := own_at cL_len (by omega) w.tbl (i := k) (x := p.1) (by rw [List.getElem?_map, hk]; rfl)
  refine idxA_of (i := k) p1 (by omega) rfl ((ldL_iff p2.one).2 kk)
theorem BKs.rw {h0 : H} {FP : Nat → Prop} {L : List (Nat × Bk)} (b : BKs h0 h FP L) {S : Nat → Prop} (o : Only S h h') (hs : ∀ x, S x → h0.size ≤ x ∧ ∃ c e, Blk h x c e ∧ e ≠ tn_epoch_Book) : BKs h0 h' FP L :=
  b.only o (fun x hx hf => by obtain ⟨_, c, e, h1, h2⟩ := hs x hf; exact h2 (b.kind hx h1)) fun x hx hf => by have := (hs x hf).1; omega
theorem Owns.isblk {s : Sl} {e : TypeId} {n : Nat} {cs : List Value} (o : Owns h s e n cs) {x : Nat} (hx : s.blk = some x) : ∃ c, Blk h x c e := by
  obtain ⟨_, ⟨h1, _⟩ | ⟨b, c, h1, h2, _⟩⟩ := o
  · simp [Sl.blk, h1] at hx
  · simp [Sl.blk, h1] at hx; subst hx; exact ⟨c, h2⟩
def fl (k n : Nat) : Int := -1000 * (k : Int) - (n : Int)
theorem fl_val {k n : Nat} (hk : k < 4) (hn : n < 100000) : IntKind.wrap .i64 ((IntKind.wrap .i64 (0 - (IntKind.wrap .i64 (1000 * (k : Int))))) - (n : Int)) = fl k n := by
  rw [w64 (n := 1000 * (k : Int)) (by omega) (by omega), w64 (n := 0 - 1000 * (k : Int)) (by omega) (by omega), w64 (by omega) (by omega)]
  unfold fl; omega
/-- Row k with its first n numbers written over. -/
def fill (k n : Nat) (L : List Int) : List Int := (List.range n).map (fl k) ++ L.drop n
theorem fill_zero (k : Nat) (L : List Int) : fill k 0 L = L := by simp [fill]
theorem fill_all (k : Nat) (L : List Int) : fill k L.length L = (List.range L.length).map (fl k) := by simp [fill]
theorem fill_len {k n : Nat} {L : List Int} (h : n ≤ L.length) : (fill k n L).length = L.length := by simp [fill]; omega
theorem fill_step {k n : Nat} {L : List Int} (h : n < L.length) : (fill k n L).set n (fl k n) = fill k (n + 1) L := by
  unfold fill
  rw [List.set_append_right _ _ (by simp), List.range_succ, List.map_append, List.append_assoc]
  congr 1
  simp only [List.length_map, List.length_range, Nat.sub_self, List.map_cons, List.map_nil]
  rw [List.drop_eq_getElem_cons h, List.set_cons_zero]; rfl
end
section
variable {h : H}
/-- What is known where a round's lists are in hand. -/
structure Hand (h1 h : H) (n m : Nat) (B : Bk) (tb : Sl) (R : List (Sl × List Int)) (Ls : List (List Int)) : Prop where
  bk : ∃ F, BKs h1 h F [(n, B), (m, B)]
  rw : Rw h1.size h tb R
  len : R.length = 4
  lens : Ls.length = 4
  small : ∀ l ∈ Ls, l.length < 90000
theorem EpochOwn_spec {pins : Int} {s1 : Sl} {S1 : List Stp9} {Q : Bool → H → Prop} (t1 : Reads h s1 4 (S1.flatMap (·.cells))) (k : ∀ h', Ext h h' → Q true h') : F.spatelaw9_EpochOwn pins s1 h Q := by
  have l1 := rd_len step_len (by omega) t1
  unfold F.spatelaw9_EpochOwn
  refine known_spec fun h1 e1 => ⟨fun g => by simp at g, fun _ => ?_⟩
  have j12 : ∀ x : Bool, (x = true ∨ (x = false ∧ s1.len ≤ 400 ∧ 1 ≤ pins ∧ pins ≤ 64)) → F.spatelaw9_EpochOwn.j12 Q pins s1 x h1 := by
    intro x hx
    unfold F.spatelaw9_EpochOwn.j12
    refine ⟨fun _ => k h1 e1, fun g => ?_⟩
    rcases hx with hx | ⟨_, b1, p1, p2⟩
    · rw [hx] at g; cases g
    rw [l1] at b1
    unfold F.spatelaw9_EpochOwn.j1
    refine new_bk (BKs.nil h1) (fun e => by omega) fun _ _ n h2 F2 q2 _ => new_bk q2 (fun e => by omega) fun _ _ m h3 F3 q3 _ => ?_
    refine ⟨fun g => by simp at g, fun _ => ⟨fun g => by simp at g, fun _ => ⟨fun g => by simp at g, fun _ => ?_⟩⟩⟩
    unfold F.spatelaw9_EpochOwn.j11 F.spatelaw9_EpochOwn.j2
    refine ⟨fun g => by simp at g, fun _ => ⟨S1.length + 1, ?_⟩⟩
    have key : ∀ (d i : Nat) (h' : H) (F' : Nat → Prop) (B : Bk), i ≤ S1.length → S1.length - i < d → BKs h1 h' F' [(n, B), (m, B)] → Ok B i → F.spatelaw9_EpochOwn.l3 Q d s1 (some ⟨n, 0, none⟩) (some ⟨m, 0, none⟩) (i : Int) h' := by
      intro d
      induction d with
      | zero => intro i h' F' B _ hm; omega
      | succ d ih =>
        intro i h' F' B hi hm b' ok
        unfold F.spatelaw9_EpochOwn.l3
        simp only [decide_eq_true_eq, decide_eq_false_iff_not]
        rw [l1]
        refine ⟨fun g => ?_, fun g => ?_⟩
        · obtain ⟨x, hx⟩ : ∃ x, S1[i]? = some x := ⟨_, List.getElem?_eq_getElem (by omega)⟩
          refine step_at (h0 := h) (e := e1.trans b'.ext0) t1 hx (e1.trans b'.ext0) ?_
          refine do_bk (i := 0) b' rfl ok (by omega) fun h4 F4 b4 st4 => ?_
          refine step_at (h0 := h) (e := e1.trans b4.ext0) t1 hx (e1.trans b4.ext0) ?_
          refine do_bk (i := 1) b4 rfl ok (by omega) fun h5 F5 b5 st5 => ?_
          have ok2 := ok.do_ x
          generalize hB : (doB B x).2 = C at b5 ok2
          replace b5 : BKs h1 h5 F5 [(n, C), (m, C)] := by
            have := b5; simp only [List.set_cons_zero, List.set_cons_succ, hB] at this; exact this
          refine held_bk (i := 0) b5 rfl ok2 (by omega) fun r1 h6 F6 b6 st6 w1 m1 => dying_bk (i := 0) b6 rfl ok2 (by omega) fun r2 h7 F7 b7 st7 w2 m2 => held_bk (i := 0) b7 rfl ok2 (by omega) fun r3 h8 F8 b8 st8 w3 m3 => dying_bk (i := 0) b8 rfl ok2 (by omega) fun r4 h9 F9 b9 st9 w4 m4 => ?_
          have w1b := b7.row st8 (b6.row st7 w1 (by decide)) (by decide)
          have w1' := b8.row st9 w1b (by decide)
          have w2' := b8.row st9 (b7.row st8 w2 (by decide)) (by decide)
          have w3' := b8.row st9 w3 (by decide)
          have hh1 := b5.ext0.size
          have hs67 := st7.only.size; have hs78 := st8.only.size; have hs89 := st9.only.size; have hs56 := st6.only.size
          refine newL_of fun tn h10 htn tb10 e10 s10 => ⟨5, ?_⟩
          have hto : Owns h10 ⟨some ⟨tn, 0, none⟩, 4, 4⟩ tn_Slint 1 ([r1, r2, r3, r4].flatMap cL) := blk_owns tb10 rfl (by simp [maxLen])
          have hb1 : ∀ x, r1.blk = some x → h5.size ≤ x ∧ x < h6.size := fun x hx => ⟨m1 x hx, w1.blk_lt hx⟩
          have hb2 : ∀ x, r2.blk = some x → h6.size ≤ x ∧ x < h7.size := fun x hx => ⟨m2 x hx, w2.blk_lt hx⟩
          have hb3 : ∀ x, r3.blk = some x → h7.size ≤ x ∧ x < h8.size := fun x hx => ⟨m3 x hx, w3.blk_lt hx⟩
          have hb4 : ∀ x, r4.blk = some x → h8.size ≤ x ∧ x < h9.size := fun x hx => ⟨m4 x hx, w4.blk_lt hx⟩
          have hrw : Rw h1.size h10 ⟨some ⟨tn, 0, none⟩, 4, 4⟩ [(r1, heldL C), (r2, dieL C), (r3, heldL C), (r4, dieL C)] := by
            refine ⟨hto, fun p hp => ?_, ?_, fun p hp x hx => ?_, fun x hx => ?_⟩
            · simp only [List.mem_cons, List.not_mem_nil, or_false] at hp
              rcases hp with rfl | rfl | rfl | rfl
              · exact w1'.ext e10
              · exact w2'.ext e10
              · exact w3'.ext e10
              · exact w4.ext e10
            · simp only [List.pairwise_cons, List.mem_cons, List.not_mem_nil, or_false]
              refine ⟨fun q hq x hx hx2 => ?_, fun q hq x hx hx2 => ?_, fun q hq x hx hx2 => ?_, fun q hq => hq.elim, .nil⟩
              · have := hb1 x hx
                rcases hq with rfl | rfl | rfl
                · have := hb2 x hx2; omega
                · have := hb3 x hx2; omega
                · have := hb4 x hx2; omega
              · have := hb2 x hx
                rcases hq with rfl | rfl
                · have := hb3 x hx2; omega
                · have := hb4 x hx2; omega
              · have := hb3 x hx
                subst hq
                have := hb4 x hx2; omega
            · simp only [List.mem_cons, List.not_mem_nil, or_false] at hp
              rcases hp with rfl | rfl | rfl | rfl
              · have := hb1 x hx; omega
              · have := hb2 x hx; omega
              · have := hb3 x hx; omega
              · have := hb4 x hx; omega
            · simp [Sl.blk] at hx; omega
          have hsm : ∀ l ∈ [heldL C, dieL C, heldL C, dieL C], l.length < 90000 := fun l hl => by
            have a1 := ok2.heldlen; have a2 := ok2.dielen
            simp only [List.mem_cons, List.not_mem_nil, or_false] at hl
            rcases hl with rfl | rfl | rfl | rfl <;> (try simp only [dieL, List.length_map]) <;> omega
          have hd0 : Hand h1 h10 n m C ⟨some ⟨tn, 0, none⟩, 4, 4⟩ [(r1, heldL C), (r2, dieL C), (r3, heldL C), (r4, dieL C)] [heldL C, dieL C, heldL C, dieL C] := ⟨⟨F9, b9.ext e10⟩, hrw, rfl, rfl, hsm⟩
          generalize (⟨some ⟨tn, 0, none⟩, 4, 4⟩ : Sl) = tb at hd0
          generalize hLs : [heldL C, dieL C, heldL C, dieL C] = Ls at hd0
          -- behind the fourth part: the books tell the same
          have tail : ∀ (h' : H) (F' : Nat → Prop), BKs h1 h' F' [(n, C), (m, C)] →
              (F.epoch_Book_Held (some ⟨n, 0, none⟩) h' fun r90 h89 => F.epoch_Book_Held (some ⟨m, 0, none⟩) h89 fun r92 h91 => F.spatelaw9_ints r90 r92 h91 fun r94 h93 =>
                ((!r94) = true → F.spatelaw9_EpochOwn.j10 Q (F.spatelaw9_EpochOwn.l3 Q d) s1 (some ⟨n, 0, none⟩) (some ⟨m, 0, none⟩) (i : Int) true h93) ∧
                ((!r94) = false → F.epoch_Book_Dying (some ⟨n, 0, none⟩) h93 fun r97 h96 => F.epoch_Book_Dying (some ⟨m, 0, none⟩) h96 fun r99 h98 => F.spatelaw9_ints r97 r99 h98 fun r101 h100 =>
                  F.spatelaw9_EpochOwn.j10 Q (F.spatelaw9_EpochOwn.l3 Q d) s1 (some ⟨n, 0, none⟩) (some ⟨m, 0, none⟩) (i : Int) (!r101) h100)) := by
            intro h' F' b'
            refine held_bk (i := 0) b' rfl ok2 (by omega) fun r3 h11 F11 b11 s11 w3 _ => held_bk (i := 1) b11 rfl ok2 (by omega) fun r4 h12 F12 b12 s12 w4 _ => ?_
            have w3' := b11.row s12 w3 (by decide)
            refine ints_spec w3'.reads w4.reads (by have := ok2.heldlen; omega) ?_
            refine ⟨fun g => by simp at g, fun _ => ?_⟩
            refine dying_bk (i := 0) b12 rfl ok2 (by omega) fun r5 h13 F13 b13 s13 w5 _ => dying_bk (i := 1) b13 rfl ok2 (by omega) fun r6 h14 F14 b14 s14 w6 _ => ?_
            have w5' := b13.row s14 w5 (by decide)
            refine ints_spec w5'.reads w6.reads (by have := ok2.dielen; simp [dieL]; omega) ?_
            unfold F.spatelaw9_EpochOwn.j10 F.spatelaw9_EpochOwn.j4
            refine ⟨fun g => by simp at g, fun _ => ?_⟩
            rw [w64n (by omega)]
            exact ih (i + 1) h14 F14 C (by omega) (by omega) b14 ok2
          have at4 : ∀ {α : Type} {l : List α} {j : Nat}, l.length = 4 → j < 4 → ∃ x, l[j]? = some x := fun {α l j} hl hj => ⟨_, List.getElem?_eq_getElem (by omega)⟩
          -- the lists' numbers are written over
          have part1 : ∀ (a c : Nat) (h' : H) (R : List (Sl × List Int)), c ≤ 4 → 4 - c < a → Hand h1 h' n m C tb R Ls → (∀ j p L, R[j]? = some p → Ls[j]? = some L → p.2 = if j < c then (List.range L.length).map (fl j) else L) →
              F.spatelaw9_EpochOwn.l5 Q (F.spatelaw9_EpochOwn.l3 Q d) a s1 (some ⟨n, 0, none⟩) (some ⟨m, 0, none⟩) (i : Int) tb (c : Int) h' := by
            -- the fourth part
            have part4 : ∀ (a c : Nat) (h' : H) (R : List (Sl × List Int)), c ≤ 4 → 4 - c < a → Hand h1 h' n m C tb R Ls → (∀ j p L, R[j]? = some p → Ls[j]? = some L → p.2 = (List.range L.length).map (fl j) ++ [7 + (j : Int)]) →
                F.spatelaw9_EpochOwn.l8 Q (F.spatelaw9_EpochOwn.l3 Q d) a s1 (some ⟨n, 0, none⟩) (some ⟨m, 0, none⟩) (i : Int) tb (c : Int) h' := by
              intro a
              induction a with
              | zero => intro c h' R _ hm; omega
              | succ a iha =>
                intro c h' R hc hm hd hR
                unfold F.spatelaw9_EpochOwn.l8
                simp only [decide_eq_true_eq, decide_eq_false_iff_not]
                refine ⟨fun g => ?_, fun g => ?_⟩
                · obtain ⟨p, hp⟩ := at4 hd.len (show c < 4 by omega)
                  obtain ⟨L, hL⟩ := at4 hd.lens (show c < 4 by omega)
                  have hp2 := hR c p L hp hL
                  have hLs := hd.small L (List.mem_of_getElem? hL)
                  have hown := hd.rw.own p (List.mem_of_getElem? hp)
                  have hpl : p.1.len = L.length + 1 := by
                    have := own_len cI_len (by omega) hown
                    rw [this, hp2]; simp
                  refine ⟨L.length + 1, ?_⟩
                  have row : ∀ (e z : Nat), z ≤ L.length → L.length - z < e → F.spatelaw9_EpochOwn.l9 Q (F.spatelaw9_EpochOwn.l3 Q d) (F.spatelaw9_EpochOwn.l8 Q (F.spatelaw9_EpochOwn.l3 Q d) a) e s1 (some ⟨n, 0, none⟩) (some ⟨m, 0, none⟩) (i : Int) tb (c : Int) (z : Int) h' := by
                    intro e
                    induction e with
                    | zero => intro z _ hm; omega
                    | succ e ihe =>
                      intro z hz hm
                      unfold F.spatelaw9_EpochOwn.l9
                      refine hd.rw.at hp ?_
                      rw [w64n (n := z) (by omega), hpl]
                      simp only [decide_eq_true_eq, decide_eq_false_iff_not]
                      refine ⟨fun g2 => hd.rw.at hp ?_, fun g2 => hd.rw.at hp (hd.rw.at hp ?_)⟩
                      · have hz2 : z < L.length := by omega
                        obtain ⟨b, q1, q2⟩ := own_at cI_len (by omega) hown (i := z) (x := fl c z) (by rw [hp2, List.getElem?_append_left (by simpa using hz2)]; simp [hz2])
                        refine idxA_of (i := z) q1 (by omega) rfl ((ldI_iff (n := fl c z) q2.one).2 ?_)
                        rw [fl_val (by omega) (by omega)]
                        exact ⟨fun g3 => by simp at g3, fun _ => ihe (z + 1) (by omega) (by omega)⟩
                      · rw [hpl, w64 (by omega) (by omega), w64 (by omega) (by omega)]
                        obtain ⟨b, q1, q2⟩ := own_at cI_len (by omega) hown (i := L.length) (x := 7 + (c : Int)) (by rw [hp2, List.getElem?_append_right (by simp)]; simp)
                        refine idxA_of (i := L.length) q1 (by omega) (by omega) ((ldI_iff (n := 7 + (c : Int)) q2.one).2 ?_)
                        refine ⟨fun g3 => by simp at g3, fun _ => ?_⟩
                        rw [w64n (by omega)]
                        exact iha (c + 1) h' R (by omega) (by omega) hd hR
                  exact row _ 0 (by omega) (by omega)
                · obtain ⟨F', b'⟩ := hd.bk
                  exact tail h' F' b'
            -- the second part: each grown by one
            have part2 : ∀ (a c : Nat) (h' : H) (R : List (Sl × List Int)), c ≤ 4 → 4 - c < a → Hand h1 h' n m C tb R Ls → (∀ j p L, R[j]? = some p → Ls[j]? = some L → p.2 = if j < c then (List.range L.length).map (fl j) ++ [7 + (j : Int)] else (List.range L.length).map (fl j)) →
                F.spatelaw9_EpochOwn.l7 Q (F.spatelaw9_EpochOwn.l3 Q d) a s1 (some ⟨n, 0, none⟩) (some ⟨m, 0, none⟩) (i : Int) tb (c : Int) h' := by
              intro a
              induction a with
              | zero => intro c h' R _ hm; omega
              | succ a iha =>
                intro c h' R hc hm hd hR
                unfold F.spatelaw9_EpochOwn.l7
                simp only [decide_eq_true_eq, decide_eq_false_iff_not]
                refine ⟨fun g => ?_, fun g => ⟨5, ?_⟩⟩
                · obtain ⟨p, hp⟩ := at4 hd.len (show c < 4 by omega)
                  obtain ⟨L, hL⟩ := at4 hd.lens (show c < 4 by omega)
                  have hp2 := hR c p L hp hL
                  rw [if_neg (by omega)] at hp2
                  have hLs := hd.small L (List.mem_of_getElem? hL)
                  have hown := hd.rw.own p (List.mem_of_getElem? hp)
                  refine hd.rw.at hp ?_
                  rw [w64 (n := 7 + (c : Int)) (by omega) (by omega)]
                  obtain ⟨F', b'⟩ := hd.bk
                  have hlo := b'.ext0.size
                  refine push_mine (h0 := h1) (7 + (c : Int)) b'.ext0 (hd.rw.low p (List.mem_of_getElem? hp)) cI_len (by omega) el_Slint hown (fun x => one1 rfl) (by rw [hp2]; simp; omega) fun r2 h2 w2 e2 m2 o2 n2 => ?_
                  -- the table's cell is written
                  have tb2 := hd.rw.tbl.only o2 fun x hx e => typ_ne hd.rw.tbl hown (by decide) hx e
                  have hkl := (List.getElem?_eq_some_iff.1 hp).1
                  have htl := own_len cL_len (by omega) tb2
                  rw [List.length_map] at htl
                  obtain ⟨tbb, q1, _⟩ := own_at cL_len (by omega) tb2 (i := c) (x := p.1) (by rw [List.getElem?_map, hp]; rfl)
                  refine idxA_of (i := c) q1 (by omega) rfl ?_
                  refine own_setAt (x := r2) cL_len tb2 q1 (by simpa using hkl) fun h3 tb3 o3 s3 => ?_
                  have htb : tb.blk = some tbb := by simp [Sl.blk, q1]
                  have w3 := w2.only o3 fun x hx e => typ_ne w2 tb2 (by decide) hx e
                  have oo : Only (fun x => p.1.blk = some x ∨ tb.blk = some x) h' h3 := (o2.mono fun x _ e => .inl e).trans (o3.mono (S' := fun x => tb.blk = some x) fun _ _ e => e) fun x _ e => .inr e
                  have hrw := hd.rw.upd hp oo w3 n2 hlo (by rw [List.map_set]; exact tb3)
                  rw [w64n (by omega)]
                  refine iha (c + 1) h3 _ (by omega) (by omega) ⟨⟨F', b'.rw oo fun x hx => ?_⟩, hrw, by simp [hd.len], hd.lens, hd.small⟩ fun j q L' hq hL' => ?_
                  · rcases hx with hx | hx
                    · obtain ⟨cc, hc⟩ := hown.isblk hx
                      exact ⟨hd.rw.low p (List.mem_of_getElem? hp) x hx, cc, _, hc, by decide⟩
                    · obtain ⟨cc, hc⟩ := hd.rw.tbl.isblk hx
                      exact ⟨hd.rw.lowt x hx, cc, _, hc, by decide⟩
                  · rw [List.getElem?_set] at hq
                    by_cases ej : c = j
                    · subst ej
                      rw [if_pos rfl, if_pos hkl] at hq
                      rw [hL] at hL'; cases hL'; cases hq
                      rw [if_pos (by omega), hp2]
                    · rw [if_neg ej] at hq
                      rw [hR j q L' hq hL']
                      by_cases h5 : j < c
                      · rw [if_pos h5, if_pos (by omega)]
                      · rw [if_neg h5, if_neg (by omega)]
                · have : c = 4 := by omega
                  subst this
                  refine part4 5 0 h' R (by omega) (by omega) hd fun j p L hp hL => ?_
                  have hj := (List.getElem?_eq_some_iff.1 hp).1
                  rw [hd.len] at hj
                  rw [hR j p L hp hL, if_pos hj]
            intro a
            induction a with
            | zero => intro c h' R _ hm; omega
            | succ a iha =>
              intro c h' R hc hm hd hR
              unfold F.spatelaw9_EpochOwn.l5
              simp only [decide_eq_true_eq, decide_eq_false_iff_not]
              refine ⟨fun g => ?_, fun g => ⟨5, ?_⟩⟩
              · obtain ⟨p, hp⟩ := at4 hd.len (show c < 4 by omega)
                obtain ⟨L, hL⟩ := at4 hd.lens (show c < 4 by omega)
                have hp2 := hR c p L hp hL
                rw [if_neg (by omega)] at hp2
                have hLs := hd.small L (List.mem_of_getElem? hL)
                refine ⟨L.length + 1, ?_⟩
                have row : ∀ (e z : Nat) (h' : H) (R' : List (Sl × List Int)), z ≤ L.length → L.length - z < e → Hand h1 h' n m C tb R' Ls → R'[c]? = some (p.1, fill c z L) → (∀ j, j ≠ c → R'[j]? = R[j]?) →
                    F.spatelaw9_EpochOwn.l6 Q (F.spatelaw9_EpochOwn.l3 Q d) (F.spatelaw9_EpochOwn.l5 Q (F.spatelaw9_EpochOwn.l3 Q d) a) e s1 (some ⟨n, 0, none⟩) (some ⟨m, 0, none⟩) (i : Int) tb (c : Int) (z : Int) h' := by
                  intro e
                  induction e with
                  | zero => intro z h' R' _ hm; omega
                  | succ e ihe =>
                    intro z h' R' hz hm hd' hc' hoth
                    unfold F.spatelaw9_EpochOwn.l6
                    have hown := hd'.rw.own _ (List.mem_of_getElem? hc')
                    have hpl : p.1.len = L.length := by
                      have := own_len cI_len (by omega) hown
                      rw [this, fill_len hz]
                    refine hd'.rw.at hc' ?_
                    simp only [decide_eq_true_eq, decide_eq_false_iff_not]
                    rw [hpl]
                    refine ⟨fun g2 => hd'.rw.at hc' ?_, fun g2 => ?_⟩
                    · have hz2 : z < L.length := by omega
                      obtain ⟨b, q1, _⟩ := own_at cI_len (by omega) hown (i := z) (x := (fill c z L)[z]'(by rw [fill_len hz]; exact hz2)) (by rw [List.getElem?_eq_getElem (by rw [fill_len hz]; exact hz2)])
                      refine idxA_of (i := z) q1 (by show z < p.1.len; omega) rfl ?_
                      rw [fl_val (by omega) (by omega)]
                      refine own_setAt (x := fl c z) cI_len hown q1 (by rw [fill_len hz]; exact hz2) fun h2 w2 o2 s2 => ?_
                      rw [fill_step hz2] at w2
                      obtain ⟨F', b'⟩ := hd'.bk
                      have hlo := b'.ext0.size
                      have tb2 := hd'.rw.tbl.only o2 fun x hx e => typ_ne hd'.rw.tbl hown (by decide) hx e
                      have oo : Only (fun x => p.1.blk = some x ∨ tb.blk = some x) h' h2 := o2.mono fun x _ e => .inl e
                      have hrw := hd'.rw.upd (r := p.1) (L := fill c (z + 1) L) hc' oo w2 (.inl rfl) hlo (by rw [Rw.map_set (p := (p.1, fill c z L)) hc']; exact tb2)
                      rw [w64n (by omega)]
                      have hkl := (List.getElem?_eq_some_iff.1 hc').1
                      refine ihe (z + 1) h2 _ (by omega) (by omega) ⟨⟨F', b'.rw oo fun x hx => ?_⟩, hrw, by simp [hd'.len], hd'.lens, hd'.small⟩ (set_at hkl) fun j hj => by rw [List.getElem?_set, if_neg (fun e => hj e.symm)]; exact hoth j hj
                      rcases hx with hx | hx
                      · obtain ⟨cc, hc⟩ := hown.isblk hx
                        exact ⟨hd'.rw.low _ (List.mem_of_getElem? hc') x hx, cc, _, hc, by decide⟩
                      · obtain ⟨cc, hc⟩ := hd'.rw.tbl.isblk hx
                        exact ⟨hd'.rw.lowt x hx, cc, _, hc, by decide⟩
                    · have : z = L.length := by omega
                      subst this
                      rw [w64n (by omega)]
                      refine iha (c + 1) h' R' (by omega) (by omega) hd' fun j q L' hq hL' => ?_
                      by_cases ej : j = c
                      · subst ej
                        rw [hc'] at hq; cases hq
                        rw [hL] at hL'; cases hL'
                        rw [if_pos (by omega)]
                        exact fill_all _ _
                      · rw [hoth j ej] at hq
                        rw [hR j q L' hq hL']
                        by_cases h5 : j < c
                        · rw [if_pos h5, if_pos (by omega)]
                        · rw [if_neg h5, if_neg (by omega)]
                exact row _ 0 h' R (by omega) (by omega) hd (by rw [fill_zero, ← hp2]; exact hp) fun j _ => rfl
              · have : c = 4 := by omega
                subst this
                refine part2 5 0 h' R (by omega) (by omega) hd fun j p L hp hL => ?_
                have hj := (List.getElem?_eq_some_iff.1 hp).1
                rw [hd.len] at hj
                rw [hR j p L hp hL, if_pos hj, if_neg (by omega)]
          refine part1 5 0 h10 _ (by omega) (by omega) hd0 fun j p L hp hL => ?_
          rw [if_neg (by omega)]
          subst hLs
          rcases j with _ | _ | _ | _ | j
          · simp at hp hL; subst hp; subst hL; rfl
          · simp at hp hL; subst hp; subst hL; rfl
          · simp at hp hL; subst hp; subst hL; rfl
          · simp at hp hL; subst hp; subst hL; rfl
          · simp at hp
        · refine alike_spec (i := 0) (j := 1) b' rfl rfl ok (by omega) fun h6 F6 b6 _ => k h6 (e1.trans b6.ext0)
    exact key _ 0 h3 F3 _ (by omega) (by omega) q3 .new
  refine ⟨fun g => j12 true (.inl rfl), fun g1 => ⟨fun g => j12 true (.inl rfl), fun g2 => j12 _ ?_⟩⟩
  simp only [decide_eq_false_iff_not] at g1 g2
  by_cases hp : pins > 64
  · exact .inl (by simp [hp])
  · exact .inr ⟨by simp [hp], by omega, by omega, by omega⟩
end
end Go.Proofs.Ytgcmojbajjajgaa.V
