/- The law ChainBook answers true; no condition. -/
import Derived.Test.YtapomjhjpejimaaCi
namespace Go.Proofs.Ytapomjhjpejimaa.V
open Go
set_option linter.unusedVariables false
set_option linter.unusedSimpArgs false

/-- A row of numbers is no part of a chain. -/
theorem Ch.off {h : H} {p : Nat} {L : List Ver} {B : Option Nat} {s : Sl} {cs : List Value} (c : Ch h p L B) (o : Owns h s 3 1 cs) : ∀ b, s.blk = some b → b ≠ p ∧ B ≠ some b := fun b hb => by
  obtain ⟨_, ⟨h1, _⟩ | ⟨b', c', h1, h2, _⟩⟩ := o
  · simp [Sl.blk, h1] at hb
  · simp [Sl.blk, h1] at hb; subst hb
    obtain ⟨s', k1, k2, k3, k4⟩ := c
    refine ⟨fun e => ?_, fun e => ?_⟩
    · subst e
      unfold Blk at h2 k1
      rw [h2] at k1; simp at k1
    · obtain ⟨_, ⟨g1, _⟩ | ⟨b'', c'', g1, g2, _⟩⟩ := k2
      · rw [← k3] at e; simp [Sl.blk, g1] at e
      · rw [← k3] at e; simp [Sl.blk, g1] at e; subst e
        unfold Blk at h2 g2
        rw [h2] at g2; simp at g2
theorem Pair.write {h0 h h' : H} {p q : Nat} {L M : List Ver} {B C : Option Nat} {s : Sl} {cs : List Value} (t : Pair h0 h p q L M B C) (o : Owns h s 3 1 cs) (m : Mine h0 s) (e : Only (fun b => s.blk = some b) h h') : Pair h0 h' p q L M B C :=
  t.only e (fun hb => (t.l.off o p hb).1 rfl) (fun hb => (t.r.off o q hb).1 rfl) (fun b hB hb => (t.l.off o b hb).2 hB) (fun b hC hb => (t.r.off o b hb).2 hC) fun n hn hb => by have := m n hb; omega
/-- A number that grew by one. -/
theorem wrap_succ {i : Nat} (h : i < 4294967296) : IntKind.wrap .i64 ((i : Int) + 1) = ((i + 1 : Nat) : Int) := by rw [w64 (by omega) (by omega)]; omega
section
variable {h0 : H} {p q : Nat} {x1 x2 : Sl} {Hd Mo : List Int} {Q : Bool → H → Prop}
/-- The end: asked again, with other numbers in the same memory. -/
theorem book_last (r2 : Reads h0 x2 1 (Mo.flatMap cI)) (hMo : Mo.length ≤ 300) (k : ∀ h', Ext h0 h' → Q true h') :
    ∀ (m i : Nat) (h : H) (L : List Ver) (x11 : Sl) (W : List Int), Two h0 h p q L L → Rise L → L.length ≤ 1000 → Owns h x11 3 1 (W.flatMap cI) → Mine h0 x11 → W.length ≤ 400 → i ≤ W.length → W.length - i < m → F.spatelaw5_ChainBook.l12 Q m x2 (some ⟨p, 0, none⟩) (some ⟨q, 0, none⟩) x11 (i : Int) h
  | 0, i, h, L, x11, W, _, _, _, _, _, _, _, hm => by omega
  | m + 1, i, h, L, x11, W, ⟨B, C, t⟩, hr, hL, ow, mi, hW, hi, hm => by
    unfold F.spatelaw5_ChainBook.l12
    have hl := own_len cI_len (by omega) ow
    have rd2 := r2.ext t.ext
    have hl2 := rd_len cI_len (by omega) rd2
    -- the end
    have hend : ∀ C1, F.spatelaw5_ChainBook.j14 Q C1 x2 (some ⟨p, 0, none⟩) (some ⟨q, 0, none⟩) x11 (i : Int) false h := fun C1 => by
      unfold F.spatelaw5_ChainBook.j14
      refine ⟨(fun h => by cases h), fun _ => ?_⟩
      refine newL_of fun n h1 e1 e2 e3 e4 => ?_
      have t1 := t.ext' e3
      refine app_mine (h0 := h) (f := cI) (L := []) e3 (fun b hb => by simp [Sl.blk] at hb; omega) cI_len (by omega) elI (show Owns h1 ⟨some ⟨n, 0, none⟩, 0, 0⟩ 3 1 _ from blk_owns (cs := []) e2 rfl (Nat.zero_le _)) (ow.ext e3).reads (fun x => one1 rfl) (by simp; omega) fun r h2 q1 q2 q3 q4 q5 => ?_
      have x2' : Ext h h2 := q2
      have t2 := t.ext' x2'
      have ow2 := ow.ext x2'
      refine t2.prune hr (by omega) (by omega) ow2.reads (fun _ b hb => ow2.blk_lt hb) fun h3 ⟨B3, t3⟩ o3 => ?_
      have hrp : ∀ b, r.blk = some b → b ≠ p := fun b hb => by have := q3 b hb; have := t.l.lt; omega
      have rr3 : Reads h3 r 1 (W.flatMap cI) := by simpa using q1.reads.only o3 fun b hb e => hrp b hb e
      have hs3 := o3.size
      refine t3.swap.prune hr (by omega) (by omega) rr3 (fun _ b hb => by have := q1.blk_lt hb; omega) fun h4 ⟨C4, t4⟩ o4 => ?_
      have t4 := t4.swap
      rw [beq_iff_eq, beq_eq_false_iff_ne]
      refine ⟨fun _ => ?_, fun g => absurd rfl g⟩
      have hpl := prune_le L W
      refine told_spec t4.l (by omega) fun u1 h5 w1 w2 w3 => ?_
      have t5 := t4.ext' w2
      refine told_spec t5.r (by omega) fun u2 h6 v1 v2 v3 => ?_
      refine even_spec (w1.ext v2).reads v1.reads (by simp; omega) ⟨fun _ => ?_, fun h => by cases h⟩
      have hqb : ∀ b, x11.blk = some b → b ≠ p ∧ b ≠ q := fun b hb => ⟨(t2.l.off ow2 b hb).1, (t2.r.off ow2 b hb).1⟩
      have e46 : Ext h4 h6 := w2.trans v2
      have ra : Reads h6 x11 1 (W.flatMap cI) := ((ow2.reads.only o3 fun b hb e => (hqb b hb).1 e).only o4 fun b hb e => (hqb b hb).2 e).ext e46
      have rb : Reads h6 r 1 (W.flatMap cI) := (rr3.only o4 fun b hb e => by have := q3 b hb; have := t.r.lt; omega).ext e46
      exact even_spec ra rb (by omega) (k h6 (t4.ext.trans e46))
    rw [hl, hl2]
    simp only [decide_eq_true_eq, decide_eq_false_iff_not]
    refine ⟨fun g => ?_, fun g => hend _⟩
    by_cases hm2 : i < Mo.length
    · rw [show decide ((i : Int) < (Mo.length : Int)) = true from by simp; omega]
      unfold F.spatelaw5_ChainBook.j14
      refine ⟨fun _ => ?_, fun h => by cases h⟩
      unfold F.spatelaw5_ChainBook.j13
      obtain ⟨x, hx⟩ : ∃ x, Mo[i]? = some x := ⟨_, List.getElem?_eq_getElem hm2⟩
      obtain ⟨pp, a1, a2, a3⟩ := rd_at cI_len (by omega) rd2 hx
      refine idxR_of (i := i) a1 (by omega) rfl ?_
      rw [ldI_iff a3.one]
      obtain ⟨v, hv⟩ : ∃ v, W[i]? = some v := ⟨_, List.getElem?_eq_getElem (by omega)⟩
      obtain ⟨b, b1, b2⟩ := own_at cI_len (by omega) ow hv
      refine idxA_of (i := i) b1 (by omega) rfl ?_
      refine own_setAt (f := cI) (k := 1) (x := x) cI_len ow b1 (by omega) fun h1 q1 q2 q3 => ?_
      rw [wrap_succ (by omega)]
      exact book_last r2 hMo k m (i + 1) h1 L x11 _ ⟨B, C, t.write ow mi q2⟩ hr hL q1 mi (by simpa using hW) (by simp; omega) (by simp; omega)
    · rw [show decide ((i : Int) < (Mo.length : Int)) = false from by simp; omega]
      exact hend _
/-- The lent list is looked at, and written over. -/
theorem book_look (r1 : Reads h0 x1 1 (Hd.flatMap cI)) (hHd : Hd.length ≤ 300) (r2 : Reads h0 x2 1 (Mo.flatMap cI)) (hMo : Mo.length ≤ 300) (k : ∀ h', Ext h0 h' → Q true h') {L : List Ver} (hr : Rise L) (hL : L.length ≤ 1000) :
    ∀ (m i : Nat) (h : H) (x11 : Sl) (W : List Int), Two h0 h p q (pruneM L Hd) L → Owns h x11 3 1 (W.flatMap cI) → Mine h0 x11 → W.length = Hd.length + 4 → (∀ t, i ≤ t → t < Hd.length → W[t]? = Hd[t]?) → (∀ t, i ≤ t → Hd.length ≤ t → t < Hd.length + 4 → W[t]? = some (-9 - (t : Int))) → i ≤ Hd.length + 4 → Hd.length + 4 - i < m →
    F.spatelaw5_ChainBook.l7 Q m x1 x2 (some ⟨p, 0, none⟩) (some ⟨q, 0, none⟩) x11 ((L.length : Int) - ((pruneM L Hd).length : Int)) (i : Int) h
  | 0, i, h, x11, W, _, _, _, _, _, _, _, hm => by omega
  | m + 1, i, h, x11, W, ⟨B, C, t⟩, ow, mi, hW, w1, w2, hi, hm => by
    unfold F.spatelaw5_ChainBook.l7
    have hl := own_len cI_len (by omega) ow
    have rd1 := r1.ext t.ext
    have hl1 := rd_len cI_len (by omega) rd1
    rw [hl, hl1]
    simp only [decide_eq_true_eq, decide_eq_false_iff_not]
    -- on to the next place
    have hnext : i < Hd.length + 4 → F.spatelaw5_ChainBook.j10 Q (F.spatelaw5_ChainBook.l7 Q m) x1 x2 (some ⟨p, 0, none⟩) (some ⟨q, 0, none⟩) x11 ((L.length : Int) - ((pruneM L Hd).length : Int)) (i : Int) false h := fun hlt => by
      unfold F.spatelaw5_ChainBook.j10
      refine ⟨(fun h => by cases h), fun _ => ?_⟩
      unfold F.spatelaw5_ChainBook.j9 F.spatelaw5_ChainBook.j8
      obtain ⟨v, hv⟩ : ∃ v, W[i]? = some v := ⟨_, List.getElem?_eq_getElem (by omega)⟩
      obtain ⟨b, b1, b2⟩ := own_at cI_len (by omega) ow hv
      refine idxA_of (i := i) b1 (by omega) rfl ?_
      refine own_setAt (f := cI) (k := 1) (x := 3) cI_len ow b1 (by omega) fun h1 q1 q2 q3 => ?_
      rw [wrap_succ (by omega)]
      refine book_look r1 hHd r2 hMo k hr hL m (i + 1) h1 x11 _ ⟨B, C, t.write ow mi q2⟩ q1 mi (by simpa using hW) (fun t ht h2 => ?_) (fun t ht h2 h3 => ?_) (by omega) (by omega)
      · rw [List.getElem?_set, if_neg (by omega)]; exact w1 t (by omega) h2
      · rw [List.getElem?_set, if_neg (by omega)]; exact w2 t (by omega) h2 h3
    refine ⟨fun g => ⟨fun g1 => ?_, fun g1 => ⟨fun _ => ?_, fun g2 => by omega⟩⟩, fun g => ?_⟩
    · obtain ⟨v, hv⟩ : ∃ v, Hd[i]? = some v := ⟨_, List.getElem?_eq_getElem (by omega)⟩
      obtain ⟨b, b1, b2⟩ := own_at cI_len (by omega) ow (i := i) (x := v) (by rw [w1 i (Nat.le_refl _) (by omega), hv])
      refine idxA_of (i := i) b1 (by omega) rfl ?_
      rw [ldI_iff b2.one]
      obtain ⟨pp, a1, a2, a3⟩ := rd_at cI_len (by omega) rd1 hv
      refine idxR_of (i := i) a1 (by omega) rfl ?_
      rw [ldI_iff a3.one, bne_iff_ne, bne_eq_false_iff_eq]
      refine ⟨fun g => absurd rfl g, fun _ => ⟨fun g2 => by omega, fun _ => hnext (by omega)⟩⟩
    · obtain ⟨b, b1, b2⟩ := own_at cI_len (by omega) ow (i := i) (x := -9 - (i : Int)) (w2 i (Nat.le_refl _) (by omega) (by omega))
      refine idxA_of (i := i) b1 (by omega) rfl ?_
      rw [ldI_iff b2.one, w64 (by omega) (by omega), show ((-9 - (i : Int)) != (-9 - (i : Int))) = false from by simp]
      exact hnext (by omega)
    · have hii : i = Hd.length + 4 := by omega
      refine newL_of fun n h1 e1 e2 e3 e4 => ?_
      have t1 := t.ext' e3
      refine app_mine (h0 := h) (f := cI) (L := []) e3 (fun b hb => by simp [Sl.blk] at hb; omega) cI_len (by omega) elI (show Owns h1 ⟨some ⟨n, 0, none⟩, 0, 0⟩ 3 1 _ from blk_owns (cs := []) e2 rfl (Nat.zero_le _)) (rd1.ext e3) (fun x => one1 rfl) (by simp; omega) fun r h2 q1 q2 q3 q4 q5 => ?_
      have t2 := t.ext' q2
      have ow2 := ow.ext q2
      have rr : Reads h2 r 1 (Hd.flatMap cI) := by simpa using q1.reads
      refine t2.swap.prune hr (by omega) (by omega) rr (fun _ b hb => q1.blk_lt hb) fun h3 ⟨C3, t3⟩ o3 => ?_
      have t3 := t3.swap
      have ow3 : Owns h3 x11 3 1 (W.flatMap cI) := ow2.only o3 fun b hb e => (t2.r.off ow2 b hb).1 e
      rw [bne_iff_ne, bne_eq_false_iff_eq]
      refine ⟨fun g => absurd rfl g, fun _ => ?_⟩
      have hpl := prune_le L Hd
      refine told_spec t3.l (by omega) fun u1 h5 y1 y2 y3 => ?_
      have t5 := t3.ext' y2
      refine told_spec t5.r (by omega) fun u2 h6 v1 v2 v3 => ?_
      refine even_spec (y1.ext v2).reads v1.reads (by simp; omega) ?_
      unfold F.spatelaw5_ChainBook.j15
      refine ⟨(fun h => by cases h), fun _ => ⟨W.length + 1, ?_⟩⟩
      exact book_last r2 hMo k _ 0 h6 _ x11 W ⟨B, C3, (t3.ext' y2).ext' v2⟩ (rise_prune hr _) (by omega) (ow3.ext (y2.trans v2)) mi (by omega) (by omega) (by omega)
/-- Marks are laid in the lent list's spare room. -/
theorem book_fill (r1 : Reads h0 x1 1 (Hd.flatMap cI)) (hHd : Hd.length ≤ 300) (r2 : Reads h0 x2 1 (Mo.flatMap cI)) (hMo : Mo.length ≤ 300) (k : ∀ h', Ext h0 h' → Q true h') {L : List Ver} (hr : Rise L) (hL : L.length ≤ 1000) :
    ∀ (m i : Nat) (h : H) (x11 : Sl) (W : List Int), Two h0 h p q L L → Owns h x11 3 1 (W.flatMap cI) → Mine h0 x11 → W.length = Hd.length + 4 → (∀ t, t < Hd.length → W[t]? = Hd[t]?) → (∀ t, Hd.length ≤ t → t < i → W[t]? = some (-9 - (t : Int))) → Hd.length ≤ i → i ≤ Hd.length + 4 → Hd.length + 4 - i < m →
    F.spatelaw5_ChainBook.l6 Q m x1 x2 (some ⟨p, 0, none⟩) (some ⟨q, 0, none⟩) x11 (i : Int) h
  | 0, i, h, x11, W, _, _, _, _, _, _, _, _, hm => by omega
  | m + 1, i, h, x11, W, ⟨B, C, t⟩, ow, mi, hW, w1, w2, hi0, hi, hm => by
    unfold F.spatelaw5_ChainBook.l6
    have hl := own_len cI_len (by omega) ow
    have rd1 := r1.ext t.ext
    have hl1 := rd_len cI_len (by omega) rd1
    rw [hl, hl1]
    simp only [decide_eq_true_eq, decide_eq_false_iff_not]
    refine ⟨fun g => ?_, fun g => ?_⟩
    · obtain ⟨v, hv⟩ : ∃ v, W[i]? = some v := ⟨_, List.getElem?_eq_getElem (by omega)⟩
      obtain ⟨b, b1, b2⟩ := own_at cI_len (by omega) ow hv
      refine idxA_of (i := i) b1 (by omega) rfl ?_
      rw [w64 (n := -9 - (i : Int)) (by omega) (by omega)]
      refine own_setAt (f := cI) (k := 1) (x := -9 - (i : Int)) cI_len ow b1 (by omega) fun h1 q1 q2 q3 => ?_
      rw [wrap_succ (by omega)]
      refine book_fill r1 hHd r2 hMo k hr hL m (i + 1) h1 x11 _ ⟨B, C, t.write ow mi q2⟩ q1 mi (by simpa using hW) (fun t ht => ?_) (fun t ht h2 => ?_) (by omega) (by omega) (by omega)
      · rw [List.getElem?_set, if_neg (by omega)]; exact w1 t ht
      · rw [List.getElem?_set]
        split
        · rename_i e; subst e; rw [if_pos (by omega)]
        · exact w2 t ht (by omega)
    · have hcap := ow.le_cap
      refine cutL_of (lo := 0) (hi := Hd.length) rfl rfl (by omega) (by omega) ?_
      have hc := cut_reads cI_len (by omega) ow.reads (lo := 0) (hi := Hd.length) (by omega) (by omega) hcap
      have htk : (W.drop 0).take (Hd.length - 0) = Hd := by
        apply List.ext_getElem?
        intro t
        rw [List.drop_zero, Nat.sub_zero]
        by_cases ht : t < Hd.length
        · rw [List.getElem?_take_of_lt ht, w1 t ht]
        · rw [List.getElem?_eq_none (by simp; omega), List.getElem?_eq_none (by omega)]
      rw [htk] at hc
      refine t.prune hr (by omega) (by omega) hc (fun _ b hb => ow.blk_lt (by rw [← slcut_blk]; exact hb)) fun h1 ⟨B1, t1⟩ o1 => ⟨Hd.length + 5, ?_⟩
      have ow1 : Owns h1 x11 3 1 (W.flatMap cI) := ow.only o1 fun b hb e => (t.l.off ow b hb).1 e
      exact book_look r1 hHd r2 hMo k hr hL _ 0 h1 x11 W ⟨B1, C, t1⟩ ow1 mi hW (fun t _ h => w1 t h) (fun t _ h2 h3 => w2 t h2 (by omega)) (by omega) (by omega)
/-- The chains are built. -/
theorem book_build {x0 : Sl} {A : List Int} (r0 : Reads h0 x0 1 (A.flatMap cI)) (hA : A.length < 10000000000000000000) (r1 : Reads h0 x1 1 (Hd.flatMap cI)) (hHd : Hd.length ≤ 300) (r2 : Reads h0 x2 1 (Mo.flatMap cI)) (hMo : Mo.length ≤ 300) (k : ∀ h', Ext h0 h' → Q true h') :
    ∀ (m i e : Nat) (h : H) (L : List Ver), Two h0 h p q L L → Rise L → L.length ≤ i → e ≤ 6 * i → i ≤ 200 → 200 - i < m → F.spatelaw5_ChainBook.l2 Q m x0 x1 x2 (some ⟨p, 0, none⟩) (some ⟨q, 0, none⟩) (e : Int) (i : Int) h
  | 0, i, e, h, L, _, _, _, _, _, hm => by omega
  | m + 1, i, e, h, L, ⟨B, C, t⟩, hr, hL, he, hi, hm => by
    unfold F.spatelaw5_ChainBook.l2
    have rd0 := r0.ext t.ext
    have hl0 := rd_len cI_len (by omega) rd0
    have rd1 := r1.ext t.ext
    have hl1 := rd_len cI_len (by omega) rd1
    -- what is done with the chains
    have hend : ∀ C1, F.spatelaw5_ChainBook.j5 Q C1 x0 x1 x2 (some ⟨p, 0, none⟩) (some ⟨q, 0, none⟩) (e : Int) (i : Int) false h := fun C1 => by
      unfold F.spatelaw5_ChainBook.j5
      refine ⟨(fun h => by cases h), fun _ => ?_⟩
      rw [hl1, show IntKind.wrap .i64 ((Hd.length : Int) + 4) = ((Hd.length + 4 : Nat) : Int) from by rw [w64 (by omega) (by omega)]; omega]
      refine make_of elI (by omega) (by simp only [maxLen]; omega) fun b h1 n1 n2 n3 => ?_
      rw [show (Value.int .i64 0).cells = #[.int .i64 0] from rfl, Nat.mul_one, made_one, ← flat_replicate cI 0 (.int .i64 0) rfl] at n2
      have t1 := t.ext' n3
      have mi : Mine h0 ⟨some ⟨b, 0, none⟩, Hd.length + 4, Hd.length + 4⟩ := fun x hx => by simp [Sl.blk] at hx; have := t.ext.size; omega
      refine copy_of (f := cI) cI_len (by omega) elI n2 (r1.ext t1.ext) (fun x => one1 rfl) (by simp) (by omega) fun h2 q1 q2 q3 => ⟨5, ?_⟩
      refine book_fill r1 hHd r2 hMo k hr (by omega) 5 Hd.length h2 _ _ ⟨B, C, t1.write n2 mi q2⟩ q1 mi (by simp) (fun t ht => ?_) (fun t h1 h2 => by omega) (Nat.le_refl _) (by omega) (by omega)
      rw [List.getElem?_append_left ht]
    rw [hl0]
    simp only [decide_eq_true_eq, decide_eq_false_iff_not]
    refine ⟨fun g => ?_, fun g => hend _⟩
    by_cases h200 : i < 200
    · rw [show decide ((i : Int) < 200) = true from by simp; omega]
      unfold F.spatelaw5_ChainBook.j5
      refine ⟨fun _ => ?_, fun h => by cases h⟩
      unfold F.spatelaw5_ChainBook.j3
      obtain ⟨v, hv⟩ : ∃ v, A[i]? = some v := ⟨_, List.getElem?_eq_getElem (by omega)⟩
      obtain ⟨pp, a1, a2, a3⟩ := rd_at cI_len (by omega) rd0 hv
      refine idxR_of (i := i) a1 (by omega) rfl ?_
      rw [ldI_iff a3.one]
      refine within_spec (by omega) (by omega) fun w hw => ?_
      refine idxR_of (i := i) a1 (by omega) rfl ?_
      rw [ldI_iff a3.one]
      have hpos : IntKind.wrap .i64 (IntKind.wrap .i64 ((e : Int) + 1) + (w : Int)) = ((e + 1 + w : Nat) : Int) := by
        rw [w64 (n := (e : Int) + 1) (by omega) (by omega), w64 (by omega) (by omega)]; omega
      rw [hpos]
      have hnext : ∀ h' L', Two h0 h' p q L' L' → Rise L' → L'.length ≤ i + 1 → F.spatelaw5_ChainBook.j4 Q (F.spatelaw5_ChainBook.l2 Q m) x0 x1 x2 (some ⟨p, 0, none⟩) (some ⟨q, 0, none⟩) ((e + 1 + w : Nat) : Int) (i : Int) h' := fun h' L' t' hr' hl' => by
        unfold F.spatelaw5_ChainBook.j4
        rw [wrap_succ (by omega)]
        exact book_build r0 hA r1 hHd r2 hMo k m (i + 1) _ h' L' t' hr' hl' (by omega) (by omega) (by omega)
      refine ⟨by omega, fun g => ?_, fun g => ?_⟩
      · refine t.kill (by omega) fun n1 g1 h1 ⟨B1, t1⟩ o1 => ?_
        refine t1.swap.kill (by omega) fun n2 g2 h2 ⟨C2, t2⟩ o2 => ?_
        exact hnext h2 _ ⟨B1, C2, t2.swap⟩ (rise_kill hr _) (by have := kill_len L ((e + 1 + w : Nat) : Int); omega)
      · refine t.put (by omega) fun n1 g1 h1 ⟨B1, t1⟩ o1 => ?_
        refine t1.swap.put (by omega) fun n2 g2 h2 ⟨C2, t2⟩ o2 => ?_
        exact hnext h2 _ ⟨B1, C2, t2.swap⟩ (rise_put hr _ _) (by have := put_len L ((e + 1 + w : Nat) : Int) (i : Int); omega)
    · rw [show decide ((i : Int) < 200) = false from by simp; omega]
      exact hend _
theorem ChainBook_spec {x0 : Sl} {A : List Int} (r0 : Reads h0 x0 1 (A.flatMap cI) ∧ x0.len ≤ x0.cap) (r1 : Reads h0 x1 1 (Hd.flatMap cI) ∧ x1.len ≤ x1.cap) (r2 : Reads h0 x2 1 (Mo.flatMap cI) ∧ x2.len ≤ x2.cap) (b0 : A ≠ [] → ∀ b, x0.blk = some b → b < h0.size) (b1 : Hd ≠ [] → ∀ b, x1.blk = some b → b < h0.size) (b2 : Mo ≠ [] → ∀ b, x2.blk = some b → b < h0.size)
    (n0 : A.length < 10000000000000000000) (n1 : Hd.length < 10000000000000000000) (n2 : Mo.length < 10000000000000000000) (i0 : ∀ q ∈ A, -9223372036854775808 ≤ q ∧ q < 9223372036854775808) (i1 : ∀ q ∈ Hd, -9223372036854775808 ≤ q ∧ q < 9223372036854775808) (i2 : ∀ q ∈ Mo, -9223372036854775808 ≤ q ∧ q < 9223372036854775808) (k : ∀ h', Ext h0 h' → Q true h') : F.spatelaw5_ChainBook x0 x1 x2 h0 Q := by
  unfold F.spatelaw5_ChainBook
  refine known_spec fun h1 e1 => ⟨(fun h => by cases h), fun _ => ?_⟩
  have hl1 := rd_len cI_len (by omega) r1.1
  have hl2 := rd_len cI_len (by omega) r2.1
  rw [hl1, hl2]
  unfold F.spatelaw5_ChainBook.j16
  simp only [decide_eq_true_eq, decide_eq_false_iff_not]
  refine ⟨fun _ => ⟨fun _ => k h1 e1, fun h => by cases h⟩, fun g1 => ⟨fun _ => k h1 e1, fun g2 => ?_⟩⟩
  unfold F.spatelaw5_ChainBook.j1
  refine New_spec fun p h2 hp c2 e2 => New_spec fun q h3 hq c3 e3 => ⟨201, ?_⟩
  have s1 := e1.size
  have s2 := e2.size
  have hpl := c2.lt
  exact book_build r0.1 n0 r1.1 (by omega) r2.1 (by omega) k 201 0 0 h3 [] ⟨none, none, c2.ext e3, c3, by omega, by simp, by simp, (fun b hb => by cases hb), (e1.trans e2).trans e3, by omega, by omega, (fun b hb => by cases hb), (fun b hb => by cases hb)⟩ List.Pairwise.nil (by simp) (by omega) (by omega) (by omega)
end
end Go.Proofs.Ytapomjhjpejimaa.V
