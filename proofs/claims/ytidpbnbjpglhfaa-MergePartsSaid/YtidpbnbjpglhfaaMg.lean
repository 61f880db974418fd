/- The reference's Lists (chapter 8): it tells the same as the package's; the law MergeLists answers true; no condition. -/
import Derived.Test.YtidpbnbjpglhfaaMf
namespace Go.Proofs.Ytidpbnbjpglhfaa.V
open Go
set_option linter.unusedVariables false
set_option linter.unusedSimpArgs false

/-- The numbers that say how far each list is gone. -/
abbrev atsL (n : Nat) (f : Nat → Nat) : List Int := (List.range n).map fun i => (f i : Int)
theorem atsL_get {n : Nat} {f : Nat → Nat} {i : Nat} (h : i < n) : (atsL n f)[i]? = some (f i : Int) := by simp [atsL, h]
theorem atsL_set {n : Nat} {f : Nat → Nat} {k v : Nat} : (atsL n f).set k (v : Int) = atsL n (fun i => if i = k then v else f i) := by
  apply List.ext_getElem?
  intro i
  rw [List.getElem?_set]
  by_cases h : k = i
  · subst h
    by_cases hk : k < n <;> simp [atsL, hk]
  · have h' : ¬ i = k := fun e => h e.symm
    by_cases hi : i < n <;> simp [atsL, h, h', hi]
/-- List i; its next number. -/
abbrev li (LL : List (List Int)) (i : Nat) : List Int := LL.getD i []
theorem li_of {LL : List (List Int)} {i : Nat} (h : i < LL.length) : LL[i]? = some (li LL i) := by simp [li, List.getD, h]
/-- k is the place, below j, of a least next number; or there is none. -/
def Best (LL : List (List Int)) (f : Nat → Nat) (j : Nat) (k : Int) : Prop :=
  (k = -1 ∧ ∀ i, i < j → (li LL i).length ≤ f i) ∨ ∃ (q : Nat) (v : Int), k = (q : Int) ∧ q < j ∧ (li LL q)[f q]? = some v ∧ ∀ i w, i < j → (li LL i)[f i]? = some w → v ≤ w
theorem ref_inner {LL : List (List Int)} {SL : List Sl} {f : Nat → Nat} {h : H} {s0 s3 s4 : Sl} {Q : Sl → H → Prop} {C1 : Sl → Sl → Sl → H → Prop} (l0 : Lst h s0 cS SL) (ll : Lsts_int h SL LL) (l4 : Lst h s4 cI (atsL LL.length f)) (hn : LL.length < 1000) (hf : ∀ i, i < LL.length → f i ≤ (li LL i).length) (hb : ∀ i, (li LL i).length < 100000)
    (k : ∀ (kk : Int), Best LL f LL.length kk → F.spateref8_Lists.l2 Q C1 1 s0 s3 s4 kk (LL.length : Int) h) :
    ∀ (m j : Nat) (kk : Int), j ≤ LL.length → LL.length - j < m → Best LL f j kk → F.spateref8_Lists.l2 Q C1 m s0 s3 s4 kk (j : Int) h
  | 0, j, kk, _, hm, _ => by omega
  | m + 1, j, kk, hj, hm, hbest => by
    have hsl := l0.len cS_len
    have hsn : SL.length = LL.length := ll.1
    by_cases hjn : j = LL.length
    · subst hjn
      have := k kk hbest
      unfold F.spateref8_Lists.l2 at this ⊢
      rw [hsl, hsn] at this ⊢
      simp only [decide_eq_true_eq, decide_eq_false_iff_not] at this ⊢
      exact ⟨fun g => by omega, fun g => this.2 (by omega)⟩
    · unfold F.spateref8_Lists.l2
      rw [hsl, hsn]
      simp only [decide_eq_true_eq, decide_eq_false_iff_not]
      refine ⟨fun g => ?_, fun g => by omega⟩
      have hjl : j < LL.length := by omega
      have hget : ∀ {i : Nat} {n : Int} {K : Sl → Prop}, i < LL.length → n = (i : Int) → (∀ t, Lst h t cI (li LL i) → K t) → idxA s0 n 1 fun a => ldL h a fun y => K y := fun {i n K} hi hn kk => by
        obtain ⟨t, ht⟩ : ∃ t, SL[i]? = some t := ⟨_, List.getElem?_eq_getElem (by omega)⟩
        refine l0.get cS_len ht hn fun a ha => ?_
        rw [ldL_iff ha.one]
        exact kk t (ll.2 i t _ ht (li_of hi)).1
      have hat : ∀ {i : Nat} {n : Int} {K : Int → Prop}, i < LL.length → n = (i : Int) → K (f i : Int) → idxA s4 n 1 fun a => ldI .i64 h a fun y => K y := fun {i n K} hi hn kk => by
        refine l4.get cI_len (atsL_get hi) hn fun a ha => ?_
        rw [ldI_iff ha.one]
        exact kk
      refine hat hjl rfl (hget hjl rfl fun t lt => ?_)
      rw [lt.len cI_len]
      have hw : IntKind.wrap .i64 ((j : Int) + 1) = ((j + 1 : Nat) : Int) := by rw [w64 (by omega) (by omega)]; omega
      have hnew : ∀ v, (li LL j)[f j]? = some v → (∀ (q : Nat) (w : Int), kk = (q : Int) → (li LL q)[f q]? = some w → v ≤ w) → F.spateref8_Lists.j4 Q C1 (F.spateref8_Lists.l2 Q C1 m) s0 s3 s4 kk (j : Int) true h := fun v hv hle => by
        unfold F.spateref8_Lists.j4 F.spateref8_Lists.j3
        refine ⟨fun _ => ?_, fun h => by cases h⟩
        rw [hw]
        refine ref_inner l0 ll l4 hn hf hb k m (j + 1) _ (by omega) (by omega) (.inr ⟨j, v, rfl, by omega, hv, fun i w hi hww => ?_⟩)
        by_cases hij : i = j
        · subst hij; rw [hv] at hww; cases hww; exact Int.le_refl _
        · rcases hbest with ⟨_, h1⟩ | ⟨q, u, h1, h2, h3, h4⟩
          · have := (List.getElem?_eq_some_iff.1 hww).1
            have := h1 i (by omega); omega
          · have := hle q u h1 h3
            have := h4 i w (by omega) hww; omega
      have hold : (∀ v, (li LL j)[f j]? = some v → ∃ q u, kk = ((q : Nat) : Int) ∧ (li LL q)[f q]? = some u ∧ u ≤ v) → F.spateref8_Lists.j4 Q C1 (F.spateref8_Lists.l2 Q C1 m) s0 s3 s4 kk (j : Int) false h := fun hle => by
        unfold F.spateref8_Lists.j4 F.spateref8_Lists.j3
        refine ⟨(fun h => by cases h), fun _ => ?_⟩
        rw [hw]
        refine ref_inner l0 ll l4 hn hf hb k m (j + 1) _ (by omega) (by omega) ?_
        rcases hbest with ⟨h0, h1⟩ | ⟨q, u, h1, h2, h3, h4⟩
        · refine .inl ⟨h0, fun i hi => ?_⟩
          by_cases hij : i = j
          · subst hij
            rcases Nat.lt_or_ge (f i) (li LL i).length with hlt | hge
            · obtain ⟨q, u, e, _⟩ := hle _ (List.getElem?_eq_getElem hlt); omega
            · exact hge
          · exact h1 i (by omega)
        · refine .inr ⟨q, u, h1, by omega, h3, fun i w hi hww => ?_⟩
          by_cases hij : i = j
          · subst hij
            obtain ⟨q', u', e, e2, e3⟩ := hle w hww
            have : q' = q := by omega
            subst this; rw [h3] at e2; cases e2; exact e3
          · exact h4 i w (by omega) hww
      refine ⟨fun g1 => ⟨fun g2 => ?_, fun g2 => ?_⟩, fun g1 => hold fun v hv => ?_⟩
      · obtain ⟨v, hv⟩ : ∃ v, (li LL j)[f j]? = some v := ⟨_, List.getElem?_eq_getElem (by omega)⟩
        exact hnew v hv fun q w e _ => by omega
      · rcases hbest with ⟨h0, _⟩ | ⟨q, u, h1, h2, h3, h4⟩
        · omega
        · obtain ⟨v, hv⟩ : ∃ v, (li LL j)[f j]? = some v := ⟨_, List.getElem?_eq_getElem (by omega)⟩
          refine hget hjl rfl fun t1 lt1 => hat hjl rfl (lt1.get cI_len hv rfl fun a ha => ?_)
          rw [ldI_iff ha.one]
          refine hget (i := q) (by omega) h1 fun t2 lt2 => hat (i := q) (by omega) h1 (lt2.get cI_len h3 rfl fun a ha => ?_)
          rw [ldI_iff ha.one]
          by_cases hvu : v < u
          · rw [show decide (v < u) = true from by simp [hvu]]
            exact hnew v hv fun q' w e hw => by
              have : q' = q := by omega
              subst this; rw [h3] at hw; cases hw; omega
          · rw [show decide (v < u) = false from by simp [hvu]]
            exact hold fun v' hv' => ⟨q, u, h1, h3, by rw [hv] at hv'; cases hv'; omega⟩
      · have := (List.getElem?_eq_some_iff.1 hv).1; omega
/-- What is gone of the lists. -/
def Gone (LL : List (List Int)) (f : Nat → Nat) (z : Int) : Prop := ∃ i t, i < LL.length ∧ t < f i ∧ (li LL i)[t]? = some z
def leftN (LL : List (List Int)) (f : Nat → Nat) : Nat := ((List.range LL.length).map fun i => (li LL i).length - f i).sum
theorem sum_less {n k : Nat} {g g' : Nat → Nat} (hk : k < n) (h1 : g' k < g k) (h2 : ∀ i, i ≠ k → g' i = g i) : ((List.range n).map g').sum < ((List.range n).map g).sum := by
  induction n with
  | zero => omega
  | succ n ih =>
    rw [List.range_succ, List.map_append, List.map_append, List.sum_append, List.sum_append]
    simp only [List.map_cons, List.map_nil, List.sum_cons, List.sum_nil]
    by_cases hkn : k = n
    · subst hkn
      have : (List.range k).map g' = (List.range k).map g := List.map_congr_left fun i hi => h2 i (by have := List.mem_range.1 hi; omega)
      rw [this]; omega
    · have := ih (by omega)
      have := h2 n (fun e => hkn e.symm)
      omega
theorem ref_outer {LL : List (List Int)} {SL : List Sl} {h0 : H} {s0 : Sl} {Q : Sl → H → Prop} (hs0 : ∀ b, s0.blk = some b → b < h0.size) (hll0 : ∀ (i : Nat) (s : Sl), SL[i]? = some s → ∀ b, s.blk = some b → b < h0.size) (hn : LL.length < 1000) (hb : ∀ i, (li LL i).length < 100000) (hup : ∀ i, Up (li LL i))
    (k : ∀ r h' R, SUp R → (∀ z, z ∈ R ↔ ∃ A ∈ LL, z ∈ A) → Owns h' r 3 1 (R.flatMap cI) → Ext h0 h' → Mine h0 r → Q r h') :
    ∀ (m : Nat) (f : Nat → Nat) (h : H) (s3 s4 : Sl) (R : List Int), Ext h0 h → Lst h s0 cS SL → Lsts_int h SL LL → Owns h s3 3 1 (R.flatMap cI) → Mine h0 s3 → Owns h s4 3 1 ((atsL LL.length f).flatMap cI) → Mine h0 s4 → (∀ b, s3.blk = some b → s4.blk ≠ some b) → 
    (∀ i, i < LL.length → f i ≤ (li LL i).length) → SUp R → (∀ z, z ∈ R ↔ Gone LL f z) → (∀ z ∈ R, ∀ i w, i < LL.length → (li LL i)[f i]? = some w → z ≤ w) → R.length + leftN LL f ≤ 100000000000 → leftN LL f < m → F.spateref8_Lists.l1 Q m s0 s3 s4 h
  | 0, f, h, s3, s4, R, _, _, _, _, _, _, _, _, _, _, _, _, _, hm => by omega
  | m + 1, f, h, s3, s4, R, e0, l0, ll, ow, mi, o4, m4, hne, hf, hR, hmem, hle, hsz, hm => by
    unfold F.spateref8_Lists.l1
    refine ⟨LL.length + 1, ref_inner l0 ll o4.lst hn hf hb (fun kk hbest => ?_) (LL.length + 1) 0 (-1) (by omega) (by omega) (.inl ⟨rfl, fun i hi => by omega⟩)⟩
    have hsl := l0.len cS_len
    have hsn : SL.length = LL.length := ll.1
    unfold F.spateref8_Lists.l2
    rw [hsl, hsn]
    simp only [decide_eq_true_eq, decide_eq_false_iff_not]
    refine ⟨fun g => by omega, fun _ => ⟨fun g => ?_, fun g => ?_⟩⟩
    · rcases hbest with ⟨_, h1⟩ | ⟨q, u, h1, _⟩
      · refine k s3 h R hR (fun z => ?_) ow e0 mi
        rw [hmem]
        constructor
        · rintro ⟨i, t, hi, ht, hz⟩
          exact ⟨li LL i, List.mem_of_getElem? (li_of hi), List.mem_of_getElem? hz⟩
        · rintro ⟨A, hA, hz⟩
          obtain ⟨i, hi⟩ := List.mem_iff_getElem?.1 hA
          obtain ⟨t, ht⟩ := List.mem_iff_getElem?.1 hz
          have hil := (List.getElem?_eq_some_iff.1 hi).1
          have hA2 : li LL i = A := by have := li_of hil; rw [hi] at this; cases this; rfl
          refine ⟨i, t, hil, ?_, by rw [hA2]; exact ht⟩
          have := h1 i hil
          have := (List.getElem?_eq_some_iff.1 ht).1
          rw [hA2] at *; omega
      · omega
    · rcases hbest with ⟨h1, _⟩ | ⟨q, u, h1, hq, hu, hmin⟩
      · omega
      · subst h1
        obtain ⟨t, ht⟩ : ∃ t, SL[q]? = some t := ⟨_, List.getElem?_eq_getElem (by omega)⟩
        refine l0.get cS_len ht rfl fun a ha => ?_
        rw [ldL_iff ha.one]
        refine o4.lst.get cI_len (atsL_get hq) rfl fun a ha => ?_
        rw [ldI_iff ha.one]
        refine (ll.2 q t _ ht (li_of hq)).1.get cI_len hu rfl fun a ha => ?_
        rw [ldI_iff ha.one]
        have hrl := own_len cI_len (by omega) ow
        have hfq := hf q hq
        have hqb := hb q
        have hul := (List.getElem?_eq_some_iff.1 hu).1
        -- the number of that list goes on by one
        have hnext : ∀ (h1 : H) (s5 : Sl), Ext h0 h1 → Lst h1 s0 cS SL → Lsts_int h1 SL LL → Owns h1 s5 3 1 ((addM R u).flatMap cI) → Mine h0 s5 → Owns h1 s4 3 1 ((atsL LL.length f).flatMap cI) → (∀ b, s5.blk = some b → s4.blk ≠ some b) → F.spateref8_Lists.j5 Q (F.spateref8_Lists.l1 Q m) s0 s5 s4 (q : Int) h1 := fun h1 s5 x1 l01 ll1 ow5 mi5 o41 hne5 => by
          unfold F.spateref8_Lists.j5
          refine o41.lst.get cI_len (atsL_get hq) rfl fun a ha => ?_
          rw [ldI_iff ha.one]
          obtain ⟨b, a1, a2⟩ := own_at cI_len (by omega) o41 (atsL_get (f := f) hq)
          have h4l := own_len cI_len (by omega) o41
          refine idxA_of (i := q) a1 (by rw [h4l]; simp; omega) rfl ?_
          rw [show IntKind.wrap .i64 ((f q : Int) + 1) = ((f q + 1 : Nat) : Int) from by rw [w64 (by omega) (by omega)]; omega]
          refine own_setAt (f := cI) (k := 1) (x := ((f q + 1 : Nat) : Int)) cI_len o41 a1 (by simp; omega) fun h2 q1 q2 q3 => ?_
          rw [atsL_set] at q1
          have hmono : ∀ z ∈ addM R u, z ≤ u := fun z hz => by
            rcases addM_mem.1 hz with h | h
            · exact hle z h q u hq hu
            · omega
          refine ref_outer hs0 hll0 hn hb hup k m (fun i => if i = q then f q + 1 else f i) h2 s5 s4 (addM R u) (x1.mine m4 q2) (l01.only q2 fun b hb e => by have := hs0 b hb; have := m4 b e; omega) ⟨ll1.1, fun i s A g1 g2 => ⟨(ll1.2 i s A g1 g2).1.only q2 fun b hb e => by have := hll0 i s g1 b hb; have := m4 b e; omega, fun b hb => by have := (ll1.2 i s A g1 g2).2 b hb; have := q2.size; omega⟩⟩ (ow5.only q2 fun b hb e => hne5 b hb e) mi5 q1 m4 hne5 (fun i hi => ?_) ?_ (fun z => ?_) (fun z hz i w hi hw => ?_) ?_ ?_
          · show (if i = q then f q + 1 else f i) ≤ _
            split
            · rename_i e; subst e; omega
            · exact hf i hi
          · exact addM_sup hR fun z hz => hle z hz q u hq hu
          · rw [addM_mem, hmem]
            constructor
            · rintro (⟨i, t, hi, ht, hz⟩ | h)
              · refine ⟨i, t, hi, ?_, hz⟩
                show t < (if i = q then f q + 1 else f i)
                split
                · rename_i e; subst e; omega
                · exact ht
              · subst h; exact ⟨q, f q, hq, by simp, hu⟩
            · rintro ⟨i, t, hi, ht, hz⟩
              have ht : t < (if i = q then f q + 1 else f i) := ht
              split at ht
              · rename_i e; subst e
                by_cases htf : t = f i
                · subst htf; rw [hu] at hz; cases hz; exact .inr rfl
                · exact .inl ⟨i, t, hi, by omega, hz⟩
              · exact .inl ⟨i, t, hi, ht, hz⟩
          · have hzu := hmono z hz
            have hw : (li LL i)[if i = q then f q + 1 else f i]? = some w := hw
            split at hw
            · rename_i e; subst e
              have hs := hup i
              obtain ⟨g1, g2⟩ := List.getElem?_eq_some_iff.1 hu
              obtain ⟨g3, g4⟩ := List.getElem?_eq_some_iff.1 hw
              have := List.pairwise_iff_getElem.1 hs (f i) (f i + 1) g1 g3 (by omega)
              omega
            · have := hmin i w hi hw; omega
          · have h1 := addM_len R u
            have h2 : leftN LL (fun i => if i = q then f q + 1 else f i) < leftN LL f := sum_less hq (by show (li LL q).length - (if q = q then f q + 1 else f q) < (li LL q).length - f q; rw [if_pos rfl]; omega) fun i hi => by simp [hi]
            omega
          · have h2 : leftN LL (fun i => if i = q then f q + 1 else f i) < leftN LL f := sum_less hq (by show (li LL q).length - (if q = q then f q + 1 else f q) < (li LL q).length - f q; rw [if_pos rfl]; omega) fun i hi => by simp [hi]
            omega
        have hlay : R.getLast? ≠ some u → F.spateref8_Lists.j6 Q (F.spateref8_Lists.l1 Q m) s0 s3 s4 (q : Int) u true h := fun hl => by
          unfold F.spateref8_Lists.j6
          refine ⟨fun _ => ?_, fun h => by cases h⟩
          refine push_mine (f := cI) u e0 mi cI_len (by omega) elI ow (fun x => one1 rfl) (by omega) fun r h1 q1 q2 q3 q4 q5 => ?_
          have hadd : addM R u = R ++ [u] := by unfold addM; rw [if_neg hl]
          refine hnext h1 r q2 (l0.only q4 fun b hb e => by have := hs0 b hb; have := mi b e; omega) ⟨ll.1, fun i s A g1 g2 => ⟨(ll.2 i s A g1 g2).1.only q4 fun b hb e => by have := hll0 i s g1 b hb; have := mi b e; omega, fun b hb => by have := (ll.2 i s A g1 g2).2 b hb; have := q4.size; omega⟩⟩ (by rw [hadd]; exact q1) q3 (o4.only q4 fun b hb e => hne b e hb) fun b hb e => ?_
          rcases q5 with q5 | ⟨b', q5, q6⟩
          · exact hne b (by rw [← q5]; exact hb) e
          · rw [q5] at hb; cases hb; have := o4.blk_lt e; omega
        have hskip : R.getLast? = some u → F.spateref8_Lists.j6 Q (F.spateref8_Lists.l1 Q m) s0 s3 s4 (q : Int) u false h := fun hl => by
          unfold F.spateref8_Lists.j6
          refine ⟨(fun h => by cases h), fun _ => ?_⟩
          have hadd : addM R u = R := by unfold addM; rw [if_pos hl]
          exact hnext h s3 e0 l0 ll (by rw [hadd]; exact ow) mi o4 hne
        rw [hrl, beq_iff_eq, beq_eq_false_iff_ne]
        refine ⟨fun g => hlay fun e => ?_, fun g => ?_⟩
        · have : R = [] := List.eq_nil_of_length_eq_zero (by omega)
          subst this; simp at e
        · have hRn : R ≠ [] := fun e => by subst e; simp at g
          have hpos : 0 < R.length := List.length_pos_iff.2 hRn
          have hlast := List.getLast?_eq_some_getLast hRn
          obtain ⟨b, a1, a2⟩ := own_at cI_len (by omega) ow (i := R.length - 1) (x := R.getLast hRn) (by rw [← List.getLast?_eq_getElem?, hlast])
          refine idxA_of (i := R.length - 1) a1 (by omega) (by rw [w64 (by omega) (by omega)]; omega) ?_
          rw [ldI_iff a2.one]
          by_cases he : R.getLast hRn = u
          · rw [show (R.getLast hRn != u) = false from by simp [he]]
            exact hskip (by rw [hlast, he])
          · rw [show (R.getLast hRn != u) = true from by simp [he]]
            exact hlay fun e => he (by rw [hlast] at e; simpa using e)
end Go.Proofs.Ytidpbnbjpglhfaa.V
