/- The law MergeLists answers true; no condition. -/
import Derived.Test.YtidpbnbjpglhfaaMg
namespace Go.Proofs.Ytidpbnbjpglhfaa.V
open Go
set_option linter.unusedVariables false
set_option linter.unusedSimpArgs false

theorem refLists_spec {h : H} {s0 : Sl} {SL : List Sl} {LL : List (List Int)} {Q : Sl → H → Prop} (l0 : Lst h s0 cS SL) (ll : Lsts_int h SL LL) (hs0 : ∀ b, s0.blk = some b → b < h.size) (hn : LL.length < 1000) (hb : ∀ i, (li LL i).length < 100000) (hup : ∀ i, Up (li LL i))
    (k : ∀ r h' R, SUp R → (∀ z, z ∈ R ↔ ∃ A ∈ LL, z ∈ A) → Owns h' r 3 1 (R.flatMap cI) → Ext h h' → Mine h r → Q r h') : F.spateref8_Lists s0 h Q := by
  unfold F.spateref8_Lists
  rw [l0.len cS_len, ll.1]
  refine make_of elI (by omega) (by simp [maxLen]; omega) fun b h1 n1 n2 n3 => ?_
  rw [show (Value.int .i64 0).cells = #[.int .i64 0] from rfl, Nat.mul_one, made_one, ← flat_replicate cI 0 (.int .i64 0) rfl] at n2
  have e1 : List.replicate LL.length (0 : Int) = atsL LL.length fun _ => 0 := by
    apply List.ext_getElem?
    intro i
    by_cases hi : i < LL.length <;> simp [atsL, hi, List.getElem?_replicate]
  rw [e1] at n2
  have hsum : leftN LL (fun _ => 0) ≤ 100000000 := by
    unfold leftN
    have : ∀ n, n ≤ LL.length → ((List.range n).map fun i => (li LL i).length - 0).sum ≤ n * 100000 := fun n => by
      induction n with
      | zero => simp
      | succ n ih =>
        intro hn
        rw [List.range_succ, List.map_append, List.sum_append]
        have := ih (by omega)
        have := hb n
        simp only [List.map_cons, List.map_nil, List.sum_cons, List.sum_nil]; omega
    have := this LL.length (Nat.le_refl _)
    show ((List.range LL.length).map fun i => (li LL i).length - 0).sum ≤ _
    omega
  refine ⟨leftN LL (fun _ => 0) + 1, ref_outer (h0 := h) hs0 (fun i s hi b hb => ?_) hn hb hup k _ (fun _ => 0) h1 _ _ [] n3 (l0.ext n3) (ll.ext n3) (Owns.nil _ _ _) (Mine.nil _ _ _) n2 (fun b hb => by simp [Sl.blk] at hb; omega) (fun b hb => by simp [Sl.blk] at hb) (fun i hi => by omega) List.Pairwise.nil (fun z => ⟨(fun h => by cases h), (fun ⟨i, t, _, ht, _⟩ => absurd ht (Nat.not_lt_zero _))⟩) (fun z hz => by cases hz) (by simp; omega) (by omega)⟩
  have hil : i < LL.length := by rw [← ll.1]; exact (List.getElem?_eq_some_iff.1 hi).1
  exact (ll.2 i s _ hi (li_of hil)).2 b hb
theorem make_empty {n : Nat} {h : H} {K : Sl → H → Prop} (hn : n ≤ 1000000)
    (k : ∀ b h', b = h.size → Owns h' ⟨some ⟨b, 0, none⟩, 0, n⟩ 3 1 [] → Ext h h' → K ⟨some ⟨b, 0, none⟩, 0, n⟩ h') : runL PP (Instr.makeSlice 23 (.int .i64 0) (.int .i64 (n : Int))) h K := by
  obtain ⟨i, hi, hz, hsz, hby⟩ := elI.info
  intro w hw
  subst hw
  have hr := run_make (P := PP) w 23 3 i (.int .i64 0) elI.slice hi hz .i64 .i64 0 n (by omega) (by omega) (by rw [hby]; omega) (by omega)
  simp only [Int.toNat_natCast, Int.toNat_zero] at hr
  refine ⟨_, _, hr, ⟨rfl, rfl, rfl⟩, ⟨some ⟨w.heap.size, 0, none⟩, 0, n⟩, rfl, k _ _ rfl ⟨by simp, .inr ⟨_, _, rfl, Blk.new _ _ _, ?_, by simp, by simp [maxLen]; omega, by simp⟩⟩ (.push _ _)⟩
  rw [size_madeCells, hsz]
theorem getD_up {LL : List (List Int)} (h : ∀ A ∈ LL, Up A) (i : Nat) : Up (li LL i) := by
  unfold li
  rcases Nat.lt_or_ge i LL.length with hi | hi
  · rw [List.getD_eq_getElem?_getD, List.getElem?_eq_getElem hi]; exact h _ (List.getElem_mem hi)
  · rw [List.getD_eq_getElem?_getD, List.getElem?_eq_none hi]; simp
theorem getD_len {LL : List (List Int)} {n : Nat} (h : ∀ A ∈ LL, A.length < n) (hn : 0 < n) (i : Nat) : (li LL i).length < n := by
  unfold li
  rcases Nat.lt_or_ge i LL.length with hi | hi
  · rw [List.getD_eq_getElem?_getD, List.getElem?_eq_getElem hi]; exact h _ (List.getElem_mem hi)
  · rw [List.getD_eq_getElem?_getD, List.getElem?_eq_none hi]; exact hn
/-- Three lists, and a slice of their slices. -/
structure Three (h : H) (s : Sl) (x y z : Sl) (A B C : List Int) : Prop where
  fs : Lst h s cS [x, y, z]
  fx : Lst h x cI A
  fy : Lst h y cI B
  fz : Lst h z cI C
  bs : ∀ b, s.blk = some b → b < h.size
  bx : ∀ b, x.blk = some b → b < h.size
  by_ : ∀ b, y.blk = some b → b < h.size
  bz : ∀ b, z.blk = some b → b < h.size
theorem Three.ext {h h' : H} {s x y z : Sl} {A B C : List Int} (t : Three h s x y z A B C) (e : Ext h h') : Three h' s x y z A B C :=
  ⟨t.fs.ext e, t.fx.ext e, t.fy.ext e, t.fz.ext e, fun b hb => Nat.lt_of_lt_of_le (t.bs b hb) e.size, fun b hb => Nat.lt_of_lt_of_le (t.bx b hb) e.size, fun b hb => Nat.lt_of_lt_of_le (t.by_ b hb) e.size, fun b hb => Nat.lt_of_lt_of_le (t.bz b hb) e.size⟩
theorem Three.lsts {h : H} {s x y z : Sl} {A B C : List Int} (t : Three h s x y z A B C) : Lsts_int h [x, y, z] [A, B, C] := ⟨rfl, fun i s' A' g1 g2 => by
  match i, g1, g2 with
  | 0, g1, g2 => simp at g1 g2; subst g1; subst g2; exact ⟨t.fx, t.bx⟩
  | 1, g1, g2 => simp at g1 g2; subst g1; subst g2; exact ⟨t.fy, t.by_⟩
  | 2, g1, g2 => simp at g1 g2; subst g1; subst g2; exact ⟨t.fz, t.bz⟩
  | i + 3, g1, g2 => simp at g1⟩
theorem new_three {h : H} {x y z : Sl} {A B C : List Int} {K : Sl → H → Prop} (hx : Lst h x cI A) (hy : Lst h y cI B) (hz : Lst h z cI C) (bx : ∀ b, x.blk = some b → b < h.size) (by_ : ∀ b, y.blk = some b → b < h.size) (bz : ∀ b, z.blk = some b → b < h.size)
    (k : ∀ n h', n = h.size → Three h' ⟨some ⟨n, 0, none⟩, 3, 3⟩ x y z A B C → Ext h h' → K ⟨some ⟨n, 0, none⟩, 3, 3⟩ h') : newL h #[x.enc, y.enc, z.enc] ty_23 3 K :=
  newL_of fun n h' e1 e2 e3 e4 => k n h' e1 ⟨⟨blk_reads (size := 1) (m := 3) (show Blk h' n (([x, y, z] : List Sl).flatMap cS).toArray 23 from e2) rfl, Nat.le_refl _⟩, hx.ext e3, hy.ext e3, hz.ext e3, fun b hb => by simp [Sl.blk] at hb; omega, fun b hb => by have := bx b hb; omega, fun b hb => by have := by_ b hb; omega, fun b hb => by have := bz b hb; omega⟩ e3
theorem three_get {h : H} {s : Sl} {SL : List Sl} {i : Nat} {t : Sl} {n : Int} {K : Sl → Prop} (l : Lst h s cS SL) (ht : SL[i]? = some t) (hn : n = (i : Int)) (k : K t) : idxA s n 1 fun a => ldL h a fun y => K y :=
  l.get cS_len ht hn fun a ha => by rw [ldL_iff ha.one]; exact k
theorem three_lists {A B C R : List Int} (hA : Up A) (hB : Up B) (hC : Up C) (hR : SUp R) (hm : ∀ z, z ∈ R ↔ ∃ X ∈ [A, B, C], z ∈ X) : listsM leI 4 [A, B, C] = R := by
  have := lists_facts 4 [A, B, C] (by simp) (by simp [hA, hB, hC])
  exact sup_unique _ _ this.1 hR fun z => by rw [this.2, hm]
theorem last_texts {h : H} {s t : Sl} {T : List ByteArray} {Q : Bool → H → Prop} (ls : Lst h s cT T) (lt : Lst h t cT T) (hT : T.length ≤ 100000) (k : Q true h) : ∀ (m i : Nat), i ≤ T.length → T.length - i < m → F.spatelaw8_MergeLists.l3 Q m s t (i : Int) h
  | 0, i, _, hm => by omega
  | m + 1, i, hi, hm => by
    unfold F.spatelaw8_MergeLists.l3
    rw [lt.len cT_len]
    simp only [decide_eq_true_eq, decide_eq_false_iff_not]
    refine ⟨fun g => ?_, fun g => k⟩
    obtain ⟨x, hx⟩ : ∃ x, T[i]? = some x := ⟨_, List.getElem?_eq_getElem (by omega)⟩
    refine ls.get cT_len hx rfl fun a ha => ?_
    rw [ldS_iff ha.one]
    refine lt.get cT_len hx rfl fun a ha => ?_
    rw [ldS_iff ha.one]
    have : (!(x.toList == x.toList)) = false := by simp
    rw [this]
    refine ⟨(fun g => by cases g), fun _ => ?_⟩
    rw [show IntKind.wrap .i64 ((i : Int) + 1) = ((i + 1 : Nat) : Int) from by rw [w64 (by omega) (by omega)]; omega]
    exact last_texts ls lt hT k m (i + 1) (by omega) (by omega)
theorem lists_end {h0 h : H} {s x y z w v : Sl} {A B C R : List Int} {Q : Bool → H → Prop} (e0 : Ext h0 h) (t : Three h s x y z A B C) (hA : Up A) (hB : Up B) (hC : Up C) (lA : A.length ≤ 200) (lB : B.length ≤ 200) (lC : C.length ≤ 200) (iA : ∀ q ∈ A, I64 q) (iB : ∀ q ∈ B, I64 q) (iC : ∀ q ∈ C, I64 q)
    (hR : SUp R) (hm : ∀ z, z ∈ R ↔ ∃ X ∈ [A, B, C], z ∈ X) (lR : R.length ≤ 1000) (lw : Lst h w cI R) (bw : ∀ b, w.blk = some b → b < h.size) (ow : Owns h v 3 1 ((A ++ [-88]).flatMap cI)) (k : ∀ h', Ext h0 h' → Q true h') : F.spatelaw8_MergeLists.j1 Q s w v h := by
  have lv := ow.lst
  have bv : ∀ b, v.blk = some b → b < h.size := fun b hb => ow.blk_lt hb
  have hl := three_lists hA hB hC hR hm
  unfold F.spatelaw8_MergeLists.j1
  refine three_get t.fs (i := 0) rfl rfl ?_
  rw [t.fx.len cI_len]
  refine cut_lst lv (lo := 0) (hi := A.length) rfl rfl (by omega) (by simp) fun c lc bc => ?_
  simp only [List.drop_zero, Nat.sub_zero, List.take_left] at lc
  refine three_get t.fs (i := 1) rfl rfl (three_get t.fs (i := 2) rfl rfl ?_)
  refine new_three lc t.fy t.fz (by rw [bc]; exact bv) t.by_ t.bz fun n h1 n1 t1 e1 => ?_
  refine Lists_int_spec t1.fs t1.lsts (by simp; omega) (by simp) t1.bs fun r h2 q1 q2 q3 => ?_
  rw [show ([A, B, C] : List (List Int)).length + 1 = 4 from rfl, hl] at q1
  have x2 : Ext h h2 := e1.trans q2
  refine same_spec q1.lst (lw.ext x2) (by omega) ⟨(fun g => by cases g), fun _ => ?_⟩
  have t2 := t.ext x2
  have lv2 := lv.ext x2
  refine three_get t2.fs (i := 0) rfl rfl ?_
  rw [t2.fx.len cI_len]
  refine lv2.get cI_len (i := A.length) (x := -88) (by simp) rfl fun a ha => ?_
  rw [ldI_iff ha.one]
  refine ⟨(fun g => by cases g), fun _ => three_get t2.fs (i := 0) rfl rfl ?_⟩
  rw [t2.fx.len cI_len]
  refine cut_lst lv2 (lo := 0) (hi := A.length) rfl rfl (by omega) (by simp) fun c lc bc => ?_
  simp only [List.drop_zero, Nat.sub_zero, List.take_left] at lc
  refine three_get t2.fs (i := 0) rfl rfl ?_
  refine same_spec lc t2.fx (by omega) ⟨(fun g => by cases g), fun _ => ?_⟩
  refine Lists_int_spec (SL := []) (LL := []) ⟨(Owns.nil h2 23 1).reads, Nat.le_refl _⟩ ⟨rfl, fun i s A g1 g2 => by simp at g1⟩ (by simp) (by simp) (fun b hb => by simp [Sl.blk] at hb) fun r3 h3 p1 p2 p3 => ?_
  have hr3 : r3.len = 0 := by have := own_len cI_len (by omega) p1; simpa [listsM] using this
  rw [hr3]
  unfold F.spatelaw8_MergeLists.j4
  refine ⟨(fun g => by cases g), fun _ => ?_⟩
  unfold F.spatelaw8_MergeLists.j2
  have x3 : Ext h h3 := x2.trans p2
  have t3 := t.ext x3
  have lw3 := lw.ext x3
  refine t3.fs.get cS_len (i := 0) rfl rfl fun a0 ha0 => ?_
  rw [ldL_iff ha0.one]
  refine t3.fs.get cS_len (i := 1) rfl rfl fun a1 ha1 => ?_
  rw [ldL_iff ha1.one]
  refine t3.fs.get cS_len (i := 2) rfl rfl fun a2 ha2 => ?_
  rw [ldL_iff ha2.one]
  refine words_spec t3.fx (by omega) t3.bx fun u4 h4 o4 e4 m4 => ?_
  refine ⟨e4.cell ha2.one (fun f => f), e4.cell ha1.one (fun f => f), ?_⟩
  have t4 := t3.ext e4
  refine words_spec t4.fy (by omega) t4.by_ fun u5 h5 o5 e5 m5 => ?_
  refine ⟨(e4.trans e5).cell ha2.one (fun f => f), ?_⟩
  have t5 := t4.ext e5
  refine words_spec t5.fz (by omega) t5.bz fun u6 h6 o6 e6 m6 => ?_
  refine newL_of fun n7 h7 c1 c2 c3 c4 => ?_
  have g4 : Ext h4 h7 := (e5.trans e6).trans c3
  have g5 : Ext h5 h7 := e6.trans c3
  have l4 := (o4.lst.ext g4)
  have l5 := (o5.lst.ext g5)
  have l6 := (o6.lst.ext c3)
  have b4 : ∀ b, u4.blk = some b → b < h7.size := fun b hb => Nat.lt_of_lt_of_le (o4.blk_lt hb) g4.size
  have b5 : ∀ b, u5.blk = some b → b < h7.size := fun b hb => Nat.lt_of_lt_of_le (o5.blk_lt hb) g5.size
  have b6 : ∀ b, u6.blk = some b → b < h7.size := fun b hb => Nat.lt_of_lt_of_le (o6.blk_lt hb) c3.size
  have l7 : Lst h7 ⟨some ⟨n7, 0, none⟩, 3, 3⟩ cS [u4, u5, u6] := ⟨blk_reads (size := 1) (m := 3) (show Blk h7 n7 (([u4, u5, u6] : List Sl).flatMap cS).toArray 29 from c2) rfl, Nat.le_refl _⟩
  refine Lists_string_spec (LL := [A, B, C].map (List.map wordT)) l7 ⟨rfl, fun i s A' g1 g2 => ?_⟩ (by simp; omega) (by simp) (fun b hb => by simp [Sl.blk] at hb; omega) fun r8 h8 d1 d2 d3 => ?_
  · match i, g1, g2 with
    | 0, g1, g2 => simp at g1 g2; subst g1; subst g2; exact ⟨l4, b4⟩
    | 1, g1, g2 => simp at g1 g2; subst g1; subst g2; exact ⟨l5, b5⟩
    | 2, g1, g2 => simp at g1 g2; subst g1; subst g2; exact ⟨l6, b6⟩
    | i + 3, g1, g2 => simp at g1
  · rw [show (([A, B, C] : List (List Int)).map (List.map wordT)).length + 1 = 4 from rfl, listsM_map 4 [A, B, C] (by intro X hX; simp only [List.mem_cons, List.not_mem_nil, or_false] at hX; rcases hX with rfl | rfl | rfl <;> assumption) (by simp) (by simp [hA, hB, hC]), hl] at d1
    have x8 : Ext h3 h8 := (((e4.trans e5).trans e6).trans c3).trans d2
    refine words_spec (lw3.ext x8) (by omega) (fun b hb => Nat.lt_of_lt_of_le (bw b hb) (x3.trans x8).size) fun u9 h9 o9 e9 m9 => ?_
    have ld := d1.lst.ext e9
    rw [ld.len cT_len, o9.lst.len cT_len, bne_iff_ne, bne_eq_false_iff_eq]
    refine ⟨fun g => absurd rfl g, fun _ => ⟨(R.map wordT).length + 1, ?_⟩⟩
    exact last_texts ld o9.lst (by simp; omega) (k h9 (((e0.trans x3).trans x8).trans e9)) _ 0 (by omega) (by omega)
theorem MergeLists_spec {h0 : H} {p0 p1 p2 : Sl} {A B C : List Int} {Q : Bool → H → Prop} (l0 : Lst h0 p0 cI A) (l1 : Lst h0 p1 cI B) (l2 : Lst h0 p2 cI C) (b0 : A ≠ [] → ∀ b, p0.blk = some b → b < h0.size) (b1 : B ≠ [] → ∀ b, p1.blk = some b → b < h0.size) (b2 : C ≠ [] → ∀ b, p2.blk = some b → b < h0.size)
    (n0 : A.length < 10000000000000000000) (n1 : B.length < 10000000000000000000) (n2 : C.length < 10000000000000000000) (i0 : ∀ q ∈ A, I64 q) (i1 : ∀ q ∈ B, I64 q) (i2 : ∀ q ∈ C, I64 q) (k : ∀ h', Ext h0 h' → Q true h') : F.spatelaw8_MergeLists p0 p1 p2 h0 Q := by
  unfold F.spatelaw8_MergeLists
  refine known8_spec fun h1 e1 => ⟨(fun h => by cases h), fun _ => ?_⟩
  refine rising_spec (l0.ext e1) (fun hne b hb => Nat.lt_of_lt_of_le (b0 hne b hb) e1.size) n0 fun r2 h2 o2 e2 m2 => ?_
  have x2 := e1.trans e2
  refine rising_spec (l1.ext x2) (fun hne b hb => Nat.lt_of_lt_of_le (b1 hne b hb) x2.size) n1 fun r3 h3 o3 e3 m3 => ?_
  have x3 := x2.trans e3
  refine rising_spec (l2.ext x3) (fun hne b hb => Nat.lt_of_lt_of_le (b2 hne b hb) x3.size) n2 fun r4 h4 o4 e4 m4 => ?_
  have x4 := x3.trans e4
  have o24 := o2.ext (e3.trans e4)
  have o34 := o3.ext e4
  refine new_three o24.lst o34.lst o4.lst (fun b hb => o24.blk_lt hb) (fun b hb => o34.blk_lt hb) (fun b hb => o4.blk_lt hb) fun n5 h5 c1 t5 c3 => ?_
  have x5 := x4.trans c3
  have uA := risL_up A
  have uB := risL_up B
  have uC := risL_up C
  have nA := risL_len A
  have nB := risL_len B
  have nC := risL_len C
  have iA : ∀ q ∈ risL A, I64 q := fun q hq => i0 q (risL_mem hq)
  have iB : ∀ q ∈ risL B, I64 q := fun q hq => i1 q (risL_mem hq)
  have iC : ∀ q ∈ risL C, I64 q := fun q hq => i2 q (risL_mem hq)
  generalize risL A = A' at *
  generalize risL B = B' at *
  generalize risL C = C' at *
  refine refLists_spec t5.fs t5.lsts t5.bs (by simp) (getD_len (by simp; omega) (by omega)) (getD_up (by simp [uA, uB, uC])) fun r6 h6 R hR hm o6 e6 m6 => ?_
  have t6 := t5.ext e6
  have x6 := x5.trans e6
  have lR : R.length ≤ 1000 := by
    have hl := three_lists uA uB uC hR hm
    have := listsM_int_len leI 4 [A', B', C']
    rw [hl] at this; simp at this; omega
  refine t6.fs.get cS_len (i := 0) rfl rfl fun a ha0 => ?_
  rw [ldL_iff ha0.one]
  refine t6.fs.get cS_len (i := 0) rfl rfl fun a ha => ?_
  rw [ldL_iff ha.one]
  rw [t6.fx.len cI_len, show IntKind.wrap .i64 ((A'.length : Int) + 3) = ((A'.length + 3 : Nat) : Int) from by rw [w64 (by omega) (by omega)]; omega]
  -- what holds when the lent list is made
  have hend : ∀ (h' : H) (v : Sl), Ext h6 h' → Owns h' v 3 1 ((A' ++ [-88]).flatMap cI) → F.spatelaw8_MergeLists.j1 Q ⟨some ⟨n5, 0, none⟩, 3, 3⟩ r6 v h' := fun h' v x ow =>
    lists_end (x6.trans x) (t6.ext x) uA uB uC nA nB nC iA iB iC hR hm lR (o6.lst.ext x) (fun b hb => Nat.lt_of_lt_of_le (o6.blk_lt hb) x.size) ow k
  refine ⟨make_empty (by omega) fun b7 h7 d1 d2 d3 => ⟨d3.cell ha.one (fun f => f), ?_, ?_⟩, ?_⟩
  · refine app_mine (h0 := h6) (f := cI) (L := []) d3 (fun b hb => by simp [Sl.blk] at hb; omega) cI_len (by omega) elI d2 (t6.fx.ext d3).1 (fun x => one1 rfl) (by simp; omega) fun r8 h8 q1 q2 q3 q4 q5 => ?_
    refine push_mine (f := cI) (-88) q2 q3 cI_len (by omega) elI q1 (fun x => one1 rfl) (by simp; omega) fun r9 h9 p1 p2 p3 p4 p5 => hend h9 r9 p2 (by simpa using p1)
  · refine newL_of fun n8 h8 g1 g2 g3 g4 => ⟨(d3.trans g3).cell ha.one (fun f => f), ?_⟩
    refine app_mine (h0 := h6) (f := cI) (L := []) (d3.trans g3) (fun b hb => by simp [Sl.blk] at hb; omega) cI_len (by omega) elI (d2.ext g3) (t6.fx.ext (d3.trans g3)).1 (fun x => one1 rfl) (by simp; omega) fun r9 h9 q1 q2 q3 q4 q5 => ?_
    have hn8 : ¬ (b7 = n8) := by have := d2.blk_lt (b := b7) rfl; omega
    refine app_mine (f := cI) (M := [-88]) q2 q3 cI_len (by omega) elI q1 ((blk_reads (size := 1) (m := 1) (show Blk h8 n8 (([-88] : List Int).flatMap cI).toArray 3 from g2) rfl).only q4 fun b hb e => by simp [Sl.blk] at hb e; omega) (fun x => one1 rfl) (by simp; omega) fun r10 h10 p1 p2 p3 p4 p5 => hend h10 r10 p2 (by simpa using p1)
  · refine newL_of fun n7 h7 g1 g2 g3 g4 => ⟨g3.cell ha.one (fun f => f), g3.cell ha0.one (fun f => f), ?_⟩
    refine make_empty (by omega) fun b8 h8 d1 d2 d3 => ⟨(g3.trans d3).cell ha.one (fun f => f), ?_⟩
    refine app_mine (h0 := h6) (f := cI) (L := []) (g3.trans d3) (fun b hb => by simp [Sl.blk] at hb; omega) cI_len (by omega) elI d2 (t6.fx.ext (g3.trans d3)).1 (fun x => one1 rfl) (by simp; omega) fun r9 h9 q1 q2 q3 q4 q5 => ?_
    refine app_mine (f := cI) (M := [-88]) q2 q3 cI_len (by omega) elI q1 (((blk_reads (size := 1) (m := 1) (show Blk h7 n7 (([-88] : List Int).flatMap cI).toArray 3 from g2) rfl).ext d3).only q4 fun b hb e => by simp [Sl.blk] at hb e; omega) (fun x => one1 rfl) (by simp; omega) fun r10 h10 p1 p2 p3 p4 p5 => hend h10 r10 p2 (by simpa using p1)
end Go.Proofs.Ytidpbnbjpglhfaa.V
