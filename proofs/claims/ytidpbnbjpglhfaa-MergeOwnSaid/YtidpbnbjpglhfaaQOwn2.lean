/- Parts of the proof of MergeOwn; no condition. -/
import Derived.ChangeSlices
import Derived.OpenShut
import Derived.Test.YtidpbnbjpglhfaaQOwn1
namespace Go.Proofs.Ytidpbnbjpglhfaa.V
open Go
set_option linter.unusedVariables false
set_option linter.unusedSimpArgs false
theorem w64s {n : Nat} (h : n < 9000000000000000000) : IntKind.wrap .i64 ((n : Int) + 1) = ((n + 1 : Nat) : Int) := by rw [w64 (by omega) (by omega)]; omega
section
variable {h0 h h' : H}
/-- A table of slices, each of rows. -/
structure TB (h : H) (p : Sl) (ss : List Sl) (Ls : List (List Rw8)) : Prop where
  tb : Reads h p 1 (ss.flatMap cS8)
  len : ss.length = Ls.length
  row : ∀ (i : Nat) s R, ss[i]? = some s → Ls[i]? = some R → Reads h s 7 (R.flatMap cW) ∧ s.len ≤ s.cap
theorem TB.at {p : Sl} {ss : List Sl} {Ls : List (List Rw8)} (t : TB h0 p ss Ls) (e : Ext h0 h) {i : Nat} {s : Sl} (hs : ss[i]? = some s) {K : Sl → Prop} (k : K s) : idxA p (i : Int) 1 fun a => ldL h a K := by
  obtain ⟨q, r1, r2, r3⟩ := rd_at cS8_len (by omega) (t.tb.only e fun _ _ f => f) hs
  have hl := rd_len cS8_len (by omega) t.tb
  exact idxR_of (i := i) r1 (by have := (List.getElem?_eq_some_iff.1 hs).1; omega) rfl ((ldL_iff r3.one).2 k)
theorem Rows_spec {most : Int} {p1 : Sl} {ss : List Sl} {Ls : List (List Rw8)} {Q : Sl → H → Prop} (t : TB h p1 ss Ls) (hs : ss.length < 90000) (hn : (mR Ls).length < 100000)
    (k : ∀ r h', Owns h' r tn_api_Row 7 (((mR Ls).take most.toNat).flatMap cW) → Mine h r → Ext h h' → Q r h') : F.merge_Rows most p1 h Q := by
  unfold F.merge_Rows
  have hl := rd_len cS8_len (by omega) t.tb
  refine new_of fun n h1 hn1 b1 e1 s1 => ⟨ss.length + 1, ?_⟩
  rw [hl]
  have key : ∀ (d i : Nat) (h' : H) (s : Sl) (G : List Fr), i ≤ ss.length → ss.length - i < d → FS h h' h' n s G → GR G (Ls.take i) → G.length ≤ i → F.merge_Rows.l1 Q d most ⟨n, 0, none⟩ p1 (ss.length : Int) (i : Int) h' := by
    intro d
    induction d with
    | zero => intro i h' s G _ hm; omega
    | succ d ih =>
      intro i h' s G hi hm v gr hGi
      have hlG := own_len cF_len (by omega) v.own
      rw [List.length_map] at hlG
      unfold F.merge_Rows.l1
      simp only [decide_eq_true_eq, decide_eq_false_iff_not]
      refine ⟨fun gg => ?_, fun gg => ?_⟩
      · obtain ⟨sl, hsl⟩ : ∃ sl, ss[i]? = some sl := ⟨_, List.getElem?_eq_getElem (by omega)⟩
        obtain ⟨R, hR⟩ : ∃ R, Ls[i]? = some R := ⟨_, List.getElem?_eq_getElem (by have := t.len; omega)⟩
        obtain ⟨rd, hcap⟩ := t.row i sl R hsl hR
        have hlr := rd_len cW_len (by omega) rd
        have hli : (Ls.take i).length = i := by have := t.len; rw [List.length_take]; omega
        refine t.at v.ext hsl ?_
        refine ⟨fun g2 => v.ldv ?_, fun g2 => ?_⟩
        · have hRn : R ≠ [] := fun e => by subst e; rw [hlr] at g2; simp at g2
          refine newL_of fun m2 h2 hm2 b2 e2 s2 => ?_
          have r2 : Reads h2 ⟨some ⟨m2, 0, none⟩, 1, 1⟩ 2 ([(⟨sl, (i : Int)⟩ : S_merge_front)].flatMap cF) := blk_reads (by simpa using b2) rfl
          have v2 := v.e e2
          refine app_list (L := G.map (·.f)) (M := [⟨sl, (i : Int)⟩]) cF_len (by omega) el_fronts v2.own r2 (fun x => ones_S_merge_front x) (by simp only [List.length_singleton, List.length_map]; omega) fun r3 h3 w3 o3 n3 => ?_
          have m3 : Mine h r3 := fun y hy => by
            rcases n3 with n3 | ⟨b', n3, n4⟩
            · exact v.mine y (by rw [← n3]; exact hy)
            · rw [n3] at hy; cases hy; have := v2.ext.size; omega
          have e3 : Ext h h3 := v2.ext.mine v2.mine o3
          have b3 : Blk h3 n #[s.enc] tn_merge_fronts := o3.block v2.var fun hb => own_ne v2.own v2.var (by decide) hb
          have gr' := gr.snoc (s := sl) hRn hcap
          rw [← tk_snoc hR, hli] at gr'
          refine FS.put (hk2 := h3) (G' := G ++ [⟨⟨sl, (i : Int)⟩, R⟩]) v2 (by rw [List.map_append]; exact w3) b3 e3 m3 (fun f hf hfr => ?_) (.refl _) fun h4 v4 o4 => ?_
          · rcases List.mem_append.1 hf with hf | hf
            · exact v.rows f hf hfr
            · rw [List.mem_singleton] at hf; subst hf; exact rd
          · rw [w64s (by omega)]
            exact ih (i + 1) h4 r3 _ (by omega) (by omega) v4.re gr' (by rw [List.length_append]; simp only [List.length_singleton]; omega)
        · have hRn : R = [] := by
            cases R with
            | nil => rfl
            | cons a b => rw [hlr] at g2; simp at g2
          subst hRn
          have gr' := gr.skip
          rw [← tk_snoc hR] at gr'
          rw [w64s (by omega)]
          exact ih (i + 1) h' s G (by omega) (by omega) v gr' (by omega)
      · have hiL : i = ss.length := by omega
        rw [hiL, t.len, List.take_length] at gr
        refine Init_spec v gr.ne (by omega) fun h2 G2 v2 p2 hp2 => ⟨(mR Ls).length + 1, ?_⟩
        have hl2 := p2.length_eq
        exact Rows_main (All := mR Ls) hn k _ h2 s G2 Ls _ [] (by omega) v2.re (by omega) hp2 (gr.perm p2) (by simpa using Owns.nil h2 tn_api_Row 7) (.nil _ _ _) rfl (by simp)
  exact key _ 0 h1 ⟨none, 0, 0⟩ [] (by omega) (by omega) ⟨b1, by simpa using Owns.nil h1 tn_merge_front 2, .nil _ _ _, by omega, e1, fun f hf => (by cases hf), .refl _⟩ ⟨fun f hf => (by cases hf), fun k R hk => (by simp at hk), .nil, fun f hf => (by cases hf)⟩ (by simp)
theorem row_eq {x y : Rw8} : ((((x.Cell.View == y.Cell.View) && ((x.Cell.Key.toList == y.Cell.Key.toList) && ((x.Cell.Start == y.Cell.Start) && true)))) && ((((x.Agg.Count == y.Agg.Count) && ((x.Agg.Sum == y.Agg.Sum) && ((x.Agg.Min == y.Agg.Min) && ((x.Agg.Max == y.Agg.Max) && true))))) && true)) = true ↔ x = y := by
  obtain ⟨⟨a1, ⟨⟨a2⟩⟩, a3⟩, ⟨a4, a5, a6, a7⟩⟩ := x
  obtain ⟨⟨b1, ⟨⟨b2⟩⟩, b3⟩, ⟨b4, b5, b6, b7⟩⟩ := y
  simp [toList_data, and_assoc]
theorem SameRows_spec {r s : Sl} {A C : List Rw8} {Q : Bool → H → Prop} (ra : Reads h r 7 (A.flatMap cW)) (rc : Reads h s 7 (C.flatMap cW)) (hs : A.length < 1000000) (kt : A = C → Q true h) (kf : A ≠ C → Q false h) : F.spatelaw2_SameRows r s h Q := by
  have la := rd_len cW_len (by omega) ra
  have lc := rd_len cW_len (by omega) rc
  unfold F.spatelaw2_SameRows
  rw [la, lc]
  refine ⟨fun gg => kf fun e => by rw [e] at gg; simp at gg, fun gg => ⟨A.length + 1, ?_⟩⟩
  have hl : A.length = C.length := by simp at gg; omega
  have key : ∀ (d i : Nat), i ≤ A.length → A.length - i < d → A.take i = C.take i → F.spatelaw2_SameRows.l1 Q d r s (i : Int) h := by
    intro d
    induction d with
    | zero => intro i _ hm; omega
    | succ d ih =>
      intro i hi hm he
      unfold F.spatelaw2_SameRows.l1
      simp only [decide_eq_true_eq, decide_eq_false_iff_not]
      rw [la]
      refine ⟨fun gg => ?_, fun gg => ?_⟩
      · obtain ⟨x, hx⟩ : ∃ x, A[i]? = some x := ⟨_, List.getElem?_eq_getElem (by omega)⟩
        obtain ⟨y, hy⟩ : ∃ y, C[i]? = some y := ⟨_, List.getElem?_eq_getElem (by omega)⟩
        obtain ⟨p, p1, p2, p3⟩ := rd_at cW_len (by omega) ra hx
        obtain ⟨q, q1, q2, q3⟩ := rd_at cW_len (by omega) rc hy
        refine idxR_of (i := i) p1 (by omega) rfl ⟨x, p3, idxR_of (i := i) q1 (by omega) rfl ⟨y, q3, ?_⟩⟩
        have hrow := row_eq (x := x) (y := y)
        refine ⟨fun g2 => kf fun e => ?_, fun g2 => ?_⟩
        · have : x = y := by rw [e] at hx; rw [hx] at hy; exact Option.some.inj hy
          rw [hrow.2 this] at g2; cases g2
        · have hxy : x = y := hrow.1 (by simpa using g2)
          rw [w64s (by omega)]
          refine ih (i + 1) (by omega) (by omega) ?_
          rw [tk_snoc hx, tk_snoc hy, he, hxy]
      · have : i = A.length := by omega
        subst this
        rw [List.take_length] at he
        exact kt (by rw [he, hl, List.take_length])
  exact key _ 0 (by omega) (by omega) (by simp)
end
end Go.Proofs.Ytidpbnbjpglhfaa.V
namespace Go.Proofs.Ytidpbnbjpglhfaa.V
open Go
set_option linter.unusedVariables false
set_option linter.unusedSimpArgs false
section
variable {h0 h h' : H}
theorem drop_cons {R : List Rw8} {a : Nat} {x : Rw8} (h : R[a]? = some x) : R.drop a = x :: R.drop (a + 1) := by
  obtain ⟨hl, rfl⟩ := List.getElem?_eq_some_iff.1 h
  exact List.drop_eq_getElem_cons hl
end
end Go.Proofs.Ytidpbnbjpglhfaa.V
namespace Go.Proofs.Ytidpbnbjpglhfaa.V
open Go
set_option linter.unusedVariables false
set_option linter.unusedSimpArgs false
abbrev Up (L : List Int) : Prop := L.Pairwise (· ≤ ·)
def insL (out : List Int) (x : Int) : List Int := out.takeWhile (fun y => decide (y ≤ x)) ++ [x] ++ out.dropWhile (fun y => decide (y ≤ x))
def risL (A : List Int) : List Int := (A.take 200).foldl insL []
theorem insL_mem {out : List Int} {x z : Int} : z ∈ insL out x ↔ z ∈ out ∨ z = x := by
  have h := List.takeWhile_append_dropWhile (p := fun y => decide (y ≤ x)) (l := out)
  have : z ∈ out ↔ z ∈ out.takeWhile (fun y => decide (y ≤ x)) ∨ z ∈ out.dropWhile (fun y => decide (y ≤ x)) := by rw [← List.mem_append, h]
  rw [this]; unfold insL; simp only [List.mem_append, List.mem_singleton]; constructor
  · rintro ((h | h) | h) <;> simp [h]
  · rintro ((h | h) | h) <;> simp [h]
theorem insL_up : ∀ {out : List Int} {x : Int}, Up out → Up (insL out x)
  | [], x, _ => by simp [insL]
  | y :: r, x, h => by
    have h' := List.pairwise_cons.1 h
    unfold insL
    by_cases hy : y ≤ x
    · have ih := insL_up (x := x) h'.2
      unfold insL at ih
      simp only [List.takeWhile_cons, List.dropWhile_cons, hy, decide_true, if_true, List.cons_append]
      refine List.pairwise_cons.2 ⟨fun z hz => ?_, ih⟩
      have : z ∈ insL r x := hz
      rcases insL_mem.1 this with h | h
      · exact h'.1 z h
      · subst h; exact hy
    · simp only [List.takeWhile_cons, List.dropWhile_cons, hy, decide_false, Bool.false_eq_true, if_false, List.nil_append, List.singleton_append]
      refine List.pairwise_cons.2 ⟨fun z hz => ?_, h⟩
      rcases List.mem_cons.1 hz with e | e
      · omega
      · have := h'.1 z e; omega
theorem insL_len (out : List Int) (x : Int) : (insL out x).length = out.length + 1 := by
  have h := congrArg List.length (List.takeWhile_append_dropWhile (p := fun y => decide (y ≤ x)) (l := out))
  unfold insL; simp only [List.length_append, List.length_singleton] at h ⊢; omega
theorem fold_facts : ∀ (A out : List Int), Up out → Up (A.foldl insL out) ∧ (∀ z, z ∈ A.foldl insL out ↔ z ∈ out ∨ z ∈ A) ∧ (A.foldl insL out).length = out.length + A.length
  | [], out, h => by simp [h]
  | x :: r, out, h => by
    have := fold_facts r (insL out x) (insL_up h)
    refine ⟨this.1, fun z => ?_, ?_⟩
    · rw [List.foldl_cons, this.2.1, insL_mem]; simp [or_assoc]
    · rw [List.foldl_cons, this.2.2, insL_len]; simp; omega
theorem risL_len (A : List Int) : (risL A).length ≤ 200 := by
  have := (fold_facts (A.take 200) [] (by simp)).2.2
  unfold risL; rw [this]; simp; omega
end Go.Proofs.Ytidpbnbjpglhfaa.V
namespace Go.Proofs.Ytidpbnbjpglhfaa.V
open Go
set_option linter.unusedVariables false
set_option linter.unusedSimpArgs false
theorem tw_get {p : Int → Bool} : ∀ {out : List Int} {i : Nat}, i < (out.takeWhile p).length → ∃ v, out[i]? = some v ∧ p v = true
  | [], i, h => by simp at h
  | x :: r, i, h => by
    by_cases hx : p x = true
    · rw [List.takeWhile_cons, if_pos hx] at h
      cases i with
      | zero => exact ⟨x, rfl, hx⟩
      | succ i => exact tw_get (out := r) (i := i) (by simpa using h)
    · rw [List.takeWhile_cons, if_neg hx] at h; simp at h
theorem tw_at {p : Int → Bool} : ∀ {out : List Int} {v : Int}, out[(out.takeWhile p).length]? = some v → p v = false
  | [], v, h => by simp at h
  | x :: r, v, h => by
    by_cases hx : p x = true
    · rw [List.takeWhile_cons, if_pos hx] at h
      exact tw_at (out := r) (by simpa using h)
    · rw [List.takeWhile_cons, if_neg hx] at h
      simp at h; subst h; simpa using hx
theorem tw_take (p : Int → Bool) (out : List Int) : out.take (out.takeWhile p).length = out.takeWhile p ∧ out.drop (out.takeWhile p).length = out.dropWhile p := by
  have h := List.takeWhile_append_dropWhile (p := p) (l := out)
  constructor
  · have : ∀ (a b : List Int), out = a ++ b → out.take a.length = a := fun a b e => by rw [e, List.take_left]
    exact this _ _ h.symm
  · have : ∀ (a b : List Int), out = a ++ b → out.drop a.length = b := fun a b e => by rw [e, List.drop_left]
    exact this _ _ h.symm
theorem rise_find {Q : Sl → H → Prop} {C1 : Sl → Sl → Int → H → Prop} {h : H} {s0 s3 : Sl} {A out : List Int} {i : Nat} {x : Int} (l0 : Lst h s0 cI A) (l3 : Lst h s3 cI out) (hx : A[i]? = some x) (ho : out.length < 1000) :
    ∀ (m j : Nat), j ≤ (out.takeWhile fun y => decide (y ≤ x)).length → (out.takeWhile fun y => decide (y ≤ x)).length - j < m →
    (∀ C2, F.spatelaw8_rising.j5 Q C1 C2 s0 s3 (i : Int) ((out.takeWhile fun y => decide (y ≤ x)).length : Int) false h) → F.spatelaw8_rising.l3 Q C1 m s0 s3 (i : Int) (j : Int) h
  | 0, j, _, hm, _ => by omega
  | m + 1, j, hj, hm, k => by
    unfold F.spatelaw8_rising.l3
    have hl := l3.len cI_len
    have htw : (out.takeWhile fun y => decide (y ≤ x)).length ≤ out.length := (List.takeWhile_sublist _).length_le
    rw [hl]
    simp only [decide_eq_true_eq, decide_eq_false_iff_not]
    refine ⟨fun g => ?_, fun g => ?_⟩
    · obtain ⟨v, hv⟩ : ∃ v, out[j]? = some v := ⟨_, List.getElem?_eq_getElem (by omega)⟩
      refine l3.get cI_len hv rfl fun a ha => ?_
      rw [ldI_iff ha.one]
      refine l0.get cI_len hx rfl fun a ha => ?_
      rw [ldI_iff ha.one]
      by_cases hjk : j < (out.takeWhile fun y => decide (y ≤ x)).length
      · obtain ⟨v', h1, h2⟩ := tw_get hjk
        rw [hv] at h1; cases h1
        rw [show decide (v ≤ x) = true from h2]
        unfold F.spatelaw8_rising.j5
        refine ⟨fun _ => ?_, fun h => by cases h⟩
        unfold F.spatelaw8_rising.j4
        rw [show IntKind.wrap .i64 ((j : Int) + 1) = ((j + 1 : Nat) : Int) from by rw [w64 (by omega) (by omega)]; omega]
        exact rise_find l0 l3 hx ho m (j + 1) (by omega) (by omega) k
      · have hjk : j = (out.takeWhile fun y => decide (y ≤ x)).length := by omega
        have := tw_at (p := fun y => decide (y ≤ x)) (out := out) (v := v) (by rw [← hjk]; exact hv)
        rw [show decide (v ≤ x) = false from this, hjk]
        exact k _
    · have hjk : j = (out.takeWhile fun y => decide (y ≤ x)).length := by omega
      rw [hjk]; exact k _
theorem cut_lst {h : H} {s : Sl} {A : List Int} {lo hi : Nat} {nl nh : Int} {K : Sl → Prop} (l : Lst h s cI A) (e1 : nl = (lo : Int)) (e2 : nh = (hi : Int)) (h1 : lo ≤ hi) (h2 : hi ≤ A.length) (k : ∀ t, Lst h t cI ((A.drop lo).take (hi - lo)) → t.blk = s.blk → K t) : cutL s nl nh 1 K := by
  have hl := l.len cI_len
  have hc := l.2
  exact cutL_of e1 e2 h1 (by omega) (k _ ⟨cut_reads cI_len (by omega) l.1 h1 h2 hc, by simp only [slcut]; omega⟩ slcut_blk)
theorem Lst.keep {α : Type} {S : Nat → Prop} {h h' : H} {s : Sl} {f : α → List Value} {A : List α} (l : Lst h s f A) (e : Only S h h') (hn : A ≠ [] → ∀ b, s.blk = some b → ¬ S b) : Lst h' s f A := by
  by_cases hA : A = []
  · subst hA; exact ⟨⟨l.1.1, l.1.2.1, fun i v hv => by simp at hv⟩, l.2⟩
  · exact l.only e (hn hA)
theorem rise_loop {h0 : H} {Q : Sl → H → Prop} {s0 : Sl} {A : List Int} (hs0 : A ≠ [] → ∀ b, s0.blk = some b → b < h0.size) (hA : A.length < 10000000000000000000) (k : ∀ r h', Owns h' r 3 1 ((risL A).flatMap cI) → Ext h0 h' → Mine h0 r → Q r h') :
    ∀ (m i : Nat) (h : H) (s3 : Sl), Ext h0 h → Lst h s0 cI A → Owns h s3 3 1 (((A.take i).foldl insL []).flatMap cI) → Mine h0 s3 → i ≤ 200 → i ≤ A.length → 200 - i < m → F.spatelaw8_rising.l1 Q m s0 s3 (i : Int) h
  | 0, i, h, s3, _, _, _, _, _, _, hm => by omega
  | m + 1, i, h, s3, e0, l0, ow, mi, hi, hiA, hm => by
    unfold F.spatelaw8_rising.l1
    have hl := l0.len cI_len
    have hout := (fold_facts (A.take i) [] (by simp)).2.2
    rw [List.length_take] at hout
    have hend : i = 200 ∨ i = A.length → Q s3 h := fun hh => by
      have : risL A = (A.take i).foldl insL [] := by
        unfold risL
        rcases hh with rfl | rfl
        · rfl
        · rw [List.take_of_length_le (by omega), List.take_of_length_le (Nat.le_refl _)]
      rw [← this] at ow
      exact k s3 h ow e0 mi
    rw [hl]
    unfold F.spatelaw8_rising.j6
    simp only [decide_eq_true_eq, decide_eq_false_iff_not]
    refine ⟨fun g => ⟨fun g2 => ?_, fun g2 => hend (by omega)⟩, fun g => ⟨(fun h => by cases h), fun _ => hend (by omega)⟩⟩
    obtain ⟨x, hx⟩ : ∃ x, A[i]? = some x := ⟨_, List.getElem?_eq_getElem (by omega)⟩
    have htk : (A.take (i + 1)).foldl insL [] = insL ((A.take i).foldl insL []) x := by rw [List.take_add_one, hx, List.foldl_append]; rfl
    generalize (A.take i).foldl insL [] = out at *
    have lo := ow.lst
    have hol := lo.len cI_len
    have htw : (out.takeWhile fun y => decide (y ≤ x)).length ≤ out.length := (List.takeWhile_sublist _).length_le
    obtain ⟨t1, t2⟩ := tw_take (fun y => decide (y ≤ x)) out
    simp only [List.length_nil, Nat.zero_add] at hout
    refine ⟨out.length + 1, ?_⟩
    refine rise_find (j := 0) l0 lo hx (by omega) _ (by omega) (by omega) fun C2 => ?_
    unfold F.spatelaw8_rising.j5
    refine ⟨(fun h => by cases h), fun _ => ?_⟩
    refine cut_lst lo (lo := 0) (hi := (out.takeWhile fun y => decide (y ≤ x)).length) rfl rfl (by omega) htw fun t lt htb => ?_
    rw [List.drop_zero, Nat.sub_zero, t1] at lt
    refine app_mine (f := cI) (s := ⟨none, 0, 0⟩) (L := []) e0 (Mine.nil _ _ _) cI_len (by omega) elI (Owns.nil _ _ _) lt.1 (fun x => one1 rfl) (by simp; omega) fun r1 h1 q1 q2 q3 q4 q5 => ?_
    have x1 : Ext h h1 := q4.mono fun b _ e => by simp [Sl.blk] at e
    refine (l0.ext x1).get cI_len hx rfl fun a ha => ?_
    rw [ldI_iff ha.one]
    have hs3 : ∀ b, s3.blk = some b → b < h.size := fun b hb => ow.blk_lt hb
    have hr1 : ∀ b, r1.blk = some b → h.size ≤ b := fun b hb => by
      rcases q5 with q5 | ⟨b', q5, q6⟩
      · rw [q5] at hb; simp [Sl.blk] at hb
      · rw [q5] at hb; cases hb; exact q6
    refine push_mine (f := cI) x q2 q3 cI_len (by omega) elI q1 (fun x => one1 rfl) (by simp; omega) fun r2 h2 p1 p2 p3 p4 p5 => ?_
    have lo2 : Lst h2 s3 cI out := (lo.ext x1).only p4 fun b hb e => by have := hs3 b hb; have := hr1 b e; omega
    have hr2 : ∀ b, r2.blk = some b → h.size ≤ b := fun b hb => by
      rcases p5 with p5 | ⟨b', p5, p6⟩
      · rw [p5] at hb; exact hr1 b hb
      · rw [p5] at hb; cases hb; have := x1.size; omega
    refine cut_lst lo2 (lo := (out.takeWhile fun y => decide (y ≤ x)).length) (hi := out.length) rfl (by rw [hol]) htw (Nat.le_refl _) fun t' lt' htb' => ?_
    rw [t2, List.take_of_length_le (by rw [← t2, List.length_drop]; exact Nat.le_refl _)] at lt'
    refine app_mine (f := cI) p2 p3 cI_len (by omega) elI p1 lt'.1 (fun x => one1 rfl) (by
      have := congrArg List.length (List.takeWhile_append_dropWhile (p := fun y => decide (y ≤ x)) (l := out))
      simp only [List.length_append, List.nil_append, List.length_singleton] at this ⊢; omega) fun r3 h3 u1 u2 u3 u4 u5 => ?_
    rw [show IntKind.wrap .i64 ((i : Int) + 1) = ((i + 1 : Nat) : Int) from by rw [w64 (by omega) (by omega)]; omega]
    have l03 : Lst h3 s0 cI A := ((l0.ext x1).keep p4 (fun hne b hb e => by have := hs0 hne b hb; have := q3 b e; omega)).keep u4 fun hne b hb e => by have := hs0 hne b hb; have := p3 b e; omega
    refine rise_loop hs0 hA k m (i + 1) h3 r3 u2 l03 ?_ u3 (by omega) (by omega) (by omega)
    rw [htk]; simpa [insL] using u1
theorem rising_spec {h : H} {s : Sl} {A : List Int} {Q : Sl → H → Prop} (l : Lst h s cI A) (hs : A ≠ [] → ∀ b, s.blk = some b → b < h.size) (hA : A.length < 10000000000000000000) (k : ∀ r h', Owns h' r 3 1 ((risL A).flatMap cI) → Ext h h' → Mine h r → Q r h') : F.spatelaw8_rising s h Q :=
  ⟨201, rise_loop hs hA k 201 0 h _ (.refl _) l (Owns.nil _ _ _) (Mine.nil _ _ _) (by omega) (by omega) (by omega)⟩
theorem same_loop {h : H} {s t : Sl} {A : List Int} {Q : Bool → H → Prop} (ls : Lst h s cI A) (lt : Lst h t cI A) (hA : A.length ≤ 100000) (k : Q true h) : ∀ (m i : Nat), i ≤ A.length → A.length - i < m → F.spatelaw8_same.l1 Q m s t (i : Int) h
  | 0, i, _, hm => by omega
  | m + 1, i, hi, hm => by
    unfold F.spatelaw8_same.l1
    rw [ls.len cI_len]
    simp only [decide_eq_true_eq, decide_eq_false_iff_not]
    refine ⟨fun g => ?_, fun g => k⟩
    obtain ⟨x, hx⟩ : ∃ x, A[i]? = some x := ⟨_, List.getElem?_eq_getElem (by omega)⟩
    refine ls.get cI_len hx rfl fun a ha => ?_
    rw [ldI_iff ha.one]
    refine lt.get cI_len hx rfl fun a ha => ?_
    rw [ldI_iff ha.one, bne_iff_ne, bne_eq_false_iff_eq]
    refine ⟨fun g => absurd rfl g, fun _ => ?_⟩
    rw [show IntKind.wrap .i64 ((i : Int) + 1) = ((i + 1 : Nat) : Int) from by rw [w64 (by omega) (by omega)]; omega]
    exact same_loop ls lt hA k m (i + 1) (by omega) (by omega)
theorem same_spec {h : H} {s t : Sl} {A : List Int} {Q : Bool → H → Prop} (ls : Lst h s cI A) (lt : Lst h t cI A) (hA : A.length ≤ 100000) (k : Q true h) : F.spatelaw8_same s t h Q := by
  unfold F.spatelaw8_same
  rw [ls.len cI_len, lt.len cI_len, bne_iff_ne, bne_eq_false_iff_eq]
  exact ⟨fun g => absurd rfl g, fun _ => ⟨A.length + 1, same_loop ls lt hA k _ 0 (by omega) (by omega)⟩⟩
end Go.Proofs.Ytidpbnbjpglhfaa.V
namespace Go.Proofs.Ytidpbnbjpglhfaa.V
open Go
set_option linter.unusedVariables false
set_option linter.unusedSimpArgs false
theorem push8 {α : Type} {f : α → List Value} {kk : Nat} {t e : TypeId} {bytes : Nat} {z : Value} {h0 h : H} {s : Sl} {D : List α} {x : α} {K : Sl → H → Prop} (el : El PP t e kk bytes z) (hf : ∀ x, (f x).length = kk) (hk : 0 < kk) (one : ∀ x, ∀ v ∈ f x, v.oneCell' = true)
    (e0 : Ext h0 h) (w : Owns h s e kk (D.flatMap f)) (m : Mine h0 s) (hl : (D.length + 1 + (D.length + 1) / 4 + 256) * bytes ≤ 281474976710656)
    (k : ∀ s' h', Owns h' s' e kk ((D ++ [x]).flatMap f) → Mine h0 s' → Ext h0 h' → Only (fun b => s.blk = some b) h h' → K s' h') :
    newL h (f x).toArray e 1 fun s7 h6 => runL PP (Builtin.append_ #[t, t] t #[s.enc, s7.enc]) h6 fun s9 h8 => K s9 h8 := by
  refine newL_of fun n6 h6 hn6 b6 e6 sz6 => ?_
  have r6 : Reads h6 ⟨some ⟨n6, 0, none⟩, 1, 1⟩ kk ([x].flatMap f) := blk_reads (by simpa using b6) (by simp [hf])
  refine app_list (L := D) (M := [x]) hf hk el (w.ext e6) r6 one (by simpa using hl) fun r7 h7 q1 q2 q3 => ?_
  refine k r7 h7 q1 (fun b hb => ?_) ((e0.trans e6).mine m q2) ((e6.only (S := fun b => s.blk = some b)).trans q2 fun _ _ e => e)
  rcases q3 with q3 | ⟨b', q3, q4⟩
  · exact m b (by rw [← q3]; exact hb)
  · rw [q3] at hb; cases hb
    have := e0.size; have := e6.size; omega
theorem flat_le {n : Nat} : ∀ {LL : List (List Int)}, (∀ A ∈ LL, A.length ≤ n) → LL.flatten.length ≤ LL.length * n
  | [], _ => by simp
  | A :: LL, h => by
    have h1 := h A (by simp)
    have h2 := flat_le (LL := LL) fun B hB => h B (by simp [hB])
    rw [List.flatten_cons, List.length_append, List.length_cons, Nat.add_mul]; omega
theorem cap_of {h : H} {s : Sl} {e : TypeId} {k : Nat} {cs : List Value} (w : Owns h s e k cs) : s.len ≤ s.cap := by
  obtain ⟨_, ⟨q1, q2, q3⟩ | ⟨b', c', q1, q2, q3, q4, _⟩⟩ := w
  · omega
  · exact q4
end Go.Proofs.Ytidpbnbjpglhfaa.V
namespace Go.Proofs.Ytidpbnbjpglhfaa.V
open Go
set_option linter.unusedVariables false
set_option linter.unusedSimpArgs false
/-- Each row's cell is ahead of those behind it. -/
def SC (l : List Rw8) : Prop := l.Pairwise fun a b => cmpC a.Cell b.Cell = -1
def ordI (out : List Rw8) (x : Rw8) : List Rw8 :=
  match out.dropWhile (fun y => decide (cmpC y.Cell x.Cell < 0)) with
  | y :: r => if cmpC y.Cell x.Cell = 0 then out else out.takeWhile (fun y => decide (cmpC y.Cell x.Cell < 0)) ++ x :: y :: r
  | [] => out ++ [x]
def ordL (A : List Rw8) : List Rw8 := (A.take 200).foldl ordI []
theorem ordI_sc {out : List Rw8} {x : Rw8} (s : SC out) : SC (ordI out x) ∧ (ordI out x).length ≤ out.length + 1 ∧ ∀ z, z ∈ ordI out x → z ∈ out ∨ z = x := by
  unfold ordI
  have htd := List.takeWhile_append_dropWhile (p := fun y : Rw8 => decide (cmpC y.Cell x.Cell < 0)) (l := out)
  have htk : ∀ y ∈ out.takeWhile (fun y => decide (cmpC y.Cell x.Cell < 0)), cmpC y.Cell x.Cell < 0 := fun y hy => by
    have hall := List.all_takeWhile (p := fun y : Rw8 => decide (cmpC y.Cell x.Cell < 0)) (l := out)
    rw [List.all_eq_true] at hall
    simpa using hall y hy
  generalize hA : out.takeWhile (fun y => decide (cmpC y.Cell x.Cell < 0)) = A at htd htk ⊢
  generalize hB : out.dropWhile (fun y => decide (cmpC y.Cell x.Cell < 0)) = B at htd ⊢
  cases B with
  | nil =>
    rw [List.append_nil] at htd
    subst htd
    refine ⟨?_, by simp, fun z hz => by simpa using hz⟩
    unfold SC
    rw [List.pairwise_append]
    refine ⟨s, by simp, fun a ha b hb => ?_⟩
    simp at hb; subst hb
    have := htk a ha; have := cC_range a.Cell b.Cell; omega
  | cons y r =>
    simp only
    split
    · exact ⟨s, by omega, fun z hz => .inl hz⟩
    · rename_i hne
      have hy : ¬ cmpC y.Cell x.Cell < 0 := by
        have := List.head?_dropWhile_not (p := fun y : Rw8 => decide (cmpC y.Cell x.Cell < 0)) (l := out)
        rw [hB] at this
        simpa using this
      have hry := cC_range y.Cell x.Cell
      have hxy : cmpC x.Cell y.Cell = -1 := by have := cC_anti x.Cell y.Cell; omega
      subst htd
      unfold SC at s ⊢
      rw [List.pairwise_append] at s ⊢
      obtain ⟨s1, s2, s3⟩ := s
      have s2' := List.pairwise_cons.1 s2
      refine ⟨⟨s1, List.pairwise_cons.2 ⟨fun b hb => ?_, s2⟩, fun a ha b hb => ?_⟩, by simp; omega, fun z hz => ?_⟩
      · rcases List.mem_cons.1 hb with rfl | hb
        · exact hxy
        · exact cC_trans hxy (s2'.1 b hb)
      · rcases List.mem_cons.1 hb with rfl | hb
        · have := htk a ha; have := cC_range a.Cell b.Cell; omega
        · exact s3 a ha b hb
      · simp only [List.mem_append, List.mem_cons] at hz ⊢
        rcases hz with hz | rfl | hz
        · exact .inl (.inl hz)
        · exact .inr rfl
        · exact .inl (.inr hz)
theorem ord_fold : ∀ (A out : List Rw8), SC out → SC (A.foldl ordI out) ∧ (A.foldl ordI out).length ≤ out.length + A.length
  | [], out, s => ⟨s, by simp⟩
  | x :: A, out, s => by
    obtain ⟨h1, h2, _⟩ := ordI_sc (x := x) s
    obtain ⟨h3, h4⟩ := ord_fold A (ordI out x) h1
    exact ⟨h3, by simp only [List.foldl_cons, List.length_cons]; omega⟩
theorem ordL_sc (A : List Rw8) : SC (ordL A) ∧ (ordL A).length ≤ 200 := by
  obtain ⟨h1, h2⟩ := ord_fold (A.take 200) [] .nil
  refine ⟨h1, ?_⟩
  unfold ordL
  simp at h2 ⊢; omega
abbrev mg (a b : List Rw8) : List Rw8 := List.merge a b leC
end Go.Proofs.Ytidpbnbjpglhfaa.V
namespace Go.Proofs.Ytidpbnbjpglhfaa.V
open Go
set_option linter.unusedVariables false
set_option linter.unusedSimpArgs false
theorem twr_get {p : Rw8 → Bool} : ∀ {out : List Rw8} {i : Nat}, i < (out.takeWhile p).length → ∃ v, out[i]? = some v ∧ p v = true
  | [], i, h => by simp at h
  | a :: r, i, h => by
    rw [List.takeWhile_cons] at h
    split at h
    · rename_i hp
      cases i with
      | zero => exact ⟨a, rfl, hp⟩
      | succ i =>
        simp at h
        obtain ⟨v, h1, h2⟩ := twr_get (out := r) (i := i) h
        exact ⟨v, by simpa using h1, h2⟩
    · simp at h
theorem twr_parts (p : Rw8 → Bool) (out : List Rw8) : out.take (out.takeWhile p).length = out.takeWhile p ∧ out.drop (out.takeWhile p).length = out.dropWhile p := by
  have h := List.takeWhile_append_dropWhile (p := p) (l := out)
  constructor
  · conv => lhs; arg 2; rw [← h]
    exact List.take_left' rfl
  · conv => lhs; arg 2; rw [← h]
    exact List.drop_left' rfl
theorem rowAt8 {h : H} {s : Sl} {A : List Rw8} (rd : Reads h s 7 (A.flatMap cW)) {i : Nat} {x : Rw8} (hx : A[i]? = some x) {K : Addr → Prop} (k : ∀ a, Cells h a (cW x) → K a) : idxA s (i : Int) 7 K := by
  obtain ⟨p, q1, q2, q3⟩ := rd_at cW_len (by omega) rd hx
  have hl := rd_len cW_len (by omega) rd
  exact idxR_of (i := i) q1 (by have := (List.getElem?_eq_some_iff.1 hx).1; omega) rfl (k _ q3)
theorem ldC8 {h : H} {a : Addr} {x : Rw8} {K : Cel → Prop} (c : Cells h a (cW x)) (k : K x.Cell) : ld_S_api_Cell h (a.add 0) K := by
  rw [add0]; exact ⟨x.Cell, Cells.pre c, k⟩
theorem cel_eq {x y : Cel} : ((x.View == y.View) && ((x.Key.toList == y.Key.toList) && ((x.Start == y.Start) && true))) = decide (cmpC x y = 0) := by
  rw [Bool.eq_iff_iff, decide_eq_true_eq, cC_zero]
  obtain ⟨a1, ⟨⟨a2⟩⟩, a3⟩ := x
  obtain ⟨b1, ⟨⟨b2⟩⟩, b3⟩ := y
  simp [toList_data]
theorem ordered_spec {h : H} {s : Sl} {A : List Rw8} {Q : Sl → H → Prop} (rd : Reads h s 7 (A.flatMap cW)) (hA : A.length < 10000000000000000000) (k : ∀ r h', Owns h' r tn_api_Row 7 ((ordL A).flatMap cW) → Mine h r → Ext h h' → Q r h') : F.spatelaw8_ordered s h Q := by
  unfold F.spatelaw8_ordered
  have hl := rd_len cW_len (by omega) rd
  refine ⟨201, ?_⟩
  have key : ∀ (d i : Nat) (h' : H) (so : Sl) (out : List Rw8), i ≤ A.length → i ≤ 200 → 200 - i < d → out = (A.take i).foldl ordI [] → out.length ≤ i → Owns h' so tn_api_Row 7 (out.flatMap cW) → Mine h so → Ext h h' → F.spatelaw8_ordered.l1 Q d s so (i : Int) h' := by
    intro d
    induction d with
    | zero => intro i h' so out _ _ hd; omega
    | succ d ih =>
      intro i h' so out hiA hi2 hd ho hol w m e
      have hlo := own_len cW_len (by omega) w
      unfold F.spatelaw8_ordered.l1
      simp only [decide_eq_true_eq, decide_eq_false_iff_not]
      rw [hl]
      have fin : (A.take 200).foldl ordI [] = out → ∀ b, b = false → F.spatelaw8_ordered.j9 Q (F.spatelaw8_ordered.l1 Q d) s so (i : Int) b h' := fun he b hb => by
        unfold F.spatelaw8_ordered.j9
        refine ⟨fun g => (by rw [hb] at g; cases g), fun _ => k so h' ?_ m e⟩
        unfold ordL; rw [he]; exact w
      refine ⟨fun gg => ?_, fun gg => fin ?_ _ rfl⟩
      · by_cases h200 : i < 200
        · rw [decide_eq_true (show (i : Int) < 200 by omega)]
          unfold F.spatelaw8_ordered.j9
          refine ⟨fun _ => ?_, fun g => (by cases g)⟩
          unfold F.spatelaw8_ordered.j2
          obtain ⟨x, hx⟩ : ∃ x, A[i]? = some x := ⟨_, List.getElem?_eq_getElem (by omega)⟩
          have hfold : (A.take (i + 1)).foldl ordI [] = ordI out x := by rw [tk_snoc hx, List.foldl_append, ← ho]; rfl
          have hol2 : (ordI out x).length ≤ i + 1 := by
            have hsc : SC out := by rw [ho]; exact (ord_fold (A.take i) [] .nil).1
            have := (ordI_sc (x := x) hsc).2.1; omega
          have j3 : ∀ (h2 : H) (so2 : Sl), Owns h2 so2 tn_api_Row 7 ((ordI out x).flatMap cW) → Mine h so2 → Ext h h2 → F.spatelaw8_ordered.j3 Q (F.spatelaw8_ordered.l1 Q d) s so2 (i : Int) h2 := fun h2 so2 w2 m2 e2 => by
            unfold F.spatelaw8_ordered.j3
            rw [w64s (by omega)]
            exact ih (i + 1) h2 so2 _ (by omega) (by omega) (by omega) hfold.symm hol2 w2 m2 e2
          obtain ⟨tp1, tp2⟩ := twr_parts (fun y : Rw8 => decide (cmpC y.Cell x.Cell < 0)) out
          have hget := fun j => twr_get (p := fun y : Rw8 => decide (cmpC y.Cell x.Cell < 0)) (out := out) (i := j)
          have htl : (out.takeWhile (fun y : Rw8 => decide (cmpC y.Cell x.Cell < 0))).length ≤ out.length := (List.takeWhile_prefix _).length_le
          generalize hat : (out.takeWhile (fun y : Rw8 => decide (cmpC y.Cell x.Cell < 0))).length = at_ at tp1 tp2 hget htl
          -- it is laid in
          have j7 : ∀ (h2 : H), Ext h' h2 → ordI out x = out.take at_ ++ x :: out.drop at_ → F.spatelaw8_ordered.j7 Q (F.spatelaw8_ordered.l1 Q d) s so (i : Int) (at_ : Int) h2 := fun h2 e2 hins => by
            have w2 := w.ext e2
            have hcap := cap_of w2
            unfold F.spatelaw8_ordered.j7
            refine cutL_of (lo := 0) (hi := at_) rfl rfl (by omega) (by omega) ?_
            have r1 := cut_reads (lo := 0) (hi := at_) cW_len (by omega) w2.reads (by omega) htl hcap
            simp only [List.drop_zero, Nat.sub_zero] at r1
            refine app_list (L := []) (M := out.take at_) cW_len (by omega) el_Slapi_Row (by simpa using Owns.nil h2 tn_api_Row 7) r1 (fun x => ones_S_api_Row x) (by simp only [List.length_nil, List.length_take]; omega) fun r5 h4 w5 o5 n5 => ?_
            have m5 : Mine h r5 := fun y hy => by
              rcases n5 with n5 | ⟨b', n5, n6⟩
              · rw [n5] at hy; simp [Sl.blk] at hy
              · rw [n5] at hy; cases hy; have := e.size; have := e2.size; omega
            have e4 : Ext h h4 := (e.trans e2).step o5 fun y hy hb => by simp [Sl.blk] at hb
            have w4 : Owns h4 so tn_api_Row 7 (out.flatMap cW) := w2.only o5 fun y hy hb => by simp [Sl.blk] at hb
            refine rowAt8 (rd.only e4 fun _ _ f => f) hx fun a ca => ⟨x, ca, ?_⟩
            refine push8 (f := cW) (x := x) el_Slapi_Row cW_len (by omega) (fun x => ones_S_api_Row x) e4 w5 m5 (by simp only [List.length_append, List.length_nil, List.length_take]; omega) fun s6 h6 w6 m6 e6 o6 => ?_
            have hso : Owns h6 so tn_api_Row 7 (out.flatMap cW) := w4.only o6 fun y hy hb => by
              rcases n5 with n5 | ⟨b', n5, n6⟩
              · rw [n5] at hb; simp [Sl.blk] at hb
              · rw [n5] at hb; cases hb; have := w2.blk_lt hy; omega
            refine cutL_of (lo := at_) (hi := out.length) rfl (by rw [hlo]) htl (by omega) ?_
            have r6 := cut_reads (lo := at_) (hi := out.length) cW_len (by omega) hso.reads htl (Nat.le_refl _) hcap
            rw [List.take_of_length_le (by rw [List.length_drop]; omega)] at r6
            refine app_list (L := [] ++ out.take at_ ++ [x]) (M := out.drop at_) cW_len (by omega) el_Slapi_Row w6 r6 (fun x => ones_S_api_Row x) (by simp only [List.length_append, List.length_nil, List.length_take, List.length_singleton, List.length_drop]; omega) fun r7 h7 w7 o7 n7 => ?_
            have m7 : Mine h r7 := fun y hy => by
              rcases n7 with n7 | ⟨b', n7, n8⟩
              · exact m6 y (by rw [← n7]; exact hy)
              · rw [n7] at hy; cases hy; have := e6.size; omega
            refine j3 h7 r7 ?_ m7 (e6.mine m6 o7)
            rw [hins]
            simpa using w7
          refine ⟨out.length + 1, ?_⟩
          have find : ∀ (d2 j : Nat) (h2 : H), j ≤ at_ → at_ - j < d2 → Ext h' h2 → F.spatelaw8_ordered.l4 Q (F.spatelaw8_ordered.l1 Q d) d2 s so (i : Int) (j : Int) h2 := by
            intro d2
            induction d2 with
            | zero => intro j h2 _ hd2; omega
            | succ d2 ih2 =>
              intro j h2 hj hd2 e2
              have w2 := w.ext e2
              have rd2 := rd.only (e.trans e2) fun _ _ f => f
              unfold F.spatelaw8_ordered.l4
              simp only [decide_eq_true_eq, decide_eq_false_iff_not]
              rw [hlo]
              refine ⟨fun g2 => ?_, fun g2 => ?_⟩
              · obtain ⟨v, hv⟩ : ∃ v, out[j]? = some v := ⟨_, List.getElem?_eq_getElem (by omega)⟩
                refine rowAt8 w2.reads hv fun a1 c1 => ldC8 c1 (rowAt8 rd2 hx fun a2 c2 => ldC8 c2 ?_)
                refine CompareR_spec fun h3 e3 => ?_
                unfold F.spatelaw8_ordered.j6
                by_cases hja : j < at_
                · obtain ⟨v', hv', hp⟩ := hget j hja
                  rw [hv] at hv'; cases hv'
                  rw [hp]
                  refine ⟨fun _ => ?_, fun g => (by cases g)⟩
                  unfold F.spatelaw8_ordered.j5
                  rw [w64s (by omega)]
                  exact ih2 (j + 1) h3 (by omega) (by omega) (e2.trans e3)
                · have hje : j = at_ := by omega
                  subst hje
                  have hdr : out.dropWhile (fun y : Rw8 => decide (cmpC y.Cell x.Cell < 0)) = v :: out.drop (j + 1) := by rw [← tp2]; exact drop_cons hv
                  have hvp : decide (cmpC v.Cell x.Cell < 0) = false := by
                    have := List.head?_dropWhile_not (p := fun y : Rw8 => decide (cmpC y.Cell x.Cell < 0)) (l := out)
                    rw [hdr] at this
                    simpa using this
                  rw [hvp]
                  refine ⟨fun g => (by cases g), fun _ => ⟨fun _ => ?_, fun g => absurd g2 (by simpa [hlo] using g)⟩⟩
                  have w3 := w2.ext e3
                  have rd3 := rd2.only e3 fun _ _ f => f
                  refine rowAt8 w3.reads hv fun a1 c1 => ldC8 c1 (rowAt8 rd3 hx fun a2 c2 => ldC8 c2 ?_)
                  rw [cel_eq]
                  unfold F.spatelaw8_ordered.j8
                  refine ⟨fun g => ?_, fun g => ?_⟩
                  · have hz := of_decide_eq_true g
                    refine j3 h3 so ?_ m ((e.trans e2).trans e3)
                    have : ordI out x = out := by unfold ordI; rw [hdr]; simp only [if_pos hz]
                    rw [this]; exact w3
                  · have hz := of_decide_eq_false g
                    refine j7 h3 (e2.trans e3) ?_
                    unfold ordI; rw [hdr]; simp only [if_neg hz]
                    rw [tp1, drop_cons hv]
              · have hje : j = at_ ∧ at_ = out.length := by omega
                unfold F.spatelaw8_ordered.j6
                refine ⟨fun g => (by cases g), fun _ => ⟨fun g => absurd (by simpa [hlo] using g) g2, fun _ => ?_⟩⟩
                unfold F.spatelaw8_ordered.j8
                refine ⟨fun g => (by cases g), fun _ => ?_⟩
                rw [hje.1]
                refine j7 h2 e2 ?_
                have hdr : out.dropWhile (fun y : Rw8 => decide (cmpC y.Cell x.Cell < 0)) = [] := by rw [← tp2, hje.2]; simp
                unfold ordI; rw [hdr, hje.2]; simp
          exact find _ 0 h' (by omega) (by omega) (.refl _)
        · rw [decide_eq_false (show ¬ (i : Int) < 200 by omega)]
          have : i = 200 := by omega
          exact fin (by rw [ho, this]) _ rfl
      · have : i = A.length := by omega
        rw [ho, this, List.take_length, List.take_of_length_le (by omega)]
  exact key _ 0 h _ [] (by omega) (by omega) (by omega) rfl (by simp) (by simpa using Owns.nil h tn_api_Row 7) (.nil _ _ _) (.refl _)
end Go.Proofs.Ytidpbnbjpglhfaa.V
namespace Go.Proofs.Ytidpbnbjpglhfaa.V
open Go
set_option linter.unusedVariables false
set_option linter.unusedSimpArgs false
section
variable {T : Type} {P : Program} {enc : TypeId × Value → T} {w : World} {base : Nat} {spare : Nat → Bool} {held : Bool} {fuel : Nat}
theorem cells_of {a : Addr} {n : Nat} {cs : List Value} (h : w.cells? base a n = some cs) : cs.length = n ∧ ∀ j v, cs[j]? = some v → w.cell? (a.add j) = some v := by
  obtain ⟨h1, h2, h3⟩ := World.cells?_some h
  refine ⟨h2, fun j v hv => ?_⟩
  have hj : j < n := by rw [← h2]; exact (List.getElem?_eq_some_iff.1 hv).1
  rw [h3 j hj, hv]
/-- A slice that came in, each of whose things is asL G says. -/
theorem open_slice {t e : TypeId} {k : Nat} {v : Value} {x : DataW T × List MemPlace} (G : List Value → Prop) (ht : P.underlying t = some (.slice e)) (hk : P.cellsOf e = k) (hk0 : 0 < k) (h : DataW.trod enc P w base spare held fuel t [v] = some x)
    (hG : ∀ n cs y, DataW.trod enc P w base spare held n e cs = some y → cs.length = k → G cs) :
    ∃ s : Sl, v = s.enc ∧ s.len ≤ s.cap ∧ s.cap ≤ maxLen ∧ ∃ CS : List (List Value), CS.length = s.len ∧ (∀ c ∈ CS, c.length = k ∧ G c) ∧ Reads w.heap s k CS.flatten ∧ (CS ≠ [] → ∀ b, s.blk = some b → b < w.heap.size) := by
  rcases DataW.trod_slice ht h with ⟨h0, _⟩ | ⟨a, len, cap, elems, rest, n, _, h0, _, hb, hl, hm, hlen, hel, _, _⟩
  · simp at h0; subst h0
    exact ⟨⟨none, 0, 0⟩, rfl, Nat.le_refl _, Nat.zero_le _, [], rfl, (fun c hc => by cases hc), ⟨by simp, fun _ => ⟨rfl, rfl⟩, fun i v hv => by simp at hv⟩, fun h => absurd rfl h⟩
  · simp at h0; subst h0
    rw [hk] at hel
    have each : ∀ i, i < len → ∃ cs, w.cells? base (a.add (i * k)) k = some cs ∧ G cs := fun i hi => by
      have hx := hel i hi
      rw [List.getElem?_eq_getElem (by omega), Option.bind_eq_some_iff] at hx
      obtain ⟨cs, hc, ht'⟩ := hx
      exact ⟨cs, hc, hG _ _ _ ht' (cells_of hc).1⟩
    obtain ⟨CS, hCS, hall⟩ : ∃ CS : List (List Value), CS.length = len ∧ ∀ i c, CS[i]? = some c → w.cells? base (a.add (i * k)) k = some c ∧ G c := by
      clear hel h
      have : ∀ m, m ≤ len → ∃ CS : List (List Value), CS.length = m ∧ ∀ i c, CS[i]? = some c → w.cells? base (a.add (i * k)) k = some c ∧ G c := fun m => by
        induction m with
        | zero => intro _; exact ⟨[], rfl, fun i c hc => by simp at hc⟩
        | succ m ih =>
          intro hm2
          obtain ⟨CS, h1, h2⟩ := ih (by omega)
          obtain ⟨c, h3, h4⟩ := each m (by omega)
          refine ⟨CS ++ [c], by simp [h1], fun i d hd => ?_⟩
          by_cases hi : i < CS.length
          · rw [List.getElem?_append_left hi] at hd; exact h2 i d hd
          · rw [List.getElem?_append_right (by omega)] at hd
            have hi2 : i - CS.length = 0 := by
              have := (List.getElem?_eq_some_iff.1 hd).1
              simp at this; omega
            rw [hi2] at hd; simp at hd; subst hd
            have : i = m := by omega
            subst this; exact ⟨h3, h4⟩
      exact this len (Nat.le_refl _)
    have hlen' : ∀ c ∈ CS, c.length = k ∧ G c := fun c hc => by
      obtain ⟨i, hi⟩ := List.mem_iff_getElem?.1 hc
      exact ⟨(cells_of (hall i c hi).1).1, (hall i c hi).2⟩
    have hspot : 0 < len → a.spot = none ∧ a.block < w.heap.size := fun h0 => by
      obtain ⟨c, hc⟩ : ∃ c, CS[0]? = some c := ⟨_, List.getElem?_eq_getElem (by omega)⟩
      obtain ⟨h1, h2⟩ := cells_of (hall 0 c hc).1
      obtain ⟨v, hv⟩ : ∃ v, c[0]? = some v := ⟨_, List.getElem?_eq_getElem (by omega)⟩
      have hcell : cellH w.heap ((a.add (0 * k)).add 0) = some v := h2 0 v hv
      have e0 : ∀ p : Addr, p.add 0 = p := fun p => by unfold Addr.add; split <;> simp_all
      rw [Nat.zero_mul, e0, e0] at hcell
      unfold cellH at hcell
      split at hcell
      · rename_i hh
        refine ⟨?_, (Array.getElem?_eq_some_iff.1 hh).1⟩
        cases hs : a.spot with
        | none => rfl
        | some s => rw [hs] at hcell; simp at hcell
      · cases hcell
    refine ⟨⟨some a, len, cap⟩, rfl, hl, hm, CS, hCS, hlen', ⟨?_, (fun h => by cases h), fun i v hv => ?_⟩, fun hne b hb => ?_⟩
    · rw [← hCS]
      have : ∀ (L : List (List Value)), (∀ c ∈ L, c.length = k) → L.flatten.length = L.length * k := fun L => by
        induction L with
        | nil => intro _; simp
        | cons c r ih => intro hL; simp [hL c (by simp), ih fun c hc => hL c (List.mem_cons_of_mem _ hc), Nat.add_mul]; omega
      exact this CS fun c hc => (hlen' c hc).1
    · have : ∀ (L : List (List Value)) (m : Nat), (∀ c ∈ L, c.length = k) → (∀ i c, L[i]? = some c → ∀ j v, c[j]? = some v → w.cell? (a.add ((m + i) * k + j)) = some v) → ∀ i v, L.flatten[i]? = some v → w.cell? (a.add (m * k + i)) = some v := fun L => by
        induction L with
        | nil => intro m _ _ i v hv; simp at hv
        | cons c r ih =>
          intro m hL hc i v hv
          have hcl := hL c (by simp)
          rw [List.flatten_cons] at hv
          by_cases hi : i < c.length
          · rw [List.getElem?_append_left hi] at hv
            exact hc 0 c rfl i v hv
          · rw [List.getElem?_append_right (by omega)] at hv
            have := ih (m + 1) (fun c hc => hL c (List.mem_cons_of_mem _ hc)) (fun i d hd j v hj => by
              have := hc (i + 1) d (by simpa using hd) j v hj
              rwa [show m + (i + 1) = m + 1 + i from by omega] at this) _ v hv
            rwa [show (m + 1) * k + (i - c.length) = m * k + i from by rw [Nat.add_mul]; omega] at this
      have hlt : 0 < len := by
        rcases Nat.eq_zero_or_pos len with h0 | h0
        · have : CS = [] := List.eq_nil_of_length_eq_zero (by omega)
          subst this; simp at hv
        · exact h0
      obtain ⟨hsp, _⟩ := hspot hlt
      refine ⟨a, rfl, hsp, ?_⟩
      have := this CS 0 (fun c hc => (hlen' c hc).1) (fun i c hc j v hj => by
        have h1 := (cells_of (hall i c hc).1).2 j v hj
        obtain ⟨ab, ao, asp⟩ := a
        simp only at hsp; subst hsp
        rw [add_lit, add_lit] at h1
        rw [add_lit, Nat.zero_add, ← Nat.add_assoc]; exact h1) i v hv
      rw [Nat.zero_mul, Nat.zero_add] at this
      exact this
    · simp [Sl.blk] at hb
      subst hb
      have : 0 < len := by
        rw [← hCS]; exact List.length_pos_iff.2 hne
      exact (hspot this).2
end
end Go.Proofs.Ytidpbnbjpglhfaa.V
namespace Go.Proofs.Ytidpbnbjpglhfaa.V
open Go
set_option linter.unusedVariables false
section
variable {T : Type} {enc : TypeId × Value → T} {w : World} {base : Nat} {spare : Nat → Bool} {held : Bool} {fuel : Nat}
theorem list3 {β : Type} : ∀ {l : List β}, l.length = 3 → ∃ a b c, l = [a, b, c]
  | [a, b, c], _ => ⟨a, b, c, rfl⟩
theorem cell_open {cs : List Value} {y : DataW T × List MemPlace} (h : DataW.trod enc PP w base spare held fuel 34 cs = some y) (hl : cs.length = 3) :
    ∃ c : Cel, cs = c.cells ∧ (-9223372036854775808 ≤ c.View ∧ c.View < 9223372036854775808) ∧ (-9223372036854775808 ≤ c.Start ∧ c.Start < 9223372036854775808) ∧ c.Key.size ≤ maxLen := by
  obtain ⟨xs, n, _, _, _, hlen, hf⟩ := DataW.trod_struct Try.underlying34 h
  have hlen3 : xs.length = 3 := hlen
  have k3 : PP.cellsOf 3 = 1 := by kernel_rfl
  have k9 : PP.cellsOf 9 = 1 := by kernel_rfl
  have k2 : PP.cellsOf 2 = 1 := by kernel_rfl
  obtain ⟨c0, c1, c2, rfl⟩ := list3 hl
  obtain ⟨y0, y1, y2, rfl⟩ := list3 hlen3
  have f0 : DataW.trod enc PP w base spare held n 3 (([c0, c1, c2].drop 0).take (PP.cellsOf 3)) = some y0 := hf 0 _ rfl
  have f1 : DataW.trod enc PP w base spare held n 9 (([c0, c1, c2].drop 1).take (PP.cellsOf 9)) = some y1 := hf 1 _ rfl
  have f2 : DataW.trod enc PP w base spare held n 2 (([c0, c1, c2].drop 2).take (PP.cellsOf 2)) = some y2 := hf 2 _ rfl
  rw [k3] at f0
  rw [k9] at f1
  rw [k2] at f2
  simp only [List.drop_zero, List.drop_succ_cons, List.take_succ_cons, List.take_zero] at f0 f1 f2
  obtain ⟨m0, e0, _, w0⟩ := DataW.trod_int Try.underlying3 f0
  obtain ⟨s1, e1, _, w1⟩ := DataW.trod_string Try.underlying9 f1
  obtain ⟨m2, e2, _, w2⟩ := DataW.trod_int Try.underlying2 f2
  simp only [List.cons.injEq, and_true] at e0 e1 e2
  subst e0; subst e1; subst e2
  exact ⟨⟨m0, s1, m2⟩, rfl, i64_of w0, i64_of w2, w1⟩
end
end Go.Proofs.Ytidpbnbjpglhfaa.V
namespace Go.Proofs.Ytidpbnbjpglhfaa.V
open Go
set_option linter.unusedVariables false
set_option linter.unusedSimpArgs false
section
variable {T : Type} {enc : TypeId × Value → T} {w : World} {base : Nat} {spare : Nat → Bool} {held : Bool} {fuel : Nat}
theorem gen_open {α : Type} (f : α → List Value) (ok : α → Prop) {t e : TypeId} {k : Nat} {v : Value} {y : DataW T × List MemPlace} (hf : ∀ x, (f x).length = k) (ht : PP.underlying t = some (.slice e)) (hk : PP.cellsOf e = k) (hk0 : 0 < k) (h : DataW.trod enc PP w base spare held fuel t [v] = some y)
    (hG : ∀ n cs y, DataW.trod enc PP w base spare held n e cs = some y → cs.length = k → ∃ x, cs = f x ∧ ok x) :
    ∃ (s : Sl) (L : List α), v = s.enc ∧ Reads w.heap s k (L.flatMap f) ∧ s.len ≤ s.cap ∧ (L ≠ [] → ∀ b, s.blk = some b → b < w.heap.size) ∧ (∀ x ∈ L, ok x) ∧ L.length ≤ 9223372036854775807 := by
  obtain ⟨s, h1, h2, h3, CS, h4, h5, h6, h7⟩ := open_slice (fun cs => ∃ x : α, cs = f x ∧ ok x) ht hk hk0 h fun n cs y hy hl => hG n cs y hy hl
  have : ∀ (L : List (List Value)), (∀ c ∈ L, c.length = k ∧ ∃ x : α, c = f x ∧ ok x) → ∃ S : List α, L = S.map f ∧ ∀ x ∈ S, ok x := fun L => by
    induction L with
    | nil => intro _; exact ⟨[], rfl, fun n hn => by cases hn⟩
    | cons c r ih =>
      intro hL
      obtain ⟨E, h1, h2⟩ := ih fun c hc => hL c (List.mem_cons_of_mem _ hc)
      obtain ⟨_, n, rfl, hn⟩ := hL c (by simp)
      refine ⟨n :: E, by rw [h1]; rfl, fun m hm => ?_⟩
      rcases List.mem_cons.1 hm with e | e
      · subst e; exact hn
      · exact h2 m e
  obtain ⟨S, rfl, hS⟩ := this CS h5
  have hr : Reads w.heap s k (S.flatMap f) := by rw [List.flatMap_def]; exact h6
  refine ⟨s, S, h1, hr, h2, fun hn b hb => h7 (by simpa using hn) b hb, hS, ?_⟩
  have := rd_len hf hk0 hr
  simp only [maxLen] at h3; omega
theorem list4 {β : Type} : ∀ {l : List β}, l.length = 4 → ∃ a b c d, l = [a, b, c, d]
  | [a, b, c, d], _ => ⟨a, b, c, d, rfl⟩
theorem list2 {β : Type} : ∀ {l : List β}, l.length = 2 → ∃ a b, l = [a, b]
  | [a, b], _ => ⟨a, b, rfl⟩
theorem agg_open {cs : List Value} {y : DataW T × List MemPlace} (h : DataW.trod enc PP w base spare held fuel tn_api_Agg cs = some y) (hl : cs.length = 4) : ∃ x : S_api_Agg, cs = x.cells := by
  obtain ⟨xs, n, _, _, _, hlen, hf⟩ := DataW.trod_struct ut_api_Agg h
  have hlen4 : xs.length = 4 := hlen
  have k2 : PP.cellsOf 2 = 1 := by kernel_rfl
  obtain ⟨c0, c1, c2, c3, rfl⟩ := list4 hl
  obtain ⟨y0, y1, y2, y3, rfl⟩ := list4 hlen4
  have f0 : DataW.trod enc PP w base spare held n 2 (([c0, c1, c2, c3].drop 0).take (PP.cellsOf 2)) = some y0 := hf 0 _ rfl
  have f1 : DataW.trod enc PP w base spare held n 2 (([c0, c1, c2, c3].drop 1).take (PP.cellsOf 2)) = some y1 := hf 1 _ rfl
  have f2 : DataW.trod enc PP w base spare held n 2 (([c0, c1, c2, c3].drop 2).take (PP.cellsOf 2)) = some y2 := hf 2 _ rfl
  have f3 : DataW.trod enc PP w base spare held n 2 (([c0, c1, c2, c3].drop 3).take (PP.cellsOf 2)) = some y3 := hf 3 _ rfl
  rw [k2] at f0 f1 f2 f3
  simp only [List.drop_zero, List.drop_succ_cons, List.take_succ_cons, List.take_zero] at f0 f1 f2 f3
  obtain ⟨m0, e0, _, w0⟩ := DataW.trod_int Try.underlying2 f0
  obtain ⟨m1, e1, _, w1⟩ := DataW.trod_int Try.underlying2 f1
  obtain ⟨m2, e2, _, w2⟩ := DataW.trod_int Try.underlying2 f2
  obtain ⟨m3, e3, _, w3⟩ := DataW.trod_int Try.underlying2 f3
  simp only [List.cons.injEq, and_true] at e0 e1 e2 e3
  subst e0; subst e1; subst e2; subst e3
  exact ⟨⟨m0, m1, m2, m3⟩, rfl⟩
theorem row_open {cs : List Value} {y : DataW T × List MemPlace} (h : DataW.trod enc PP w base spare held fuel tn_api_Row cs = some y) (hl : cs.length = 7) : ∃ x : Rw8, cs = cW x ∧ True := by
  obtain ⟨xs, n, _, _, _, hlen, hf⟩ := DataW.trod_struct ut_api_Row h
  have hlen2 : xs.length = 2 := hlen
  have k3 : PP.cellsOf tn_api_Cell = 3 := by kernel_rfl
  have k4 : PP.cellsOf tn_api_Agg = 4 := by kernel_rfl
  obtain ⟨y0, y1, rfl⟩ := list2 hlen2
  have f0 : DataW.trod enc PP w base spare held n tn_api_Cell ((cs.drop 0).take (PP.cellsOf tn_api_Cell)) = some y0 := hf 0 _ rfl
  have f1 : DataW.trod enc PP w base spare held n tn_api_Agg ((cs.drop 3).take (PP.cellsOf tn_api_Agg)) = some y1 := hf 1 _ rfl
  rw [k3] at f0
  rw [k4] at f1
  obtain ⟨c, hc, _⟩ := cell_open f0 (by simp; omega)
  obtain ⟨a, ha⟩ := agg_open f1 (by simp; omega)
  refine ⟨⟨c, a⟩, ?_, trivial⟩
  have h1 : cs = cs.take 3 ++ (cs.drop 3).take 4 := by
    conv => lhs; rw [← List.take_append_drop 3 cs]
    rw [List.take_of_length_le (l := cs.drop 3) (by simp; omega)]
  rw [h1]
  rw [List.drop_zero] at hc
  rw [hc, ha]; rfl
theorem rows_open {v : Value} {y : DataW T × List MemPlace} (h : DataW.trod enc PP w base spare held fuel tn_Slapi_Row [v] = some y) :
    ∃ (s : Sl) (L : List Rw8), v = s.enc ∧ Reads w.heap s 7 (L.flatMap cW) ∧ s.len ≤ s.cap ∧ (L ≠ [] → ∀ b, s.blk = some b → b < w.heap.size) ∧ (∀ x ∈ L, True) ∧ L.length ≤ 9223372036854775807 :=
  gen_open cW (fun _ => True) cW_len ut_Slapi_Row (show PP.cellsOf tn_api_Row = 7 from by kernel_rfl) (by omega) h fun n cs y hy hl => row_open hy hl
end
end Go.Proofs.Ytidpbnbjpglhfaa.V
namespace Go.Proofs.Ytidpbnbjpglhfaa.V
open Go
set_option linter.unusedVariables false
set_option linter.unusedSimpArgs false
theorem mR2 (a b : List Rw8) : mR [a, b] = mg a b := by
  show List.merge a (List.merge b [] leC) leC = _
  rw [merge_nil']
end Go.Proofs.Ytidpbnbjpglhfaa.V
namespace Go.Proofs.Ytidpbnbjpglhfaa.V
open Go
set_option linter.unusedVariables false
set_option linter.unusedSimpArgs false
/-- A slice that was made between two heaps. -/
def Btw (a b : H) (s : Sl) : Prop := ∀ x, s.blk = some x → a.size ≤ x ∧ x < b.size
theorem Btw.of {a b : H} {s : Sl} {e : TypeId} {k : Nat} {cs : List Value} (m : Mine a s) (w : Owns b s e k cs) : Btw a b s := fun x hx => ⟨m x hx, w.blk_lt hx⟩
theorem Btw.ne {a b c d : H} {s t : Sl} (u : Btw a b s) (v : Btw c d t) (h : b.size ≤ c.size) {x : Nat} (hx : s.blk = some x) : t.blk ≠ some x := fun hy => by
  have := u x hx; have := v x hy; omega
theorem once_spec {h : H} {s : Sl} {A : List Int} {Q : Sl → H → Prop} (rd : Reads h s 1 (A.flatMap cI)) (hA : A.length ≤ 100000) (k : ∀ r h' (O : List Int), O.length ≤ A.length → Owns h' r 3 1 (O.flatMap cI) → Mine h r → Ext h h' → Q r h') : F.spatelaw8_once s h Q := by
  unfold F.spatelaw8_once
  have hl := rd_len cI_len (by omega) rd
  refine ⟨A.length + 1, ?_⟩
  have rdx : ∀ {hh : H} {i : Nat} {x : Int} {K : Int → Prop}, Ext h hh → A[i]? = some x → K x → idxA s (i : Int) 1 fun a => ldI .i64 hh a K := fun {hh i x K} e hx kk => by
    obtain ⟨p, p1, p2, p3⟩ := rd_at cI_len (by omega) (rd.only e fun _ _ f => f) hx
    exact idxR_of (i := i) p1 (by have := (List.getElem?_eq_some_iff.1 hx).1; omega) rfl ((ldI_iff (n := x) p3.one).2 kk)
  have key : ∀ (d i : Nat) (h' : H) (r : Sl) (O : List Int), i ≤ A.length → A.length - i < d → O.length ≤ i → Owns h' r 3 1 (O.flatMap cI) → Mine h r → Ext h h' → F.spatelaw8_once.l1 Q d s r (i : Int) h' := by
    intro d
    induction d with
    | zero => intro i h' r O _ hd; omega
    | succ d ih =>
      intro i h' r O hi hd hO w m e
      unfold F.spatelaw8_once.l1
      simp only [decide_eq_true_eq, decide_eq_false_iff_not]
      rw [hl]
      refine ⟨fun gg => ?_, fun gg => k r h' O (by omega) w m e⟩
      obtain ⟨x, hx⟩ : ∃ x, A[i]? = some x := ⟨_, List.getElem?_eq_getElem (by omega)⟩
      have j3 : ∀ b : Bool, F.spatelaw8_once.j3 Q (F.spatelaw8_once.l1 Q d) s r (i : Int) b h' := fun b => by
        unfold F.spatelaw8_once.j3 F.spatelaw8_once.j2
        rw [w64s (by omega)]
        refine ⟨fun _ => rdx e hx (push8 (f := cI) (x := x) el_Slint cI_len (by omega) (fun x => one1 rfl) e w m (by omega) fun r2 h2 w2 m2 e2 o2 => ?_), fun _ => ih (i + 1) h' r O (by omega) (by omega) (by omega) w m e⟩
        exact ih (i + 1) h2 r2 _ (by omega) (by omega) (by simp; omega) w2 m2 e2
      refine ⟨fun _ => j3 true, fun g => ?_⟩
      have hi0 : i ≠ 0 := by intro h; subst h; simp at g
      obtain ⟨y, hy⟩ : ∃ y, A[i - 1]? = some y := ⟨_, List.getElem?_eq_getElem (by omega)⟩
      rw [w64 (n := (i : Int) - 1) (by omega) (by omega), show (i : Int) - 1 = ((i - 1 : Nat) : Int) from by omega]
      exact rdx e hx (rdx e hy (j3 _))
  exact key _ 0 h _ [] (by omega) (by omega) (by simp) (by simpa using Owns.nil h 3 1) (.nil _ _ _) (.refl _)
end Go.Proofs.Ytidpbnbjpglhfaa.V
namespace Go.Proofs.Ytidpbnbjpglhfaa.V
open Go
set_option linter.unusedVariables false
set_option linter.unusedSimpArgs false
/-- Element i of an owned list is written: the list is asL long, of the same block. -/
theorem put_at {α : Type} {f : α → List Value} {kk : Nat} {e : TypeId} {h : H} {s : Sl} {D : List α} {i : Nat} {x : α} {K : H → Prop} (hf : ∀ x, (f x).length = kk) (hk : 0 < kk) (w : Owns h s e kk (D.flatMap f)) (hi : i < D.length)
    (k : ∀ h', Owns h' s e kk ((D.set i x).flatMap f) → Only (fun b => s.blk = some b) h h' → K h') : idxA s (i : Int) kk fun a => stH h a (f x) K := by
  obtain ⟨b, p1, p2⟩ := own_at hf hk w (i := i) (x := D[i]) (List.getElem?_eq_getElem hi)
  have hl := own_len hf hk w
  refine idxA_of (i := i) p1 (by rw [hl]; exact hi) rfl ?_
  exact own_setAt (i := i) (x := x) hf w p1 hi fun h' w' o _ => k h' w' o
/-- append(nothing of one's own, list...) : a copy. -/
theorem copy_of {α : Type} {f : α → List Value} {kk : Nat} {t e : TypeId} {bytes : Nat} {z : Value} {h0 h : H} {s : Sl} {D : List α} {K : Sl → H → Prop} (el : El PP t e kk bytes z) (hf : ∀ x, (f x).length = kk) (hk : 0 < kk) (one : ∀ x, ∀ v ∈ f x, v.oneCell' = true)
    (e0 : Ext h0 h) (w : Reads h s kk (D.flatMap f)) (hl : (0 + D.length + (0 + D.length) / 4 + 256) * bytes ≤ 281474976710656)
    (k : ∀ s' h', Owns h' s' e kk (D.flatMap f) → Mine h s' → Ext h h' → K s' h') :
    newL h #[] e 0 fun s7 h6 => runL PP (Builtin.append_ #[t, t] t #[s7.enc, s.enc]) h6 fun s9 h8 => K s9 h8 := by
  refine newL_of fun n6 h6 hn6 b6 e6 sz6 => ?_
  have w6 : Owns h6 ⟨some ⟨n6, 0, none⟩, 0, 0⟩ e kk (([] : List α).flatMap f) := blk_owns (cs := []) b6 (by simp) (by simp [maxLen])
  refine app_list (L := []) (M := D) hf hk el w6 (w.only e6 fun _ _ f => f) one (by simpa using hl) fun r7 h7 q1 q2 q3 => ?_
  refine k r7 h7 (by simpa using q1) (fun b hb => ?_) (e6.mine (fun b hb => by simp [Sl.blk] at hb; omega) q2)
  rcases q3 with q3 | ⟨b', q3, q4⟩
  · rw [q3] at hb; simp [Sl.blk] at hb; omega
  · rw [q3] at hb; cases hb; have := e6.size; omega
end Go.Proofs.Ytidpbnbjpglhfaa.V
namespace Go.Proofs.Ytidpbnbjpglhfaa.V
open Go
set_option linter.unusedVariables false
set_option linter.unusedSimpArgs false
/-- Rows and numbers that are kept. -/
structure KP (h : H) (RR : List (Sl × List Rw8)) (II : List (Sl × List Int)) : Prop where
  r : ∀ p ∈ RR, Owns h p.1 tn_api_Row 7 (p.2.flatMap cW)
  i : ∀ p ∈ II, Owns h p.1 3 1 (p.2.flatMap cI)
/-- Apart from all of them. -/
def Ap (w : Sl) (RR : List (Sl × List Rw8)) (II : List (Sl × List Int)) : Prop := (∀ p ∈ RR, ∀ x, w.blk = some x → p.1.blk ≠ some x) ∧ ∀ p ∈ II, ∀ x, w.blk = some x → p.1.blk ≠ some x
section
variable {h h' : H} {RR : List (Sl × List Rw8)} {II : List (Sl × List Int)} {w : Sl}
theorem KP.ext (k : KP h RR II) (e : Ext h h') : KP h' RR II := ⟨fun p hp => (k.r p hp).ext e, fun p hp => (k.i p hp).ext e⟩
theorem KP.wr (k : KP h RR II) (o : Only (fun b => w.blk = some b) h h') (a : Ap w RR II) : KP h' RR II :=
  ⟨fun p hp => (k.r p hp).only o fun x hx hw => a.1 p hp x hw hx, fun p hp => (k.i p hp).only o fun x hx hw => a.2 p hp x hw hx⟩
end
end Go.Proofs.Ytidpbnbjpglhfaa.V
namespace Go.Proofs.Ytidpbnbjpglhfaa.V
open Go
set_option linter.unusedVariables false
set_option linter.unusedSimpArgs false
section
variable {RR : List (Sl × List Rw8)} {II : List (Sl × List Int)}
/-- Slices of ints, merged. -/
theorem call_lists {h : H} {ss : List Sl} {LL : List (List Int)} {Q : Sl → H → Prop} (len : ss.length = LL.length) (hs : ss.length < 1000) (row : ∀ (i : Nat) s A, ss[i]? = some s → LL[i]? = some A → Owns h s 3 1 (A.flatMap cI)) (hb : ∀ A ∈ LL, A.length ≤ 1000)
    (k : ∀ r h', Owns h' r 3 1 ((listsM leI (LL.length + 1) LL).flatMap cI) → Mine h r → Ext h h' → Q r h') : newL h (ss.flatMap cS8).toArray tn_Slint ss.length fun s h2 => F.merge_Lists_int s h2 Q := by
  refine newL_of fun n h2 hn2 b2 e2 s2 => ?_
  have w2 : Owns h2 ⟨some ⟨n, 0, none⟩, ss.length, ss.length⟩ tn_Slint 1 (ss.flatMap cS8) := blk_owns b2 (by rw [flat_len _ 1 cS8_len]) (by simp only [maxLen]; omega)
  refine Lists_int_spec (SL := ss) (LL := LL) ⟨w2.reads, cap_of w2⟩ ⟨len, fun i s A h1 h3 => ?_⟩ ?_ (by omega) (fun b hb => w2.blk_lt hb) fun r h3 w e m => k r h3 w (m.older e2) (e2.trans e)
  · have := (row i s A h1 h3).ext e2
    exact ⟨⟨this.reads, cap_of this⟩, fun b hb => this.blk_lt hb⟩
  · have := flat_le (n := 1000) hb
    have : LL.length * 1000 ≤ 1000 * 1000 := Nat.mul_le_mul (by omega) (Nat.le_refl _)
    omega
theorem call_rowsM {h : H} {most : Int} {ss : List Sl} {Ls : List (List Rw8)} {Q : Sl → H → Prop} (len : ss.length = Ls.length) (hs : ss.length < 1000) (row : ∀ (i : Nat) s R, ss[i]? = some s → Ls[i]? = some R → Owns h s tn_api_Row 7 (R.flatMap cW)) (hn : (mR Ls).length < 100000)
    (k : ∀ r h', Owns h' r tn_api_Row 7 (((mR Ls).take most.toNat).flatMap cW) → Mine h r → Ext h h' → Q r h') : newL h (ss.flatMap cS8).toArray tn_Slapi_Row ss.length fun s h2 => F.merge_Rows most s h2 Q := by
  refine newL_of fun n h2 hn2 b2 e2 s2 => ?_
  refine Rows_spec (ss := ss) (Ls := Ls) ⟨blk_reads b2 (by rw [flat_len _ 1 cS8_len]), len, fun i s R h1 h3 => ?_⟩ (by omega) hn fun r h3 w m e => k r h3 w (m.older e2) (e2.trans e)
  have := (row i s R h1 h3).ext e2
  exact ⟨this.reads, cap_of this⟩
/-- All rows of a list are written over. -/
theorem fill_rows {x : Rw8} {L : Nat → Int → H → Prop} {Q : H → Prop} {w : Sl} (step : ∀ (d : Nat) (i : Nat) (h : H) (D : List Rw8), Owns h w tn_api_Row 7 (D.flatMap cW) → (i < D.length → (idxA w (i : Int) 7 fun a => stH h a (cW x) fun h' => L d (IntKind.wrap .i64 ((i : Int) + 1)) h') → L (d + 1) (i : Int) h) ∧ (i = D.length → Q h → L (d + 1) (i : Int) h)) :
    ∀ (d i : Nat) (h : H) (D : List Rw8), i ≤ D.length → D.length - i < d → D.length < 1000000 → Owns h w tn_api_Row 7 (D.flatMap cW) → KP h RR II → Ap w RR II → (∀ (h' : H) (D' : List Rw8), D'.length = D.length → Owns h' w tn_api_Row 7 (D'.flatMap cW) → KP h' RR II → Only (fun b => w.blk = some b) h h' → Q h') → L d (i : Int) h := by
  intro d
  induction d with
  | zero => intro i h D _ hd; omega
  | succ d ih =>
    intro i h D hi hd hD ww kp ap k
    by_cases hiD : i < D.length
    · refine (step d i h D ww).1 hiD (put_at (f := cW) (x := x) cW_len (by omega) ww hiD fun h' w' o => ?_)
      rw [w64s (by omega)]
      exact ih (i + 1) h' (D.set i x) (by simp; omega) (by simp; omega) (by simpa using hD) w' (kp.wr o ap) ap fun h2 D2 l2 w2 k2 o2 => k h2 D2 (by simpa using l2) w2 k2 (o.trans o2 fun _ _ e => e)
    · exact (step d i h D ww).2 (by omega) (k h D rfl ww kp (.refl _))
end
end Go.Proofs.Ytidpbnbjpglhfaa.V
namespace Go.Proofs.Ytidpbnbjpglhfaa.V
open Go
set_option linter.unusedVariables false
set_option linter.unusedSimpArgs false
section
variable {RR : List (Sl × List Rw8)} {II : List (Sl × List Int)}
/-- All numbers of a list are written over. -/
theorem fill_ints {x : Int} {L : Nat → Int → H → Prop} {Q : H → Prop} {w : Sl} (step : ∀ (d : Nat) (i : Nat) (h : H) (D : List Int), Owns h w 3 1 (D.flatMap cI) → (i < D.length → (idxA w (i : Int) 1 fun a => stH h a (cI x) fun h' => L d (IntKind.wrap .i64 ((i : Int) + 1)) h') → L (d + 1) (i : Int) h) ∧ (i = D.length → Q h → L (d + 1) (i : Int) h)) :
    ∀ (d i : Nat) (h : H) (D : List Int), i ≤ D.length → D.length - i < d → D.length < 1000000 → Owns h w 3 1 (D.flatMap cI) → KP h RR II → Ap w RR II → (∀ (h' : H) (D' : List Int), D'.length = D.length → Owns h' w 3 1 (D'.flatMap cI) → KP h' RR II → Only (fun b => w.blk = some b) h h' → Q h') → L d (i : Int) h := by
  intro d
  induction d with
  | zero => intro i h D _ hd; omega
  | succ d ih =>
    intro i h D hi hd hD ww kp ap k
    by_cases hiD : i < D.length
    · refine (step d i h D ww).1 hiD (put_at (f := cI) (x := x) cI_len (by omega) ww hiD fun h' w' o => ?_)
      rw [w64s (by omega)]
      exact ih (i + 1) h' (D.set i x) (by simp; omega) (by simp; omega) (by simpa using hD) w' (kp.wr o ap) ap fun h2 D2 l2 w2 k2 o2 => k h2 D2 (by simpa using l2) w2 k2 (o.trans o2 fun _ _ e => e)
    · exact (step d i h D ww).2 (by omega) (k h D rfl ww kp (.refl _))
end
end Go.Proofs.Ytidpbnbjpglhfaa.V
namespace Go.Proofs.Ytidpbnbjpglhfaa.V
open Go
set_option linter.unusedVariables false
set_option linter.unusedSimpArgs false
/-- Things are appended to a slice of one's own, of which the length alone is wanted. -/
theorem app_len {α : Type} {f : α → List Value} {kk : Nat} {t e : TypeId} {bytes n : Nat} {z : Value} {h : H} {s : Sl} {D M : List α} {cs : Array Value} {K : Sl → H → Prop} (el : El PP t e kk bytes z) (hf : ∀ x, (f x).length = kk) (hk : 0 < kk) (one : ∀ x, ∀ v ∈ f x, v.oneCell' = true)
    (w : Owns h s e kk (D.flatMap f)) (hcs : cs = (M.flatMap f).toArray) (hn : n = M.length) (hl : (D.length + M.length + (D.length + M.length) / 4 + 256) * bytes ≤ 281474976710656)
    (k : ∀ s' h', s'.len = D.length + M.length → Only (fun b => s.blk = some b) h h' → K s' h') :
    newL h cs e n fun s7 h6 => runL PP (Builtin.append_ #[t, t] t #[s.enc, s7.enc]) h6 fun s9 h8 => K s9 h8 := by
  subst hcs; subst hn
  refine newL_of fun n6 h6 hn6 b6 e6 sz6 => ?_
  refine app_list (L := D) (M := M) hf hk el (w.ext e6) (blk_reads b6 (flat_len f kk hf M)) one hl fun r7 h7 q1 q2 q3 => ?_
  exact k r7 h7 (by rw [own_len hf hk q1, List.length_append]) ((e6.only (S := fun b => s.blk = some b)).trans q2 fun _ _ e => e)
theorem KP.sub {h : H} {RR RR' : List (Sl × List Rw8)} {II II' : List (Sl × List Int)} (k : KP h RR II) (hr : ∀ p ∈ RR', p ∈ RR) (hi : ∀ p ∈ II', p ∈ II) : KP h RR' II' :=
  ⟨fun p hp => k.r p (hr p hp), fun p hp => k.i p (hi p hp)⟩
theorem lists_le {LL : List (List Int)} {n : Nat} (h : ∀ A ∈ LL, A.length ≤ n) (m : Nat) : (listsM leI m LL).length ≤ LL.length * n := Nat.le_trans (listsM_int_len leI m LL) (flat_le h)
theorem MergeOwn_spec {h : H} {s1 s2 s3 s4 : Sl} {A1 A2 : List Rw8} {I1 I2 : List Int} {Q : Bool → H → Prop} (t1 : Reads h s1 7 (A1.flatMap cW)) (t2 : Reads h s2 7 (A2.flatMap cW)) (t3 : Lst h s3 cI I1) (t4 : Lst h s4 cI I2)
    (b1 : A1.length ≤ 9223372036854775807) (b2 : A2.length ≤ 9223372036854775807) (b3 : I1.length ≤ 9223372036854775807) (b4 : I2.length ≤ 9223372036854775807) (q3 : I1 ≠ [] → ∀ b, s3.blk = some b → b < h.size) (q4 : I2 ≠ [] → ∀ b, s4.blk = some b → b < h.size)
    (k : ∀ h', Ext h h' → Q true h') : F.spatelaw8_MergeOwn s1 s2 s3 s4 h Q := by
  unfold F.spatelaw8_MergeOwn
  refine known8_spec fun h1 e1 => ⟨fun g => by simp at g, fun _ => ?_⟩
  refine ordered_spec (t1.only e1 fun _ _ f => f) (by omega) fun r5 h4 w5 m5 e4 => ?_
  have e14 := e1.trans e4
  refine ordered_spec (t2.only e14 fun _ _ f => f) (by omega) fun r7 h6 w7 m7 e6 => ?_
  have e16 := e14.trans e6
  refine rising_spec (t3.ext e16) (fun hn b hb => Nat.lt_of_lt_of_le (q3 hn b hb) e16.size) (by omega) fun r9 h8 w9 e8 m9 => ?_
  have e18 := e16.trans e8
  refine rising_spec (t4.ext e18) (fun hn b hb => Nat.lt_of_lt_of_le (q4 hn b hb) e18.size) (by omega) fun r11 h10 w11 e10 m11 => ?_
  have e110 := e18.trans e10
  obtain ⟨sX, lX⟩ := ordL_sc A1
  obtain ⟨sY, lY⟩ := ordL_sc A2
  have lI1 := risL_len I1
  have lI2 := risL_len I2
  generalize ordL A1 = X at w5 sX lX
  generalize ordL A2 = Y at w7 sY lY
  generalize risL I1 = J1 at w9 lI1
  generalize risL I2 = J2 at w11 lI2
  have u5 := Btw.of m5 w5
  have u9 := Btw.of m9 w9
  have w5a := ((w5.ext e6).ext e8).ext e10
  have w7a := (w7.ext e8).ext e10
  have w9a := w9.ext e10
  have row2 : ∀ {hh : H} {a b : Sl} {P S : List Rw8}, Owns hh a tn_api_Row 7 (P.flatMap cW) → Owns hh b tn_api_Row 7 (S.flatMap cW) → ∀ (i : Nat) s R, [a, b][i]? = some s → [P, S][i]? = some R → Owns hh s tn_api_Row 7 (R.flatMap cW) := by
    intro hh a b P S wa wb i s R h1 h2
    match i, h1, h2 with
    | 0, h1, h2 => cases h1; cases h2; exact wa
    | 1, h1, h2 => cases h1; cases h2; exact wb
    | n + 2, h1, h2 => cases h1
  have row1 : ∀ {hh : H} {a : Sl} {P : List Rw8}, Owns hh a tn_api_Row 7 (P.flatMap cW) → ∀ (i : Nat) s R, [a][i]? = some s → [P][i]? = some R → Owns hh s tn_api_Row 7 (R.flatMap cW) := by
    intro hh a P wa i s R h1 h2
    match i, h1, h2 with
    | 0, h1, h2 => cases h1; cases h2; exact wa
    | n + 1, h1, h2 => cases h1
  have int2 : ∀ {hh : H} {a b : Sl} {P S : List Int}, Owns hh a 3 1 (P.flatMap cI) → Owns hh b 3 1 (S.flatMap cI) → ∀ (i : Nat) s R, [a, b][i]? = some s → [P, S][i]? = some R → Owns hh s 3 1 (R.flatMap cI) := by
    intro hh a b P S wa wb i s R h1 h2
    match i, h1, h2 with
    | 0, h1, h2 => cases h1; cases h2; exact wa
    | 1, h1, h2 => cases h1; cases h2; exact wb
    | n + 2, h1, h2 => cases h1
  have int1 : ∀ {hh : H} {a : Sl} {P : List Int}, Owns hh a 3 1 (P.flatMap cI) → ∀ (i : Nat) s R, [a][i]? = some s → [P][i]? = some R → Owns hh s 3 1 (R.flatMap cI) := by
    intro hh a P wa i s R h1 h2
    match i, h1, h2 with
    | 0, h1, h2 => cases h1; cases h2; exact wa
    | n + 1, h1, h2 => cases h1
  have lg : (mg X Y).length = X.length + Y.length := by simp [mg, List.length_merge]
  have l1 : mR [X] = X := merge_nil' X
  have t1000 : ∀ l : List Rw8, l.length ≤ 1000 → l.take (1000 : Int).toNat = l := fun l hl => List.take_of_length_le (by simpa using hl)
  refine call_rowsM (ss := [r5, r7]) (Ls := [X, Y]) rfl (by simp) (row2 w5a w7a) (by rw [mR2, lg]; omega) fun r15 h14 w15 m15 e15 => ?_
  have u15 := Btw.of m15 w15
  refine call_rowsM (ss := [r5, r7]) (Ls := [X, Y]) rfl (by simp) (row2 (w5a.ext e15) (w7a.ext e15)) (by rw [mR2, lg]; omega) fun r19 h18 w19 m19 e19 => ?_
  have u19 := Btw.of m19 w19
  rw [mR2, t1000 _ (by omega)] at w15 w19
  generalize mg X Y = S at w15 w19 lg
  refine call_rowsM (ss := [r5]) (Ls := [X]) rfl (by simp) (row1 ((w5a.ext e15).ext e19)) (by rw [l1]; omega) fun r23 h22 w23 m23 e23 => ?_
  have u23 := Btw.of m23 w23
  rw [l1, t1000 _ (by omega)] at w23
  have w9b := ((w9a.ext e15).ext e19).ext e23
  refine call_lists (ss := [r9, r11]) (LL := [J1, J2]) rfl (by simp) (int2 w9b (((w11.ext e15).ext e19).ext e23)) (by simp; omega) fun r27 h26 w27 m27 e27 => ?_
  have u27 := Btw.of m27 w27
  have lN := lists_le (LL := [J1, J2]) (n := 200) (by simp; omega) ([J1, J2].length + 1)
  generalize listsM leI ([J1, J2].length + 1) [J1, J2] = Nn at w27 lN
  have w9c := w9b.ext e27
  refine once_spec w9c.reads (by omega) fun r29 h28 O lO w29 m29 e29 => ?_
  refine call_lists (ss := [r29]) (LL := [O]) rfl (by simp) (int1 w29) (by simp; omega) fun r33 h32 w33 m33 e33 => ?_
  have u33 := Btw.of m33 w33
  have lO2 := lists_le (LL := [O]) (n := 200) (by simp; omega) ([O].length + 1)
  generalize listsM leI ([O].length + 1) [O] = Oo at w33 lO2
  simp only [List.length_cons, List.length_nil] at lN lO2
  have e1832 := (e23.trans e27).trans (e29.trans e33)
  refine V.copy_of (D := S) (h0 := h32) el_Slapi_Row cW_len (by omega) (fun x => ones_S_api_Row x) (.refl _) ((w19.ext e1832).reads) (by omega) fun s37 h36 w37 m37 e37 => ?_
  have u37 := Btw.of m37 w37
  have w5b := (((w5a.ext e15).ext e19).ext e1832).ext e37
  refine V.copy_of (D := X) (h0 := h36) el_Slapi_Row cW_len (by omega) (fun x => ones_S_api_Row x) (.refl _) w5b.reads (by omega) fun s41 h40 w41 m41 e41 => ?_
  have u41 := Btw.of m41 w41
  have w9d := (((w9c.ext e29).ext e33).ext e37).ext e41
  refine V.copy_of (D := J1) (h0 := h40) el_Slint cI_len (by omega) (fun x => one1 rfl) (.refl _) w9d.reads (by omega) fun s45 h44 w45 m45 e45 => ?_
  have u45 := Btw.of m45 w45
  have e32 := (e37.trans e41).trans e45
  have kp : KP h44 [(r5, X), (r19, S), (r23, X), (s37, S), (s41, X)] [(r9, J1), (r27, Nn), (r33, Oo), (s45, J1)] := by
    refine ⟨fun p hp => ?_, fun p hp => ?_⟩ <;> simp only [List.mem_cons, List.not_mem_nil, or_false] at hp
    · rcases hp with rfl | rfl | rfl | rfl | rfl
      · exact (w5b.ext e41).ext e45
      · exact (w19.ext e1832).ext e32
      · exact (((w23.ext e27).ext e29).ext e33).ext e32
      · exact (w37.ext e41).ext e45
      · exact w41.ext e45
    · rcases hp with rfl | rfl | rfl | rfl
      · exact w9d.ext e45
      · exact ((w27.ext e29).ext e33).ext e32
      · exact w33.ext e32
      · exact w45
  have w15z := (w15.ext e19).ext (e1832.trans e32)
  have z1 := e1.size
  have z4 := e4.size
  have z6 := e6.size
  have z8 := e8.size
  have z10 := e10.size
  have z15 := e15.size
  have z19 := e19.size
  have z23 := e23.size
  have z27 := e27.size
  have z29 := e29.size
  have z33 := e33.size
  have z37 := e37.size
  have z41 := e41.size
  have z45 := e45.size
  have eall : Ext h h44 := ((e110.trans e15).trans e19).trans (e1832.trans e32)
  -- the last steps
  refine ⟨S.length + 1, fill_rows (x := ⟨⟨0, ⟨#[122]⟩, 0⟩, ⟨0, 0, 0, 0⟩⟩) (RR := [(r5, X), (r19, S), (r23, X), (s37, S), (s41, X)]) (II := [(r9, J1), (r27, Nn), (r33, Oo), (s45, J1)]) (L := fun d i h => F.spatelaw8_MergeOwn.l1 Q d r5 r9 r15 r19 r23 r27 r33 s37 s41 s45 i h) (Q := fun h => ∃ m, F.spatelaw8_MergeOwn.l2 Q m r5 r9 r15 r19 r23 r27 r33 s37 s41 s45 0 h) (w := r15)
    (fun d i h D w => ?_) _ 0 h44 S (by omega) (by omega) (by omega) w15z kp ?_ fun h5 D5 l5 w5' kp5 o5 => ?_⟩
  · have := own_len cW_len (by omega) w
    refine ⟨fun hi g => ?_, fun hi g => ?_⟩
    · unfold F.spatelaw8_MergeOwn.l1
      simp only [decide_eq_true_eq, decide_eq_false_iff_not]
      exact ⟨fun _ => g, fun gg => absurd (by omega) gg⟩
    · unfold F.spatelaw8_MergeOwn.l1
      simp only [decide_eq_true_eq, decide_eq_false_iff_not]
      exact ⟨fun gg => absurd gg (by omega), fun _ => g⟩
  · refine ⟨fun p hp x hx hy => ?_, fun p hp x hx hy => ?_⟩ <;> simp only [List.mem_cons, List.not_mem_nil, or_false] at hp <;> have a1 := u15 x hx
    · rcases hp with rfl | rfl | rfl | rfl | rfl <;> first | (have a2 := u5 x hy; omega) | (have a2 := u19 x hy; omega) | (have a2 := u23 x hy; omega) | (have a2 := u37 x hy; omega) | (have a2 := u41 x hy; omega)
    · rcases hp with rfl | rfl | rfl | rfl <;> first | (have a2 := u9 x hy; omega) | (have a2 := u27 x hy; omega) | (have a2 := u33 x hy; omega) | (have a2 := u45 x hy; omega)
  have ee5 : Ext h h5 := eall.step o5 fun n hn hb => by have := u15 n hb; omega
  have w23z := kp5.r (r23, X) (by simp)
  refine ⟨X.length + 1, fill_rows (x := ⟨⟨0, ⟨#[121]⟩, 0⟩, ⟨0, 0, 0, 0⟩⟩) (RR := [(r5, X), (r19, S), (s37, S), (s41, X), (r15, D5)]) (II := [(r9, J1), (r27, Nn), (r33, Oo), (s45, J1)]) (L := fun d i h => F.spatelaw8_MergeOwn.l2 Q d r5 r9 r15 r19 r23 r27 r33 s37 s41 s45 i h)
    (Q := fun h => newL h (((⟨(⟨0, (⟨#[]⟩ : ByteArray), 0⟩ : S_api_Cell), (⟨0, 0, 0, 0⟩ : S_api_Agg)⟩ : S_api_Row).cells ++ (⟨(⟨0, (⟨#[]⟩ : ByteArray), 0⟩ : S_api_Cell), (⟨0, 0, 0, 0⟩ : S_api_Agg)⟩ : S_api_Row).cells).toArray) tn_api_Row 2 fun s55 h54 =>
      runL PP (Builtin.append_ #[tn_Slapi_Row, tn_Slapi_Row] tn_Slapi_Row #[r15.enc, s55.enc]) h54 fun s57 h56 => ∃ m, F.spatelaw8_MergeOwn.l3 Q m r5 r9 s57 r19 r27 r33 s37 s41 s45 0 h56) (w := r23)
    (fun d i h D w => ?_) _ 0 h5 X (by omega) (by omega) (by omega) w23z ?_ ?_ fun h6 D6 l6 w6' kp6 o6 => ?_⟩
  · have := own_len cW_len (by omega) w
    refine ⟨fun hi g => ?_, fun hi g => ?_⟩
    · unfold F.spatelaw8_MergeOwn.l2
      simp only [decide_eq_true_eq, decide_eq_false_iff_not]
      exact ⟨fun _ => g, fun gg => absurd (by omega) gg⟩
    · unfold F.spatelaw8_MergeOwn.l2
      simp only [decide_eq_true_eq, decide_eq_false_iff_not]
      exact ⟨fun gg => absurd gg (by omega), fun _ => g⟩
  · refine ⟨fun p hp => ?_, kp5.i⟩
    simp only [List.mem_cons, List.not_mem_nil, or_false] at hp
    rcases hp with rfl | rfl | rfl | rfl | rfl
    · exact kp5.r _ (by simp)
    · exact kp5.r _ (by simp)
    · exact kp5.r _ (by simp)
    · exact kp5.r _ (by simp)
    · exact w5'
  · refine ⟨fun p hp x hx hy => ?_, fun p hp x hx hy => ?_⟩ <;> simp only [List.mem_cons, List.not_mem_nil, or_false] at hp <;> have a1 := u23 x hx
    · rcases hp with rfl | rfl | rfl | rfl | rfl <;> first | (have a2 := u5 x hy; omega) | (have a2 := u19 x hy; omega) | (have a2 := u15 x hy; omega) | (have a2 := u37 x hy; omega) | (have a2 := u41 x hy; omega)
    · rcases hp with rfl | rfl | rfl | rfl <;> first | (have a2 := u9 x hy; omega) | (have a2 := u27 x hy; omega) | (have a2 := u33 x hy; omega) | (have a2 := u45 x hy; omega)
  have ee6 : Ext h h6 := ee5.step o6 fun n hn hb => by have := u23 n hb; omega
  refine app_len (D := D5) (M := [⟨⟨0, ⟨#[]⟩, 0⟩, ⟨0, 0, 0, 0⟩⟩, ⟨⟨0, ⟨#[]⟩, 0⟩, ⟨0, 0, 0, 0⟩⟩]) el_Slapi_Row cW_len (by omega) (fun x => ones_S_api_Row x) (kp6.r (r15, D5) (by simp)) rfl rfl (by simp; omega) fun s57 h7 l57 o7 => ?_
  have ee7 : Ext h h7 := ee6.step o7 fun n hn hb => by have := u15 n hb; omega
  have kp7 : KP h7 [(r5, X), (r19, S), (s37, S), (s41, X)] [(r9, J1), (r27, Nn), (r33, Oo), (s45, J1)] := by
    refine (kp6.sub (RR' := [(r5, X), (r19, S), (s37, S), (s41, X)]) (fun p hp => ?_) fun p hp => hp).wr o7 ⟨fun p hp x hx hy => ?_, fun p hp x hx hy => ?_⟩
    · simp only [List.mem_cons, List.not_mem_nil, or_false] at hp ⊢
      rcases hp with h | h | h | h <;> simp [h]
    · have a1 := u15 x hx
      simp only [List.mem_cons, List.not_mem_nil, or_false] at hp
      rcases hp with rfl | rfl | rfl | rfl <;> first | (have a2 := u5 x hy; omega) | (have a2 := u19 x hy; omega) | (have a2 := u37 x hy; omega) | (have a2 := u41 x hy; omega)
    · have a1 := u15 x hx
      simp only [List.mem_cons, List.not_mem_nil, or_false] at hp
      rcases hp with rfl | rfl | rfl | rfl <;> first | (have a2 := u9 x hy; omega) | (have a2 := u27 x hy; omega) | (have a2 := u33 x hy; omega) | (have a2 := u45 x hy; omega)
  have w27z := kp7.i (r27, Nn) (by simp)
  refine ⟨Nn.length + 1, fill_ints (x := -7) (RR := [(r5, X), (r19, S), (s37, S), (s41, X)]) (II := [(r9, J1), (r33, Oo), (s45, J1)]) (L := fun d i h => F.spatelaw8_MergeOwn.l3 Q d r5 r9 s57 r19 r27 r33 s37 s41 s45 i h)
    (Q := fun h => newL h #[(.int .i64 1), (.int .i64 2), (.int .i64 3)] tn_int 3 fun s63 h62 => runL PP (Builtin.append_ #[tn_Slint, tn_Slint] tn_Slint #[r27.enc, s63.enc]) h62 fun s65 h64 => ∃ m, F.spatelaw8_MergeOwn.l4 Q m r5 r9 s57 r19 s65 r33 s37 s41 s45 0 h64) (w := r27)
    (fun d i h D w => ?_) _ 0 h7 Nn (by omega) (by omega) (by omega) w27z ?_ ?_ fun h8' D8 l8 w8 kp8 o8 => ?_⟩
  · have := own_len cI_len (by omega) w
    refine ⟨fun hi g => ?_, fun hi g => ?_⟩
    · unfold F.spatelaw8_MergeOwn.l3
      simp only [decide_eq_true_eq, decide_eq_false_iff_not]
      exact ⟨fun _ => g, fun gg => absurd (by omega) gg⟩
    · unfold F.spatelaw8_MergeOwn.l3
      simp only [decide_eq_true_eq, decide_eq_false_iff_not]
      exact ⟨fun gg => absurd gg (by omega), fun _ => g⟩
  · refine ⟨kp7.r, fun p hp => kp7.i p ?_⟩
    simp only [List.mem_cons, List.not_mem_nil, or_false] at hp ⊢
    rcases hp with h | h | h <;> simp [h]
  · refine ⟨fun p hp x hx hy => ?_, fun p hp x hx hy => ?_⟩ <;> simp only [List.mem_cons, List.not_mem_nil, or_false] at hp <;> have a1 := u27 x hx
    · rcases hp with rfl | rfl | rfl | rfl <;> first | (have a2 := u5 x hy; omega) | (have a2 := u19 x hy; omega) | (have a2 := u37 x hy; omega) | (have a2 := u41 x hy; omega)
    · rcases hp with rfl | rfl | rfl <;> first | (have a2 := u9 x hy; omega) | (have a2 := u33 x hy; omega) | (have a2 := u45 x hy; omega)
  have ee8 : Ext h h8' := ee7.step o8 fun n hn hb => by have := u27 n hb; omega
  refine app_len (D := D8) (M := [1, 2, 3]) el_Slint cI_len (by omega) (fun x => one1 rfl) w8 rfl rfl (by simp; omega) fun s65 h9 l65 o9 => ?_
  have ee9 : Ext h h9 := ee8.step o9 fun n hn hb => by have := u27 n hb; omega
  have kp9 : KP h9 [(r5, X), (r19, S), (s37, S), (s41, X)] [(r9, J1), (r33, Oo), (s45, J1)] := by
    refine kp8.wr o9 ⟨fun p hp x hx hy => ?_, fun p hp x hx hy => ?_⟩
    · have a1 := u27 x hx
      simp only [List.mem_cons, List.not_mem_nil, or_false] at hp
      rcases hp with rfl | rfl | rfl | rfl <;> first | (have a2 := u5 x hy; omega) | (have a2 := u19 x hy; omega) | (have a2 := u37 x hy; omega) | (have a2 := u41 x hy; omega)
    · have a1 := u27 x hx
      simp only [List.mem_cons, List.not_mem_nil, or_false] at hp
      rcases hp with rfl | rfl | rfl <;> first | (have a2 := u9 x hy; omega) | (have a2 := u33 x hy; omega) | (have a2 := u45 x hy; omega)
  have w33z := kp9.i (r33, Oo) (by simp)
  have fin : ∀ h10 : H, Ext h h10 → KP h10 [(r5, X), (r19, S), (s37, S), (s41, X)] [(r9, J1), (s45, J1)] → (((decide ((s57.len : Int) ≥ 2)) = true → ((decide ((s65.len : Int) ≥ 3)) = true → F.spatelaw2_SameRows r19 s37 h10 fun r73 h72 => (r73 = true → F.spatelaw2_SameRows r5 s41 h72 fun r76 h75 => (r76 = true → F.spatelaw8_same r9 s45 h75 fun r79 h78 => Q r79 h78) ∧ (r76 = false → Q false h75)) ∧ (r73 = false → Q false h72)) ∧ ((decide ((s65.len : Int) ≥ 3)) = false → Q false h10)) ∧ ((decide ((s57.len : Int) ≥ 2)) = false → Q false h10)) := by
    intro h10 e10' kp10
    simp only [List.length_cons, List.length_nil] at l57 l65
    refine ⟨fun _ => ⟨fun _ => ?_, fun g => absurd (of_decide_eq_false g) (by omega)⟩, fun g => absurd (of_decide_eq_false g) (by omega)⟩
    have v1 := kp10.r (r5, X) (by simp)
    have v2 := kp10.r (r19, S) (by simp)
    have v3 := kp10.r (s37, S) (by simp)
    have v4 := kp10.r (s41, X) (by simp)
    have v5 := kp10.i (r9, J1) (by simp)
    have v6 := kp10.i (s45, J1) (by simp)
    refine SameRows_spec (A := S) (C := S) v2.reads v3.reads (by omega) (fun _ => ⟨fun _ => ?_, fun g => by cases g⟩) fun hne => absurd rfl hne
    refine SameRows_spec (A := X) (C := X) v1.reads v4.reads (by omega) (fun _ => ⟨fun _ => ?_, fun g => by cases g⟩) fun hne => absurd rfl hne
    exact same_spec (A := J1) ⟨v5.reads, cap_of v5⟩ ⟨v6.reads, cap_of v6⟩ (by omega) (k h10 e10')
  refine ⟨Oo.length + 1, fill_ints (x := -8) (RR := [(r5, X), (r19, S), (s37, S), (s41, X)]) (II := [(r9, J1), (s45, J1)]) (L := fun d i h => F.spatelaw8_MergeOwn.l4 Q d r5 r9 s57 r19 s65 r33 s37 s41 s45 i h)
    (Q := fun h => ((decide ((s57.len : Int) ≥ 2)) = true → ((decide ((s65.len : Int) ≥ 3)) = true → F.spatelaw2_SameRows r19 s37 h fun r73 h72 => (r73 = true → F.spatelaw2_SameRows r5 s41 h72 fun r76 h75 => (r76 = true → F.spatelaw8_same r9 s45 h75 fun r79 h78 => Q r79 h78) ∧ (r76 = false → Q false h75)) ∧ (r73 = false → Q false h72)) ∧ ((decide ((s65.len : Int) ≥ 3)) = false → Q false h)) ∧ ((decide ((s57.len : Int) ≥ 2)) = false → Q false h)) (w := r33)
    (fun d i h D w => ?_) _ 0 h9 Oo (by omega) (by omega) (by omega) w33z ?_ ?_ fun h10 D10 l10 w10 kp10 o10 => ?_⟩
  · have := own_len cI_len (by omega) w
    refine ⟨fun hi g => ?_, fun hi g => ?_⟩
    · unfold F.spatelaw8_MergeOwn.l4
      rw [decide_eq_true_eq, decide_eq_false_iff_not]
      exact ⟨fun _ => g, fun gg => absurd (by omega) gg⟩
    · unfold F.spatelaw8_MergeOwn.l4
      rw [decide_eq_true_eq, decide_eq_false_iff_not]
      exact ⟨fun gg => absurd gg (by omega), fun _ => g⟩
  · refine ⟨kp9.r, fun p hp => kp9.i p ?_⟩
    simp only [List.mem_cons, List.not_mem_nil, or_false] at hp ⊢
    rcases hp with h | h <;> simp [h]
  · refine ⟨fun p hp x hx hy => ?_, fun p hp x hx hy => ?_⟩ <;> simp only [List.mem_cons, List.not_mem_nil, or_false] at hp <;> have a1 := u33 x hx
    · rcases hp with rfl | rfl | rfl | rfl <;> first | (have a2 := u5 x hy; omega) | (have a2 := u19 x hy; omega) | (have a2 := u37 x hy; omega) | (have a2 := u41 x hy; omega)
    · rcases hp with rfl | rfl <;> first | (have a2 := u9 x hy; omega) | (have a2 := u45 x hy; omega)
  exact fin h10 (ee9.step o10 fun n hn hb => by have := u33 n hb; omega) kp10
end Go.Proofs.Ytidpbnbjpglhfaa.V
namespace Go.Proofs.Ytidpbnbjpglhfaa.V
open Go
set_option linter.unusedVariables false
set_option linter.unusedSimpArgs false
section
variable {T : Type} {enc : TypeId × Value → T} {w : World} {base : Nat} {spare : Nat → Bool} {held : Bool} {fuel : Nat}
theorem ints_open8 {v : Value} {y : DataW T × List MemPlace} (h : DataW.trod enc PP w base spare held fuel tn_Slint [v] = some y) :
    ∃ (s : Sl) (L : List Int), v = s.enc ∧ Reads w.heap s 1 (L.flatMap cI) ∧ s.len ≤ s.cap ∧ (L ≠ [] → ∀ b, s.blk = some b → b < w.heap.size) ∧ (∀ n ∈ L, -9223372036854775808 ≤ n ∧ n < 9223372036854775808) ∧ L.length ≤ 9223372036854775807 :=
  gen_open cI (fun n => -9223372036854775808 ≤ n ∧ n < 9223372036854775808) cI_len ut_Slint (show PP.cellsOf tn_int = 1 from by kernel_rfl) (by omega) h fun n cs y hy _ => by
    obtain ⟨m, e1, _, e2⟩ := DataW.trod_int Try.underlying3 hy
    exact ⟨m, e1, i64_of e2⟩
end
end Go.Proofs.Ytidpbnbjpglhfaa.V
