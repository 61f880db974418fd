/- Parts of the proof of ShardAnswers; no condition. -/
import Derived.Test.YtoccbnhahaoeiaaQShardAnswers4
namespace Go.Proofs.Ytoccbnhahaoeiaa.V.S
open Go Go.Proofs.Ytoccbnhahaoeiaa.V
set_option linter.unusedVariables false
set_option linter.unusedSimpArgs false
set_option maxRecDepth 20000
abbrev nilS : Sl := ⟨none, 0, 0⟩
abbrev m1R (i : Nat) : Rw := ⟨⟨7 + (i : Int), ⟨#[]⟩, 0⟩, ⟨-1, 0, 0, 0⟩⟩
abbrev m2R (i : Nat) : Rw := ⟨⟨7 + (i : Int), ⟨#[]⟩, 0⟩, ⟨-2, 0, 0, 0⟩⟩
abbrev tR (i k : Nat) : Rw := ⟨⟨7 + (i : Int), ⟨#[]⟩, 0⟩, ⟨(k : Int), 0, 0, 0⟩⟩
theorem Apart_spec {h : H} {l w : Sl} {n : Nat} {A B : Nat → Sl} {T : Nat → List Rw} {Q : Bool → H → Prop} (tl : Owns h l tn_Slapi_Row 1 (((List.range n).map A).flatMap cS8)) (tw : Owns h w tn_Slapi_Row 1 (((List.range n).map B).flatMap cS8)) (hn : n ≤ 100) (pa : PA cW 7 tn_api_Row n h h A T)
    (pb : ∀ i, i < n → Owns h (B i) tn_api_Row 7 ((T i).flatMap cW)) (cr : ∀ i j, i < n → j < n → ∀ b, (A i).blk = some b → (B j).blk ≠ some b) (hT : ∀ i, i < n → (T i).length ≤ 2000000)
    (k : ∀ h', Only (fun b => ∃ i, i < n ∧ (A i).blk = some b) h h' → Q true h') : F.spatelaw7_Apart l w h Q := by
  have hl : l.len = n := by have := own_len cS8_len (by omega) tl; simpa using this
  have hw : w.len = n := by have := own_len cS8_len (by omega) tw; simpa using this
  have kl : ∀ {h' : H}, Only (fun b => ∃ i, i < n ∧ (A i).blk = some b) h h' → Owns h' l tn_Slapi_Row 1 (((List.range n).map A).flatMap cS8) := fun o => tl.only o fun b hb ⟨i, hi, hA⟩ => own_diff tl (pa.own i hi) (by decide) hb hA
  have kw : ∀ {h' : H}, Only (fun b => ∃ i, i < n ∧ (A i).blk = some b) h h' → Owns h' w tn_Slapi_Row 1 (((List.range n).map B).flatMap cS8) := fun o => tw.only o fun b hb ⟨i, hi, hA⟩ => own_diff tw (pa.own i hi) (by decide) hb hA
  have kb : ∀ {h' : H}, Only (fun b => ∃ i, i < n ∧ (A i).blk = some b) h h' → ∀ i, i < n → Owns h' (B i) tn_api_Row 7 ((T i).flatMap cW) := fun o i hi => (pb i hi).only o fun b hb ⟨j, hj, hA⟩ => cr j i hj hi b hA hb
  unfold F.spatelaw7_Apart
  rw [hl, hw]
  refine ⟨fun g => by simp at g, fun _ => ?_⟩
  refine make_of (n := n) el_SlSlapi_Row (by omega) (by simp only [maxLen]; omega) fun cb h2 hcb wc e2 => ?_
  have wc' : Owns h2 ⟨some ⟨cb, 0, none⟩, n, n⟩ tn_Slapi_Row 1 (((List.range n).map fun j => nilS).flatMap cS8) := by
    rw [made_all (f := cS8) (x := nilS) (cs := nilS.enc.cells) cS8_len (by omega) rfl, show List.replicate n nilS = (List.range n).map fun j => nilS from (List.eq_replicate_iff.2 ⟨by simp, by simp⟩).symm] at wc
    exact wc
  generalize hc : (⟨some ⟨cb, 0, none⟩, n, n⟩ : Sl) = c at wc' ⊢
  have mc : Mine h c := fun b hb => by rw [← hc] at hb; simp [Sl.blk] at hb; omega
  -- what has grown is looked at
  have L6 : ∀ (h3 : H) (M : Nat → Sl) (D : Nat → List Rw), GP cW 7 tn_api_Row n h h3 A M (fun i => (List.range (T i).length).map (tR i)) D → Owns h3 c tn_Slapi_Row 1 (((List.range n).map M).flatMap cS8) → (∀ j, j < n → (D j).length = (T j).length + 2 ∧ (D j).drop (T j).length = [m1R j, m2R j]) → ∀ (d i : Nat), i ≤ n → n - i < d → F.spatelaw7_Apart.l6 Q d l c (i : Int) h3 := by
    intro h3 M D g tc hD d
    have ts := kl g.only
    induction d with
    | zero => intro i _ hm; omega
    | succ d ih =>
      intro i hi hm
      unfold F.spatelaw7_Apart.l6
      rw [hl]
      refine ⟨fun gg => ?_, fun gg => k h3 g.only⟩
      have hin : i < n := by have := of_decide_eq_true gg; omega
      obtain ⟨d1, d2⟩ := hD i hin
      have hTi := hT i hin
      have wA := g.oa i hin
      have wM := g.om i hin
      have lA := own_len cW_len (by omega) wA
      have lM := own_len cW_len (by omega) wM
      rw [List.length_map, List.length_range] at lA
      rw [d1] at lM
      have x1 : (D i)[(T i).length]? = some (m1R i) := by have := congrArg (·[0]?) d2; simpa using this
      have x2 : (D i)[(T i).length + 1]? = some (m2R i) := by have := congrArg (·[1]?) d2; simpa using this
      refine tab_at ts.reads (range_at A hin) (tab_at tc.reads (range_at M hin) ?_)
      have hm' : n - (i + 1) < d := by omega
      have w7 : IntKind.wrap .i64 (7 + (i : Int)) = 7 + (i : Int) := w64 (by omega) (by omega)
      have j7 : F.spatelaw7_Apart.j7 Q (F.spatelaw7_Apart.l6 Q d) l c (i : Int) h3 := by
        unfold F.spatelaw7_Apart.j7
        rw [w64s (by omega)]
        exact ih (i + 1) (by omega) hm'
      have L9 : ∀ (d2 q : Nat), q ≤ (T i).length → (T i).length - q < d2 → F.spatelaw7_Apart.l9 Q (F.spatelaw7_Apart.l6 Q d) d2 l c (i : Int) ((T i).length : Int) (q : Int) h3 := by
        intro d2
        induction d2 with
        | zero => intro q _ hm; omega
        | succ d2 ih2 =>
          intro q hq hm2
          unfold F.spatelaw7_Apart.l9
          rw [w7]
          refine ⟨fun g2 => tab_at ts.reads (range_at A hin) ?_, fun _ => j7⟩
          have g2 := of_decide_eq_true g2
          have hx : ((List.range (T i).length).map (tR i))[q]? = some (tR i q) := range_at _ (by omega)
          refine rowAt wA.reads hx fun a ca => ⟨tR i q, ca, ?_⟩
          refine ⟨nb ((row_eq (x := tR i q) (y := tR i q)).2 rfl), fun _ => ?_⟩
          rw [w64s (by omega)]
          exact ih2 (q + 1) (by omega) (by omega)
      have j8 : F.spatelaw7_Apart.j8 Q (F.spatelaw7_Apart.l6 Q d) l c (i : Int) ((T i).length : Int) h3 := by
        unfold F.spatelaw7_Apart.j8
        exact ⟨(T i).length + 1, L9 _ 0 (by omega) (by omega)⟩
      rw [lA, lM, show IntKind.wrap .i64 (((T i).length : Int) + 2) = (((T i).length + 2 : Nat) : Int) by rw [w64 (by omega) (by omega)]; omega, show IntKind.wrap .i64 (((T i).length : Int) + 1) = (((T i).length + 1 : Nat) : Int) by rw [w64 (by omega) (by omega)]; omega, w7]
      refine ⟨fun g => absurd g (by simp), fun _ => tab_at tc.reads (range_at M hin) (rowAt wM.reads x1 fun a ca => ⟨m1R i, ca, nb ((row_eq (x := m1R i) (y := m1R i)).2 rfl), fun _ => tab_at tc.reads (range_at M hin) (rowAt wM.reads x2 fun a2 ca2 => ⟨m2R i, ca2, ?_⟩)⟩)⟩
      unfold F.spatelaw7_Apart.j10
      exact ⟨nb ((row_eq (x := m2R i) (y := m2R i)).2 rfl), fun _ => j8⟩
  -- all are written over
  have L4 : ∀ (M : Nat → Sl) (d i : Nat) (h3 : H) (T' D : Nat → List Rw), i ≤ n → n - i < d → GP cW 7 tn_api_Row n h h3 A M T' D → Owns h3 c tn_Slapi_Row 1 (((List.range n).map M).flatMap cS8) → (∀ j, j < n → (T' j).length = (T j).length ∧ (j < i → T' j = (List.range (T j).length).map (tR j))) → (∀ j, j < n → (D j).length = (T j).length + 2 ∧ (D j).drop (T j).length = [m1R j, m2R j]) → F.spatelaw7_Apart.l4 Q d l c (i : Int) h3 := by
    intro M d
    induction d with
    | zero => intro i _ _ _ _ hm; omega
    | succ d ih =>
      intro i h3 T' D hi hm g tc hT' hD
      unfold F.spatelaw7_Apart.l4
      rw [hl]
      refine ⟨fun gg => ?_, fun gg => ?_⟩
      · have hin : i < n := by have := of_decide_eq_true gg; omega
        have hTi := hT i hin
        have w7 : IntKind.wrap .i64 (7 + (i : Int)) = 7 + (i : Int) := w64 (by omega) (by omega)
        have hm' : n - (i + 1) < d := by omega
        have L5 : ∀ (d2 q : Nat) (h4 : H) (T4 D4 : Nat → List Rw), q ≤ (T i).length → (T i).length - q < d2 → GP cW 7 tn_api_Row n h h4 A M T4 D4 → Owns h4 c tn_Slapi_Row 1 (((List.range n).map M).flatMap cS8) → (∀ j, j < n → (T4 j).length = (T j).length ∧ (j < i → T4 j = (List.range (T j).length).map (tR j))) → T4 i = (List.range q).map (tR i) ++ (T' i).drop q → (∀ j, j < n → (D4 j).length = (T j).length + 2 ∧ (D4 j).drop (T j).length = [m1R j, m2R j]) →
            F.spatelaw7_Apart.l5 Q (F.spatelaw7_Apart.l4 Q d) d2 l c (i : Int) (q : Int) h4 := by
          intro d2
          induction d2 with
          | zero => intro q _ _ _ _ hm; omega
          | succ d2 ih2 =>
            intro q h4 T4 D4 hq hm2 g4 tc4 hT4 h4i hD4
            have ts4 := kl g4.only
            have lA := own_len cW_len (by omega) (g4.oa i hin)
            rw [(hT4 i hin).1] at lA
            unfold F.spatelaw7_Apart.l5
            refine tab_at ts4.reads (range_at A hin) ?_
            rw [lA, w7]
            refine ⟨fun g2 => tab_at ts4.reads (range_at A hin) ?_, fun g2 => ?_⟩
            · have g2 := of_decide_eq_true g2
              refine GP.put_at (f := cW) (x := tR i q) cW_len (by omega) g4 hin (by rw [(hT4 i hin).1]; omega) fun h5 D5 g5 hD5 o5 => ?_
              have tc5 : Owns h5 c tn_Slapi_Row 1 (((List.range n).map M).flatMap cS8) := tc4.only o5 fun b hb hb2 => by have := mc b hb; have := (pa.own i hin).blk_lt hb2; omega
              rw [w64s (by omega)]
              refine ih2 (q + 1) h5 _ D5 (by omega) (by omega) g5 tc5 (fun j hj => ?_) ?_ fun j hj => ?_
              · by_cases hji : j = i
                · subst hji; rw [updF_same, List.length_set]; exact ⟨(hT4 j hj).1, fun h => by omega⟩
                · rw [updF_ne _ _ hji]; exact hT4 j hj
              · rw [updF_same, h4i]
                exact set_fill (by rw [(hT' i hin).1]; omega)
              · have a1 := hD5 j hj
                have a2 := hD4 j hj
                rw [(hT4 j hj).1] at a1
                exact ⟨by omega, a1.2.trans a2.2⟩
            · have g2 := of_decide_eq_false g2
              have hqe : q = (T' i).length := by rw [(hT' i hin).1]; omega
              rw [hqe, fill_full, (hT' i hin).1] at h4i
              rw [w64s (by omega)]
              refine ih (i + 1) h4 T4 D4 (by omega) hm' g4 tc4 (fun j hj => ⟨(hT4 j hj).1, fun hji => ?_⟩) hD4
              by_cases hj2 : j = i
              · subst hj2; exact h4i
              · exact (hT4 j hj).2 (by omega)
        exact ⟨(T i).length + 1, L5 _ 0 h3 T' D (by omega) (by omega) g tc (fun j hj => ⟨(hT' j hj).1, (hT' j hj).2⟩) (by simp) hD⟩
      · have gg := of_decide_eq_false gg
        have hin : i = n := by omega
        refine ⟨n + 1, L6 h3 M D ?_ tc hD _ 0 (by omega) (by omega)⟩
        exact ⟨fun j hj => by rw [← (hT' j hj).2 (by omega)]; exact g.oa j hj, g.om, fun j hj => by rw [← (hT' j hj).2 (by omega)]; exact g.rel j hj, g.mm, g.ap, g.only⟩
  -- they are asL they were told
  have L2 : ∀ (M : Nat → Sl) (h3 : H), GW cW 7 tn_api_Row n h h3 A M T (fun j => T j ++ [m1R j, m2R j]) → Owns h3 c tn_Slapi_Row 1 (((List.range n).map M).flatMap cS8) → ∀ (d i : Nat), i ≤ n → n - i < d → F.spatelaw7_Apart.l2 Q d l w c (i : Int) h3 := by
    intro M h3 g tc d
    have ts := kl g.only
    have tw' := kw g.only
    have pb' := kb g.only
    induction d with
    | zero => intro i _ hm; omega
    | succ d ih =>
      intro i hi hm
      unfold F.spatelaw7_Apart.l2
      rw [hl]
      refine ⟨fun gg => ?_, fun gg => ⟨n + 1, L4 M _ 0 h3 T _ (by omega) (by omega) (GP.of g pa.ap) tc (fun j hj => ⟨rfl, fun h => by omega⟩) fun j hj => ⟨by simp, by simp⟩⟩⟩
      have hin : i < n := by have := of_decide_eq_true gg; omega
      have hm' : n - (i + 1) < d := by omega
      have wA := g.oa i hin
      have wB := pb' i hin
      have lA := own_len cW_len (by omega) wA
      have lB := own_len cW_len (by omega) wB
      refine tab_at ts.reads (range_at A hin) (tab_at tw'.reads (range_at B hin) ?_)
      rw [lA, lB]
      refine ⟨fun g => absurd g (by simp), fun _ => ?_⟩
      have hTi := hT i hin
      have L3 : ∀ (d2 q : Nat), q ≤ (T i).length → (T i).length - q < d2 → F.spatelaw7_Apart.l3 Q (F.spatelaw7_Apart.l2 Q d) d2 l w c (i : Int) (q : Int) h3 := by
        intro d2
        induction d2 with
        | zero => intro q _ hm; omega
        | succ d2 ih2 =>
          intro q hq hm2
          unfold F.spatelaw7_Apart.l3
          refine tab_at ts.reads (range_at A hin) ?_
          rw [lA]
          refine ⟨fun g2 => tab_at ts.reads (range_at A hin) ?_, fun _ => ?_⟩
          · have g2 := of_decide_eq_true g2
            obtain ⟨x, hx⟩ : ∃ x, (T i)[q]? = some x := ⟨_, List.getElem?_eq_getElem (by omega)⟩
            refine rowAt wA.reads hx fun a ca => ⟨x, ca, tab_at tw'.reads (range_at B hin) (rowAt wB.reads hx fun a2 ca2 => ⟨x, ca2, ?_⟩)⟩
            refine ⟨nb ((row_eq (x := x) (y := x)).2 rfl), fun _ => ?_⟩
            rw [w64s (by omega)]
            exact ih2 (q + 1) (by omega) (by omega)
          · rw [w64s (by omega)]
            exact ih (i + 1) (by omega) hm'
      exact ⟨(T i).length + 1, L3 _ 0 (by omega) (by omega)⟩
  -- each is grown
  have L1 : ∀ (d i : Nat) (h3 : H) (M : Nat → Sl), i ≤ n → n - i < d → (∀ j, i ≤ j → M j = A j) → GW cW 7 tn_api_Row n h h3 A M T (fun j => if j < i then T j ++ [m1R j, m2R j] else T j) → Owns h3 c tn_Slapi_Row 1 (((List.range n).map fun j => if j < i then M j else nilS).flatMap cS8) → F.spatelaw7_Apart.l1 Q d l w c (i : Int) h3 := by
    intro d
    induction d with
    | zero => intro i _ _ _ hm; omega
    | succ d ih =>
      intro i h3 M hi hm hM g tc
      have ts := kl g.only
      unfold F.spatelaw7_Apart.l1
      rw [hl]
      refine ⟨fun gg => ?_, fun gg => ?_⟩
      · have hin : i < n := by have := of_decide_eq_true gg; omega
        have hTi := hT i hin
        have w7 : IntKind.wrap .i64 (7 + (i : Int)) = 7 + (i : Int) := w64 (by omega) (by omega)
        rw [w7]
        refine tab_at ts.reads (range_at A hin) ?_
        refine newL_of fun n6 h6 hn6 b6 e6 s6 => ?_
        have r6 : Reads h6 ⟨some ⟨n6, 0, none⟩, 2, 2⟩ 7 (([m1R i, m2R i] : List Rw).flatMap cW) := blk_reads b6 rfl
        have g6 := g.ext e6
        have om := g6.om i hin
        simp only [if_neg (Nat.lt_irrefl i)] at om
        rw [← hM i (Nat.le_refl i)]
        have lm := own_len cW_len (by omega) om
        refine app_of2 el_Slapi_Row om r6 (fun v hv => by
          obtain ⟨x, _, hx⟩ := List.mem_flatMap.1 hv
          exact ones_S_api_Row x v hx) (by rw [lm]; show ((T i).length + 2 + ((T i).length + 2) / 4 + 256) * 64 ≤ _; omega) fun r h7 w7 l7 o7 => ?_
        have g7 := g6.app cW_len (by omega) (L := [m1R i, m2R i]) hin (by simp only [if_neg (Nat.lt_irrefl i)]; rw [List.flatMap_append]; exact w7) o7
        have tc7 : Owns h7 c tn_Slapi_Row 1 (((List.range n).map fun j => if j < i then M j else nilS).flatMap cS8) := by
          rcases o7 with ⟨_, _, o⟩ | ⟨_, _, _, o⟩
          · exact own_typ (tc.ext e6) o om (by decide)
          · exact (tc.ext e6).ext o
        refine V.put_at (f := cS8) (x := r) cS8_len (by omega) tc7 (by simpa using hin) fun h8 w8 o8 => ?_
        rw [map_upd _ r hin] at w8
        rw [w64s (by omega)]
        refine ih (i + 1) h8 (updF M i r) (by omega) (by omega) (fun j hj => by rw [updF_ne _ _ (by omega)]; exact hM j (by omega)) ?_ ?_
        · have g8 := g7.oth o8 tc7 (by decide) mc
          have : (fun j => if j < i + 1 then T j ++ [m1R j, m2R j] else T j) = updF (fun j => if j < i then T j ++ [m1R j, m2R j] else T j) i ((fun j => if j < i then T j ++ [m1R j, m2R j] else T j) i ++ [m1R i, m2R i]) := by
            funext j
            by_cases hji : j = i
            · subst hji
              rw [updF_same, if_pos (by omega)]
              simp only [if_neg (Nat.lt_irrefl j)]
            · rw [updF_ne _ _ hji]
              by_cases hlt : j < i
              · rw [if_pos hlt, if_pos (by omega)]
              · rw [if_neg hlt, if_neg (by omega)]
          rw [this]; exact g8
        · have : (fun j => if j < i + 1 then updF M i r j else nilS) = updF (fun j => if j < i then M j else nilS) i r := by
            funext j
            by_cases hji : j = i
            · subst hji
              rw [updF_same, updF_same, if_pos (by omega)]
            · rw [updF_ne _ _ hji, updF_ne _ _ hji]
              by_cases hlt : j < i
              · rw [if_pos hlt, if_pos (by omega)]
              · rw [if_neg hlt, if_neg (by omega)]
          rw [this]; exact w8
      · have gg := of_decide_eq_false gg
        have hin : i = n := by omega
        refine ⟨n + 1, L2 M h3 ?_ ?_ _ 0 (by omega) (by omega)⟩
        · refine ⟨g.oa, fun j hj => ?_, fun j hj => ?_, g.rel, g.mm, g.new, g.only⟩
          · have := g.om j hj
            simp only [if_pos (show j < i by omega)] at this
            exact this
          · have := g.pre j hj
            simp only [if_pos (show j < i by omega)] at this
            exact this
        · have : ((List.range n).map fun j => if j < i then M j else nilS) = (List.range n).map M := List.map_congr_left fun j hj => by rw [if_pos (by have := List.mem_range.1 hj; omega)]
          rw [this] at tc; exact tc
  refine ⟨n + 1, L1 _ 0 h2 A (by omega) (by omega) (fun _ _ => rfl) ?_ ?_⟩
  · have g := (GW.of pa).ext e2
    simpa only [Nat.not_lt_zero, if_false] using g
  · simpa only [Nat.not_lt_zero, if_false] using wc'
end Go.Proofs.Ytoccbnhahaoeiaa.V.S
namespace Go.Proofs.Ytoccbnhahaoeiaa.V.S
open Go Go.Proofs.Ytoccbnhahaoeiaa.V
set_option linter.unusedVariables false
set_option linter.unusedSimpArgs false
set_option maxRecDepth 20000
theorem Copied_spec {h : H} {s : Sl} {L : List Rw} {Q : Sl → H → Prop} (rd : Reads h s 7 (L.flatMap cW)) (hl : L.length ≤ 2000000) (k : ∀ r h', Owns h' r tn_api_Row 7 (L.flatMap cW) → Mine h r → Ext h h' → Q r h') : F.spatelaw7_Copied s h Q := by
  unfold F.spatelaw7_Copied
  exact app_mine (h0 := h) (L := []) (M := L) (.refl _) (Mine.nil _ _ _) cW_len (by omega) el_Slapi_Row (Owns.nil _ _ _) rd (fun x => ones_S_api_Row x) (by simp only [List.length_nil]; omega) fun r h' q1 q2 q3 _ _ => k r h' q1 q3 q2
def CR (Z W : List (Sl × List Rw)) : Prop := ∀ p ∈ Z, ∀ q ∈ W, ∀ b, p.1.blk = some b → q.1.blk ≠ some b
theorem CR.addZ {base h : H} {Z W : List (Sl × List Rw)} {s : Sl} {R : List Rw} (c : CR Z W) (v : LB cW 7 tn_api_Row base h W) (m : Mine h s) : CR (Z ++ [(s, R)]) W := fun p hp q hq b hb hb2 => by
  rcases List.mem_append.1 hp with hp | hp
  · exact c p hp q hq b hb hb2
  · obtain rfl := List.mem_singleton.1 hp
    have h1 := (v.own q hq).blk_lt hb2
    have h2 := m b hb
    omega
theorem CR.addW {base h : H} {Z W : List (Sl × List Rw)} {s : Sl} {R : List Rw} (c : CR Z W) (v : LB cW 7 tn_api_Row base h Z) (m : Mine h s) : CR Z (W ++ [(s, R)]) := fun p hp q hq b hb hb2 => by
  rcases List.mem_append.1 hq with hq | hq
  · exact c p hp q hq b hb hb2
  · obtain rfl := List.mem_singleton.1 hq
    have h1 := (v.own p hp).blk_lt hb
    have h2 := m b hb2
    omega
abbrev bC : Cel := ⟨0, ⟨#[98]⟩, 0⟩
def tellT (S : SL) (i : Nat) : List Rw := if i % 3 = 2 then (rangeS S ((i / 3 : Nat) : Int) bC hiC).take 2 else allS S ((i / 3 : Nat) : Int)
theorem tell0 (S : SL) (e : Nat) : tellT S (3 * e) = allS S (e : Int) := by unfold tellT; rw [if_neg (by omega), show 3 * e / 3 = e by omega]
theorem tell1 (S : SL) (e : Nat) : tellT S (3 * e + 1) = allS S (e : Int) := by unfold tellT; rw [if_neg (by omega), show (3 * e + 1) / 3 = e by omega]
theorem tell2 (S : SL) (e : Nat) : tellT S (3 * e + 2) = (rangeS S (e : Int) bC hiC).take 2 := by unfold tellT; rw [if_pos (by omega), show (3 * e + 2) / 3 = e by omega]
theorem range3 {α : Type} (f : Nat → α) (e : Nat) : (List.range (3 * (e + 1))).map f = (List.range (3 * e)).map f ++ [f (3 * e), f (3 * e + 1), f (3 * e + 2)] := by
  rw [show 3 * (e + 1) = 3 * e + 1 + 1 + 1 by omega, List.range_succ, List.range_succ, List.range_succ]
  simp
theorem tab_at2 {hh : H} {s : Sl} {ss : List Sl} (w : Reads hh s 1 (ss.flatMap cS8)) {i : Nat} {x : Sl} (hs : ss[i]? = some x) {K : Addr → Sl → Prop} (k : ∀ a, cellH hh a = some x.enc → K a x) : idxA s (i : Int) 1 fun a => ldL hh a (K a) := by
  obtain ⟨q, r1, r2, r3⟩ := rd_at cS8_len (by omega) w hs
  have hl := rd_len cS8_len (by omega) w
  exact idxR_of (i := i) r1 (by have := (List.getElem?_eq_some_iff.1 hs).1; omega) rfl ((ldL_iff r3.one).2 (k _ r3.one))
theorem ShardAnswers_spec {l : Sl} {L : List St} {h : H} {Q : Bool → H → Prop} (rd : Reads h l 15 (L.flatMap fun y => y.x.cells)) (ok : ∀ y ∈ L, StOk h y) (hL : L.length ≤ 9223372036854775807) (k : ∀ h', Ext h h' → Q true h') : F.spatelaw7_ShardAnswers l h Q := by
  unfold F.spatelaw7_ShardAnswers
  have hl := rd_len (f := fun y : St => y.x.cells) step_len (by omega) rd
  have hR : ∀ {hh : H}, Ext h hh → ∀ b, hh.size ≤ b → h.size ≤ b := fun e b hb => by have := e.size; omega
  refine New_spec (R := fun b => h.size ≤ b) (fun g => by omega) (fun b hb => hb) fun _ _ h1 nd sh1 e1 hnd => ⟨fun g => by simp at g, fun _ => ?_⟩
  unfold F.spatelaw7_ShardAnswers.j9 F.spatelaw7_ShardAnswers.j1
  refine ⟨fun g => by simp at g, fun _ => ?_⟩
  -- behind the spoiling
  have L6 : ∀ (S : SL) (hh : H) (w : Sl) (B : Nat → Sl), SH hh nd S 200 (fun b => h.size ≤ b) → Ext h hh → Owns hh w tn_Slapi_Row 1 (((List.range 21).map B).flatMap cS8) → (∀ i, i < 21 → Owns hh (B i) tn_api_Row 7 ((tellT S i).flatMap cW)) → ∀ (d j : Nat) (h2 : H), j ≤ 7 → 7 - j < d → Ext hh h2 → F.spatelaw7_ShardAnswers.l6 Q d (some ⟨nd, 0, none⟩) w (j : Int) h2 := by
    intro S hh w B sh e tw wb d
    have al : ∀ e, (allS S e).length ≤ 1048576 := fun e => all_len sh.ok sh.us.1 sh.us.2 e
    induction d with
    | zero => intro j _ _ hm; omega
    | succ d ih =>
      intro j h2 hj hm e2
      unfold F.spatelaw7_ShardAnswers.l6
      refine ⟨fun gg => ?_, fun gg => head_spec fun h' e' => k h' ((e.trans e2).trans e')⟩
      have gg := of_decide_eq_true gg
      have w0 : IntKind.wrap .i64 (3 * (j : Int)) = ((3 * j : Nat) : Int) := by rw [w64 (by omega) (by omega)]; omega
      have w2 : IntKind.wrap .i64 (((3 * j : Nat) : Int) + 2) = ((3 * j + 2 : Nat) : Int) := by rw [w64 (by omega) (by omega)]; omega
      rw [w0, w2]
      refine tab_at2 (tw.ext e2).reads (range_at B (show 3 * j < 21 by omega)) fun a ca => all_spec (sh.ext e2) fun r3 h3 wr3 mr3 e3 => ⟨e3.cell ca fun f => f, ?_⟩
      have b0 := (wb (3 * j) (by omega)).ext (e2.trans e3)
      rw [tell0] at b0
      have := al (j : Int)
      refine SameRows_spec wr3.reads b0.reads (by omega) (fun _ => ⟨fun g => (by cases g), fun _ => ?_⟩) fun h => absurd rfl h
      refine tab_at2 (tw.ext (e2.trans e3)).reads (range_at B (show 3 * j + 2 < 21 by omega)) fun a2 ca2 => Range_spec (sh.ext (e2.trans e3)) fun r4 h4 wr4 mr4 e4 => ⟨e4.cell ca2 fun f => f, ?_⟩
      have b2 := (wb (3 * j + 2) (by omega)).ext ((e2.trans e3).trans e4)
      rw [tell2] at b2
      refine SameRows_spec wr4.reads b2.reads (by rw [List.length_take]; show min 2 _ < _; omega) (fun _ => ?_) fun h => absurd rfl h
      unfold F.spatelaw7_ShardAnswers.j8 F.spatelaw7_ShardAnswers.j7
      refine ⟨fun g => (by cases g), fun _ => ?_⟩
      rw [w64s (by omega)]
      exact ih (j + 1) h4 (by omega) (by omega) ((e2.trans e3).trans e4)
  have L5 : ∀ (S : SL) (d e : Nat) (hh : H) (x6 x7 : Sl) (Z W : List (Sl × List Rw)), e ≤ 7 → 7 - e < d → SH hh nd S 200 (fun b => h.size ≤ b) → Ext h hh → Owns hh x6 tn_Slapi_Row 1 ((Z.map (·.1)).flatMap cS8) → Mine h x6 → Owns hh x7 tn_Slapi_Row 1 ((W.map (·.1)).flatMap cS8) → Mine h x7 → (∀ b, x6.blk = some b → x7.blk ≠ some b) → LB cW 7 tn_api_Row h hh Z → LB cW 7 tn_api_Row h hh W → CR Z W → Z.map (·.2) = (List.range (3 * e)).map (tellT S) → W.map (·.2) = (List.range (3 * e)).map (tellT S) → F.spatelaw7_ShardAnswers.l5 Q d (some ⟨nd, 0, none⟩) x6 x7 (e : Int) hh := by
    intro S d
    induction d with
    | zero => intro e _ _ _ _ _ _ hm; omega
    | succ d ih =>
      intro e hh x6 x7 Z W he hm sh eh t6 m6 t7 m7 ne vZ vW cr cZ cW'
      have lZ : Z.length = 3 * e := by have := congrArg List.length cZ; simpa using this
      have lW : W.length = 3 * e := by have := congrArg List.length cW'; simpa using this
      have al : ∀ e, (allS S e).length ≤ 1048576 := fun e => all_len sh.ok sh.us.1 sh.us.2 e
      unfold F.spatelaw7_ShardAnswers.l5
      refine ⟨fun gg => ?_, fun gg => ?_⟩
      · have gg := of_decide_eq_true gg
        have al' := al (e : Int)
        refine all_spec sh fun r1 h13 w1 m1 e13 => all_spec (sh.ext e13) fun r2 h15 w2 m2 e15 => Range_spec (sh.ext (e13.trans e15)) fun r3 h17 w3 m3 e17 => ?_
        have x13 := eh.trans e13
        have x15 := x13.trans e15
        have x17 := x15.trans e17
        have vZ3 := ((vZ.add eh e13 w1 m1).add x13 e15 w2 m2).add x15 e17 w3 m3
        have c3 := ((cr.addZ (R := allS S (e : Int)) vW m1).addZ (R := allS S (e : Int)) (vW.ext e13) m2).addZ (R := (rangeS S (e : Int) bC hiC).take (2 : Int).toNat) (vW.ext (e13.trans e15)) m3
        have e017 := (e13.trans e15).trans e17
        refine newL_of fun n19 h19 hn19 b19 e19 s19 => ?_
        have e019 := e017.trans e19
        refine app_list (f := cS8) (L := Z.map (·.1)) (M := [r1, r2, r3]) cS8_len (by omega) el_SlSlapi_Row (t6.ext e019) (blk_reads b19 rfl) (fun x => one1 rfl) (by simp only [List.length_cons, List.length_nil, List.length_map]; omega) fun x6' h21 t6' o21 n21 => ?_
        have eh21 : Ext h h21 := (eh.trans e019).mine m6 o21
        have m6' : Mine h x6' := fun b hb => by
          rcases n21 with n21 | ⟨b', q3, q4⟩
          · exact m6 b (by rw [← n21]; exact hb)
          · rw [q3] at hb; cases hb; exact Nat.le_trans (eh.trans e019).size q4
        have vZ21 := (vZ3.ext e19).typ o21 (t6.ext e019) (by decide)
        have vW21 := (vW.ext e019).typ o21 (t6.ext e019) (by decide)
        have sh21 := (sh.ext e019).oth o21 (t6.ext e019) slrow_sh
        have t721 := (t7.ext e019).only o21 fun b hb hb2 => ne b hb2 hb
        have ne21 : ∀ b, x6'.blk = some b → x7.blk ≠ some b := fun b hb hb2 => by
          rcases n21 with n21 | ⟨b', q3, q4⟩
          · exact ne b (by rw [← n21]; exact hb) hb2
          · rw [q3] at hb; cases hb
            have := (t7.ext e019).blk_lt hb2; omega
        have k1 : Owns h21 r1 tn_api_Row 7 ((allS S (e : Int)).flatMap cW) := vZ21.own (r1, allS S (e : Int)) (by simp)
        have k3 : Owns h21 r3 tn_api_Row 7 (((rangeS S (e : Int) bC hiC).take (2 : Int).toNat).flatMap cW) := vZ21.own (r3, (rangeS S (e : Int) bC hiC).take (2 : Int).toNat) (by simp)
        refine Copied_spec k1.reads (by omega) fun p1 h23 y1 n1 f23 => Copied_spec (k1.ext f23).reads (by omega) fun p2 h25 y2 n2 f25 => Copied_spec (k3.ext (f23.trans f25)).reads (by rw [List.length_take]; show min 2 _ ≤ _; omega) fun p3 h27 y3 n3 f27 => ?_
        have z23 := eh21.trans f23
        have z25 := z23.trans f25
        have z27 := z25.trans f27
        have vW3 := ((vW21.add eh21 f23 y1 n1).add z23 f25 y2 n2).add z25 f27 y3 n3
        have c6 := ((c3.addW (R := allS S (e : Int)) vZ21 n1).addW (R := allS S (e : Int)) (vZ21.ext f23) n2).addW (R := (rangeS S (e : Int) bC hiC).take (2 : Int).toNat) (vZ21.ext (f23.trans f25)) n3
        have f027 := (f23.trans f25).trans f27
        refine newL_of fun n29 h29 hn29 b29 f29 s29 => ?_
        have f029 := f027.trans f29
        refine app_list (f := cS8) (L := W.map (·.1)) (M := [p1, p2, p3]) cS8_len (by omega) el_SlSlapi_Row (t721.ext f029) (blk_reads b29 rfl) (fun x => one1 rfl) (by simp only [List.length_cons, List.length_nil, List.length_map]; omega) fun x7' h31 t7' o31 n31 => ?_
        have eh31 : Ext h h31 := (eh21.trans f029).mine m7 o31
        have m7' : Mine h x7' := fun b hb => by
          rcases n31 with n31 | ⟨b', q3, q4⟩
          · exact m7 b (by rw [← n31]; exact hb)
          · rw [q3] at hb; cases hb; exact Nat.le_trans (eh21.trans f029).size q4
        have ne31 : ∀ b, x6'.blk = some b → x7'.blk ≠ some b := fun b hb hb2 => by
          rcases n31 with n31 | ⟨b', q3, q4⟩
          · exact ne21 b hb (by rw [← n31]; exact hb2)
          · rw [q3] at hb2; cases hb2
            have := (t6'.ext f029).blk_lt hb; omega
        have hd : ((2 : Int).toNat) = 2 := rfl
        rw [w64s (by omega)]
        refine ih (e + 1) h31 x6' x7' _ _ (by omega) (by omega) ((sh21.ext f029).oth o31 (t721.ext f029) slrow_sh) eh31 ?_ m6' ?_ m7' ne31 ((vZ21.ext f029).typ o31 (t721.ext f029) (by decide)) ((vW3.ext f29).typ o31 (t721.ext f029) (by decide)) c6 ?_ ?_
        · have := (t6'.ext f029).only o31 fun b hb hb2 => ne21 b hb hb2
          simpa using this
        · simpa using t7'
        · rw [range3, tell0, tell1, tell2, ← cZ]; simp
        · rw [range3, tell0, tell1, tell2, ← cW']; simp
      · have gg := of_decide_eq_false gg
        have he7 : e = 7 := by omega
        subst he7
        have d0 : Sl × List Rw := (nilS, [])
        have pz := vZ.pa d0
        have pw := vW.pa d0
        have gZ : ∀ i, i < 21 → (Z.getD i d0).2 = tellT S i := fun i hi => by
          have h1 := congrArg (·[i]?) cZ
          simp only [List.getElem?_map] at h1
          rw [List.getElem?_eq_getElem (show i < Z.length by omega), List.getElem?_range (by omega)] at h1
          simp only [Option.map_some, Option.some.injEq] at h1
          rw [List.getD_eq_getElem?_getD, List.getElem?_eq_getElem (show i < Z.length by omega)]
          exact h1
        have gW : ∀ i, i < 21 → (W.getD i d0).2 = tellT S i := fun i hi => by
          have h1 := congrArg (·[i]?) cW'
          simp only [List.getElem?_map] at h1
          rw [List.getElem?_eq_getElem (show i < W.length by omega), List.getElem?_range (by omega)] at h1
          simp only [Option.map_some, Option.some.injEq] at h1
          rw [List.getD_eq_getElem?_getD, List.getElem?_eq_getElem (show i < W.length by omega)]
          exact h1
        have mZ := getD_map Z (·.1) d0
        have mW := getD_map W (·.1) d0
        rw [lZ] at mZ pz
        rw [lW] at mW pw
        rw [← mZ] at t6
        rw [← mW] at t7
        have iZ : ∀ i, i < 21 → Z.getD i d0 ∈ Z := fun i hi => by
          rw [List.getD_eq_getElem?_getD, List.getElem?_eq_getElem (show i < Z.length by omega)]; exact List.getElem_mem _
        have iW : ∀ i, i < 21 → W.getD i d0 ∈ W := fun i hi => by
          rw [List.getD_eq_getElem?_getD, List.getElem?_eq_getElem (show i < W.length by omega)]; exact List.getElem_mem _
        have pz' : PA cW 7 tn_api_Row 21 hh hh (fun j => (Z.getD j d0).1) (tellT S) := ⟨fun i hi => by rw [← gZ i hi]; exact pz.own i hi, pz.ap, pz.only⟩
        have bl : ∀ i, i < 21 → Owns hh (W.getD i d0).1 tn_api_Row 7 ((tellT S i).flatMap cW) := fun i hi => by rw [← gW i hi]; exact pw.own i hi
        have cr' : ∀ i j, i < 21 → j < 21 → ∀ b, (Z.getD i d0).1.blk = some b → (W.getD j d0).1.blk ≠ some b := fun i j hi hj b hb => cr _ (iZ i hi) _ (iW j hj) b hb
        refine Apart_spec (A := fun j => (Z.getD j d0).1) (B := fun j => (W.getD j d0).1) t6 t7 (by omega) pz' bl cr' (fun i hi => ?_) fun h33 o33 => ?_
        · unfold tellT
          split
          · rw [List.length_take]; omega
          · have := al ((i / 3 : Nat) : Int); omega
        · refine ⟨fun g => (by cases g), fun _ => ⟨8, ?_⟩⟩
          have sh33 := sh.keep o33 fun b hb ht ⟨i, hi, hA⟩ => own_nsh (pz'.own i hi) row_sh hA ht
          have e33 : Ext h h33 := eh.step o33 fun m hm ⟨i, hi, hA⟩ => by have := vZ.mine _ (iZ i hi) m hA; omega
          have t33 := t7.only o33 fun b hb ⟨i, hi, hA⟩ => own_diff t7 (pz'.own i hi) (by decide) hb hA
          exact L6 S h33 x7 (fun j => (W.getD j d0).1) sh33 e33 t33 (fun i hi => (bl i hi).only o33 fun b hb ⟨j, hj, hA⟩ => cr' j i hj hi b hA hb) _ 0 h33 (by omega) (by omega) (.refl _)
  have steps : ∀ (d i : Nat) (S : SL) (hh : H), i ≤ L.length → L.length - i < d → SH hh nd S 200 (fun b => h.size ≤ b) → Ext h hh → F.spatelaw7_ShardAnswers.l2 Q d l (some ⟨nd, 0, none⟩) (i : Int) hh := by
    intro d
    induction d with
    | zero => intro i S hh _ hm; omega
    | succ d ih =>
      intro i S hh hi hm sh e
      have done : ∀ (C1 : Sl → Option Addr → Int → H → Prop) (x : Int), F.spatelaw7_ShardAnswers.j4 Q C1 l (some ⟨nd, 0, none⟩) x false hh := fun C1 x => by
        unfold F.spatelaw7_ShardAnswers.j4
        exact ⟨fun g => (by cases g), fun _ => ⟨8, L5 S _ 0 hh _ _ [] [] (by omega) (by omega) sh e (Owns.nil _ _ _) (Mine.nil _ _ _) (Owns.nil _ _ _) (Mine.nil _ _ _) (fun b hb => by simp [Sl.blk] at hb) LB.nil LB.nil (fun p hp => by cases hp) rfl rfl⟩⟩
      unfold F.spatelaw7_ShardAnswers.l2
      rw [hl]
      refine ⟨fun gg => ?_, fun _ => done _ _⟩
      have gg := of_decide_eq_true gg
      by_cases g40 : i < 40
      · rw [decide_eq_true (by omega)]
        have hm' : L.length - (i + 1) < d := by omega
        unfold F.spatelaw7_ShardAnswers.j4 F.spatelaw7_ShardAnswers.j3
        refine ⟨fun _ => ⟨by omega, ?_⟩, fun g => by cases g⟩
        obtain ⟨y, hy⟩ : ∃ y, L[i]? = some y := ⟨_, List.getElem?_eq_getElem (by omega)⟩
        refine step_at rd e hy (ok y (List.mem_of_getElem? hy)) sh (hR e) (fun b hb => by show ¬ h.size ≤ b; omega) fun h' sh' o' => ?_
        rw [w64s (by omega)]
        exact ih (i + 1) _ h' (by omega) hm' sh' (o'.base e fun b hb => hb)
      · rw [decide_eq_false (by omega)]
        exact done _ _
  exact ⟨L.length + 1, steps _ 0 [] h1 (by omega) (by omega) sh1 e1⟩
end Go.Proofs.Ytoccbnhahaoeiaa.V.S
