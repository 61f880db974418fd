/- ordered, walked; no condition. -/
import Derived.Test.YtidpbnbjpglhfaaMx
namespace Go.Proofs.Ytidpbnbjpglhfaa.V
open Go
set_option linter.unusedVariables false
set_option linter.unusedSimpArgs false
theorem twr_get {p : Rw8 → Bool} : ∀ {out : List Rw8} {i : Nat}, i < (out.takeWhile p).length → ∃ v, out[i]? = some v ∧ p v = true
  | [], i, h => by simp at h
  | a :: r, i, h => by
    rw [List.takeWhile_cons] at h
    split at h
    · rename_i hp
      cases i with
      | zero => exact ⟨a, rfl, hp⟩
      | succ i =>
        simp at h
        obtain ⟨v, h1, h2⟩ := twr_get (out := r) (i := i) h
        exact ⟨v, by simpa using h1, h2⟩
    · simp at h
theorem twr_parts (p : Rw8 → Bool) (out : List Rw8) : out.take (out.takeWhile p).length = out.takeWhile p ∧ out.drop (out.takeWhile p).length = out.dropWhile p := by
  have h := List.takeWhile_append_dropWhile (p := p) (l := out)
  constructor
  · conv => lhs; arg 2; rw [← h]
    exact List.take_left' rfl
  · conv => lhs; arg 2; rw [← h]
    exact List.drop_left' rfl
theorem rowAt8 {h : H} {s : Sl} {A : List Rw8} (rd : Reads h s 7 (A.flatMap cW)) {i : Nat} {x : Rw8} (hx : A[i]? = some x) {K : Addr → Prop} (k : ∀ a, Cells h a (cW x) → K a) : idxA s (i : Int) 7 K := by
  obtain ⟨p, q1, q2, q3⟩ := rd_at cW_len (by omega) rd hx
  have hl := rd_len cW_len (by omega) rd
  exact idxR_of (i := i) q1 (by have := (List.getElem?_eq_some_iff.1 hx).1; omega) rfl (k _ q3)
theorem ldC8 {h : H} {a : Addr} {x : Rw8} {K : Cel → Prop} (c : Cells h a (cW x)) (k : K x.Cell) : ld_S_api_Cell h (a.add 0) K := by
  rw [add0]; exact ⟨x.Cell, Cells.pre c, k⟩
theorem cel_eq {x y : Cel} : ((x.View == y.View) && ((x.Key.toList == y.Key.toList) && ((x.Start == y.Start) && true))) = decide (cmpC x y = 0) := by
  rw [Bool.eq_iff_iff, decide_eq_true_eq, cC_zero]
  obtain ⟨a1, ⟨⟨a2⟩⟩, a3⟩ := x
  obtain ⟨b1, ⟨⟨b2⟩⟩, b3⟩ := y
  simp [toList_data]
theorem ordered_spec {h : H} {s : Sl} {A : List Rw8} {Q : Sl → H → Prop} (rd : Reads h s 7 (A.flatMap cW)) (hA : A.length < 10000000000000000000) (k : ∀ r h', Owns h' r tn_api_Row 7 ((ordL A).flatMap cW) → Mine h r → Ext h h' → Q r h') : F.spatelaw8_ordered s h Q := by
  unfold F.spatelaw8_ordered
  have hl := rd_len cW_len (by omega) rd
  refine ⟨201, ?_⟩
  have key : ∀ (d i : Nat) (h' : H) (so : Sl) (out : List Rw8), i ≤ A.length → i ≤ 200 → 200 - i < d → out = (A.take i).foldl ordI [] → out.length ≤ i → Owns h' so tn_api_Row 7 (out.flatMap cW) → Mine h so → Ext h h' → F.spatelaw8_ordered.l1 Q d s so (i : Int) h' := by
    intro d
    induction d with
    | zero => intro i h' so out _ _ hd; omega
    | succ d ih =>
      intro i h' so out hiA hi2 hd ho hol w m e
      have hlo := own_len cW_len (by omega) w
      unfold F.spatelaw8_ordered.l1
      simp only [decide_eq_true_eq, decide_eq_false_iff_not]
      rw [hl]
      have fin : (A.take 200).foldl ordI [] = out → ∀ b, b = false → F.spatelaw8_ordered.j9 Q (F.spatelaw8_ordered.l1 Q d) s so (i : Int) b h' := fun he b hb => by
        unfold F.spatelaw8_ordered.j9
        refine ⟨fun g => (by rw [hb] at g; cases g), fun _ => k so h' ?_ m e⟩
        unfold ordL; rw [he]; exact w
      refine ⟨fun gg => ?_, fun gg => fin ?_ _ rfl⟩
      · by_cases h200 : i < 200
        · rw [decide_eq_true (show (i : Int) < 200 by omega)]
          unfold F.spatelaw8_ordered.j9
          refine ⟨fun _ => ?_, fun g => (by cases g)⟩
          unfold F.spatelaw8_ordered.j2
          obtain ⟨x, hx⟩ : ∃ x, A[i]? = some x := ⟨_, List.getElem?_eq_getElem (by omega)⟩
          have hfold : (A.take (i + 1)).foldl ordI [] = ordI out x := by rw [tk_snoc hx, List.foldl_append, ← ho]; rfl
          have hol2 : (ordI out x).length ≤ i + 1 := by
            have hsc : SC out := by rw [ho]; exact (ord_fold (A.take i) [] .nil).1
            have := (ordI_sc (x := x) hsc).2.1; omega
          have j3 : ∀ (h2 : H) (so2 : Sl), Owns h2 so2 tn_api_Row 7 ((ordI out x).flatMap cW) → Mine h so2 → Ext h h2 → F.spatelaw8_ordered.j3 Q (F.spatelaw8_ordered.l1 Q d) s so2 (i : Int) h2 := fun h2 so2 w2 m2 e2 => by
            unfold F.spatelaw8_ordered.j3
            rw [w64s (by omega)]
            exact ih (i + 1) h2 so2 _ (by omega) (by omega) (by omega) hfold.symm hol2 w2 m2 e2
          obtain ⟨tp1, tp2⟩ := twr_parts (fun y : Rw8 => decide (cmpC y.Cell x.Cell < 0)) out
          have hget := fun j => twr_get (p := fun y : Rw8 => decide (cmpC y.Cell x.Cell < 0)) (out := out) (i := j)
          have htl : (out.takeWhile (fun y : Rw8 => decide (cmpC y.Cell x.Cell < 0))).length ≤ out.length := (List.takeWhile_prefix _).length_le
          generalize hat : (out.takeWhile (fun y : Rw8 => decide (cmpC y.Cell x.Cell < 0))).length = at_ at tp1 tp2 hget htl
          -- it is laid in
          have j7 : ∀ (h2 : H), Ext h' h2 → ordI out x = out.take at_ ++ x :: out.drop at_ → F.spatelaw8_ordered.j7 Q (F.spatelaw8_ordered.l1 Q d) s so (i : Int) (at_ : Int) h2 := fun h2 e2 hins => by
            have w2 := w.ext e2
            have hcap := cap_of w2
            unfold F.spatelaw8_ordered.j7
            refine cutL_of (lo := 0) (hi := at_) rfl rfl (by omega) (by omega) ?_
            have r1 := cut_reads (lo := 0) (hi := at_) cW_len (by omega) w2.reads (by omega) htl hcap
            simp only [List.drop_zero, Nat.sub_zero] at r1
            refine app_list (L := []) (M := out.take at_) cW_len (by omega) el_Slapi_Row (by simpa using Owns.nil h2 tn_api_Row 7) r1 (fun x => ones_S_api_Row x) (by simp only [List.length_nil, List.length_take]; omega) fun r5 h4 w5 o5 n5 => ?_
            have m5 : Mine h r5 := fun y hy => by
              rcases n5 with n5 | ⟨b', n5, n6⟩
              · rw [n5] at hy; simp [Sl.blk] at hy
              · rw [n5] at hy; cases hy; have := e.size; have := e2.size; omega
            have e4 : Ext h h4 := (e.trans e2).step o5 fun y hy hb => by simp [Sl.blk] at hb
            have w4 : Owns h4 so tn_api_Row 7 (out.flatMap cW) := w2.only o5 fun y hy hb => by simp [Sl.blk] at hb
            refine rowAt8 (rd.only e4 fun _ _ f => f) hx fun a ca => ⟨x, ca, ?_⟩
            refine push8 (f := cW) (x := x) el_Slapi_Row cW_len (by omega) (fun x => ones_S_api_Row x) e4 w5 m5 (by simp only [List.length_append, List.length_nil, List.length_take]; omega) fun s6 h6 w6 m6 e6 o6 => ?_
            have hso : Owns h6 so tn_api_Row 7 (out.flatMap cW) := w4.only o6 fun y hy hb => by
              rcases n5 with n5 | ⟨b', n5, n6⟩
              · rw [n5] at hb; simp [Sl.blk] at hb
              · rw [n5] at hb; cases hb; have := w2.blk_lt hy; omega
            refine cutL_of (lo := at_) (hi := out.length) rfl (by rw [hlo]) htl (by omega) ?_
            have r6 := cut_reads (lo := at_) (hi := out.length) cW_len (by omega) hso.reads htl (Nat.le_refl _) hcap
            rw [List.take_of_length_le (by rw [List.length_drop]; omega)] at r6
            refine app_list (L := [] ++ out.take at_ ++ [x]) (M := out.drop at_) cW_len (by omega) el_Slapi_Row w6 r6 (fun x => ones_S_api_Row x) (by simp only [List.length_append, List.length_nil, List.length_take, List.length_singleton, List.length_drop]; omega) fun r7 h7 w7 o7 n7 => ?_
            have m7 : Mine h r7 := fun y hy => by
              rcases n7 with n7 | ⟨b', n7, n8⟩
              · exact m6 y (by rw [← n7]; exact hy)
              · rw [n7] at hy; cases hy; have := e6.size; omega
            refine j3 h7 r7 ?_ m7 (e6.mine m6 o7)
            rw [hins]
            simpa using w7
          refine ⟨out.length + 1, ?_⟩
          have find : ∀ (d2 j : Nat) (h2 : H), j ≤ at_ → at_ - j < d2 → Ext h' h2 → F.spatelaw8_ordered.l4 Q (F.spatelaw8_ordered.l1 Q d) d2 s so (i : Int) (j : Int) h2 := by
            intro d2
            induction d2 with
            | zero => intro j h2 _ hd2; omega
            | succ d2 ih2 =>
              intro j h2 hj hd2 e2
              have w2 := w.ext e2
              have rd2 := rd.only (e.trans e2) fun _ _ f => f
              unfold F.spatelaw8_ordered.l4
              simp only [decide_eq_true_eq, decide_eq_false_iff_not]
              rw [hlo]
              refine ⟨fun g2 => ?_, fun g2 => ?_⟩
              · obtain ⟨v, hv⟩ : ∃ v, out[j]? = some v := ⟨_, List.getElem?_eq_getElem (by omega)⟩
                refine rowAt8 w2.reads hv fun a1 c1 => ldC8 c1 (rowAt8 rd2 hx fun a2 c2 => ldC8 c2 ?_)
                refine CompareR_spec fun h3 e3 => ?_
                unfold F.spatelaw8_ordered.j6
                by_cases hja : j < at_
                · obtain ⟨v', hv', hp⟩ := hget j hja
                  rw [hv] at hv'; cases hv'
                  rw [hp]
                  refine ⟨fun _ => ?_, fun g => (by cases g)⟩
                  unfold F.spatelaw8_ordered.j5
                  rw [w64s (by omega)]
                  exact ih2 (j + 1) h3 (by omega) (by omega) (e2.trans e3)
                · have hje : j = at_ := by omega
                  subst hje
                  have hdr : out.dropWhile (fun y : Rw8 => decide (cmpC y.Cell x.Cell < 0)) = v :: out.drop (j + 1) := by rw [← tp2]; exact drop_cons hv
                  have hvp : decide (cmpC v.Cell x.Cell < 0) = false := by
                    have := List.head?_dropWhile_not (p := fun y : Rw8 => decide (cmpC y.Cell x.Cell < 0)) (l := out)
                    rw [hdr] at this
                    simpa using this
                  rw [hvp]
                  refine ⟨fun g => (by cases g), fun _ => ⟨fun _ => ?_, fun g => absurd g2 (by simpa [hlo] using g)⟩⟩
                  have w3 := w2.ext e3
                  have rd3 := rd2.only e3 fun _ _ f => f
                  refine rowAt8 w3.reads hv fun a1 c1 => ldC8 c1 (rowAt8 rd3 hx fun a2 c2 => ldC8 c2 ?_)
                  rw [cel_eq]
                  unfold F.spatelaw8_ordered.j8
                  refine ⟨fun g => ?_, fun g => ?_⟩
                  · have hz := of_decide_eq_true g
                    refine j3 h3 so ?_ m ((e.trans e2).trans e3)
                    have : ordI out x = out := by unfold ordI; rw [hdr]; simp only [if_pos hz]
                    rw [this]; exact w3
                  · have hz := of_decide_eq_false g
                    refine j7 h3 (e2.trans e3) ?_
                    unfold ordI; rw [hdr]; simp only [if_neg hz]
                    rw [tp1, drop_cons hv]
              · have hje : j = at_ ∧ at_ = out.length := by omega
                unfold F.spatelaw8_ordered.j6
                refine ⟨fun g => (by cases g), fun _ => ⟨fun g => absurd (by simpa [hlo] using g) g2, fun _ => ?_⟩⟩
                unfold F.spatelaw8_ordered.j8
                refine ⟨fun g => (by cases g), fun _ => ?_⟩
                rw [hje.1]
                refine j7 h2 e2 ?_
                have hdr : out.dropWhile (fun y : Rw8 => decide (cmpC y.Cell x.Cell < 0)) = [] := by rw [← tp2, hje.2]; simp
                unfold ordI; rw [hdr, hje.2]; simp
          exact find _ 0 h' (by omega) (by omega) (.refl _)
        · rw [decide_eq_false (show ¬ (i : Int) < 200 by omega)]
          have : i = 200 := by omega
          exact fin (by rw [ho, this]) _ rfl
      · have : i = A.length := by omega
        rw [ho, this, List.take_length, List.take_of_length_le (by omega)]
  exact key _ 0 h _ [] (by omega) (by omega) (by omega) rfl (by simp) (by simpa using Owns.nil h tn_api_Row 7) (.nil _ _ _) (.refl _)
end Go.Proofs.Ytidpbnbjpglhfaa.V
