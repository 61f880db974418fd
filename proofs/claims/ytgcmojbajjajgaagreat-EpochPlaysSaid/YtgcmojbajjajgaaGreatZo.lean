/- The document's lists: Has, With, Without; no condition. -/
import Derived.Test.YtgcmojbajjajgaaGreatZn
namespace Go.Proofs.YtgcmojbajjajgaaGreat.V
open Go Go.Proofs.YtgcmojbajjajgaaGreat.V.N
set_option linter.unusedVariables false
set_option linter.unusedSimpArgs false
set_option maxRecDepth 20000
theorem sorted_eq {A C : List Int} (sa : A.Pairwise (· < ·)) (sc : C.Pairwise (· < ·)) (h : ∀ e, e ∈ A ↔ e ∈ C) : A = C := by
  have hn : ∀ {l : List Int}, l.Pairwise (· < ·) → l.Nodup := fun h => by
    rw [List.nodup_iff_pairwise_ne]; exact h.imp fun h => by omega
  exact ((List.perm_ext_iff_of_nodup (hn sa) (hn sc)).2 h).eq_of_pairwise (le := fun a b : Int => a < b) (fun a b _ _ h1 h2 => by omega) sa sc
theorem ins_in {S : List Int} {e : Int} (s : S.Pairwise (· < ·)) (h : e ∈ S) : insS S e = S :=
  sorted_eq (ins_sorted s) s fun a => by
    rw [mem_ins s]
    exact ⟨fun ha => ha.elim (fun e => e ▸ h) id, .inr⟩
theorem ins_len (e : Int) : ∀ S : List Int, (insS S e).length ≤ S.length + 1
  | [] => by simp [insS]
  | p :: r => by
    have := ins_len e r
    simp only [insS]
    split
    · simp
    · split
      · simp
      · simp; omega
theorem ins_end {e : Int} : ∀ {A : List Int}, (∀ y ∈ A, y < e) → insS A e = A ++ [e]
  | [], _ => rfl
  | p :: r, h => by
    have := h p (by simp)
    rw [insS, if_neg (by omega), if_neg (by omega), ins_end (A := r) fun y hy => h y (by simp [hy])]; rfl
theorem ins_more {e y : Int} (h : e < y) : ∀ A : List Int, insS (A ++ [y]) e = insS A e ++ [y]
  | [] => by simp [insS, h]
  | p :: r => by
    have := ins_more h r
    simp only [List.cons_append, insS]
    split
    · rfl
    · split
      · rfl
      · rw [this]; rfl
section
variable {h0 h : H}
theorem rdI {r : Sl} {L : List Int} (rd : Reads h r 1 (L.flatMap cI)) {i : Nat} {x : Int} (hx : L[i]? = some x) {K : Int → Prop} (k : K x) : idxA r (i : Int) 1 fun a => ldI .i64 h a K := by
  obtain ⟨p, p1, p2, p3⟩ := rd_at cI_len (by omega) rd hx
  have hl := rd_len cI_len (by omega) rd
  exact idxR_of (i := i) p1 (by have := (List.getElem?_eq_some_iff.1 hx).1; omega) rfl ((ldI_iff (n := x) p3.one).2 k)
theorem Has_spec {r : Sl} {L : List Int} {e : Int} {Q : Bool → H → Prop} (rd : Reads h r 1 (L.flatMap cI)) (hs : L.length < 1000000) (k : Q (decide (e ∈ L)) h) : F.spateref9_Has r e h Q := by
  unfold F.spateref9_Has
  have hl := rd_len cI_len (by omega) rd
  refine ⟨L.length + 1, ?_⟩
  have key : ∀ (d i : Nat), i ≤ L.length → L.length - i < d → e ∉ L.take i → F.spateref9_Has.l1 Q d r e (i : Int) h := by
    intro d
    induction d with
    | zero => intro i _ hm; omega
    | succ d ih =>
      intro i hi hm hn
      unfold F.spateref9_Has.l1
      simp only [decide_eq_true_eq, decide_eq_false_iff_not]
      rw [hl]
      refine ⟨fun g => ?_, fun g => ?_⟩
      · obtain ⟨x, hx⟩ : ∃ x, L[i]? = some x := ⟨_, List.getElem?_eq_getElem (by omega)⟩
        refine rdI rd hx ⟨fun g2 => ?_, fun g2 => ?_⟩
        · have : x = e := by simpa using g2
          subst this
          rw [decide_eq_true (List.mem_of_getElem? hx)] at k; exact k
        · rw [w64n (by omega)]
          refine ih (i + 1) (by omega) (by omega) ?_
          rw [take_snoc hx]
          have : ¬ x = e := by simpa using g2
          simp only [List.mem_append, List.mem_singleton]
          exact fun h => h.elim hn fun h => this h.symm
      · have : i = L.length := by omega
        subst this
        rw [List.take_length] at hn
        rw [decide_eq_false hn] at k; exact k
  exact key _ 0 (by omega) (by omega) (by simp)
/-- A number is written on behind a list's end. -/
theorem push_of {s : Sl} {D : List Int} {y : Int} {K : Sl → H → Prop} (e0 : Ext h0 h) (w : Owns h s 3 1 (D.flatMap cI)) (m : Mine h0 s) (hl : D.length < 1000000)
    (k : ∀ s' h', Owns h' s' 3 1 ((D ++ [y]).flatMap cI) → Mine h0 s' → Ext h0 h' → K s' h') :
    newL h #[(.int .i64 y)] 3 1 fun s7 h6 => runL PP (Builtin.append_ #[tn_Slint, tn_Slint] tn_Slint #[s.enc, s7.enc]) h6 fun s9 h8 => K s9 h8 := by
  refine newL_of fun n6 h6 hn6 b6 e6 sz6 => ?_
  have r6 : Reads h6 ⟨some ⟨n6, 0, none⟩, 1, 1⟩ 1 ([y].flatMap cI) := blk_reads b6 rfl
  refine app_list (L := D) (M := [y]) cI_len (by omega) el_Slint (w.ext e6) r6 (fun x => one1 rfl) (by simp only [List.length_singleton]; omega) fun r7 h7 q1 q2 q3 => ?_
  refine k r7 h7 q1 (fun b hb => ?_) ((e0.trans e6).mine m q2)
  rcases q3 with q3 | ⟨b', q3, q4⟩
  · exact m b (by rw [← q3]; exact hb)
  · rw [q3] at hb; cases hb
    have := e0.size; have := e6.size; omega
theorem Without_spec {r : Sl} {L : List Int} {e : Int} {Q : Sl → H → Prop} (rd : Reads h r 1 (L.flatMap cI)) (hs : L.length < 900000) (k : ∀ r' h', Owns h' r' 3 1 ((L.filter (· != e)).flatMap cI) → Mine h r' → Ext h h' → Q r' h') : F.spateref9_Without r e h Q := by
  unfold F.spateref9_Without
  have hl := rd_len cI_len (by omega) rd
  refine ⟨L.length + 1, ?_⟩
  have key : ∀ (d i : Nat) (s : Sl) (h' : H), i ≤ L.length → L.length - i < d → Owns h' s 3 1 (((L.take i).filter (· != e)).flatMap cI) → Mine h s → Ext h h' → F.spateref9_Without.l1 Q d r e s (i : Int) h' := by
    intro d
    induction d with
    | zero => intro i s h' _ hm; omega
    | succ d ih =>
      intro i s h' hi hm w m e'
      unfold F.spateref9_Without.l1
      simp only [decide_eq_true_eq, decide_eq_false_iff_not]
      rw [hl]
      refine ⟨fun g => ?_, fun g => ?_⟩
      · obtain ⟨x, hx⟩ : ∃ x, L[i]? = some x := ⟨_, List.getElem?_eq_getElem (by omega)⟩
        have hfl : ((L.take i).filter (· != e)).length ≤ L.length := by
          have := List.length_filter_le (· != e) (L.take i); simp at this; omega
        refine rdI (rd.only e' fun _ _ f => f) hx ⟨fun g2 => rdI (rd.only e' fun _ _ f => f) hx ?_, fun g2 => ?_⟩
        · refine push_of e' w m (by omega) fun s' h2 w' m' e2 => ?_
          unfold F.spateref9_Without.j2
          rw [w64n (by omega)]
          refine ih (i + 1) s' h2 (by omega) (by omega) ?_ m' e2
          rw [take_snoc hx, List.filter_append]
          simp only [List.filter_cons, g2, if_true, List.filter_nil]; exact w'
        · unfold F.spateref9_Without.j2
          rw [w64n (by omega)]
          refine ih (i + 1) s h' (by omega) (by omega) ?_ m e'
          rw [take_snoc hx, List.filter_append]
          simp only [List.filter_cons, g2, List.filter_nil, Bool.false_eq_true, if_false, List.append_nil]; exact w
      · have : i = L.length := by omega
        subst this
        rw [List.take_length] at w
        exact k s h' w m e'
  exact key _ 0 _ h (by omega) (by omega) (by simpa using Owns.nil h 3 1) (.nil _ _ _) (.refl _)
theorem pw_head {A : List Int} (s : A.Pairwise (· < ·)) {i : Nat} {x : Int} (hx : A[i]? = some x) : ∀ y ∈ A.take i, y < x := fun y hm => by
  obtain ⟨j, hj⟩ := List.mem_iff_getElem?.1 hm
  have hji : j < i := by
    have := (List.getElem?_eq_some_iff.1 hj).1
    simp at this; omega
  rw [List.getElem?_take_of_lt hji] at hj
  rw [List.pairwise_iff_getElem] at s
  obtain ⟨h1, e1⟩ := List.getElem?_eq_some_iff.1 hj
  obtain ⟨h2, e2⟩ := List.getElem?_eq_some_iff.1 hx
  have := s j i h1 h2 hji
  rw [e1, e2] at this; exact this
theorem With_spec {r : Sl} {L : List Int} {e : Int} {Q : Sl → H → Prop} (rd : Reads h r 1 (L.flatMap cI)) (srt : L.Pairwise (· < ·)) (hs : L.length < 900000) (k : ∀ r' h', Owns h' r' 3 1 ((insS L e).flatMap cI) → Mine h r' → Ext h h' → Q r' h') : F.spateref9_With r e h Q := by
  unfold F.spateref9_With
  have hl := rd_len cI_len (by omega) rd
  refine ⟨L.length + 1, ?_⟩
  have key : ∀ (d i : Nat) (s : Sl) (done : Bool) (h' : H) (D : List Int), i ≤ L.length → L.length - i < d → Owns h' s 3 1 (D.flatMap cI) → Mine h s → Ext h h' →
      (done = false → D = L.take i ∧ ∀ y ∈ L.take i, y < e) → (done = true → D = insS (L.take i) e ∧ ∃ y, L[i - 1]? = some y ∧ 0 < i ∧ e ≤ y) → F.spateref9_With.l1 Q d r e s done (i : Int) h' := by
    intro d
    induction d with
    | zero => intro i s done h' D _ hm; omega
    | succ d ih =>
      intro i s done h' D hi hm w m e' hf ht
      have hDl : D.length ≤ i + 1 := by
        cases done with
        | false => rw [(hf rfl).1]; simp; omega
        | true => rw [(ht rfl).1]; have := ins_len e (L.take i); simp at this; omega
      unfold F.spateref9_With.l1
      simp only [decide_eq_true_eq, decide_eq_false_iff_not]
      rw [hl]
      refine ⟨fun g => ?_, fun g => ?_⟩
      · obtain ⟨x, hx⟩ : ∃ x, L[i]? = some x := ⟨_, List.getElem?_eq_getElem (by omega)⟩
        -- the element itself
        have j4 : ∀ (s : Sl) (h' : H) (D : List Int) (done : Bool), Owns h' s 3 1 (D.flatMap cI) → Mine h s → Ext h h' → D.length ≤ i + 2 →
            (done = false → D ++ [x] = L.take (i + 1) ∧ x < e) → (done = true → D ++ [x] = insS (L.take (i + 1)) e ∧ e ≤ x) →
            F.spateref9_With.j4 Q (F.spateref9_With.l1 Q d) r e s done (i : Int) h' := by
          intro s h' D done w m e' hDl hf ht
          unfold F.spateref9_With.j4
          refine rdI (rd.only e' fun _ _ f => f) hx (push_of e' w m (by omega) fun s' h2 w' m' e2 => ?_)
          unfold F.spateref9_With.j2
          rw [w64n (by omega)]
          refine ih (i + 1) s' done h2 _ (by omega) (by omega) w' m' e2 (fun hd => ⟨(hf hd).1, fun y hy => ?_⟩) (fun hd => ⟨(ht hd).1, x, by rw [Nat.add_sub_cancel]; exact hx, by omega, (ht hd).2⟩)
          rw [take_snoc hx] at hy
          simp only [List.mem_append, List.mem_singleton] at hy
          rcases hy with hy | rfl
          · have := pw_head srt hx y hy; have := (hf hd).2; omega
          · exact (hf hd).2
        have j3 : ∀ (s : Sl) (h' : H) (D : List Int) (done : Bool), Owns h' s 3 1 (D.flatMap cI) → Mine h s → Ext h h' → D.length ≤ i + 2 →
            (done = false → D = L.take i ∧ (∀ y ∈ L.take i, y < e) ∧ x ≤ e) → (done = true → D ++ [x] = insS (L.take (i + 1)) e ∧ e < x) →
            F.spateref9_With.j3 Q (F.spateref9_With.l1 Q d) r e s done (i : Int) h' := by
          intro s h' D done w m e' hDl hf ht
          unfold F.spateref9_With.j3
          refine rdI (rd.only e' fun _ _ f => f) hx ⟨fun g2 => ?_, fun g2 => ?_⟩
          · have hxe : x = e := by simpa using g2
            refine j4 s h' D true w m e' hDl (fun g => (by cases g)) fun _ => ?_
            cases done with
            | true => have := (ht rfl).2; omega
            | false =>
              obtain ⟨q1, q2, q3⟩ := hf rfl
              refine ⟨?_, by omega⟩
              rw [take_snoc hx, q1, hxe, ins_in ?_ (by simp)]
              have := srt.sublist (List.take_sublist (i + 1) L)
              rw [take_snoc hx, hxe] at this; exact this
          · have hxe : ¬ x = e := by simpa using g2
            refine j4 s h' D done w m e' hDl (fun hd => ?_) (fun hd => ⟨(ht hd).1, by have := (ht hd).2; omega⟩)
            obtain ⟨q1, q2, q3⟩ := hf hd
            exact ⟨by rw [take_snoc hx, q1], by omega⟩
        cases done with
        | false =>
          refine ⟨fun _ => rdI (rd.only e' fun _ _ f => f) hx ?_, fun g => by simp at g⟩
          obtain ⟨q1, q2⟩ := hf rfl
          unfold F.spateref9_With.j5
          refine ⟨fun g => ?_, fun g => ?_⟩
          · have hlt : e < x := by simpa using g
            refine push_of e' w m (by omega) fun s' h2 w' m' e2 => j3 s' h2 _ true w' m' e2 (by simp; omega) (fun g => (by cases g)) fun _ => ⟨?_, hlt⟩
            rw [take_snoc hx, ins_more hlt, ins_end q2, q1]
          · have hle : ¬ e < x := by simpa using g
            exact j3 s h' D false w m e' (by omega) (fun _ => ⟨q1, q2, by omega⟩) (fun g => (by cases g))
        | true =>
          refine ⟨fun g => by simp at g, fun _ => ?_⟩
          obtain ⟨q1, y, q2, q3, q4⟩ := ht rfl
          have hlt : e < x := by
            have := pw_head srt hx y (by
              refine List.mem_iff_getElem?.2 ⟨i - 1, ?_⟩
              rw [List.getElem?_take_of_lt (by omega)]; exact q2)
            omega
          unfold F.spateref9_With.j5
          refine ⟨fun g => (by cases g), fun _ => ?_⟩
          exact j3 s h' D true w m e' (by omega) (fun g => (by cases g)) fun _ => ⟨by rw [take_snoc hx, ins_more hlt, q1], hlt⟩
      · have hiL : i = L.length := by omega
        subst hiL
        rw [List.take_length] at hf ht
        cases done with
        | false =>
          obtain ⟨q1, q2⟩ := hf rfl
          refine ⟨fun _ => push_of e' w m (by omega) fun s' h2 w' m' e2 => ?_, fun g => by simp at g⟩
          unfold F.spateref9_With.j6
          refine k s' h2 ?_ m' e2
          rw [ins_end q2, ← q1]; exact w'
        | true =>
          refine ⟨fun g => by simp at g, fun _ => ?_⟩
          unfold F.spateref9_With.j6
          refine k s h' ?_ m e'
          rw [← (ht rfl).1]; exact w
  exact key _ 0 _ false h [] (by omega) (by omega) (by simpa using Owns.nil h 3 1) (.nil _ _ _) (.refl _) (fun _ => ⟨by simp, by simp⟩) (fun g => (by cases g))
end
end Go.Proofs.YtgcmojbajjajgaaGreat.V
