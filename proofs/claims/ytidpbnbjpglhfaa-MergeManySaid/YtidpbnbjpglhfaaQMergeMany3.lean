/- Parts of the proof of MergeMany; no condition. -/
import Derived.Test.YtidpbnbjpglhfaaQMergeMany2
namespace Go.Proofs.Ytidpbnbjpglhfaa.V
open Go
set_option linter.unusedVariables false
set_option linter.unusedSimpArgs false
/-- The first things of an owned list are owned. -/
theorem own_cut {α : Type} {f : α → List Value} {kk : Nat} {e : TypeId} {h : H} {s : Sl} {L : List α} {n : Nat} (hf : ∀ x, (f x).length = kk) (hk : 0 < kk) (w : Owns h s e kk (L.flatMap f)) (hn : n ≤ L.length) (h0 : 0 < n) : Owns h (slcut s 0 n kk) e kk ((L.take n).flatMap f) := by
  have hl := own_len hf hk w
  obtain ⟨q0, ⟨q1, q2, q3⟩ | ⟨b', c', q1, q2, q3, q4, q5, q6⟩⟩ := w
  · omega
  · have hp : (slcut s 0 n kk).ptr = some ⟨b', 0, none⟩ := by
      unfold slcut
      rw [q1]
      split
      · rfl
      · simp [Addr.add]
    refine ⟨by rw [flat_len f kk hf, List.length_take, Nat.min_eq_left hn]; rfl, .inr ⟨b', c', hp, q2, q3, (by show n - 0 ≤ s.cap - 0; omega), (by show s.cap - 0 ≤ _; omega), ?_⟩⟩
    have h1 : L.flatMap f = (L.take n).flatMap f ++ (L.drop n).flatMap f := by rw [← List.flatMap_append, List.take_append_drop]
    have h2 := congrArg (List.take ((L.take n).flatMap f).length) q6
    rw [List.take_take, Nat.min_eq_left (by rw [h1, List.length_append]; omega)] at h2
    rw [h2, h1, List.take_left]
structure RT (h1 h : H) (a : Sl) (Z : List (Sl × List Rw8)) : Prop where
  ext : Ext h1 h
  t : Owns h a tn_Slapi_Row 1 ((Z.map (·.1)).flatMap cS8)
  m : Mine h1 a
  row : ∀ p ∈ Z, Owns h p.1 tn_api_Row 7 (p.2.flatMap cW)
  len : ∀ p ∈ Z, p.2.length ≤ 30
structure IT (h1 h : H) (a : Sl) (Z : List (Sl × List Int)) : Prop where
  t : Owns h a tn_Slint 1 ((Z.map (·.1)).flatMap cS8)
  m : Mine h1 a
  row : ∀ p ∈ Z, Owns h p.1 3 1 (p.2.flatMap cI)
  len : ∀ p ∈ Z, p.2.length ≤ 30
  up : ∀ p ∈ Z, Up p.2
theorem RT.e {h1 h h' : H} {a : Sl} {Z : List (Sl × List Rw8)} (v : RT h1 h a Z) (e : Ext h h') : RT h1 h' a Z := ⟨v.ext.trans e, v.t.ext e, v.m, fun p hp => (v.row p hp).ext e, v.len⟩
theorem IT.e {h1 h h' : H} {a : Sl} {Z : List (Sl × List Int)} (v : IT h1 h a Z) (e : Ext h h') : IT h1 h' a Z := ⟨v.t.ext e, v.m, fun p hp => (v.row p hp).ext e, v.len, v.up⟩
theorem up_take {A : List Int} (h : Up A) (n : Nat) : Up (A.take n) := List.Pairwise.sublist (List.take_sublist n A) h
theorem int_of {h : H} {l : List (Sl × List Int)} (hl : ∀ p ∈ l, Owns h p.1 3 1 (p.2.flatMap cI)) : Lsts_int h (l.map (·.1)) (l.map (·.2)) := by
  refine ⟨by simp, fun i s R h1 h2 => ?_⟩
  rw [List.getElem?_map] at h1 h2
  cases hx : l[i]? with
  | none => rw [hx] at h1; cases h1
  | some p =>
    rw [hx] at h1 h2
    cases h1; cases h2
    have := hl p (List.mem_of_getElem? hx)
    exact ⟨⟨this.reads, cap_of this⟩, fun b hb => this.blk_lt hb⟩
theorem mR_len_le {n : Nat} : ∀ (Ls : List (List Rw8)), (∀ R ∈ Ls, R.length ≤ n) → (mR Ls).length ≤ Ls.length * n
  | [], _ => by show 0 ≤ _; omega
  | R :: Ls, h => by
    have h1 := h R (by simp)
    have h2 := mR_len_le Ls fun S hS => h S (by simp [hS])
    show (List.merge R (mR Ls) leC).length ≤ _
    rw [List.length_merge, List.length_cons, Nat.add_mul]; omega
theorem MergeMany_spec {h : H} {p0 : Int} {s1 s2 : Sl} {L1 L2 : List Sl} {Q : Bool → H → Prop} (t1 : Reads h s1 1 (L1.flatMap cS8)) (t2 : Reads h s2 1 (L2.flatMap cS8)) (b1 : L1.length ≤ 9223372036854775807) (b2 : L2.length ≤ 9223372036854775807)
    (q1 : ∀ x ∈ L1, ∃ R : List Rw8, Reads h x 7 (R.flatMap cW) ∧ R.length ≤ 9223372036854775807)
    (q2 : ∀ x ∈ L2, ∃ A : List Int, Reads h x 1 (A.flatMap cI) ∧ x.len ≤ x.cap ∧ (A ≠ [] → ∀ b, x.blk = some b → b < h.size) ∧ A.length ≤ 9223372036854775807)
    (k : ∀ h', Ext h h' → Q true h') : F.spatelaw8_MergeMany p0 s1 s2 h Q := by
  unfold F.spatelaw8_MergeMany
  refine known8_spec fun h1 e1 => ⟨fun g => by simp at g, fun _ => ⟨41, ?_⟩⟩
  have hl1 := rd_len cS8_len (by omega) t1
  have hl2 := rd_len cS8_len (by omega) t2
  have fin : ∀ (h2 : H) (a c : Sl) (Z : List (Sl × List Rw8)) (Y : List (Sl × List Int)), RT h1 h2 a Z → IT h1 h2 c Y → Z.length ≤ 40 → Y.length ≤ 60 →
      F.merge_Rows p0 a h2 fun r33 h32 => F.spateref8_Rows p0 a h32 fun r35 h34 => F.spatelaw2_SameRows r33 r35 h34 fun r37 h36 =>
        (r37 = true → F.merge_Lists_int c h36 fun r40 h39 => F.spateref8_Lists c h39 fun r42 h41 => F.spatelaw8_same r40 r42 h41 fun r44 h43 => Q r44 h43) ∧ (r37 = false → Q false h36) := by
    intro h2 a c Z Y rt it hZ hY
    have hm := mR_len_le (n := 30) (Z.map (·.2)) fun R hR => by
      obtain ⟨p, hp, rfl⟩ := List.mem_map.1 hR
      exact rt.len p hp
    rw [List.length_map] at hm
    have tb : ∀ {hh : H}, Ext h2 hh → TB hh a (Z.map (·.1)) (Z.map (·.2)) := fun e => ⟨(rt.t.ext e).reads, by simp, fun i s R g1 g2 => by
      have := row_of (fun p hp => (rt.row p hp).ext e) i s R g1 g2
      exact ⟨this.reads, cap_of this⟩⟩
    refine Rows_spec (tb (.refl _)) (by simp; omega) (by omega) fun r33 h32 w33 m33 e33 => ?_
    refine RRows_spec (tb e33) (by simp; omega) (by omega) fun r35 h34 w35 m35 e35 => ?_
    refine SameRows_spec (w33.ext e35).reads w35.reads (by rw [List.length_take]; omega) (fun _ => ⟨fun _ => ?_, fun g => by cases g⟩) fun hne => absurd rfl hne
    have e34 := e33.trans e35
    have it4 := it.e e34
    have hup : ∀ A ∈ Y.map (·.2), Up A := fun A hA => by obtain ⟨p, hp, rfl⟩ := List.mem_map.1 hA; exact it.up p hp
    have hle : ∀ A ∈ Y.map (·.2), A.length ≤ 30 := fun A hA => by obtain ⟨p, hp, rfl⟩ := List.mem_map.1 hA; exact it.len p hp
    have hfl := flat_le hle
    rw [List.length_map] at hfl
    refine Lists_int_spec (SL := Y.map (·.1)) (LL := Y.map (·.2)) ⟨it4.t.reads, cap_of it4.t⟩ (int_of it4.row) (by omega) (by rw [List.length_map]; omega) (fun b hb => it4.t.blk_lt hb) fun r40 h39 w40 e39 m40 => ?_
    have it5 := it4.e e39
    refine refLists_spec (SL := Y.map (·.1)) (LL := Y.map (·.2)) ⟨it5.t.reads, cap_of it5.t⟩ (int_of it5.row) (fun b hb => it5.t.blk_lt hb) (by rw [List.length_map]; omega) (getD_len (fun A hA => by have := hle A hA; omega) (by omega)) (getD_up hup) fun r42 h41 R hR hmR w42 e41 m42 => ?_
    have hf := lists_facts ((Y.map (·.2)).length + 1) (Y.map (·.2)) (Nat.lt_succ_self _) hup
    have heq : listsM leI ((Y.map (·.2)).length + 1) (Y.map (·.2)) = R := sup_unique _ _ hf.1 hR fun z => by rw [hf.2, hmR]
    have hlen := lists_le hle ((Y.map (·.2)).length + 1)
    rw [heq] at w40 hlen
    rw [List.length_map] at hlen
    have w40' := w40.ext e41
    exact same_spec (A := R) ⟨w40'.reads, cap_of w40'⟩ ⟨w42.reads, cap_of w42⟩ (by omega) (k h41 (e1.trans (rt.ext.trans (e34.trans (e39.trans e41)))))
  have loop2 : ∀ (d i : Nat) (h2 : H) (a c : Sl) (Z : List (Sl × List Rw8)) (Y : List (Sl × List Int)), i ≤ 60 → 60 - i < d → i ≤ L2.length → Y.length = i → Z.length ≤ 40 → RT h1 h2 a Z → IT h1 h2 c Y → F.spatelaw8_MergeMany.l6 Q d p0 s2 a c (i : Int) h2 := by
    intro d
    induction d with
    | zero => intro i h2 a c Z Y _ hd; omega
    | succ d ih =>
      intro i h2 a c Z Y hi hd hiL hY hZ rt it
      unfold F.spatelaw8_MergeMany.l6
      simp only [decide_eq_true_eq, decide_eq_false_iff_not]
      rw [hl2]
      refine ⟨fun gg => ?_, fun gg => ?_⟩
      · unfold F.spatelaw8_MergeMany.j10
        refine ⟨fun g60 => ?_, fun g60 => ?_⟩
        · have g60 := of_decide_eq_true g60
          unfold F.spatelaw8_MergeMany.j7
          obtain ⟨x, hx⟩ : ∃ x, L2[i]? = some x := ⟨_, List.getElem?_eq_getElem (by omega)⟩
          obtain ⟨A, a1, a2, a3, a4⟩ := q2 x (List.mem_of_getElem? hx)
          have e2 := e1.trans rt.ext
          refine tab_at (t2.only e2 fun _ _ f => f) hx ?_
          refine rising_spec ⟨a1.only e2 fun _ _ f => f, a2⟩ (fun hn b hb => Nat.lt_of_lt_of_le (a3 hn b hb) e2.size) (by omega) fun r h3 w3 e3 m3 => ?_
          have lr := own_len cI_len (by omega) w3
          have next : ∀ (s : Sl) (B : List Int), Owns h3 s 3 1 (B.flatMap cI) → B.length ≤ 30 → Up B → F.spatelaw8_MergeMany.j9 Q (F.spatelaw8_MergeMany.l6 Q d) p0 s2 a c (i : Int) s h3 := fun s B ws hB uB => by
            unfold F.spatelaw8_MergeMany.j9
            have it3 := it.e e3
            have rt3 := rt.e e3
            refine push8 (f := cS8) (x := s) (D := Y.map (·.1)) el_SlSlint cS8_len (by omega) (fun x => one1 rfl) rt3.ext it3.t it3.m (by rw [List.length_map]; omega) fun c' h4 w4 m4 e4 o4 => ?_
            unfold F.spatelaw8_MergeMany.j8
            rw [w64s (by omega)]
            refine ih (i + 1) h4 a c' Z (Y ++ [(s, B)]) (by omega) (by omega) (by omega) (by simp [hY]) hZ ⟨e4, own_typ rt3.t o4 it3.t (by decide), rt3.m, fun p hp => own_typ (rt3.row p hp) o4 it3.t (by decide), rt3.len⟩ ⟨by simpa using w4, m4, fun p hp => ?_, fun p hp => ?_, fun p hp => ?_⟩
            · rcases List.mem_append.1 hp with hp | hp
              · exact own_typ (it3.row p hp) o4 it3.t (by decide)
              · obtain rfl := List.mem_singleton.1 hp; exact own_typ ws o4 it3.t (by decide)
            · rcases List.mem_append.1 hp with hp | hp
              · exact it3.len p hp
              · obtain rfl := List.mem_singleton.1 hp; exact hB
            · rcases List.mem_append.1 hp with hp | hp
              · exact it3.up p hp
              · obtain rfl := List.mem_singleton.1 hp; exact uB
          rw [lr]
          refine ⟨fun g => ?_, fun g => next _ _ w3 (by have g := of_decide_eq_false g; omega) (risL_up A)⟩
          have g := of_decide_eq_true g
          refine cutL_of (lo := 0) (hi := 30) rfl rfl (by omega) (by have := cap_of w3; omega) ?_
          exact next _ _ (own_cut cI_len (by omega) w3 (by omega) (by omega)) (by rw [List.length_take]; omega) (up_take (risL_up A) 30)
        · exact fin h2 a c Z Y rt it hZ (by omega)
      · unfold F.spatelaw8_MergeMany.j10
        exact ⟨fun g => (by cases g), fun _ => fin h2 a c Z Y rt it hZ (by omega)⟩
  have loop1 : ∀ (d i : Nat) (h2 : H) (a : Sl) (Z : List (Sl × List Rw8)), i ≤ 40 → 40 - i < d → i ≤ L1.length → Z.length = i → RT h1 h2 a Z → F.spatelaw8_MergeMany.l1 Q d p0 s1 s2 a (i : Int) h2 := by
    intro d
    induction d with
    | zero => intro i h2 a Z _ hd; omega
    | succ d ih =>
      intro i h2 a Z hi hd hiL hZ rt
      have it0 : ∀ {hh : H}, IT h1 hh ⟨none, 0, 0⟩ [] := ⟨by simpa using Owns.nil _ tn_Slint 1, .nil _ _ _, (fun p hp => by cases hp), (fun p hp => by cases hp), fun p hp => by cases hp⟩
      unfold F.spatelaw8_MergeMany.l1
      simp only [decide_eq_true_eq, decide_eq_false_iff_not]
      rw [hl1]
      refine ⟨fun gg => ?_, fun gg => ?_⟩
      · unfold F.spatelaw8_MergeMany.j5
        refine ⟨fun g60 => ?_, fun g60 => ⟨61, loop2 61 0 h2 a _ Z [] (by omega) (by omega) (by omega) rfl (by omega) rt it0⟩⟩
        have g60 := of_decide_eq_true g60
        unfold F.spatelaw8_MergeMany.j2
        obtain ⟨x, hx⟩ : ∃ x, L1[i]? = some x := ⟨_, List.getElem?_eq_getElem (by omega)⟩
        obtain ⟨A, a1, a4⟩ := q1 x (List.mem_of_getElem? hx)
        have e2 := e1.trans rt.ext
        refine tab_at (t1.only e2 fun _ _ f => f) hx ?_
        refine ordered_spec (a1.only e2 fun _ _ f => f) (by omega) fun r h3 w3 m3 e3 => ?_
        have lr := own_len cW_len (by omega) w3
        have next : ∀ (s : Sl) (B : List Rw8), Owns h3 s tn_api_Row 7 (B.flatMap cW) → B.length ≤ 30 → F.spatelaw8_MergeMany.j4 Q (F.spatelaw8_MergeMany.l1 Q d) p0 s1 s2 a (i : Int) s h3 := fun s B ws hB => by
          unfold F.spatelaw8_MergeMany.j4
          have rt3 := rt.e e3
          refine push8 (f := cS8) (x := s) (D := Z.map (·.1)) el_SlSlapi_Row cS8_len (by omega) (fun x => one1 rfl) rt3.ext rt3.t rt3.m (by rw [List.length_map]; omega) fun c' h4 w4 m4 e4 o4 => ?_
          unfold F.spatelaw8_MergeMany.j3
          rw [w64s (by omega)]
          refine ih (i + 1) h4 c' (Z ++ [(s, B)]) (by omega) (by omega) (by omega) (by simp [hZ]) ⟨e4, by simpa using w4, m4, fun p hp => ?_, fun p hp => ?_⟩
          · rcases List.mem_append.1 hp with hp | hp
            · exact own_typ (rt3.row p hp) o4 rt3.t (by decide)
            · obtain rfl := List.mem_singleton.1 hp; exact own_typ ws o4 rt3.t (by decide)
          · rcases List.mem_append.1 hp with hp | hp
            · exact rt3.len p hp
            · obtain rfl := List.mem_singleton.1 hp; exact hB
        rw [lr]
        refine ⟨fun g => ?_, fun g => next _ _ w3 (by have g := of_decide_eq_false g; omega)⟩
        have g := of_decide_eq_true g
        refine cutL_of (lo := 0) (hi := 30) rfl rfl (by omega) (by have := cap_of w3; omega) ?_
        exact next _ _ (own_cut cW_len (by omega) w3 (by omega) (by omega)) (by rw [List.length_take]; omega)
      · unfold F.spatelaw8_MergeMany.j5
        exact ⟨fun g => (by cases g), fun _ => ⟨61, loop2 61 0 h2 a _ Z [] (by omega) (by omega) (by omega) rfl (by omega) rt it0⟩⟩
  exact loop1 41 0 h1 _ [] (by omega) (by omega) (by omega) rfl ⟨.refl _, by simpa using Owns.nil h1 tn_Slapi_Row 1, .nil _ _ _, (fun p hp => by cases hp), fun p hp => by cases hp⟩
section
variable {T : Type} {enc : TypeId × Value → T} {w : World} {base : Nat} {spare : Nat → Bool} {held : Bool} {fuel : Nat}
theorem rowss_open {v : Value} {y : DataW T × List MemPlace} (h : DataW.trod enc PP w base spare held fuel tn_SlSlapi_Row [v] = some y) :
    ∃ (s : Sl) (L : List Sl), v = s.enc ∧ Reads w.heap s 1 (L.flatMap cS8) ∧ s.len ≤ s.cap ∧ (L ≠ [] → ∀ b, s.blk = some b → b < w.heap.size) ∧ (∀ x ∈ L, ∃ R : List Rw8, Reads w.heap x 7 (R.flatMap cW) ∧ R.length ≤ 9223372036854775807) ∧ L.length ≤ 9223372036854775807 :=
  gen_open cS8 (fun x => ∃ R : List Rw8, Reads w.heap x 7 (R.flatMap cW) ∧ R.length ≤ 9223372036854775807) cS8_len ut_SlSlapi_Row (show PP.cellsOf tn_Slapi_Row = 1 from by kernel_rfl) (by omega) h fun n cs y hy hl => by
    match cs, hl with
    | [c], _ =>
      obtain ⟨s, R, rfl, r1, _, _, _, r2⟩ := rows_open hy
      exact ⟨s, rfl, R, r1, r2⟩
theorem intss_open {v : Value} {y : DataW T × List MemPlace} (h : DataW.trod enc PP w base spare held fuel tn_SlSlint [v] = some y) :
    ∃ (s : Sl) (L : List Sl), v = s.enc ∧ Reads w.heap s 1 (L.flatMap cS8) ∧ s.len ≤ s.cap ∧ (L ≠ [] → ∀ b, s.blk = some b → b < w.heap.size) ∧ (∀ x ∈ L, ∃ A : List Int, Reads w.heap x 1 (A.flatMap cI) ∧ x.len ≤ x.cap ∧ (A ≠ [] → ∀ b, x.blk = some b → b < w.heap.size) ∧ A.length ≤ 9223372036854775807) ∧ L.length ≤ 9223372036854775807 :=
  gen_open cS8 (fun x => ∃ A : List Int, Reads w.heap x 1 (A.flatMap cI) ∧ x.len ≤ x.cap ∧ (A ≠ [] → ∀ b, x.blk = some b → b < w.heap.size) ∧ A.length ≤ 9223372036854775807) cS8_len ut_SlSlint (show PP.cellsOf tn_Slint = 1 from by kernel_rfl) (by omega) h fun n cs y hy hl => by
    match cs, hl with
    | [c], _ =>
      obtain ⟨s, A, rfl, r1, r2, r3, _, r4⟩ := ints_open8 hy
      exact ⟨s, rfl, A, r1, r2, r3, r4⟩
end
end Go.Proofs.Ytidpbnbjpglhfaa.V
