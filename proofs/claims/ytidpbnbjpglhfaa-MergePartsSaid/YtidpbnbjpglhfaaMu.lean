/- The document's Rows; no condition. -/
import Derived.Test.YtidpbnbjpglhfaaMt
namespace Go.Proofs.Ytidpbnbjpglhfaa.V
open Go
set_option linter.unusedVariables false
set_option linter.unusedSimpArgs false
section
variable {h0 h h' : H}
/-- What is left of lists from places on. -/
def remL (Ls : List (List Rw8)) (at_ : List Nat) : List (List Rw8) := List.zipWith (fun R a => R.drop a) Ls at_
theorem rem_at {Ls : List (List Rw8)} {A : List Nat} {i : Nat} {R : List Rw8} {a : Nat} (h1 : Ls[i]? = some R) (h2 : A[i]? = some a) : (remL Ls A)[i]? = some (R.drop a) := by
  unfold remL; rw [List.getElem?_zipWith, h1, h2]
theorem rem_set {Ls : List (List Rw8)} {A : List Nat} {i : Nat} {R : List Rw8} {a : Nat} (h1 : Ls[i]? = some R) (h2 : A[i]? = some a) : remL Ls (A.set i (a + 1)) = (remL Ls A).set i (R.drop (a + 1)) := by
  apply List.ext_getElem?; intro j
  rw [List.getElem?_set]
  unfold remL
  rw [List.getElem?_zipWith, List.getElem?_zipWith, List.getElem?_set]
  have hil := (List.getElem?_eq_some_iff.1 h1).1
  have hia := (List.getElem?_eq_some_iff.1 h2).1
  by_cases e : i = j
  · subst e
    rw [if_pos rfl, if_pos rfl, if_pos hia, if_pos (by rw [List.length_zipWith]; omega), h1]
  · rw [if_neg e, if_neg e]
theorem drop_cons {R : List Rw8} {a : Nat} {x : Rw8} (h : R[a]? = some x) : R.drop a = x :: R.drop (a + 1) := by
  obtain ⟨hl, rfl⟩ := List.getElem?_eq_some_iff.1 h
  exact List.drop_eq_getElem_cons hl
/-- What has been picked among the lists ahead of i. -/
def Pk (Ls : List (List Rw8)) (A : List Nat) (i : Nat) (kk : Int) : Prop := (kk < 0 ∧ ∀ (j : Nat) R a, j < i → Ls[j]? = some R → A[j]? = some a → R.drop a = []) ∨
  (∃ (k : Nat) (R : List Rw8) (a : Nat) (x : Rw8), kk = (k : Int) ∧ k < i ∧ Ls[k]? = some R ∧ A[k]? = some a ∧ R[a]? = some x ∧
    (∀ (j : Nat) R' a' y, j < k → Ls[j]? = some R' → A[j]? = some a' → R'[a']? = some y → leC y x = false) ∧ (∀ (j : Nat) R' a' y, k < j → j < i → Ls[j]? = some R' → A[j]? = some a' → R'[a']? = some y → leC x y = true))
theorem mem_len : ∀ {Ls : List (List Rw8)} {R : List Rw8}, R ∈ Ls → R.length ≤ (mR Ls).length
  | [], _, h => by cases h
  | l :: Ls, R, h => by
    have e : (mR (l :: Ls)).length = l.length + (mR Ls).length := by
      show (List.merge l (mAll leC Ls) leC).length = _
      rw [List.length_merge]
    rcases List.mem_cons.1 h with rfl | h
    · omega
    · have := mem_len h; omega
abbrev nI (a : Nat) : List Value := cI (a : Int)
theorem RRows_spec {most : Int} {p1 : Sl} {ss : List Sl} {Ls : List (List Rw8)} {Q : Sl → H → Prop} (t : TB h p1 ss Ls) (hs : ss.length < 90000) (hn : (mR Ls).length < 100000)
    (k : ∀ r h', Owns h' r tn_api_Row 7 (((mR Ls).take most.toNat).flatMap cW) → Mine h r → Ext h h' → Q r h') : F.spateref8_Rows most p1 h Q := by
  unfold F.spateref8_Rows
  have hl := rd_len cS8_len (by omega) t.tb
  have htl := t.len
  rw [hl]
  refine make_of (n := ss.length) el_Slint (by omega) (by simp only [maxLen]; omega) fun b h1 hb w1 e1 => ⟨(mR Ls).length + 1, ?_⟩
  have mI : (madeCells (Value.int .i64 0).cells (ss.length * 1)).toList = (List.replicate ss.length 0).flatMap nI := by
    rw [Nat.mul_one]; exact (made_one _ _).trans (flat_replicate nI 0 _ rfl _).symm
  rw [mI] at w1
  have nI_len : ∀ a : Nat, (nI a).length = 1 := fun _ => rfl
  have key : ∀ (d : Nat) (h' : H) (A : List Nat) (r : Sl) (out : List Rw8), (mR (remL Ls A)).length < d → A.length = ss.length → (∀ (i : Nat) R a, Ls[i]? = some R → A[i]? = some a → a ≤ R.length) → Owns h' ⟨some ⟨b, 0, none⟩, ss.length, ss.length⟩ 3 1 (A.flatMap nI) →
      Owns h' r tn_api_Row 7 (out.flatMap cW) → Mine h r → Ext h h' → out ++ mR (remL Ls A) = mR Ls → out.length ≤ most.toNat → F.spateref8_Rows.l2 Q d most p1 r ⟨some ⟨b, 0, none⟩, ss.length, ss.length⟩ h' := by
    intro d
    induction d with
    | zero => intro h' A r out hm; omega
    | succ d ih =>
      intro h' A r out hm hA hAl wA w m e hall hout
      have hlr := own_len cW_len (by omega) w
      have hol : out.length ≤ (mR Ls).length := by rw [← hall]; simp
      unfold F.spateref8_Rows.l2
      simp only [decide_eq_true_eq, decide_eq_false_iff_not]
      rw [hlr]
      have fin : out = (mR Ls).take most.toNat → F.spateref8_Rows.j1 Q r h' := fun ho => by
        unfold F.spateref8_Rows.j1
        refine k r h' ?_ m e
        rw [← ho]; exact w
      refine ⟨fun gg => ⟨ss.length + 1, ?_⟩, fun gg => fin ?_⟩
      · have hlt : out.length < most.toNat := by omega
        -- the place in list i
        have atA : ∀ {hh : H} {i : Nat} {a : Nat} {K : Int → Prop}, Owns hh ⟨some ⟨b, 0, none⟩, ss.length, ss.length⟩ 3 1 (A.flatMap nI) → A[i]? = some a → K (a : Int) → idxA ⟨some ⟨b, 0, none⟩, ss.length, ss.length⟩ (i : Int) 1 fun q => ldI .i64 hh q K := fun {hh i a K} ww ha kk => by
          obtain ⟨b', p1', p2'⟩ := own_at nI_len (by omega) ww ha
          exact idxA_of (i := i) p1' (by show i < ss.length; have := (List.getElem?_eq_some_iff.1 ha).1; omega) rfl ((ldI_iff (n := (a : Int)) p2'.one).2 kk)
        have rowAt : ∀ {hh : H} {i a : Nat} {s : Sl} {R : List Rw8} {x : Rw8} {K : Rw8 → Prop}, Ext h hh → ss[i]? = some s → Ls[i]? = some R → R[a]? = some x → K x → idxA s (a : Int) 7 fun q => ld_S_api_Row hh q K := fun {hh i a s R x K} ee h1 h2 h3 kk => by
          obtain ⟨rd, _⟩ := t.row _ s R h1 h2
          obtain ⟨p, q1, q2, q3⟩ := rd_at cW_len (by omega) (rd.only ee fun _ _ f => f) h3
          have hll := rd_len cW_len (by omega) rd
          exact idxR_of (i := a) q1 (by have := (List.getElem?_eq_some_iff.1 h3).1; omega) rfl ⟨x, q3, kk⟩
        have celAt : ∀ {hh : H} {i a : Nat} {s : Sl} {R : List Rw8} {x : Rw8} {K : Cel → Prop}, Ext h hh → ss[i]? = some s → Ls[i]? = some R → R[a]? = some x → K x.Cell → idxA s (a : Int) 7 fun q => ld_S_api_Cell hh (q.add 0) K := fun {hh i a s R x K} ee h1 h2 h3 kk => by
          obtain ⟨rd, _⟩ := t.row _ s R h1 h2
          obtain ⟨p, q1, q2, q3⟩ := rd_at cW_len (by omega) (rd.only ee fun _ _ f => f) h3
          have hll := rd_len cW_len (by omega) rd
          exact idxR_of (i := a) q1 (by have := (List.getElem?_eq_some_iff.1 h3).1; omega) rfl (by rw [add0]; exact ⟨x.Cell, Cells.pre q3, kk⟩)
        -- what has been picked among the lists ahead of i
        have pick : ∀ (d2 i : Nat) (kk : Int) (h2 : H), i ≤ ss.length → ss.length - i < d2 → Pk Ls A i kk → Owns h2 ⟨some ⟨b, 0, none⟩, ss.length, ss.length⟩ 3 1 (A.flatMap nI) → Owns h2 r tn_api_Row 7 (out.flatMap cW) → Ext h h2 →
            F.spateref8_Rows.l3 Q (F.spateref8_Rows.l2 Q d) d2 most p1 r ⟨some ⟨b, 0, none⟩, ss.length, ss.length⟩ kk (i : Int) h2 := by
          intro d2
          induction d2 with
          | zero => intro i kk h2 _ hm2; omega
          | succ d2 ih2 =>
            intro i kk h2 hi hm2 hP wA2 w2 e2
            unfold F.spateref8_Rows.l3
            simp only [decide_eq_true_eq, decide_eq_false_iff_not]
            rw [hl]
            refine ⟨fun g2 => ?_, fun g2 => ?_⟩
            · obtain ⟨a, ha⟩ : ∃ a, A[i]? = some a := ⟨_, List.getElem?_eq_getElem (by omega)⟩
              obtain ⟨s, hss⟩ : ∃ s, ss[i]? = some s := ⟨_, List.getElem?_eq_getElem (by omega)⟩
              obtain ⟨R, hR⟩ : ∃ R, Ls[i]? = some R := ⟨_, List.getElem?_eq_getElem (by omega)⟩
              have hsl := rd_len cW_len (by omega) (t.row i s R hss hR).1
              have j5 : ∀ (bb : Bool) (h3 : H), Pk Ls A (i + 1) (if bb then (i : Int) else kk) → Owns h3 ⟨some ⟨b, 0, none⟩, ss.length, ss.length⟩ 3 1 (A.flatMap nI) → Owns h3 r tn_api_Row 7 (out.flatMap cW) → Ext h h3 →
                  F.spateref8_Rows.j5 Q (F.spateref8_Rows.l2 Q d) (F.spateref8_Rows.l3 Q (F.spateref8_Rows.l2 Q d) d2) most p1 r ⟨some ⟨b, 0, none⟩, ss.length, ss.length⟩ kk (i : Int) bb h3 := by
                intro bb h3 hP3 wA3 w3 e3
                unfold F.spateref8_Rows.j5 F.spateref8_Rows.j4
                rw [w64s (by omega)]
                refine ⟨fun g => ?_, fun g => ?_⟩
                · rw [g] at hP3; exact ih2 (i + 1) _ h3 (by omega) (by omega) hP3 wA3 w3 e3
                · rw [g] at hP3; exact ih2 (i + 1) _ h3 (by omega) (by omega) hP3 wA3 w3 e3
              refine atA wA2 ha (t.at e2 hss ?_)
              rw [hsl]
              refine ⟨fun g3 => ?_, fun g3 => j5 false h2 ?_ wA2 w2 e2⟩
              · obtain ⟨y, hy⟩ : ∃ y, R[a]? = some y := ⟨_, List.getElem?_eq_getElem (by omega)⟩
                refine ⟨fun g4 => j5 true h2 ?_ wA2 w2 e2, fun g4 => ?_⟩
                · rcases hP with ⟨_, hnone⟩ | ⟨k0, _, _, _, hk, _⟩
                  · refine Or.inr ⟨i, R, a, y, rfl, by omega, hR, ha, hy, fun j R' a' z hj h1 h2 h3 => ?_, fun j R' a' z hj hj2 h1 h2 h3 => by omega⟩
                    have := hnone j R' a' hj h1 h2
                    rw [drop_cons h3] at this; cases this
                  · omega
                · rcases hP with ⟨hneg, _⟩ | ⟨k0, R0, a0, x0, hk, hki, hR0, ha0, hx0, hbef, haft⟩
                  · omega
                  · obtain ⟨s0, hs0⟩ : ∃ s0, ss[k0]? = some s0 := ⟨_, List.getElem?_eq_getElem (by omega)⟩
                    subst hk
                    refine t.at e2 hss (atA wA2 ha (celAt e2 hss hR hy (t.at e2 hs0 (atA wA2 ha0 (celAt e2 hs0 hR0 hx0 ?_)))))
                    refine CompareR_spec fun h3 e3 => ?_
                    have hrng := cC_range y.Cell x0.Cell
                    have hanti := cC_anti y.Cell x0.Cell
                    refine j5 _ h3 ?_ (wA2.ext e3) (w2.ext e3) (e2.trans e3)
                    by_cases hc : cmpC y.Cell x0.Cell < 0
                    · rw [decide_eq_true hc, if_pos rfl]
                      refine Or.inr ⟨i, R, a, y, rfl, by omega, hR, ha, hy, fun j R' a' z hj h1 h2 h3 => ?_, fun j R' a' z hj hj2 h1 h2 h3 => by omega⟩
                      -- the earlier heads are greater than y
                      by_cases hjk : j = k0
                      · subst hjk
                        rw [hR0] at h1; cases h1; rw [ha0] at h2; cases h2; rw [hx0] at h3; cases h3
                        unfold leC; exact decide_eq_false (by omega)
                      · unfold leC
                        refine decide_eq_false fun hle => ?_
                        by_cases hlt2 : j < k0
                        · have := hbef j R' a' z hlt2 h1 h2 h3
                          unfold leC at this
                          have := of_decide_eq_false this
                          exact this (cC_le_trans hle (by omega))
                        · have := haft j R' a' z (by omega) hj h1 h2 h3
                          unfold leC at this
                          have h5 := of_decide_eq_true this
                          have := cC_le_trans h5 hle
                          omega
                    · rw [decide_eq_false hc, if_neg (by simp)]
                      refine Or.inr ⟨k0, R0, a0, x0, rfl, by omega, hR0, ha0, hx0, hbef, fun j R' a' z hj hj2 h1 h2 h3 => ?_⟩
                      by_cases hji : j = i
                      · subst hji
                        rw [hR] at h1; cases h1; rw [ha] at h2; cases h2; rw [hy] at h3; cases h3
                        unfold leC; exact decide_eq_true (by omega)
                      · exact haft j R' a' z hj (by omega) h1 h2 h3
              · rw [if_neg (by simp)]
                have hdr : R.drop a = [] := List.drop_of_length_le (by omega)
                have hno : R[a]? = none := List.getElem?_eq_none (by omega)
                rcases hP with ⟨hneg, hnone⟩ | ⟨k0, R0, a0, x0, hk, hki, hR0, ha0, hx0, hbef, haft⟩
                · refine Or.inl ⟨hneg, fun j R' a' hj h1 h2 => ?_⟩
                  by_cases hji : j = i
                  · subst hji
                    rw [hR] at h1; cases h1; rw [ha] at h2; cases h2; exact hdr
                  · exact hnone j R' a' (by omega) h1 h2
                · refine Or.inr ⟨k0, R0, a0, x0, hk, by omega, hR0, ha0, hx0, hbef, fun j R' a' z hj hj2 h1 h2 h3 => ?_⟩
                  by_cases hji : j = i
                  · subst hji
                    rw [hR] at h1; cases h1; rw [ha] at h2; cases h2; rw [hno] at h3; cases h3
                  · exact haft j R' a' z hj (by omega) h1 h2 h3
            · have hiL : i = ss.length := by omega
              subst hiL
              refine ⟨fun g3 => ?_, fun g3 => ?_⟩
              · rcases hP with ⟨_, hnone⟩ | ⟨k0, _, _, _, hk, _⟩
                · have hz : mR (remL Ls A) = [] := mAll_none fun l hll => by
                    obtain ⟨j, hj⟩ := List.mem_iff_getElem?.1 hll
                    have hjl := (List.getElem?_eq_some_iff.1 hj).1
                    unfold remL at hjl
                    rw [List.length_zipWith] at hjl
                    obtain ⟨R', hR'⟩ : ∃ R', Ls[j]? = some R' := ⟨_, List.getElem?_eq_getElem (by omega)⟩
                    obtain ⟨a', ha'⟩ : ∃ a', A[j]? = some a' := ⟨_, List.getElem?_eq_getElem (by omega)⟩
                    rw [rem_at hR' ha'] at hj
                    cases hj
                    exact hnone j R' a' (by omega) hR' ha'
                  rw [hz, List.append_nil] at hall
                  unfold F.spateref8_Rows.j1
                  refine k r h2 ?_ m e2
                  rw [← hall, List.take_of_length_le hout]; exact w2
                · omega
              · rcases hP with ⟨hneg, _⟩ | ⟨k0, R0, a0, x0, hk, hki, hR0, ha0, hx0, hbef, haft⟩
                · omega
                · subst hk
                  obtain ⟨s0, hs0⟩ : ∃ s0, ss[k0]? = some s0 := ⟨_, List.getElem?_eq_getElem (by omega)⟩
                  refine t.at e2 hs0 (atA wA2 ha0 (rowAt e2 hs0 hR0 hx0 ?_))
                  refine newL_of fun m1 h5 hm1 b5 e5 s5 => ?_
                  have r5 : Reads h5 ⟨some ⟨m1, 0, none⟩, 1, 1⟩ 7 ([x0].flatMap cW) := blk_reads (by simpa using b5) rfl
                  refine app_list (L := out) (M := [x0]) cW_len (by omega) el_Slapi_Row (w2.ext e5) r5 (fun x => ones_S_api_Row x) (by simp only [List.length_singleton]; omega) fun r6 h6 w6 o6 n6 => ?_
                  have m6 : Mine h r6 := fun y hy => by
                    rcases n6 with n6 | ⟨b', n6, n7⟩
                    · exact m y (by rw [← n6]; exact hy)
                    · rw [n6] at hy; cases hy; have := e2.size; have := e5.size; omega
                  have e6 : Ext h h6 := (e2.trans e5).mine m o6
                  have wA5 := wA2.ext e5
                  have wA6 : Owns h6 ⟨some ⟨b, 0, none⟩, ss.length, ss.length⟩ 3 1 (A.flatMap nI) := wA5.only o6 fun y hy hb2 => by
                    obtain ⟨_, ⟨q1, q2, q3⟩ | ⟨b', c', q1, q2, _⟩⟩ := wA5
                    · cases q1
                    · cases q1
                      simp [Sl.blk] at hy
                      subst hy
                      exact own_ne (w2.ext e5) q2 (by decide) hb2
                  refine atA wA6 ha0 ?_
                  have hal := (List.getElem?_eq_some_iff.1 ha0).1
                  have hRl := (List.getElem?_eq_some_iff.1 hx0).1
                  have hRn := rd_len cW_len (by omega) (t.row k0 s0 R0 hs0 hR0).1
                  refine idxA_of (i := k0) rfl (by show k0 < ss.length; omega) rfl ?_
                  have hbig : (a0 : Int) < 9000000000000000000 := by
                    have := mem_len (List.mem_of_getElem? hR0); omega
                  rw [w64s (by omega)]
                  refine own_setAt (i := k0) (x := a0 + 1) nI_len wA6 rfl hal fun h7 w7 o7 s7 => ?_
                  have hx1 : mR (remL Ls A) = x0 :: mR (remL Ls (A.set k0 (a0 + 1))) := by
                    rw [rem_set hR0 ha0]
                    have hd0 := drop_cons hx0
                    refine mAll_pick (by rw [rem_at hR0 ha0, hd0]) (fun j y s hj hy => ?_) (fun j y s hj hy => ?_)
                    · have hjl : j < Ls.length ∧ j < A.length := by omega
                      obtain ⟨R', hR'⟩ : ∃ R', Ls[j]? = some R' := ⟨_, List.getElem?_eq_getElem hjl.1⟩
                      obtain ⟨a', ha'⟩ : ∃ a', A[j]? = some a' := ⟨_, List.getElem?_eq_getElem hjl.2⟩
                      rw [rem_at hR' ha'] at hy
                      have hy1 : R'[a']? = some y := by
                        have : (R'.drop a')[0]? = some y := by rw [Option.some.inj hy]; rfl
                        rw [List.getElem?_drop] at this; exact this
                      exact hbef j R' a' y hj hR' ha' hy1
                    · have hjl0 := (List.getElem?_eq_some_iff.1 hy).1
                      unfold remL at hjl0
                      rw [List.length_zipWith] at hjl0
                      obtain ⟨R', hR'⟩ : ∃ R', Ls[j]? = some R' := ⟨_, List.getElem?_eq_getElem (by omega)⟩
                      obtain ⟨a', ha'⟩ : ∃ a', A[j]? = some a' := ⟨_, List.getElem?_eq_getElem (by omega)⟩
                      rw [rem_at hR' ha'] at hy
                      have hy1 : R'[a']? = some y := by
                        have : (R'.drop a')[0]? = some y := by rw [Option.some.inj hy]; rfl
                        rw [List.getElem?_drop] at this; exact this
                      exact haft j R' a' y hj (by omega) hR' ha' hy1
                  have w6' : Owns h7 r6 tn_api_Row 7 ((out ++ [x0]).flatMap cW) := w6.only o7 fun y hy hb2 => by
                    obtain ⟨_, ⟨q1, q2, q3⟩ | ⟨b', c', q1, q2, _⟩⟩ := w6
                    · simp [Sl.blk, q1] at hy
                    · simp [Sl.blk, q1] at hy
                      subst hy
                      exact own_ne wA6 q2 (by decide) hb2
                  refine ih h7 (A.set k0 (a0 + 1)) r6 (out ++ [x0]) (by rw [hx1] at hm; simp at hm; omega) (by simp [hA]) (fun i R a h1 h2 => ?_) w7 w6' m6 (e6.step o7 fun y hy hb2 => by simp [Sl.blk] at hb2; omega) (by rw [List.append_assoc, List.singleton_append, ← hx1]; exact hall) (by simp; omega)
                  rw [List.getElem?_set] at h2
                  by_cases e : k0 = i
                  · subst e
                    rw [if_pos rfl, if_pos hal] at h2; cases h2
                    rw [hR0] at h1; cases h1; omega
                  · rw [if_neg e] at h2
                    exact hAl i R a h1 h2
        exact pick _ 0 (-1) h' (by omega) (by omega) (Or.inl ⟨by omega, fun j R a hj => by omega⟩) wA w e
      · have : out.length = most.toNat := by omega
        rw [← hall, ← this, List.take_left' rfl]
  have hrem0 : remL Ls (List.replicate ss.length 0) = Ls := by
    apply List.ext_getElem?; intro j
    unfold remL
    rw [List.getElem?_zipWith, List.getElem?_replicate, htl]
    by_cases hj : j < Ls.length
    · rw [if_pos hj, List.getElem?_eq_getElem hj]; simp
    · rw [if_neg hj, List.getElem?_eq_none (by omega)]
  refine key _ h1 (List.replicate ss.length 0) _ [] (by rw [hrem0]; omega) (by simp) (fun i R a h1 h2 => ?_) w1 (by simpa using Owns.nil h1 tn_api_Row 7) (.nil _ _ _) e1 (by rw [hrem0]; rfl) (by simp)
  rw [List.getElem?_replicate] at h2
  split at h2
  · cases h2; omega
  · cases h2
end
end Go.Proofs.Ytidpbnbjpglhfaa.V
