/- The document's table: All's first half, the taken places are collected; no condition. -/
import Derived.Test.YtkedkajdiclmjaaDl
namespace Go.Proofs.Ytkedkajdiclmjaa.V.D
open Go Go.Proofs.Ytkedkajdiclmjaa.V
set_option linter.unusedVariables false
set_option linter.unusedSimpArgs false

def tkP (R : List (Pl Int)) : List (Pl Int) := R.filter fun p => decide (p.is_ = 1)
theorem tkP_one {p : Pl Int} {R : List (Pl Int)} (h : p.is_ = 1) : tkP (p :: R) = p :: tkP R := by simp [tkP, h]
theorem tkP_no {p : Pl Int} {R : List (Pl Int)} (h : p.is_ ≠ 1) : tkP (p :: R) = tkP R := by simp [tkP, h]
theorem cD_one : ∀ x, ∀ v ∈ cD x, v.oneCell' = true := by
  intro x v hv
  simp only [cD, List.mem_cons, List.not_mem_nil, or_false] at hv
  rcases hv with rfl | rfl | rfl | rfl <;> rfl
section
variable {h0 : H} {m : Nat} {rd ed : Sl} {T : Tb Int} {Q : Sl → Sl → H → Prop} {Z : List (Pl Int)}
theorem coll_el (t : TD h0 m rd ed T) (hZ : Z.length ≤ 2 * BIG) (k : ∀ h' s', Ext h0 h' → Mine h0 s' → Owns h' s' 114 4 (Z.flatMap cD) → ∃ m, F.spateref6_Table_All.l5 Q m s' ⟨none, 0, 0⟩ ⟨none, 0, 0⟩ 0 h') :
    ∀ (f i : Nat) (h : H) (s : Sl) (W : List (Pl Int)), Ext h0 h → Mine h0 s → Owns h s 114 4 (W.flatMap cD) → i ≤ T.elder.length → T.elder.length - i < f → W ++ tkP (T.elder.drop i) = Z →
      F.spateref6_Table_All.l3 Q f (some ⟨m, 0, none⟩) s (i : Int) h
  | 0, i, h, s, W, e, ms, o, hi, hf, hW => by omega
  | f + 1, i, h, s, W, e, ms, o, hi, hf, hW => by
    unfold F.spateref6_Table_All.l3
    have th := t.only e fun _ _ f => f
    have hb := t.be
    simp only [BIG] at hb hZ
    simp only [nn_some, add_lit, Nat.zero_add]
    rw [ldL_iff th.c1, th.elen]
    simp only [decide_eq_true_eq, decide_eq_false_iff_not]
    refine ⟨fun g => ?_, fun g => ?_⟩
    · have hlt : i < T.elder.length := by omega
      obtain ⟨p, hp⟩ : ∃ p, T.elder[i]? = some p := ⟨_, List.getElem?_eq_getElem hlt⟩
      have hd : T.elder.drop i = p :: T.elder.drop (i + 1) := by
        rw [List.drop_eq_getElem_cons hlt, (List.getElem?_eq_some_iff.1 hp).2]
      rw [hd] at hW
      obtain ⟨b, q1, q2⟩ := th.el_at hp
      rw [ldL_iff th.c1]
      refine idxA_of q1 (by rw [th.elen]; exact hlt) rfl ?_
      rw [ldB_iff (q2 0 _ rfl)]
      simp only [beq_iff_eq, beq_eq_false_iff_ne]
      unfold F.spateref6_Table_All.j4
      refine ⟨fun g1 => ?_, fun g1 => ?_⟩
      · rw [tkP_one g1] at hW
        have hlW : W.length + ((tkP (T.elder.drop (i + 1))).length + 1) = Z.length := by rw [← hW]; simp
        rw [ldL_iff th.c1]
        refine idxA_of q1 (by rw [th.elen]; exact hlt) rfl ?_
        refine ⟨⟨(p.is_ == 1), (p.is_ != 0 && p.is_ != 1), p.key, p.value⟩, q2, ?_⟩
        refine push_mine (f := cD) (k := 4) p e ms cD_len (by omega) elD o cD_one (by omega) fun r h2 o2 e2 m2 _ _ => ?_
        rw [w64 (by omega) (by omega)]
        exact coll_el t (by simp only [BIG]; omega) k f (i + 1) h2 r (W ++ [p]) e2 m2 o2 (by omega) (by omega) (by rw [← hW]; simp)
      · rw [tkP_no g1] at hW
        rw [w64 (by omega) (by omega)]
        exact coll_el t (by simp only [BIG]; omega) k f (i + 1) h s W e ms o (by omega) (by omega) hW
    · rw [List.drop_eq_nil_of_le (by omega)] at hW
      have : W = Z := by rw [← hW]; simp [tkP]
      subst this
      exact k h s e ms o
theorem coll_row (t : TD h0 m rd ed T) (hZ : Z.length ≤ 2 * BIG) (k : ∀ h' s', Ext h0 h' → Mine h0 s' → Owns h' s' 114 4 (Z.flatMap cD) → ∃ m, F.spateref6_Table_All.l5 Q m s' ⟨none, 0, 0⟩ ⟨none, 0, 0⟩ 0 h') :
    ∀ (f i : Nat) (h : H) (s : Sl) (W : List (Pl Int)), Ext h0 h → Mine h0 s → Owns h s 114 4 (W.flatMap cD) → i ≤ T.row.length → T.row.length - i < f → W ++ tkP (T.row.drop i) ++ tkP T.elder = Z →
      F.spateref6_Table_All.l1 Q f (some ⟨m, 0, none⟩) s (i : Int) h
  | 0, i, h, s, W, e, ms, o, hi, hf, hW => by omega
  | f + 1, i, h, s, W, e, ms, o, hi, hf, hW => by
    unfold F.spateref6_Table_All.l1
    have th := t.only e fun _ _ f => f
    have hb := t.br
    simp only [BIG] at hb hZ
    simp only [nn_some, add_lit, Nat.zero_add]
    rw [ldL_iff th.c0, th.rlen]
    simp only [decide_eq_true_eq, decide_eq_false_iff_not]
    refine ⟨fun g => ?_, fun g => ?_⟩
    · have hlt : i < T.row.length := by omega
      obtain ⟨p, hp⟩ : ∃ p, T.row[i]? = some p := ⟨_, List.getElem?_eq_getElem hlt⟩
      have hd : T.row.drop i = p :: T.row.drop (i + 1) := by
        rw [List.drop_eq_getElem_cons hlt, (List.getElem?_eq_some_iff.1 hp).2]
      rw [hd] at hW
      obtain ⟨b, q1, q2⟩ := th.row_at hp
      rw [ldL_iff th.c0]
      refine idxA_of q1 (by rw [th.rlen]; exact hlt) rfl ?_
      rw [ldB_iff (q2 0 _ rfl)]
      simp only [beq_iff_eq, beq_eq_false_iff_ne]
      unfold F.spateref6_Table_All.j2
      refine ⟨fun g1 => ?_, fun g1 => ?_⟩
      · rw [tkP_one g1] at hW
        have hlW : W.length + ((tkP (T.row.drop (i + 1))).length + 1) + (tkP T.elder).length = Z.length := by rw [← hW]; simp; omega
        rw [ldL_iff th.c0]
        refine idxA_of q1 (by rw [th.rlen]; exact hlt) rfl ?_
        refine ⟨⟨(p.is_ == 1), (p.is_ != 0 && p.is_ != 1), p.key, p.value⟩, q2, ?_⟩
        refine push_mine (f := cD) (k := 4) p e ms cD_len (by omega) elD o cD_one (by omega) fun r h2 o2 e2 m2 _ _ => ?_
        rw [w64 (by omega) (by omega)]
        exact coll_row t (by simp only [BIG]; omega) k f (i + 1) h2 r (W ++ [p]) e2 m2 o2 (by omega) (by omega) (by rw [← hW]; simp)
      · rw [tkP_no g1] at hW
        rw [w64 (by omega) (by omega)]
        exact coll_row t (by simp only [BIG]; omega) k f (i + 1) h s W e ms o (by omega) (by omega) hW
    · rw [List.drop_eq_nil_of_le (by omega)] at hW
      have hW' : W ++ tkP (T.elder.drop 0) = Z := by rw [← hW]; simp [tkP]
      exact ⟨T.elder.length + 1, coll_el t (by simp only [BIG]; omega) k (T.elder.length + 1) 0 h s W e ms o (by omega) (by omega) hW'⟩
end
end Go.Proofs.Ytkedkajdiclmjaa.V.D
