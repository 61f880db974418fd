/- What the document's All tells is the list of the program's; no condition. -/
import Derived.Test.YtkedkajdiclmjaaDq
import Derived.Sort.Walk0
namespace Go.Proofs.Ytkedkajdiclmjaa.V.D
open Go Go.Proofs.Ytkedkajdiclmjaa.V
set_option linter.unusedVariables false
set_option linter.unusedSimpArgs false

theorem gtB_iff {a b : ByteArray} : gtB a b = true ↔ b.data.toList < a.data.toList := by
  unfold gtB
  rw [toList_data, toList_data, bytesLess_eq]
  simp only [Bool.not_eq_true', Bool.or_eq_false_iff, decide_eq_false_iff_not, beq_eq_false_iff_ne, ne_eq]
  constructor
  · rintro ⟨h1, h2⟩
    have := List.not_lt.1 h1
    rcases List.le_iff_lt_or_eq.1 this with h | h
    · exact h
    · exact absurd h.symm h2
  · intro h
    exact ⟨fun h1 => absurd (List.lt_trans h1 h) (List.lt_irrefl _), fun e => by rw [e] at h; exact absurd h (List.lt_irrefl _)⟩
theorem hole_map {α β : Type} {L : List α} {j : Nat} {a : α} (f : α → β) : (holeL L j a).map f = holeL (L.map f) j (f a) := by simp [holeL]
/-- What lies from the place on is greater; what lies ahead is not. -/
theorem posL_from (N : List ByteArray) (k : ByteArray) : ∀ j, j ≤ N.length → (∀ i y, posL N k j ≤ i → i < j → N[i]? = some y → k.data.toList < y.data.toList) ∧ (∀ y, 0 < posL N k j → N[posL N k j - 1]? = some y → ¬ k.data.toList < y.data.toList)
  | 0, _ => ⟨fun i y h1 h2 => by omega, fun y h => by simp [posL] at h⟩
  | j + 1, hj => by
    obtain ⟨y, hy⟩ : ∃ y, N[j]? = some y := ⟨_, List.getElem?_eq_getElem (by omega)⟩
    obtain ⟨r1, r2⟩ := posL_from N k j (by omega)
    unfold posL
    rw [hy]
    simp only
    by_cases hg : gtB y k = true
    · rw [if_pos hg]
      refine ⟨fun i z h1 h2 hz => ?_, r2⟩
      by_cases hij : i = j
      · subst hij
        rw [hy] at hz; cases hz
        exact gtB_iff.1 hg
      · exact r1 i z h1 (by omega) hz
    · rw [if_neg hg]
      refine ⟨fun i z h1 h2 hz => by omega, fun z _ hz => ?_⟩
      rw [Nat.add_sub_cancel, hy] at hz
      cases hz
      exact fun h => hg (gtB_iff.2 h)
end Go.Proofs.Ytkedkajdiclmjaa.V.D

namespace Go.Proofs.Ytkedkajdiclmjaa.V.D
open Go Go.Proofs.Ytkedkajdiclmjaa.V
set_option linter.unusedVariables false
set_option linter.unusedSimpArgs false

abbrev KV := ByteArray × Int
def LtK (a b : KV) : Prop := a.1.data.toList < b.1.data.toList
def prP (p : Pl Int) : KV := (p.key, p.value)
def insP (P : List KV) (p : Pl Int) : List KV := holeL P (posL (P.map (·.1)) p.key P.length) (prP p)
theorem ins1_map (P : List KV) (p : Pl Int) : ins1 (P.map (·.1), P.map (·.2)) p = ((insP P p).map (·.1), (insP P p).map (·.2)) := by
  unfold ins1 insP
  rw [hole_map, hole_map, List.length_map]
  rfl
theorem fold_map : ∀ (Z : List (Pl Int)) (P : List KV), Z.foldl ins1 (P.map (·.1), P.map (·.2)) = ((Z.foldl insP P).map (·.1), (Z.foldl insP P).map (·.2))
  | [], P => rfl
  | p :: Z, P => by rw [List.foldl_cons, ins1_map, fold_map Z, List.foldl_cons]
theorem insP_perm (P : List KV) (p : Pl Int) : (insP P p).Perm (prP p :: P) := by
  unfold insP holeL
  refine List.perm_middle.trans ?_
  rw [List.take_append_drop]
theorem fold_perm : ∀ (Z : List (Pl Int)) (P : List KV), (Z.foldl insP P).Perm (Z.map prP ++ P)
  | [], P => .refl _
  | p :: Z, P => by
    rw [List.foldl_cons, List.map_cons]
    exact (fold_perm Z _).trans (((insP_perm P p).append_left _).trans List.perm_middle)
theorem insP_up {P : List KV} {p : Pl Int} (hP : P.Pairwise LtK) (hn : ∀ q ∈ P, q.1 ≠ p.key) : (insP P p).Pairwise LtK := by
  unfold insP
  have hle := posL_le (P.map (·.1)) p.key P.length
  obtain ⟨r1, r2⟩ := posL_from (P.map (·.1)) p.key P.length (by simp)
  generalize posL (P.map (·.1)) p.key P.length = j at *
  unfold holeL
  have hsp := hP
  rw [← List.take_append_drop j P, List.pairwise_append] at hsp
  obtain ⟨s1, s2, s3⟩ := hsp
  have up : ∀ x ∈ P.drop j, LtK (prP p) x := fun x hx => by
    obtain ⟨i, hi⟩ := List.mem_iff_getElem?.1 hx
    rw [List.getElem?_drop] at hi
    have hl := (List.getElem?_eq_some_iff.1 hi).1
    exact r1 (j + i) x.1 (by omega) (by omega) (by simp [hi])
  have dn : ∀ x ∈ P.take j, LtK x (prP p) := fun x hx => by
    obtain ⟨i, hi⟩ := List.mem_iff_getElem?.1 hx
    have hij : i < j := by
      have := (List.getElem?_eq_some_iff.1 hi).1
      rw [List.length_take] at this; omega
    rw [List.getElem?_take, if_pos hij] at hi
    obtain ⟨y, hy⟩ : ∃ y, P[j - 1]? = some y := ⟨_, List.getElem?_eq_getElem (by omega)⟩
    have hy1 : ¬ p.key.data.toList < y.1.data.toList := r2 y.1 (by omega) (by simp [hy])
    have hyp : LtK y (prP p) := by
      rcases List.le_iff_lt_or_eq.1 (List.not_lt.1 hy1) with h | h
      · exact h
      · exact absurd (kL_inj h) (hn y (List.mem_of_getElem? hy))
    by_cases he : i = j - 1
    · subst he; rw [hi] at hy; cases hy; exact hyp
    · have := List.pairwise_iff_getElem.1 hP i (j - 1) (List.getElem?_eq_some_iff.1 hi).1 (List.getElem?_eq_some_iff.1 hy).1 (by omega)
      rw [(List.getElem?_eq_some_iff.1 hi).2, (List.getElem?_eq_some_iff.1 hy).2] at this
      exact List.lt_trans this hyp
  rw [List.pairwise_append, List.pairwise_cons]
  refine ⟨s1, ⟨up, s2⟩, fun x hx y hy => ?_⟩
  rcases List.mem_cons.1 hy with rfl | hy
  · exact dn x hx
  · exact s3 x hx y hy
theorem fold_up : ∀ (Z : List (Pl Int)) (P : List KV), P.Pairwise LtK → ((Z.map (·.key)) ++ P.map (·.1)).Nodup → (Z.foldl insP P).Pairwise LtK
  | [], P, hP, _ => hP
  | p :: Z, P, hP, hn => by
    rw [List.foldl_cons]
    rw [List.map_cons, List.cons_append, List.nodup_cons] at hn
    obtain ⟨h1, h2⟩ := hn
    refine fold_up Z _ (insP_up hP fun q hq e => h1 (List.mem_append.2 (.inr (List.mem_map.2 ⟨q, hq, e⟩)))) ?_
    have hp : ((Z.map (·.key)) ++ (insP P p).map (·.1)).Perm (p.key :: (Z.map (·.key) ++ P.map (·.1))) :=
      (((insP_perm P p).map (·.1)).append_left _).trans List.perm_middle
    exact hp.nodup_iff.2 (List.nodup_cons.2 ⟨h1, h2⟩)
end Go.Proofs.Ytkedkajdiclmjaa.V.D

namespace Go.Proofs.Ytkedkajdiclmjaa.V.D
open Go Go.Proofs.Ytkedkajdiclmjaa.V
set_option linter.unusedVariables false
set_option linter.unusedSimpArgs false

theorem sortT_id {A : List ByteArray} (h : A.Pairwise fun a b => a.data.toList < b.data.toList) : sortT A = A := by
  unfold sortT
  have hs : (A.map fun s => s.data.toList).Pairwise fun x y => (decide (x ≤ y)) = true := by
    rw [List.pairwise_map]
    exact h.imp fun h => by simpa using List.le_of_lt h
  rw [List.mergeSort_of_pairwise hs, List.map_map]
  conv => rhs; rw [← List.map_id A]
  exact List.map_congr_left fun s _ => rfl
theorem all_eq {T : Tb Int} (ok : TOk T) : (tkP T.row ++ tkP T.elder).foldl insP [] = allL T := by
  have hZ : tkP T.row ++ tkP T.elder = tkP (T.row ++ T.elder) := by simp [tkP]
  rw [hZ]
  have hk : (tkL (T.row ++ T.elder)).map (·.1) = (tkP (T.row ++ T.elder)).map (·.key) := by
    unfold tkL tkP
    rw [List.map_map]; rfl
  have hnd : ((tkP (T.row ++ T.elder)).map (·.key)).Nodup := by
    rw [← hk]; exact KU_of ok
  have hup := fold_up (tkP (T.row ++ T.elder)) [] List.Pairwise.nil (by simpa using hnd)
  have hpm := fold_perm (tkP (T.row ++ T.elder)) []
  rw [List.append_nil] at hpm
  generalize (tkP (T.row ++ T.elder)).foldl insP [] = P at hup hpm
  have hval : ∀ q ∈ P, (q.1, (getM T q.1).getD 0) = q := fun q hq => by
    obtain ⟨p, hp, rfl⟩ := List.mem_map.1 (hpm.mem_iff.1 hq)
    unfold tkP at hp
    obtain ⟨n, g1, g2⟩ := tk_val ok (k := p.key) (v := .int .i64 p.value) (List.mem_map.2 ⟨p, hp, rfl⟩)
    cases g2
    show (p.key, (getM T p.key).getD 0) = (p.key, p.value)
    rw [g1]; rfl
  have hkeys : (P.map (·.1)).Perm ((tkL (T.row ++ T.elder)).map (·.1)) := by
    rw [hk]
    have := hpm.map (·.1)
    rw [List.map_map] at this
    exact this
  unfold allL
  rw [← sortT_perm hkeys, sortT_id (by rw [List.pairwise_map]; exact hup), List.map_map]
  conv => lhs; rw [← List.map_id P]
  exact List.map_congr_left fun q hq => (hval q hq).symm
/-- What the document's All tells. -/
theorem All_spec {h : H} {m : Nat} {rd ed : Sl} {T : Tb Int} {Q : Sl → Sl → H → Prop} (t : TD h m rd ed T) (ok : TOk T)
    (k : ∀ h' sz sn sv, A3 h h' sz (tkP T.row ++ tkP T.elder) sn ((allL T).map (·.1)) sv ((allL T).map (·.2)) → Q sn sv h') : F.spateref6_Table_All (some ⟨m, 0, none⟩) h Q := by
  have hl : (tkP T.row ++ tkP T.elder).length = T.count := by
    have := tk_len ok
    unfold tkL at this
    rw [List.length_map] at this
    rw [← this]; simp [tkP]
  refine All_fold t (by rw [hl]; exact t.bc) fun h' sz sn sv a => ?_
  have := fold_map (tkP T.row ++ tkP T.elder) []
  rw [all_eq ok] at this
  simp only [List.map_nil] at this
  rw [this] at a
  exact k h' sz sn sv a
end Go.Proofs.Ytkedkajdiclmjaa.V.D
