/- Rows put into the order of their cells: plain Lean; lists merged in parts; no condition. -/
import Derived.Test.YtidpbnbjpglhfaaMw
namespace Go.Proofs.Ytidpbnbjpglhfaa.V
open Go
set_option linter.unusedVariables false
set_option linter.unusedSimpArgs false
/-- Each row's cell is ahead of those behind it. -/
def SC (l : List Rw8) : Prop := l.Pairwise fun a b => cmpC a.Cell b.Cell = -1
def ordI (out : List Rw8) (x : Rw8) : List Rw8 :=
  match out.dropWhile (fun y => decide (cmpC y.Cell x.Cell < 0)) with
  | y :: r => if cmpC y.Cell x.Cell = 0 then out else out.takeWhile (fun y => decide (cmpC y.Cell x.Cell < 0)) ++ x :: y :: r
  | [] => out ++ [x]
def ordL (A : List Rw8) : List Rw8 := (A.take 200).foldl ordI []
theorem ordI_sc {out : List Rw8} {x : Rw8} (s : SC out) : SC (ordI out x) ∧ (ordI out x).length ≤ out.length + 1 ∧ ∀ z, z ∈ ordI out x → z ∈ out ∨ z = x := by
  unfold ordI
  have htd := List.takeWhile_append_dropWhile (p := fun y : Rw8 => decide (cmpC y.Cell x.Cell < 0)) (l := out)
  have htk : ∀ y ∈ out.takeWhile (fun y => decide (cmpC y.Cell x.Cell < 0)), cmpC y.Cell x.Cell < 0 := fun y hy => by
    have hall := List.all_takeWhile (p := fun y : Rw8 => decide (cmpC y.Cell x.Cell < 0)) (l := out)
    rw [List.all_eq_true] at hall
    simpa using hall y hy
  generalize hA : out.takeWhile (fun y => decide (cmpC y.Cell x.Cell < 0)) = A at htd htk ⊢
  generalize hB : out.dropWhile (fun y => decide (cmpC y.Cell x.Cell < 0)) = B at htd ⊢
  cases B with
  | nil =>
    rw [List.append_nil] at htd
    subst htd
    refine ⟨?_, by simp, fun z hz => by simpa using hz⟩
    unfold SC
    rw [List.pairwise_append]
    refine ⟨s, by simp, fun a ha b hb => ?_⟩
    simp at hb; subst hb
    have := htk a ha; have := cC_range a.Cell b.Cell; omega
  | cons y r =>
    simp only
    split
    · exact ⟨s, by omega, fun z hz => .inl hz⟩
    · rename_i hne
      have hy : ¬ cmpC y.Cell x.Cell < 0 := by
        have := List.head?_dropWhile_not (p := fun y : Rw8 => decide (cmpC y.Cell x.Cell < 0)) (l := out)
        rw [hB] at this
        simpa using this
      have hry := cC_range y.Cell x.Cell
      have hxy : cmpC x.Cell y.Cell = -1 := by have := cC_anti x.Cell y.Cell; omega
      subst htd
      unfold SC at s ⊢
      rw [List.pairwise_append] at s ⊢
      obtain ⟨s1, s2, s3⟩ := s
      have s2' := List.pairwise_cons.1 s2
      refine ⟨⟨s1, List.pairwise_cons.2 ⟨fun b hb => ?_, s2⟩, fun a ha b hb => ?_⟩, by simp; omega, fun z hz => ?_⟩
      · rcases List.mem_cons.1 hb with rfl | hb
        · exact hxy
        · exact cC_trans hxy (s2'.1 b hb)
      · rcases List.mem_cons.1 hb with rfl | hb
        · have := htk a ha; have := cC_range a.Cell b.Cell; omega
        · exact s3 a ha b hb
      · simp only [List.mem_append, List.mem_cons] at hz ⊢
        rcases hz with hz | rfl | hz
        · exact .inl (.inl hz)
        · exact .inr rfl
        · exact .inl (.inr hz)
theorem ord_fold : ∀ (A out : List Rw8), SC out → SC (A.foldl ordI out) ∧ (A.foldl ordI out).length ≤ out.length + A.length
  | [], out, s => ⟨s, by simp⟩
  | x :: A, out, s => by
    obtain ⟨h1, h2, _⟩ := ordI_sc (x := x) s
    obtain ⟨h3, h4⟩ := ord_fold A (ordI out x) h1
    exact ⟨h3, by simp only [List.foldl_cons, List.length_cons]; omega⟩
theorem ordL_sc (A : List Rw8) : SC (ordL A) ∧ (ordL A).length ≤ 200 := by
  obtain ⟨h1, h2⟩ := ord_fold (A.take 200) [] .nil
  refine ⟨h1, ?_⟩
  unfold ordL
  simp at h2 ⊢; omega
/-! ### Merged in parts -/
theorem leC_total (a b : Rw8) : (leC a b || leC b a) = true := by
  unfold leC
  have h1 := cC_range a.Cell b.Cell
  have h2 := cC_anti a.Cell b.Cell
  simp; omega
theorem leC_trans (a b c : Rw8) (h1 : leC a b = true) (h2 : leC b c = true) : leC a c = true := by
  unfold leC at *
  simp only [decide_eq_true_eq] at *
  exact cC_le_trans h1 h2
abbrev mg (a b : List Rw8) : List Rw8 := List.merge a b leC
theorem mg_assoc : ∀ (n : Nat) (a b c : List Rw8), a.length + b.length + c.length ≤ n → mg (mg a b) c = mg a (mg b c)
  | n, [], b, c, _ => by simp only [mg, merge_nil]
  | n, x :: a, [], c, _ => by simp only [mg, merge_nil, merge_nil']
  | n, x :: a, y :: b, [], _ => by simp only [mg, merge_nil']
  | 0, x :: a, y :: b, z :: c, h => by simp at h
  | n + 1, x :: a, y :: b, z :: c, h => by
    simp only [List.length_cons] at h
    have i1 := mg_assoc n a (y :: b) (z :: c) (by simp only [List.length_cons]; omega)
    have i2 := mg_assoc n (x :: a) b (z :: c) (by simp only [List.length_cons]; omega)
    have i3 := mg_assoc n (x :: a) (y :: b) c (by simp only [List.length_cons]; omega)
    have tot := leC_total
    have tr := leC_trans
    simp only [mg] at *
    by_cases xy : leC x y = true
    · by_cases yz : leC y z = true
      · have xz := tr _ _ _ xy yz
        rw [merge_cons x y, if_pos xy, merge_cons x z, if_pos xz, merge_cons y z, if_pos yz, merge_cons x y, if_pos xy, i1, merge_cons y z, if_pos yz]
      · by_cases xz : leC x z = true
        · rw [merge_cons x y, if_pos xy, merge_cons x z, if_pos xz, merge_cons y z, if_neg yz, merge_cons x z, if_pos xz, i1, merge_cons y z, if_neg yz]
        · rw [merge_cons x y, if_pos xy, merge_cons x z, if_neg xz, merge_cons y z, if_neg yz, merge_cons x z, if_neg xz, ← i3, merge_cons x y, if_pos xy]
    · by_cases yz : leC y z = true
      · rw [merge_cons x y, if_neg xy, merge_cons y z, if_pos yz, merge_cons y z, if_pos yz, merge_cons x y, if_neg xy, i2]
      · have xz : ¬ leC x z = true := fun xz => by
          have zy : leC z y = true := by
            have := tot y z
            simp only [Bool.or_eq_true] at this
            exact this.resolve_left yz
          exact xy (tr _ _ _ xz zy)
        rw [merge_cons x y, if_neg xy, merge_cons y z, if_neg yz, merge_cons y z, if_neg yz, merge_cons x z, if_neg xz, ← i3, merge_cons x y, if_neg xy]
end Go.Proofs.Ytidpbnbjpglhfaa.V
