/- slices.Sort at whole numbers, out of the library's contract; no condition. -/
import Derived.Test.YtgcmojbajjajgaaGreatVs
import Derived.Test.YtgcmojbajjajgaaGreatVr
import Derived.Shelf.SortM.Plain
import Derived.Shelf.SortM.SortNone
import Derived.Sort.OwnSortedInts
namespace Go.Proofs.YtgcmojbajjajgaaGreat.V
open Go Go.Sort
set_option linter.unusedVariables false
set_option linter.unusedSimpArgs false
noncomputable def sortI (zs : List Int) : List Int := zs.mergeSort fun x y => decide (x ≤ y)
theorem sortI_len (zs : List Int) : (sortI zs).length = zs.length := by simp [sortI]
theorem flat_int (zs : List Int) : zs.flatMap cI = zs.map (Value.int .i64) := by
  induction zs with
  | nil => rfl
  | cons a r ih => rw [List.flatMap_cons, ih]; rfl
theorem sortI_fn {h : H} {s : Sl} {zs : List Int} {f : Nat} {K : Value → H → Prop} (hf : srtRen.f 5 = f) (ow : Owns h s 3 1 (zs.flatMap cI)) (hl : zs.length < 4611686018427387904)
    (k : ∀ h', Owns h' s 3 1 ((sortI zs).flatMap cI) → Only (fun b => s.blk = some b) h h' → K (.tuple #[]) h') : Fn Tryz.prog f [s.enc].toArray h K := fun w hw => by
  subst hw
  subst hf
  obtain ⟨hlen, ⟨h1, h2, h3⟩ | ⟨g, c, h1, h2, h3, h4, h5, h6⟩⟩ := id ow
  · obtain ⟨sp, sl, sc⟩ := s
    simp only at h1 h2 h3
    subst h1; subst h2; subst h3
    have hs : zs = [] := by
      have := hlen
      rw [flat_len cI 1 cI_len] at this
      simp only at this
      exact List.eq_nil_of_length_eq_zero (by omega)
    subst hs
    have hc := AnyM.slices_Sort_int_none srt none 0 w
    refine callsIn_wide.2 (hc.mono fun e w' ⟨he, hn⟩ => ?_)
    subst he
    subst hn
    refine ⟨_, rfl, Like.refl _, k _ ?_ (.refl _)⟩
    have : sortI [] = [] := by simp [sortI]
    rw [this]
    exact ow
  · obtain ⟨sp, sl, sc⟩ := s
    simp only at h1 h3 h4 h5
    subst h1
    have hsl : sl = zs.length := by
      have := hlen
      rw [flat_len cI 1 cI_len] at this
      simp only at this
      omega
    subst hsl
    have htk : c.toList.take zs.length = zs.map (Value.int .i64) := by
      rw [← flat_int]
      rw [flat_len cI 1 cI_len, Nat.mul_one] at h6
      exact h6
    have hH := holds_of_blockI (w := w) (ss := zs) h2 htk
    have hc := AnyM.slices_Sort_int srt g 0 sc zs w hH (Array.getElem?_eq_some_iff.1 h2).1 hl
    refine callsIn_wide.2 (hc.mono fun e w' ⟨he, n, os, hn⟩ => ?_)
    subst he
    have hg : w.grownBy w' (some g) := by rw [hn]; exact grownBy_sortedI _
    have hso := heap_sortedI (n := n) (os := os) (zs.mergeSort fun x y => decide (x ≤ y)).toArray h2
    rw [← hn] at hso
    refine ⟨_, rfl, ⟨hg.os, hg.tape, hg.output⟩, k _ ⟨?_, .inr ⟨g, _, rfl, hso, ?_, h4, h5, ?_⟩⟩ ((heap_ext hg).mono fun b _ e => by simpa [Sl.blk] using e)⟩
    · rw [flat_len cI 1 cI_len, sortI_len]
    · simp only [putCells]; simpa using h3
    · rw [flat_len cI 1 cI_len, Nat.mul_one, sortI_len, flat_int]
      have hlm : (zs.mergeSort fun x y => decide (x ≤ y)).length = zs.length := by simp
      have := take_putCellsI c (zs.mergeSort fun x y => decide (x ≤ y)) (by rw [hlm]; have := htk; have := congrArg List.length htk; simp at this; omega)
      rw [hlm] at this
      exact this
/-- What is sorted is in order; a list that rises is what its numbers, sorted, are. -/
theorem sortI_perm {zs l : List Int} (hp : zs.Perm l) (hl : l.Pairwise (· < ·)) : sortI zs = l := by
  have h1 : (sortI zs).Pairwise fun a b => decide (a ≤ b) = true := List.pairwise_mergeSort (fun a b c => by simp; omega) (fun a b => by simp; omega) zs
  have h2 : (sortI zs).Perm l := (List.mergeSort_perm zs _).trans hp
  refine List.Perm.eq_of_pairwise (le := fun a b => decide (a ≤ b) = true) (fun a b _ _ hab hba => by simp at hab hba; omega) h1 (hl.imp fun h => by simp; omega) h2
end Go.Proofs.YtgcmojbajjajgaaGreat.V
