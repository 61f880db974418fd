/- slices.Sort at texts, out of the library's contract; no condition. -/
import Derived.Test.YtkedkajdiclmjaaVs
import Derived.Test.YtkedkajdiclmjaaVr
import Derived.Shelf.SortM.Plain
import Derived.Shelf.SortM.SortNone
import Derived.Sort.OwnSorted
namespace Go.Proofs.Ytkedkajdiclmjaa.V
open Go Go.Sort
set_option linter.unusedVariables false
set_option linter.unusedSimpArgs false
noncomputable def sortT (ss : List ByteArray) : List ByteArray := ((ss.map fun s => s.data.toList).mergeSort fun x y => decide (x ≤ y)).map fun l => ⟨l.toArray⟩
theorem sortT_len (ss : List ByteArray) : (sortT ss).length = ss.length := by simp [sortT]
theorem enc_str (s : ByteArray) : encStr s.data.toList = .string s := by simp [encStr]
theorem flat_str (ss : List ByteArray) : ss.flatMap cT = (ss.map fun s => s.data.toList).map encStr := by
  rw [List.map_map]
  induction ss with
  | nil => rfl
  | cons a r ih => rw [List.flatMap_cons, ih]; simp [enc_str]
theorem flat_sort (ss : List ByteArray) : (sortT ss).flatMap cT = ((ss.map fun s => s.data.toList).mergeSort fun x y => decide (x ≤ y)).map encStr := by
  rw [flat_str, sortT, List.map_map, List.map_map]
  congr 1
theorem sort_fn {h : H} {s : Sl} {ss : List ByteArray} {f : Nat} {K : Value → H → Prop} (hf : srtRen.f 6 = f) (ow : Owns h s 9 1 (ss.flatMap cT)) (hl : ss.length < 4611686018427387904)
    (k : ∀ h', Owns h' s 9 1 ((sortT ss).flatMap cT) → Only (fun b => s.blk = some b) h h' → K (.tuple #[]) h') : Fn Try.prog f [s.enc].toArray h K := fun w hw => by
  subst hw
  subst hf
  obtain ⟨hlen, ⟨h1, h2, h3⟩ | ⟨g, c, h1, h2, h3, h4, h5, h6⟩⟩ := id ow
  · obtain ⟨sp, sl, sc⟩ := s
    simp only at h1 h2 h3
    subst h1; subst h2; subst h3
    have hs : ss = [] := by
      have := hlen
      rw [flat_len cT 1 cT_len] at this
      simp only at this
      exact List.eq_nil_of_length_eq_zero (by omega)
    subst hs
    have hc := AnyM.slices_Sort_string_none srt none 0 w
    refine callsIn_wide.2 (hc.mono fun e w' ⟨he, hn⟩ => ?_)
    subst he
    subst hn
    refine ⟨_, rfl, Like.refl _, k _ ?_ (.refl _)⟩
    have : sortT [] = [] := by simp [sortT]
    rw [this]
    exact ow
  · obtain ⟨sp, sl, sc⟩ := s
    simp only at h1 h3 h4 h5
    subst h1
    have hsl : sl = ss.length := by
      have := hlen
      rw [flat_len cT 1 cT_len] at this
      simp only at this
      omega
    subst hsl
    have htk : c.toList.take (ss.map fun s => s.data.toList).length = (ss.map fun s => s.data.toList).map encStr := by
      rw [← flat_str, List.length_map]
      rw [flat_len cT 1 cT_len, Nat.mul_one] at h6
      exact h6
    have hH := holds_of_block (w := w) (ss := ss.map fun s => s.data.toList) h2 htk
    have hc := AnyM.slices_Sort_string srt g 0 sc (ss.map fun s => s.data.toList) w hH (Array.getElem?_eq_some_iff.1 h2).1 (by simpa using hl)
    rw [List.length_map] at hc
    refine callsIn_wide.2 (hc.mono fun e w' ⟨he, n, os, hn⟩ => ?_)
    subst he
    have hg : w.grownBy w' (some g) := by rw [hn]; exact grownBy_sorted _
    have hso := heap_sorted (n := n) (os := os) ((ss.map fun s => s.data.toList).mergeSort fun x y => decide (x ≤ y)).toArray h2
    rw [← hn] at hso
    refine ⟨_, rfl, ⟨hg.os, hg.tape, hg.output⟩, k _ ⟨?_, .inr ⟨g, _, rfl, hso, ?_, h4, h5, ?_⟩⟩ ((heap_ext hg).mono fun b _ e => by simpa [Sl.blk] using e)⟩
    · rw [flat_len cT 1 cT_len, sortT_len]
    · simp only [putCells]; simpa using h3
    · rw [flat_len cT 1 cT_len, Nat.mul_one, sortT_len, flat_sort]
      have hlm : ((ss.map fun s => s.data.toList).mergeSort fun x y => decide (x ≤ y)).length = ss.length := by simp
      have := take_putCells c ((ss.map fun s => s.data.toList).mergeSort fun x y => decide (x ≤ y)) (by rw [hlm]; omega)
      rw [hlm] at this
      exact this
end Go.Proofs.Ytkedkajdiclmjaa.V
