/- A slice of numbers that came in, as a list that is read; no condition. -/
import Derived.Test.YtidpbnbjpglhfaaVl
namespace Go.Proofs.Ytidpbnbjpglhfaa.V
open Go
set_option linter.unusedVariables false
set_option linter.unusedSimpArgs false
/-- What is told of a slice of numbers that came in. -/
theorem row_reads {k : IntKind} {w : World} {a : Option Addr} {len cap : Nat} {zs : List Int} {f : Int → List Value} (hf : ∀ n, f n = [.int k n])
    (hr : (a = none ∧ len = 0 ∧ cap = 0 ∧ zs = []) ∨ ∃ x, a = some x ∧ len ≤ cap ∧ cap ≤ maxLen ∧ zs.length = cap ∧ (∀ i, i < zs.length → w.cell? (x.add i) = some (.int k (zs.getD i 0))) ∧ ∀ n ∈ zs, (Lit.int k n).wf = true) :
    Reads w.heap ⟨a, len, cap⟩ 1 ((zs.take len).flatMap f) ∧ len ≤ cap ∧ cap ≤ maxLen ∧ (zs.take len).length = len ∧ (zs.take len ≠ [] → ∀ b, (⟨a, len, cap⟩ : Sl).blk = some b → b < w.heap.size) ∧ ∀ n ∈ zs.take len, (Lit.int k n).wf = true := by
  have hfl : ∀ n, (f n).length = 1 := fun n => by rw [hf]; rfl
  rcases hr with ⟨rfl, rfl, rfl, rfl⟩ | ⟨x, rfl, h1, h2, h3, h4, h5⟩
  · refine ⟨⟨by simp, fun _ => ⟨rfl, rfl⟩, fun i v hv => by simp at hv⟩, Nat.le_refl _, Nat.zero_le _, rfl, fun h => absurd rfl h, fun n hn => by simp at hn⟩
  · have hl : (zs.take len).length = len := by rw [List.length_take]; omega
    have hcell : ∀ i, i < len → cellH w.heap (x.add i) = some (.int k (zs.getD i 0)) := fun i hi => h4 i (by omega)
    have hspot : 0 < len → x.spot = none := fun h => by
      have := hcell 0 h
      rw [show x.add 0 = x from by unfold Addr.add; split <;> simp_all] at this
      cases hs : x.spot with
      | none => rfl
      | some s => simp only [cellH, hs, Option.isSome_some, if_true] at this; split at this <;> cases this
    refine ⟨⟨by rw [flat_len f 1 hfl, hl], (fun h => by cases h), fun i v hv => ?_⟩, h1, h2, hl, fun hne b hb => ?_, fun n hn => h5 n (List.mem_of_mem_take hn)⟩
    · have hi : i < len := by
        have := (List.getElem?_eq_some_iff.1 hv).1
        rw [flat_len f 1 hfl, hl] at this; omega
      refine ⟨x, rfl, hspot (by omega), ?_⟩
      have hz : (zs.take len)[i]? = some (zs.getD i 0) := by
        rw [List.getElem?_take_of_lt hi, List.getElem?_eq_getElem (by omega)]
        simp [List.getD, show i < zs.length by omega]
      have := flat_get f 1 hfl (zs.take len) i _ hz 0 (by omega)
      rw [Nat.mul_one, Nat.add_zero, hv, hf] at this
      rw [hcell i hi]; simpa using this.symm
    · have hlen : 0 < len := by rw [← hl]; exact List.length_pos_iff.2 hne
      have := hcell 0 hlen
      simp only [Sl.blk, Option.map_some, Option.some.injEq] at hb
      subst hb
      have hb2 := Addr.add_block x 0
      rw [← hb2]
      unfold cellH at this
      split at this
      · rename_i hh; exact (Array.getElem?_eq_some_iff.1 hh).1
      · cases this
theorem i64_of {n : Int} (h : (Lit.int .i64 n).wf = true) : -9223372036854775808 ≤ n ∧ n < 9223372036854775808 := by
  simp [Lit.wf, IntKind.min, IntKind.max, IntKind.bits, IntKind.signed] at h
  omega
end Go.Proofs.Ytidpbnbjpglhfaa.V
