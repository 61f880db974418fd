/- Steps that came in: their keys are of a size that the form reads; no condition. -/
import Derived.Test.YtkedkajdiclmjaaTn
import Derived.SizedLaws
namespace Go.Proofs.Ytkedkajdiclmjaa.V
open Go
set_option linter.unusedVariables false
set_option linter.unusedSimpArgs false
section
variable {T : Type} {enc : TypeId × Value → T} {w : World} {base : Nat} {spare : Nat → Bool} {held : Bool} {fuel : Nat}
theorem weights_all {P : Program} {e : TypeId} : ∀ {l : List (DataW T)} {d : DataW T} {n : Nat}, d ∈ l → n ∈ d.weights P e → n ∈ DataW.weightsAll P e l
  | x :: l, d, n, hd, hn => by
    unfold DataW.weightsAll
    rw [List.mem_append]
    rcases List.mem_cons.1 hd with rfl | hd
    · exact .inl hn
    · exact .inr (weights_all hd hn)
theorem steps_sized {v : Value} {y : DataW T × List MemPlace} (h : DataW.trod enc PP w base spare held fuel 43 [v] = some y) (hz : ∀ n ∈ y.1.weights PP 43, n ≤ reachBytes) :
    ∃ (s : Sl) (L : List Step), v = s.enc ∧ Reads w.heap s 3 (L.flatMap (·.cells)) ∧ s.len ≤ s.cap ∧ (L ≠ [] → ∀ b, s.blk = some b → b < w.heap.size) ∧ (∀ x ∈ L, StepOk x) ∧ L.length ≤ 9223372036854775807 ∧ ∀ x ∈ L, x.Key.size < 4611686018427387904 := by
  obtain ⟨s, L, h1, h2, h3, h4, h5, h6⟩ := steps_open h
  refine ⟨s, L, h1, h2, h3, h4, h5, h6, fun x hx => ?_⟩
  obtain ⟨i, hi⟩ := List.mem_iff_getElem?.1 hx
  have hil := (List.getElem?_eq_some_iff.1 hi).1
  have hlen := rd_len step_len (by omega) h2
  obtain ⟨p, q1, q2, q3⟩ := rd_at step_len (by omega) h2 hi
  rcases DataW.trod_slice Try.underlying43 h with ⟨h0, _⟩ | ⟨a, len, cap, elems, rest, n, _, h0, hy, hb, hl, hm, hlen', hel, _, _⟩
  · subst h1
    simp [Sl.enc] at h0
    rw [h0.1] at q1; cases q1
  · subst h1
    simp [Sl.enc] at h0
    obtain ⟨g1, g2, g3⟩ := h0
    have hpa : p = a := by rw [g1] at q1; exact (Option.some.inj q1).symm
    subst hpa
    have hx := hel i (by omega)
    rw [List.getElem?_eq_getElem (by omega), Option.bind_eq_some_iff, show PP.cellsOf 46 = 3 from by kernel_rfl] at hx
    obtain ⟨cs, hc, ht⟩ := hx
    obtain ⟨c1, c2⟩ := cells_of hc
    obtain ⟨xs, m, _, hxs, _, hxl, hf⟩ := DataW.trod_struct Try.underlying46 ht
    have hxl3 : xs.length = 3 := hxl
    obtain ⟨v0, v1, v2, rfl⟩ := list3 c1
    obtain ⟨y0, y1, y2, rfl⟩ := list3 hxl3
    have f2 : DataW.trod enc PP w base spare held m 9 (([v0, v1, v2].drop 2).take (PP.cellsOf 9)) = some y2 := hf 2 _ rfl
    rw [show PP.cellsOf 9 = 1 from by kernel_rfl] at f2
    simp only [List.drop_zero, List.drop_succ_cons, List.take_succ_cons, List.take_zero] at f2
    obtain ⟨str, e2, ey, _⟩ := DataW.trod_string Try.underlying9 f2
    simp only [List.cons.injEq, and_true] at e2
    have k1 := c2 2 v2 rfl
    have k2 := q3 2 (.string x.Key) rfl
    have k3 : v2 = .string x.Key := by
      have : cellH w.heap ((p.add (i * 3)).add 2) = some v2 := k1
      rw [this] at k2
      exact Option.some.inj k2
    rw [e2] at k3
    have hke : x.Key = str := by injection k3 with k4; exact k4.symm
    have hin : str.data.toList.length ∈ y.1.weights PP 43 := by
      rw [hy]
      have hmem : (elems[i]'(by omega)).1 ∈ elems.map (·.1) := List.mem_map.2 ⟨_, List.getElem_mem _, rfl⟩
      have hw : str.data.toList.length ∈ (elems[i]'(by omega)).1.weights PP 46 := by
        rw [hxs]
        have he : DataW.weights PP 46 (.agg ([y0, y1, y2].map (·.1))) = DataW.weightsEach PP [3, 3, 9] ([y0, y1, y2].map (·.1)) := by
          unfold DataW.weights
          rw [Try.underlying46]
          rfl
        rw [he]
        refine DataW.weights_mem_each (j := 2) (t := 9) (d := y2.1) rfl rfl _ ?_
        rw [ey]
        simp [DataW.weights]
      have hs : DataW.weights PP 43 (.slice (elems.map (·.1)) (rest.map (·.1))) = ((elems.map (·.1)).length + (rest.map (·.1)).length) * PP.bytesOf 46 :: (DataW.weightsAll PP 46 (elems.map (·.1)) ++ DataW.weightsAll PP 46 (rest.map (·.1))) := by
        rw [DataW.weights]
        rw [Try.underlying43]
      rw [hs]
      refine List.mem_cons_of_mem _ (List.mem_append_left _ (weights_all hmem hw))
    have := hz _ hin
    have hr := reachBytes_lt
    rw [hke, size_data]
    omega
end
end Go.Proofs.Ytkedkajdiclmjaa.V
