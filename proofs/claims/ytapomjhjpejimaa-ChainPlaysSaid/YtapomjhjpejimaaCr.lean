/- A script that came in, each step with the numbers of its list; no condition. -/
import Derived.Test.YtapomjhjpejimaaCm
namespace Go.Proofs.Ytapomjhjpejimaa.V
open Go
set_option linter.unusedVariables false
set_option linter.unusedSimpArgs false
section
variable {T : Type} {enc : TypeId × Value → T} {w : World} {base : Nat} {spare : Nat → Bool} {held : Bool} {fuel : Nat}
theorem script_open2 {v : Value} {y : DataW T × List MemPlace} (h : DataW.trod enc PP w base spare held fuel 23 [v] = some y) :
    ∃ (s : Sl) (S : List (Step × List Int)), v = s.enc ∧ Script w.heap s S ∧ (S ≠ [] → ∀ b, s.blk = some b → b < w.heap.size) := by
  obtain ⟨s, h1, h2, h3, S, h4, h6, h5⟩ := script_open h
  have : ∀ S : List Step, (∀ x ∈ S, StepOk w.heap x) → ∃ SP : List (Step × List Int), SP.map Prod.fst = S ∧ ∀ p ∈ SP, Reads w.heap p.1.L 1 (p.2.flatMap cI) ∧ p.1.L.len ≤ p.1.L.cap ∧ (p.2 ≠ [] → ∀ b, p.1.L.blk = some b → b < w.heap.size) ∧ p.2.length ≤ 9223372036854775807 := fun S => by
    induction S with
    | nil => intro _; exact ⟨[], rfl, fun p hp => by cases hp⟩
    | cons x r ih =>
      intro hx
      obtain ⟨SP, g1, g2⟩ := ih fun x hx' => hx x (List.mem_cons_of_mem _ hx')
      obtain ⟨_, _, _, a1, a2, E, a3, a4, a5⟩ := hx x (by simp)
      refine ⟨(x, E) :: SP, by simp [g1], fun p hp => ?_⟩
      rcases List.mem_cons.1 hp with e | e
      · subst e
        refine ⟨a3, a1, a4, ?_⟩
        have := rd_len cI_len (by omega) a3
        simp only [maxLen] at a2; show E.length ≤ _; omega
      · exact g2 p e
  obtain ⟨SP, g1, g2⟩ := this S h5
  refine ⟨s, SP, h1, ⟨?_, h2, g2⟩, fun hn => h6 fun e => hn (by rw [← g1] at e; simpa using e)⟩
  have : SP.flatMap (fun p => p.1.cells) = S.flatMap (·.cells) := by rw [← g1, List.flatMap_map]
  rw [this]; exact h4
end
end Go.Proofs.Ytapomjhjpejimaa.V
