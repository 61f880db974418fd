/- A script of steps that came in, as a list that is read; no condition. -/
import Derived.Test.YtapomjhjpejimaaCj
import Derived.Test.YtapomjhjpejimaaVp
namespace Go.Proofs.Ytapomjhjpejimaa.V
open Go
set_option linter.unusedVariables false
set_option linter.unusedSimpArgs false

abbrev Step := S_spatelaw5_Step
theorem step_len (x : Step) : x.cells.length = 4 := rfl
abbrev W64 (n : Int) : Prop := -9223372036854775808 ≤ n ∧ n < 9223372036854775808
/-- A step's own list of epochs. -/
def StepOk (h : H) (x : Step) : Prop := W64 x.Kind ∧ W64 x.A ∧ W64 x.B ∧ x.L.len ≤ x.L.cap ∧ x.L.cap ≤ maxLen ∧ ∃ E : List Int, Reads h x.L 1 (E.flatMap cI) ∧ (E ≠ [] → ∀ b, x.L.blk = some b → b < h.size) ∧ ∀ n ∈ E, W64 n
theorem StepOk.ext {h h' : H} {x : Step} (s : StepOk h x) (e : Ext h h') : StepOk h' x := by
  obtain ⟨a, b, c, d, f, E, r, bl, w⟩ := s
  exact ⟨a, b, c, d, f, E, r.ext e, fun hn b hb => Nat.lt_of_lt_of_le (bl hn b hb) e.size, w⟩
section
variable {T : Type} {enc : TypeId × Value → T} {w : World} {base : Nat} {spare : Nat → Bool} {held : Bool} {fuel : Nat}
theorem ints_open {t : TypeId} {v : Value} {y : DataW T × List MemPlace} (ht : PP.underlying t = some (.slice 3)) (h : DataW.trod enc PP w base spare held fuel t [v] = some y) :
    ∃ s : Sl, v = s.enc ∧ s.len ≤ s.cap ∧ s.cap ≤ maxLen ∧ ∃ E : List Int, Reads w.heap s 1 (E.flatMap cI) ∧ (E ≠ [] → ∀ b, s.blk = some b → b < w.heap.size) ∧ ∀ n ∈ E, W64 n := by
  obtain ⟨s, h1, h2, h3, CS, h4, h5, h6, h7⟩ := open_slice (fun cs => ∃ n : Int, cs = cI n ∧ W64 n) ht (show PP.cellsOf 3 = 1 from by kernel_rfl) (by omega) h fun n cs y hy _ => by
    obtain ⟨m, e1, _, e2⟩ := DataW.trod_int Try.underlying3 hy
    exact ⟨m, e1, i64_of e2⟩
  have : ∀ (L : List (List Value)), (∀ c ∈ L, c.length = 1 ∧ ∃ n : Int, c = cI n ∧ W64 n) → ∃ E : List Int, L = E.map cI ∧ ∀ n ∈ E, W64 n := fun L => by
    induction L with
    | nil => intro _; exact ⟨[], rfl, fun n hn => by cases hn⟩
    | cons c r ih =>
      intro hL
      obtain ⟨E, h1, h2⟩ := ih fun c hc => hL c (List.mem_cons_of_mem _ hc)
      obtain ⟨_, n, rfl, hn⟩ := hL c (by simp)
      refine ⟨n :: E, by rw [h1]; rfl, fun m hm => ?_⟩
      rcases List.mem_cons.1 hm with e | e
      · subst e; exact hn
      · exact h2 m e
  obtain ⟨E, rfl, hE⟩ := this CS h5
  refine ⟨s, h1, h2, h3, E, ?_, fun hn b hb => h7 (by simpa using hn) b hb, hE⟩
  rw [List.flatMap_def]; exact h6
theorem list4 {β : Type} : ∀ {l : List β}, l.length = 4 → ∃ a b c d, l = [a, b, c, d]
  | [a, b, c, d], _ => ⟨a, b, c, d, rfl⟩
theorem step_open {cs : List Value} {y : DataW T × List MemPlace} (h : DataW.trod enc PP w base spare held fuel 50 cs = some y) (hl : cs.length = 4) : ∃ x : Step, cs = x.cells ∧ StepOk w.heap x := by
  obtain ⟨xs, n, _, _, _, hlen, hf⟩ := DataW.trod_struct Try.underlying50 h
  have hlen4 : xs.length = 4 := hlen
  have k3 : PP.cellsOf 3 = 1 := by kernel_rfl
  have k24 : PP.cellsOf 24 = 1 := by kernel_rfl
  obtain ⟨c0, c1, c2, c3, rfl⟩ := list4 hl
  obtain ⟨y0, y1, y2, y3, rfl⟩ := list4 hlen4
  · have f0 : DataW.trod enc PP w base spare held n 3 (([c0, c1, c2, c3].drop 0).take (PP.cellsOf 3)) = some y0 := hf 0 _ rfl
    have f1 : DataW.trod enc PP w base spare held n 3 (([c0, c1, c2, c3].drop 1).take (PP.cellsOf 3)) = some y1 := hf 1 _ rfl
    have f2 : DataW.trod enc PP w base spare held n 3 (([c0, c1, c2, c3].drop 2).take (PP.cellsOf 3)) = some y2 := hf 2 _ rfl
    have f3 : DataW.trod enc PP w base spare held n 24 (([c0, c1, c2, c3].drop 3).take (PP.cellsOf 24)) = some y3 := hf 3 _ rfl
    rw [k3] at f0 f1 f2
    rw [k24] at f3
    simp only [List.drop_zero, List.drop_succ_cons, List.take_succ_cons, List.take_zero] at f0 f1 f2 f3
    obtain ⟨m0, e0, _, w0⟩ := DataW.trod_int Try.underlying3 f0
    obtain ⟨m1, e1, _, w1⟩ := DataW.trod_int Try.underlying3 f1
    obtain ⟨m2, e2, _, w2⟩ := DataW.trod_int Try.underlying3 f2
    obtain ⟨s, e3, g1, g2, E, g3, g4, g5⟩ := ints_open Try.underlying24 f3
    simp only [List.cons.injEq, and_true] at e0 e1 e2
    subst e0; subst e1; subst e2; subst e3
    have hok : StepOk w.heap ⟨m0, m1, m2, s⟩ := by
      unfold StepOk
      refine ⟨i64_of w0, i64_of w1, i64_of w2, g1, g2, E, g3, g4, g5⟩
    exact ⟨⟨m0, m1, m2, s⟩, rfl, hok⟩
/-- A script. -/
theorem script_open {v : Value} {y : DataW T × List MemPlace} (h : DataW.trod enc PP w base spare held fuel 23 [v] = some y) :
    ∃ s : Sl, v = s.enc ∧ s.len ≤ s.cap ∧ s.cap ≤ maxLen ∧ ∃ S : List Step, Reads w.heap s 4 (S.flatMap (·.cells)) ∧ (S ≠ [] → ∀ b, s.blk = some b → b < w.heap.size) ∧ ∀ x ∈ S, StepOk w.heap x := by
  obtain ⟨s, h1, h2, h3, CS, h4, h5, h6, h7⟩ := open_slice (fun cs => ∃ x : Step, cs = x.cells ∧ StepOk w.heap x) Try.underlying23 (show PP.cellsOf 50 = 4 from by kernel_rfl) (by omega) h fun n cs y hy hl => step_open hy hl
  have : ∀ (L : List (List Value)), (∀ c ∈ L, c.length = 4 ∧ ∃ x : Step, c = x.cells ∧ StepOk w.heap x) → ∃ S : List Step, L = S.map (·.cells) ∧ ∀ x ∈ S, StepOk w.heap x := fun L => by
    induction L with
    | nil => intro _; exact ⟨[], rfl, fun n hn => by cases hn⟩
    | cons c r ih =>
      intro hL
      obtain ⟨E, h1, h2⟩ := ih fun c hc => hL c (List.mem_cons_of_mem _ hc)
      obtain ⟨_, n, rfl, hn⟩ := hL c (by simp)
      refine ⟨n :: E, by rw [h1]; rfl, fun m hm => ?_⟩
      rcases List.mem_cons.1 hm with e | e
      · subst e; exact hn
      · exact h2 m e
  obtain ⟨S, rfl, hS⟩ := this CS h5
  refine ⟨s, h1, h2, h3, S, ?_, fun hn b hb => h7 (by simpa using hn) b hb, hS⟩
  rw [List.flatMap_def]; exact h6
end
end Go.Proofs.Ytapomjhjpejimaa.V
