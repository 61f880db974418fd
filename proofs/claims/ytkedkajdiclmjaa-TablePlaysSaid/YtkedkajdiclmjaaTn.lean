/- Texts, numbers and steps that came in, as lists that are read; no condition. -/
import Derived.Test.YtkedkajdiclmjaaTf
import Derived.Test.YtkedkajdiclmjaaVp
namespace Go.Proofs.Ytkedkajdiclmjaa.V
open Go
set_option linter.unusedVariables false
set_option linter.unusedSimpArgs false
abbrev W64 (n : Int) : Prop := -9223372036854775808 ≤ n ∧ n < 9223372036854775808
abbrev Step := S_spatelaw6_Step
section
variable {T : Type} {enc : TypeId × Value → T} {w : World} {base : Nat} {spare : Nat → Bool} {held : Bool} {fuel : Nat}
theorem gen_open {α : Type} (f : α → List Value) (ok : α → Prop) {t e : TypeId} {k : Nat} {v : Value} {y : DataW T × List MemPlace} (hf : ∀ x, (f x).length = k) (ht : PP.underlying t = some (.slice e)) (hk : PP.cellsOf e = k) (hk0 : 0 < k) (h : DataW.trod enc PP w base spare held fuel t [v] = some y)
    (hG : ∀ n cs y, DataW.trod enc PP w base spare held n e cs = some y → cs.length = k → ∃ x, cs = f x ∧ ok x) :
    ∃ (s : Sl) (L : List α), v = s.enc ∧ Reads w.heap s k (L.flatMap f) ∧ s.len ≤ s.cap ∧ (L ≠ [] → ∀ b, s.blk = some b → b < w.heap.size) ∧ (∀ x ∈ L, ok x) ∧ L.length ≤ 9223372036854775807 := by
  obtain ⟨s, h1, h2, h3, CS, h4, h5, h6, h7⟩ := open_slice (fun cs => ∃ x : α, cs = f x ∧ ok x) ht hk hk0 h fun n cs y hy hl => hG n cs y hy hl
  have : ∀ (L : List (List Value)), (∀ c ∈ L, c.length = k ∧ ∃ x : α, c = f x ∧ ok x) → ∃ S : List α, L = S.map f ∧ ∀ x ∈ S, ok x := fun L => by
    induction L with
    | nil => intro _; exact ⟨[], rfl, fun n hn => by cases hn⟩
    | cons c r ih =>
      intro hL
      obtain ⟨E, h1, h2⟩ := ih fun c hc => hL c (List.mem_cons_of_mem _ hc)
      obtain ⟨_, n, rfl, hn⟩ := hL c (by simp)
      refine ⟨n :: E, by rw [h1]; rfl, fun m hm => ?_⟩
      rcases List.mem_cons.1 hm with e | e
      · subst e; exact hn
      · exact h2 m e
  obtain ⟨S, rfl, hS⟩ := this CS h5
  have hr : Reads w.heap s k (S.flatMap f) := by rw [List.flatMap_def]; exact h6
  refine ⟨s, S, h1, hr, h2, fun hn b hb => h7 (by simpa using hn) b hb, hS, ?_⟩
  have := rd_len hf hk0 hr
  simp only [maxLen] at h3; omega
theorem ints_open {v : Value} {y : DataW T × List MemPlace} (h : DataW.trod enc PP w base spare held fuel 38 [v] = some y) :
    ∃ (s : Sl) (L : List Int), v = s.enc ∧ Reads w.heap s 1 (L.flatMap cI) ∧ s.len ≤ s.cap ∧ (L ≠ [] → ∀ b, s.blk = some b → b < w.heap.size) ∧ (∀ x ∈ L, W64 x) ∧ L.length ≤ 9223372036854775807 :=
  gen_open cI W64 cI_len Try.underlying38 (show PP.cellsOf 3 = 1 from by kernel_rfl) (by omega) h fun n cs y hy _ => by
    obtain ⟨m, e1, _, e2⟩ := DataW.trod_int Try.underlying3 hy
    exact ⟨m, e1, i64_of e2⟩
theorem strs_open {v : Value} {y : DataW T × List MemPlace} (h : DataW.trod enc PP w base spare held fuel 37 [v] = some y) :
    ∃ (s : Sl) (L : List ByteArray), v = s.enc ∧ Reads w.heap s 1 (L.flatMap cT) ∧ s.len ≤ s.cap ∧ (L ≠ [] → ∀ b, s.blk = some b → b < w.heap.size) ∧ (∀ x ∈ L, SmallK x) ∧ L.length ≤ 9223372036854775807 :=
  gen_open cT SmallK cT_len Try.underlying37 (show PP.cellsOf 9 = 1 from by kernel_rfl) (by omega) h fun n cs y hy _ => by
    obtain ⟨m, e1, _, e2⟩ := DataW.trod_string Try.underlying9 hy
    exact ⟨m, e1, by simp only [maxLen] at e2; show m.size ≤ _; omega⟩
theorem list3 {β : Type} : ∀ {l : List β}, l.length = 3 → ∃ a b c, l = [a, b, c]
  | [a, b, c], _ => ⟨a, b, c, rfl⟩
def StepOk (x : Step) : Prop := W64 x.Kind ∧ W64 x.N ∧ SmallK x.Key
theorem step_len (x : Step) : x.cells.length = 3 := rfl
theorem step_open {cs : List Value} {y : DataW T × List MemPlace} (h : DataW.trod enc PP w base spare held fuel 46 cs = some y) (hl : cs.length = 3) : ∃ x : Step, cs = x.cells ∧ StepOk x := by
  obtain ⟨xs, n, _, _, _, hlen, hf⟩ := DataW.trod_struct Try.underlying46 h
  have hlen4 : xs.length = 3 := hlen
  have k3 : PP.cellsOf 3 = 1 := by kernel_rfl
  have k9 : PP.cellsOf 9 = 1 := by kernel_rfl
  obtain ⟨c0, c1, c2, rfl⟩ := list3 hl
  obtain ⟨y0, y1, y2, rfl⟩ := list3 hlen4
  have f0 : DataW.trod enc PP w base spare held n 3 (([c0, c1, c2].drop 0).take (PP.cellsOf 3)) = some y0 := hf 0 _ rfl
  have f1 : DataW.trod enc PP w base spare held n 3 (([c0, c1, c2].drop 1).take (PP.cellsOf 3)) = some y1 := hf 1 _ rfl
  have f2 : DataW.trod enc PP w base spare held n 9 (([c0, c1, c2].drop 2).take (PP.cellsOf 9)) = some y2 := hf 2 _ rfl
  rw [k3] at f0 f1
  rw [k9] at f2
  simp only [List.drop_zero, List.drop_succ_cons, List.take_succ_cons, List.take_zero] at f0 f1 f2
  obtain ⟨m0, e0, _, w0⟩ := DataW.trod_int Try.underlying3 f0
  obtain ⟨m1, e1, _, w1⟩ := DataW.trod_int Try.underlying3 f1
  obtain ⟨m2, e2, _, w2⟩ := DataW.trod_string Try.underlying9 f2
  simp only [List.cons.injEq, and_true] at e0 e1 e2
  subst e0; subst e1; subst e2
  exact ⟨⟨m0, m1, m2⟩, rfl, i64_of w0, i64_of w1, by simp only [maxLen] at w2; show m2.size ≤ _; omega⟩
theorem steps_open {v : Value} {y : DataW T × List MemPlace} (h : DataW.trod enc PP w base spare held fuel 43 [v] = some y) :
    ∃ (s : Sl) (L : List Step), v = s.enc ∧ Reads w.heap s 3 (L.flatMap (·.cells)) ∧ s.len ≤ s.cap ∧ (L ≠ [] → ∀ b, s.blk = some b → b < w.heap.size) ∧ (∀ x ∈ L, StepOk x) ∧ L.length ≤ 9223372036854775807 :=
  gen_open (·.cells) StepOk step_len Try.underlying43 (show PP.cellsOf 46 = 3 from by kernel_rfl) (by omega) h fun n cs y hy hl => step_open hy hl
end
end Go.Proofs.Ytkedkajdiclmjaa.V
