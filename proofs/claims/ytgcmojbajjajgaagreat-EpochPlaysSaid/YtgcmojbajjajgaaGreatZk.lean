/- Scripts that came in; a script carried out; no condition. -/
import Derived.Test.YtgcmojbajjajgaaGreatZj
import Derived.Test.YtgcmojbajjajgaaGreatVp
namespace Go.Proofs.YtgcmojbajjajgaaGreat.V
open Go Go.Proofs.YtgcmojbajjajgaaGreat.V.N
set_option linter.unusedVariables false
set_option linter.unusedSimpArgs false
abbrev W64 (n : Int) : Prop := -9223372036854775808 ≤ n ∧ n < 9223372036854775808
section
variable {T : Type} {enc : TypeId × Value → T} {w : World} {base : Nat} {spare : Nat → Bool} {held : Bool} {fuel : Nat}
theorem gen_open {α : Type} (f : α → List Value) (ok : α → Prop) {t e : TypeId} {k : Nat} {v : Value} {y : DataW T × List MemPlace} (hf : ∀ x, (f x).length = k) (ht : PP.underlying t = some (.slice e)) (hk : PP.cellsOf e = k) (hk0 : 0 < k) (h : DataW.trod enc PP w base spare held fuel t [v] = some y)
    (hG : ∀ n cs y, DataW.trod enc PP w base spare held n e cs = some y → cs.length = k → ∃ x, cs = f x ∧ ok x) :
    ∃ (s : Sl) (L : List α), v = s.enc ∧ Reads w.heap s k (L.flatMap f) ∧ s.len ≤ s.cap ∧ (L ≠ [] → ∀ b, s.blk = some b → b < w.heap.size) ∧ (∀ x ∈ L, ok x) ∧ L.length ≤ 9223372036854775807 := by
  obtain ⟨s, h1, h2, h3, CS, h4, h5, h6, h7⟩ := open_slice (fun cs => ∃ x : α, cs = f x ∧ ok x) ht hk hk0 h fun n cs y hy hl => hG n cs y hy hl
  have : ∀ (L : List (List Value)), (∀ c ∈ L, c.length = k ∧ ∃ x : α, c = f x ∧ ok x) → ∃ S : List α, L = S.map f ∧ ∀ x ∈ S, ok x := fun L => by
    induction L with
    | nil => intro _; exact ⟨[], rfl, fun n hn => by cases hn⟩
    | cons c r ih =>
      intro hL
      obtain ⟨E, h1, h2⟩ := ih fun c hc => hL c (List.mem_cons_of_mem _ hc)
      obtain ⟨_, n, rfl, hn⟩ := hL c (by simp)
      refine ⟨n :: E, by rw [h1]; rfl, fun m hm => ?_⟩
      rcases List.mem_cons.1 hm with e | e
      · subst e; exact hn
      · exact h2 m e
  obtain ⟨S, rfl, hS⟩ := this CS h5
  have hr : Reads w.heap s k (S.flatMap f) := by rw [List.flatMap_def]; exact h6
  refine ⟨s, S, h1, hr, h2, fun hn b hb => h7 (by simpa using hn) b hb, hS, ?_⟩
  have := rd_len hf hk0 hr
  simp only [maxLen] at h3; omega
theorem list4 {β : Type} : ∀ {l : List β}, l.length = 4 → ∃ a b c d, l = [a, b, c, d]
  | [a, b, c, d], _ => ⟨a, b, c, d, rfl⟩
def StepOk (x : Stp9) : Prop := W64 x.Kind ∧ W64 x.Owner ∧ W64 x.Epoch
theorem step_open {cs : List Value} {y : DataW T × List MemPlace} (h : DataW.trod enc PP w base spare held fuel tn_spatelaw9_Step cs = some y) (hl : cs.length = 4) : ∃ x : Stp9, cs = x.cells ∧ StepOk x := by
  obtain ⟨xs, n, _, _, _, hlen, hf⟩ := DataW.trod_struct ut_spatelaw9_Step h
  have hlen4 : xs.length = 4 := hlen
  have k3 : PP.cellsOf 3 = 1 := by kernel_rfl
  have k4 : PP.cellsOf 4 = 1 := by kernel_rfl
  obtain ⟨c0, c1, c2, c3, rfl⟩ := list4 hl
  obtain ⟨y0, y1, y2, y3, rfl⟩ := list4 hlen4
  have f0 : DataW.trod enc PP w base spare held n 3 (([c0, c1, c2, c3].drop 0).take (PP.cellsOf 3)) = some y0 := hf 0 _ rfl
  have f1 : DataW.trod enc PP w base spare held n 3 (([c0, c1, c2, c3].drop 1).take (PP.cellsOf 3)) = some y1 := hf 1 _ rfl
  have f2 : DataW.trod enc PP w base spare held n 3 (([c0, c1, c2, c3].drop 2).take (PP.cellsOf 3)) = some y2 := hf 2 _ rfl
  have f3 : DataW.trod enc PP w base spare held n 4 (([c0, c1, c2, c3].drop 3).take (PP.cellsOf 4)) = some y3 := hf 3 _ rfl
  rw [k3] at f0 f1 f2
  rw [k4] at f3
  simp only [List.drop_zero, List.drop_succ_cons, List.take_succ_cons, List.take_zero] at f0 f1 f2 f3
  obtain ⟨m0, e0, _, w0⟩ := DataW.trod_int Tryz.underlying3 f0
  obtain ⟨m1, e1, _, w1⟩ := DataW.trod_int Tryz.underlying3 f1
  obtain ⟨m2, e2, _, w2⟩ := DataW.trod_int Tryz.underlying3 f2
  obtain ⟨m3, e3, _⟩ := DataW.trod_bool Tryz.underlying4 f3
  simp only [List.cons.injEq, and_true] at e0 e1 e2 e3
  subst e0; subst e1; subst e2; subst e3
  exact ⟨⟨m0, m1, m2, m3⟩, rfl, i64_of w0, i64_of w1, i64_of w2⟩
theorem steps_open {v : Value} {y : DataW T × List MemPlace} (h : DataW.trod enc PP w base spare held fuel tn_Slspatelaw9_Step [v] = some y) :
    ∃ (s : Sl) (L : List Stp9), v = s.enc ∧ Reads w.heap s 4 (L.flatMap (·.cells)) ∧ s.len ≤ s.cap ∧ (L ≠ [] → ∀ b, s.blk = some b → b < w.heap.size) ∧ (∀ x ∈ L, StepOk x) ∧ L.length ≤ 9223372036854775807 :=
  gen_open (·.cells) StepOk step_len ut_Slspatelaw9_Step (show PP.cellsOf tn_spatelaw9_Step = 4 from by kernel_rfl) (by omega) h fun n cs y hy hl => step_open hy hl
end
section
variable {h0 h h' : H} {FP FP' : Nat → Prop} {L : List (Nat × Bk)} {i j n m : Nat} {B : Bk} {c : Nat}
/-- Step i of a script. -/
theorem step_at {s : Sl} {S : List Stp9} {e : Ext h0 h} (rd : Reads h0 s 4 (S.flatMap (·.cells))) {i : Nat} {x : Stp9} (hx : S[i]? = some x) {K : Stp9 → Prop} (e : Ext h0 h) (k : K x) : idxA s (i : Int) 4 fun a => ld_S_spatelaw9_Step h a K := by
  obtain ⟨p, p1, p2, p3⟩ := rd_at step_len (by omega) (rd.ext e) hx
  have hl := rd_len step_len (by omega) rd
  refine idxR_of (i := i) p1 (by have := (List.getElem?_eq_some_iff.1 hx).1; omega) rfl ⟨x, p3, k⟩
theorem take_snoc {α : Type} {l : List α} {i : Nat} {x : α} (h : l[i]? = some x) : l.take (i + 1) = l.take i ++ [x] := by rw [List.take_add_one, h]; rfl
theorem set_last {α : Type} {l : List α} {i : Nat} {x y : α} (h : i < l.length) : (l.set i x).set i y = l.set i y := by simp
theorem set_at {α : Type} {l : List α} {i : Nat} {x : α} (h : i < l.length) : (l.set i x)[i]? = some x := by simp [h]
theorem Ok.run' {S : List Stp9} {B : Bk} {c : Nat} (o : Ok B c) (i : Nat) (hi : S.length ≤ 3000) : Ok (runK B (S.take i)) (c + 3000) :=
  (o.run (ss := S.take i)).mono (by simp; omega)
end
end Go.Proofs.YtgcmojbajjajgaaGreat.V
