/- A chain behind a script; epochs; at; same; no condition. -/
import Derived.Test.YtapomjhjpejimaaCl
namespace Go.Proofs.Ytapomjhjpejimaa.V
open Go
set_option linter.unusedVariables false
set_option linter.unusedSimpArgs false

/-- A script: each step with the numbers of its list. -/
def Script (h : H) (s : Sl) (S : List (Step × List Int)) : Prop :=
  Reads h s 4 (S.flatMap fun p => p.1.cells) ∧ s.len ≤ s.cap ∧ ∀ p ∈ S, Reads h p.1.L 1 (p.2.flatMap cI) ∧ p.1.L.len ≤ p.1.L.cap ∧ (p.2 ≠ [] → ∀ b, p.1.L.blk = some b → b < h.size) ∧ p.2.length ≤ 9223372036854775807
theorem Script.ext {h h' : H} {s : Sl} {S : List (Step × List Int)} (t : Script h s S) (e : Ext h h') : Script h' s S :=
  ⟨t.1.ext e, t.2.1, fun p hp => ⟨(t.2.2 p hp).1.ext e, (t.2.2 p hp).2.1, fun hn b hb => Nat.lt_of_lt_of_le ((t.2.2 p hp).2.2.1 hn b hb) e.size, (t.2.2 p hp).2.2.2⟩⟩
def runM (L : List Ver) (S : List (Step × List Int)) : List Ver := S.foldl (fun L p => doM L p.1 p.2) L
theorem rise_run : ∀ (S : List (Step × List Int)) {L : List Ver}, Rise L → Rise (runM L S)
  | [], L, h => h
  | p :: r, L, h => rise_run r (rise_do h p.1 p.2)
theorem run_len : ∀ (S : List (Step × List Int)) (L : List Ver), (runM L S).length ≤ L.length + S.length
  | [], L => by simp [runM]
  | p :: r, L => by have := run_len r (doM L p.1 p.2); have := do_len L p.1 p.2; simp only [runM, List.foldl_cons, List.length_cons] at *; omega
theorem scr_len (p : Step × List Int) : (p.1.cells).length = 4 := rfl
theorem scr_get {h : H} {s : Sl} {S : List (Step × List Int)} (t : Script h s S) {i : Nat} {p : Step × List Int} {n : Int} {K : Addr → Prop} (hp : S[i]? = some p) (hn : n = (i : Int)) (k : ∀ a, Cells h a p.1.cells → K a) : idxA s n 4 K := by
  obtain ⟨q, q1, q2, q3⟩ := rd_at (f := fun p : Step × List Int => p.1.cells) scr_len (by omega) t.1 hp
  have hl := rd_len (f := fun p : Step × List Int => p.1.cells) scr_len (by omega) t.1
  have := (List.getElem?_eq_some_iff.1 hp).1
  exact idxR_of (i := i) q1 (by omega) hn (k _ q3)
theorem open_loop {h0 : H} {p : Nat} {s : Sl} {S : List (Step × List Int)} {Q : Option Addr → H → Prop} (t : Script h0 s S) (hp : h0.size ≤ p) (k : ∀ h' B, Ch h' p (runM [] (S.take 2000)) B → Ext h0 h' → (∀ b, B = some b → h0.size ≤ b) → Q (some ⟨p, 0, none⟩) h') :
    ∀ (m i : Nat) (h : H) (B : Option Nat), Ch h p (runM [] (S.take i)) B → Ext h0 h → (∀ b, B = some b → h0.size ≤ b) → i ≤ 2000 → i ≤ S.length → 2000 - i < m → F.spatelaw5_open.l1 Q m s (some ⟨p, 0, none⟩) (i : Int) h
  | 0, i, h, B, _, _, _, _, _, hm => by omega
  | m + 1, i, h, B, c, e, hB, hi, hiS, hm => by
    unfold F.spatelaw5_open.l1 F.spatelaw5_open.j3
    have hl := rd_len (f := fun p : Step × List Int => p.1.cells) scr_len (by omega) t.1
    have hend : i = 2000 ∨ i = S.length → Q (some ⟨p, 0, none⟩) h := fun hh => by
      have : S.take 2000 = S.take i := by
        rcases hh with rfl | rfl
        · rfl
        · rw [List.take_of_length_le (by omega), List.take_of_length_le (Nat.le_refl _)]
      rw [← this] at c; exact k h B c e hB
    rw [hl]
    simp only [decide_eq_true_eq, decide_eq_false_iff_not]
    refine ⟨fun g => ⟨fun g2 => ?_, fun g2 => hend (by omega)⟩, fun g => ⟨(fun h => by cases h), fun _ => hend (by omega)⟩⟩
    unfold F.spatelaw5_open.j2
    obtain ⟨x, hx⟩ : ∃ x, S[i]? = some x := ⟨_, List.getElem?_eq_getElem (by omega)⟩
    have te := t.ext e
    refine scr_get te hx rfl fun a ha => ⟨x.1, ha, ?_⟩
    obtain ⟨d1, d2, d3, _⟩ := te.2.2 x (List.mem_of_getElem? hx)
    have htk : runM [] (S.take (i + 1)) = doM (runM [] (S.take i)) x.1 x.2 := by rw [List.take_add_one, hx]; simp [runM]
    have hrl := run_len (S.take i) []
    refine do_spec c (rise_run _ List.Pairwise.nil) (by simp at hrl; omega) d1 d2 d3 fun h' B' q1 q2 q3 => ?_
    rw [w64 (by omega) (by omega), show (i : Int) + 1 = ((i + 1 : Nat) : Int) from by omega]
    rw [← htk] at q1
    have he := e.size
    refine open_loop t hp k m (i + 1) h' B' q1 (e.step q2 fun n hn ee => ?_) (fun b hb => ?_) (by omega) (by omega) (by omega)
    · rcases ee with ee | ee
      · omega
      · have := hB n ee; omega
    · rcases q3 with q3 | q3 | ⟨b', q3, q4⟩
      · exact hB b (by rw [← q3]; exact hb)
      · rw [q3] at hb; cases hb
      · rw [q3] at hb; cases hb; omega
theorem open_spec {h : H} {s : Sl} {S : List (Step × List Int)} {Q : Option Addr → H → Prop} (t : Script h s S) (k : ∀ p h' B, h.size ≤ p → Ch h' p (runM [] (S.take 2000)) B → Ext h h' → (∀ b, B = some b → h.size ≤ b) → Q (some ⟨p, 0, none⟩) h') : F.spatelaw5_open s h Q := by
  unfold F.spatelaw5_open
  refine New_spec fun p h1 hp c e => ⟨2001, ?_⟩
  exact open_loop t (by omega) (fun h' B c' e' hb => k p h' B (by omega) c' e' hb) 2001 0 h1 none c e (fun b hb => by cases hb) (by omega) (by omega) (by omega)
end Go.Proofs.Ytapomjhjpejimaa.V
