/- A chain's writes: Put and Kill, and what is told of it: Newest, Len; no condition. -/
import Derived.Test.YtapomjhjpejimaaCa
namespace Go.Proofs.Ytapomjhjpejimaa.V
open Go
set_option linter.unusedVariables false
set_option linter.unusedSimpArgs false

theorem el72 : El PP 72 76 3 24 (.agg #[.int .i64 0, .int .i64 0, .bool false]) := ⟨Try.underlying72, ⟨Try.t76, by kernel_rfl, by kernel_rfl, by kernel_rfl, by kernel_rfl⟩, rfl, by omega, by omega⟩
/-- What a method may turn of a chain. -/
abbrev FP (p : Nat) (B : Option Nat) : Nat → Prop := fun b => b = p ∨ B = some b
def Kin (n : Nat) (B B' : Option Nat) : Prop := B' = B ∨ B' = none ∨ ∃ b, B' = some b ∧ n ≤ b
theorem lay_spec {h : H} {p : Nat} {L : List Ver} {B : Option Nat} {x : Ver} {Q : Int → H → Prop} (c : Ch h p L B) (hL : L.length < 4294967296)
    (k : ∀ h' B', Ch h' p (layM L x) B' → Only (FP p B) h h' → Kin h.size B B' → Q (layN L x) h') : F.chain_Chain_int_lay (some ⟨p, 0, none⟩) x h Q := by
  have hp := c.lt
  unfold F.chain_Chain_int_lay
  refine new_of fun n h1 e1 e2 e3 e4 => ?_
  have c1 := c.ext e3
  obtain ⟨s, hb, ho, hB, hne⟩ := c1
  have hl := Ch.len ho
  have hc0 : cellH h1 ⟨p, 0, none⟩ = some s.enc := hb.cell rfl
  have hx0 : cellH h1 ⟨n, 0, none⟩ = some (.int .i64 x.epoch) := e2.cell rfl
  have hxc : Cells h1 ⟨n, 0, none⟩ x.cells := fun j v hv => by rw [add_lit, Nat.zero_add]; exact e2.cell (by simpa using hv)
  -- the new version is appended
  have happ : ¬ (L ≠ [] ∧ lastE L = x.epoch) → F.chain_Chain_int_lay.j1 Q (some ⟨p, 0, none⟩) ⟨n, 0, none⟩ h1 := fun hno => by
    unfold F.chain_Chain_int_lay.j1
    simp only [nn_some, add_lit, Nat.add_zero]
    rw [ldL_iff hc0]
    refine ⟨x, hxc, ?_⟩
    refine newL_of fun n2 h2 f1 f2 f3 f4 => ?_
    refine ⟨f3.cell hc0 (fun f => f), ?_⟩
    refine app_of (ys := x.cells) el72 (ho.only f3 (fun _ _ f => f)) (blk_reads (by simpa using f2) rfl) (ones_S_chain_version_int x) (by simp only; omega) fun r h3 r1 r2 r3 r4 => ?_
    have hb3 : Blk h3 p #[s.enc] 74 := r3.block (f3.block hb (fun f => f)) (by rw [hB]; exact hne)
    refine stH_of hb3 (by simp) fun h4 g1 g2 g3 => ?_
    have hr1 : r.blk ≠ some p := by
      rcases r4 with r4 | ⟨b, r4, r5⟩
      · rw [r4, hB]; exact hne
      · rw [r4]; intro e; cases e; omega
    have hm : layM L x = L ++ [x] := if_neg hno
    have hn : layN L x = 1 := if_neg hno
    rw [← hn]
    refine k h4 r.blk ⟨r, g1, ?_, rfl, hr1⟩ ?_ ?_
    · rw [hm, List.flatMap_append]
      exact (by simpa using r1 : Owns h3 r 76 3 (L.flatMap (·.cells) ++ x.cells)).only g2 (fun b hb e => hr1 (by rw [hb, e])) |> (by simpa using ·)
    · refine (((e3.only (S := FP p B)).ext f3).trans r3 fun m _ e => .inr (by rw [← hB]; exact e)).trans g2 fun m _ e => .inl e
    · rcases r4 with r4 | ⟨b, r4, r5⟩
      · exact .inl (by rw [r4, hB])
      · exact .inr (.inr ⟨b, r4, by omega⟩)
  -- the newest version is written anew
  have hset : L ≠ [] ∧ lastE L = x.epoch → F.chain_Chain_int_lay.j2 Q (some ⟨p, 0, none⟩) ⟨n, 0, none⟩ (L.length : Int) true h1 := fun hyes => by
    have hpos : 0 < L.length := List.length_pos_iff.2 hyes.1
    obtain ⟨b, a1, a2, a3, a4, a5⟩ := Ch.at ho (last_get hyes.1)
    refine ⟨fun _ => ?_, fun h => by cases h⟩
    simp only [nn_some, add_lit, Nat.add_zero]
    rw [ldL_iff hc0]
    refine ⟨x, hxc, ?_⟩
    refine idxA_of (i := L.length - 1) a1 (by omega) (by rw [w64 (by omega) (by omega)]; omega) ?_
    have hfl := flat_len (·.cells) 3 ver_len L
    refine own_set ho a1 (by rw [hfl]; simp [S_chain_version_int.cells]; omega) fun h4 g1 g2 g3 => ?_
    have hm : layM L x = L.dropLast ++ [x] := if_pos hyes
    have hn : layN L x = 0 := if_pos hyes
    rw [← hn]
    refine k h4 B ⟨s, g2.block hb (by rw [hB]; exact hne), ?_, hB, hne⟩ ((e3.only (S := FP p B)).trans g2 fun m _ e => .inr (by rw [← hB]; exact e)) (.inl rfl)
    rw [hm, List.flatMap_append]
    have e1 : (L.flatMap (·.cells)).take ((L.length - 1) * 3) = L.dropLast.flatMap (·.cells) := by
      have hd : L = L.dropLast ++ [L.getLast hyes.1] := (List.dropLast_concat_getLast hyes.1).symm
      have hdl := flat_len (·.cells) 3 ver_len L.dropLast
      rw [List.length_dropLast] at hdl
      conv => lhs; rw [hd, List.flatMap_append]
      rw [show ((L.dropLast ++ [L.getLast hyes.1]).length - 1) = L.length - 1 from by simp]
      rw [← hdl, List.take_left]
    have e2 : (L.flatMap (·.cells)).drop ((L.length - 1) * 3 + x.cells.length) = [] := by
      apply List.drop_eq_nil_of_le
      rw [hfl, ver_len]; omega
    rw [e1, e2] at g1
    simpa using g1
  simp only [nn_some, add_lit, Nat.add_zero, ldL_iff hc0, hl]
  by_cases hn : L = []
  · refine ⟨fun g => ?_, fun g => ⟨(fun h => by cases h), fun _ => happ fun h => h.1 hn⟩⟩
    rw [decide_eq_true_iff] at g; subst hn; simp at g
  · have hpos : 0 < L.length := List.length_pos_iff.2 hn
    refine ⟨fun g => ?_, fun g => by rw [decide_eq_false_iff_not] at g; omega⟩
    obtain ⟨b, a1, a2, a3, a4, a5⟩ := Ch.at ho (last_get hn)
    refine idxA_of (i := L.length - 1) a1 (by omega) (by rw [w64 (by omega) (by omega)]; omega) ?_
    simp only [add_lit, Nat.add_zero]
    rw [ldI_iff a2, ldI_iff hx0]
    have hle : lastE L = (L.getLast hn).epoch := by unfold lastE; rw [List.getLast?_eq_some_getLast hn]
    rw [← hle]
    by_cases he : lastE L = x.epoch
    · rw [show (lastE L == x.epoch) = true from by simp [he]]
      exact hset ⟨hn, he⟩
    · rw [show (lastE L == x.epoch) = false from by simp [he]]
      exact ⟨fun h => (by cases h), fun _ => happ fun h => he h.2⟩
end Go.Proofs.Ytapomjhjpejimaa.V
