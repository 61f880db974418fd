/- TablePlays answers true, where all does; no condition. -/
import Derived.Test.YtkedkajdiclmjaaDk
namespace Go.Proofs.Ytkedkajdiclmjaa.V.D
open Go Go.Proofs.Ytkedkajdiclmjaa.V
set_option linter.unusedVariables false
set_option linter.unusedSimpArgs false

section
variable {h0 : H} {x0 : Sl} {S : List Step} {Q : Bool → H → Prop}
theorem like_loop (al : AllSays) (r0 : Reads h0 x0 3 (S.flatMap (·.cells))) (okS : ∀ x ∈ S, StepOk x) (hS : S.length ≤ 20000) (k : ∀ h', Ext h0 h' → Q true h') : ∀ (f i : Nat) (h : H) (n : Nat) (rs es : Sl) (m : Nat) (rd ed : Sl) (T : Tb Int), K2 h0 h n rs es m rd ed T → TOk T → T.count < 1073741824 → i ≤ S.length → S.length - i < f →
      F.spatelaw6_TablePlays.l4 Q f x0 (some ⟨n, 0, none⟩) (some ⟨m, 0, none⟩) (i : Int) h
  | 0, i, h, n, rs, es, m, rd, ed, T, t, ok, hc, hi, hf => by omega
  | f + 1, i, h, n, rs, es, m, rd, ed, T, t, ok, hc, hi, hf => by
    unfold F.spatelaw6_TablePlays.l4
    have hl := rd_len step_len (by omega) r0
    rw [hl]
    simp only [decide_eq_true_eq, decide_eq_false_iff_not]
    refine ⟨fun g => ?_, fun g => ?_⟩
    · obtain ⟨x, hx⟩ : ∃ x, S[i]? = some x := ⟨_, List.getElem?_eq_getElem (by omega)⟩
      obtain ⟨p, q1, q2, q3⟩ := rd_at step_len (by omega) (r0.ext t.ext) hx
      refine idxR_of q1 (by omega) rfl ?_
      rw [ldS_iff (q3 2 (.string x.Key) rfl)]
      refine like_spec t.tt ok (okS x (List.mem_of_getElem? hx)).2.2 fun h1 e1 => ?_
      simp only [Bool.not_true]
      refine ⟨fun g => (by cases g), fun _ => ?_⟩
      rw [w64 (by omega) (by omega)]
      exact like_loop al r0 okS hS k f (i + 1) h1 n rs es m rd ed T (t.add e1) ok hc (by omega) (by omega)
    · exact al t.tt ok hc fun h1 e1 => k h1 (t.ext.trans e1)
theorem plays_loop (al : AllSays) (r0 : Reads h0 x0 3 (S.flatMap (·.cells))) (okS : ∀ x ∈ S, StepOk x) (hS : S.length ≤ 20000) (k : ∀ h', Ext h0 h' → Q true h') : ∀ (f i : Nat) (h : H) (n : Nat) (rs es : Sl) (m : Nat) (rd ed : Sl) (T : Tb Int), K2 h0 h n rs es m rd ed T → TOk T → Bd i T → i ≤ S.length → S.length - i < f →
      F.spatelaw6_TablePlays.l1 Q f x0 (some ⟨n, 0, none⟩) (some ⟨m, 0, none⟩) (i : Int) h
  | 0, i, h, n, rs, es, m, rd, ed, T, t, ok, hc, hi, hf => by omega
  | f + 1, i, h, n, rs, es, m, rd, ed, T, t, ok, hb, hi, hf => by
    unfold F.spatelaw6_TablePlays.l1
    have hl := rd_len step_len (by omega) r0
    rw [hl]
    simp only [decide_eq_true_eq, decide_eq_false_iff_not]
    refine ⟨fun g => ?_, fun g => ?_⟩
    · obtain ⟨x, hx⟩ : ∃ x, S[i]? = some x := ⟨_, List.getElem?_eq_getElem (by omega)⟩
      have step : ∀ (h : H) (n : Nat) (rs es : Sl), K2 h0 h n rs es m rd ed T → F.spatelaw6_TablePlays.j3 Q (F.spatelaw6_TablePlays.l1 Q f) x0 (some ⟨n, 0, none⟩) (some ⟨m, 0, none⟩) (i : Int) h := fun h n rs es t => by
        unfold F.spatelaw6_TablePlays.j3
        obtain ⟨p, q1, q2, q3⟩ := rd_at step_len (by omega) (r0.ext t.ext) hx
        refine idxR_of q1 (by omega) rfl ?_
        refine ⟨x, q3, ?_⟩
        refine told_spec al t ok (okS x (List.mem_of_getElem? hx)) hb (by omega) fun h1 rs1 es1 rd1 ed1 t1 => ?_
        simp only [Bool.not_true]
        refine ⟨fun g => (by cases g), fun _ => ?_⟩
        unfold F.spatelaw6_TablePlays.j2
        rw [w64 (by omega) (by omega)]
        obtain ⟨d1, d2⟩ := do_ok ok x
        exact plays_loop al r0 okS hS k f (i + 1) h1 n rs1 es1 m rd1 ed1 _ t1 d1 (d2 i hb) (by omega) (by omega)
      obtain ⟨p, q1, q2, q3⟩ := rd_at step_len (by omega) (r0.ext t.ext) hx
      refine idxR_of q1 (by omega) rfl ?_
      rw [ldI_iff (q3 0 (.int .i64 x.Kind) rfl)]
      refine ⟨fun _ => ?_, fun _ => step h n rs es t⟩
      refine Twin_spec t.tt.t fun h1 n1 rs1 es1 t1 e1 m1 => ?_
      refine ⟨fun g => (by cases g), fun _ => ?_⟩
      have z := t.ext.size
      exact step h1 n1 rs1 es1 ⟨⟨t1, (t.tt.ext e1).d⟩, t.ext.trans e1, fun b hb => by have := m1 b hb; omega, t.mine2⟩
    · exact ⟨S.length + 1, like_loop al r0 okS hS k (S.length + 1) 0 h n rs es m rd ed T t ok (by have := hb.1; omega) (by omega) (by omega)⟩
end
theorem plays_spec {h : H} {x0 : Sl} {S : List Step} {Q : Bool → H → Prop} (al : AllSays) (r0 : Reads h x0 3 (S.flatMap (·.cells))) (okS : ∀ x ∈ S, StepOk x) (k : ∀ h', Ext h h' → Q true h') : F.spatelaw6_TablePlays x0 h Q := by
  unfold F.spatelaw6_TablePlays
  refine known_spec fun h1 e1 => ?_
  refine ⟨fun g => (by cases g), fun _ => ?_⟩
  have hl := rd_len step_len (by omega) r0
  rw [hl]
  simp only [decide_eq_true_eq, decide_eq_false_iff_not]
  refine ⟨fun _ => k h1 e1, fun g => ?_⟩
  refine V.New_spec fun h4 n rs t4 e4 m4 => ?_
  refine New_spec fun h5 m rd t5 e5 m5 => ?_
  obtain ⟨n1, n2, n3⟩ := new_ok (0 : Int)
  have s1 := e1.size
  have s4 := e4.size
  exact ⟨S.length + 1, plays_loop (i := 0) al r0 okS (by omega) k (S.length + 1) h5 n rs _ m rd _ _ ⟨⟨t4.ext e5, t5⟩, (e1.trans e4).trans e5, fun b hb => by have := m4 b hb; omega, fun b hb => by have := m5 b hb; omega⟩ n1 ⟨by simp [newT], by simp [newT]⟩ (by omega) (by omega)⟩
end Go.Proofs.Ytkedkajdiclmjaa.V.D
