/- Turned by a program of this session (tabturn.py) out of XTo: the table of slices of whole numbers; no condition. -/
import Derived.Test.YtkedkajdiclmjaaKm
import Derived.Test.YtkedkajdiclmjaaTo
namespace Go.Proofs.Ytkedkajdiclmjaa.V.K
open Go Go.Proofs.Ytkedkajdiclmjaa.V
set_option linter.unusedVariables false
set_option linter.unusedSimpArgs false
theorem Place_spec {h : H} {n : Nat} {rs es : Sl} {T : Tb Sl} {key : ByteArray} {w : Option (Bool × Nat)} {Q : Int → Bool → Bool → H → Prop} (t : TH h n rs es T) (hk : SmallK key) (hw : whereM T key = some w)
    (k : ∀ h', Ext h h' → Q (plA w).1 (plA w).2.1 (plA w).2.2 h') : F.table_Table_Slint_Place (some ⟨n, 0, none⟩) key h Q := by
  unfold F.table_Table_Slint_Place
  simp only [nn_some, add_lit, Nat.zero_add]
  rw [ldL_iff t.c0]
  unfold whereM at hw
  cases hf : findM T.row key with
  | none => rw [hf] at hw; cases hw
  | some r =>
    rw [hf] at hw
    obtain ⟨i, b⟩ := r
    refine find_spec t.row.reads t.br hk hf fun h1 e1 => ?_
    have t1 := t.ext e1
    cases b with
    | true =>
      simp only at hw
      cases hw
      exact ⟨fun _ => k h1 e1, fun h => by cases h⟩
    | false =>
      refine ⟨fun h => (by cases h), fun _ => ?_⟩
      simp only at hw
      rw [ldL_iff t1.c1]
      cases hg : findM T.elder key with
      | none => rw [hg] at hw; cases hw
      | some r =>
        rw [hg] at hw
        obtain ⟨i, b⟩ := r
        refine find_spec t1.el.reads t.be hk hg fun h2 e2 => ?_
        cases b with
        | true =>
          simp only at hw
          cases hw
          exact ⟨fun _ => k h2 (e1.trans e2), fun h => by cases h⟩
        | false =>
          simp only at hw
          cases hw
          exact ⟨fun h => (by cases h), fun _ => k h2 (e1.trans e2)⟩
end Go.Proofs.Ytkedkajdiclmjaa.V.K
