/- The law MergeParts; no condition. -/
import Derived.Test.YtidpbnbjpglhfaaMz
namespace Go.Proofs.Ytidpbnbjpglhfaa.V
open Go
set_option linter.unusedVariables false
set_option linter.unusedSimpArgs false
/-- merge.Rows of slices that are named. -/
theorem call_rows {h : H} {most : Int} {ss : List Sl} {Ls : List (List Rw8)} {Q : Sl → H → Prop} (len : ss.length = Ls.length) (hs : ss.length < 1000) (row : ∀ (i : Nat) s R, ss[i]? = some s → Ls[i]? = some R → Reads h s 7 (R.flatMap cW) ∧ s.len ≤ s.cap) (hn : (mR Ls).length < 100000)
    (k : ∀ r h', Owns h' r tn_api_Row 7 (((mR Ls).take most.toNat).flatMap cW) → Ext h h' → Q r h') : newL h (ss.flatMap cS8).toArray tn_Slapi_Row ss.length fun s h2 => F.merge_Rows most s h2 Q := by
  refine newL_of fun n h2 hn2 b2 e2 s2 => ?_
  refine Rows_spec (ss := ss) (Ls := Ls) ⟨blk_reads b2 (by rw [flat_len _ 1 cS8_len]), len, fun i s R h1 h3 => ?_⟩ (by omega) hn fun r h3 w m e => k r h3 w (e2.trans e)
  obtain ⟨r1, r2⟩ := row i s R h1 h3
  exact ⟨r1.only e2 fun _ _ f => f, r2⟩
theorem mg_sorted {a b : List Rw8} (ha : a.Pairwise fun x y => leC x y = true) (hb : b.Pairwise fun x y => leC x y = true) : (mg a b).Pairwise fun x y => leC x y = true :=
  List.pairwise_merge leC_trans leC_total a b ha hb
theorem sc_le {a : List Rw8} (h : SC a) : a.Pairwise fun x y => leC x y = true := h.imp fun {x y} h => by unfold leC; exact decide_eq_true (by omega)
theorem mR2 (a b : List Rw8) : mR [a, b] = mg a b := by
  show List.merge a (List.merge b [] leC) leC = _
  rw [merge_nil']
theorem mR3 (a b c : List Rw8) : mR [a, b, c] = mg a (mg b c) := by
  show List.merge a (List.merge b (List.merge c [] leC) leC) leC = _
  rw [merge_nil']
end Go.Proofs.Ytidpbnbjpglhfaa.V
