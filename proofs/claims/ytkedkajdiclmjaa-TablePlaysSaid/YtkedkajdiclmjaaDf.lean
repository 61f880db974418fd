/- The document's table: New, Place and Get compute what the lists' own functions say; no condition. -/
import Derived.Test.YtkedkajdiclmjaaDe
namespace Go.Proofs.Ytkedkajdiclmjaa.V.D
open Go Go.Proofs.Ytkedkajdiclmjaa.V
set_option linter.unusedVariables false
set_option linter.unusedSimpArgs false

theorem elD : El PP 102 114 4 32 (.agg #[.bool false, .bool false, .string ⟨#[]⟩, .int .i64 0]) := ⟨Try.underlying102, ⟨Try.t114, by kernel_rfl, by kernel_rfl, by kernel_rfl, by kernel_rfl⟩, rfl, by omega, by omega⟩
theorem made4 (a b c d : Value) (n : Nat) : (madeCells #[a, b, c, d] (n * 4)).toList = (List.replicate n [a, b, c, d]).flatten := by
    apply List.ext_getElem?
    intro j
    have hfl : (List.replicate n [a, b, c, d]).flatten = (List.replicate n ()).flatMap fun _ => [a, b, c, d] := by
      rw [List.flatMap, List.map_replicate]
    rw [hfl]
    by_cases hj : j < n * 4
    · have hd : j = (j / 4) * 4 + j % 4 := by omega
      have hu : (List.replicate n ())[j / 4]? = some () := by rw [List.getElem?_replicate, if_pos (by omega)]
      have := flat_get (fun _ : Unit => [a, b, c, d]) 4 (fun _ => rfl) (List.replicate n ()) (j / 4) () hu (j % 4) (by omega)
      rw [← hd] at this
      rw [this]
      simp only [madeCells, Array.getElem?_toList]
      have hm : j % 4 < 4 := by omega
      simp [hj]
      rcases (show j % 4 = 0 ∨ j % 4 = 1 ∨ j % 4 = 2 ∨ j % 4 = 3 by omega) with h | h | h | h <;> simp [h]
    · rw [List.getElem?_eq_none (by simp [size_madeCells]; omega), List.getElem?_eq_none (by rw [flat_len _ 4 (fun _ => rfl)]; simp; omega)]
theorem made_rows (n : Nat) : (madeCells (Value.agg #[.bool false, .bool false, .string ⟨#[]⟩, .int .i64 0]).cells (n * 4)).toList = (List.replicate n (emptP (0 : Int))).flatMap cD := by
  have := made4 (.bool false) (.bool false) (.string ⟨#[]⟩) (.int .i64 0) n
  rw [List.flatMap, List.map_replicate]
  exact this
theorem New_spec {h : H} {Q : Option Addr → H → Prop} (k : ∀ h' n rs, TD h' n rs ⟨none, 0, 0⟩ (newT 0) → Ext h h' → (∀ b, FT n rs ⟨none, 0, 0⟩ b → h.size ≤ b) → Q (some ⟨n, 0, none⟩) h') : F.spateref6_New h Q := by
  unfold F.spateref6_New
  refine make_of (n := 8) elD (by omega) (by simp [maxLen]) fun b h1 hb o1 e1 => ?_
  rw [made_rows] at o1
  refine new_of fun n h2 hn b2 e2 _ => ?_
  refine k h2 n _ ⟨b2, o1.ext e2, Owns.nil _ _ _, fun b hb => by simp [Sl.blk], KB.repl 8, KB.nil, by simp [newT], by simp [newT, BIG], by simp [newT], by simp [newT], by simp [newT]⟩ (e1.trans e2) fun b' hb' => ?_
  rcases hb' with h1 | h1 | h1
  · have := e1.size; omega
  · simp [Sl.blk] at h1; omega
  · simp [Sl.blk] at h1
section
variable {h : H} {n : Nat} {rs es : Sl} {T : Tb Int} {key : ByteArray}
/-- Where a key lies. -/
theorem Place_spec {Q : Int → Bool → Bool → H → Prop} (t : TD h n rs es T) (ok : TOk T) (hk : SmallK key)
    (k1 : ∀ i : Nat, Hit T.row key i → Q (i : Int) false true h)
    (k2 : ∀ i : Nat, Hit T.elder key i → (∀ j, ¬ Hit T.row key j) → Q (i : Int) true true h)
    (k3 : (∀ j, ¬ Hit T.row key j) → (∀ j, ¬ Hit T.elder key j) → Q 0 false false h) : F.spateref6_Table_Place (some ⟨n, 0, none⟩) key h Q := by
  unfold F.spateref6_Table_Place
  simp only [nn_some, add_lit, Nat.zero_add]
  rw [ldL_iff t.c0]
  have w := where_ok ok key
  unfold whereM at w
  cases hf : findM T.row key with
  | none => rw [hf] at w; rcases w with ⟨i, w, _⟩ | ⟨i, w, _⟩ | ⟨w, _⟩ <;> cases w
  | some r =>
    rw [hf] at w
    obtain ⟨i, b⟩ := r
    refine find_spec t.pos t.row.reads t.br hk hf ?_
    cases b with
    | true =>
      refine ⟨fun _ => ?_, fun h => by cases h⟩
      rcases w with ⟨j, w, wh⟩ | ⟨j, w, _⟩ | ⟨w, _⟩
      · simp at w; subst w
        exact k1 _ wh
      · cases w
      · cases w
    | false =>
      refine ⟨fun h => (by cases h), fun _ => ?_⟩
      rw [ldL_iff t.c1, t.elen]
      simp only [decide_eq_true_eq, decide_eq_false_iff_not]
      simp only at w
      cases hg : findM T.elder key with
      | none => rw [hg] at w; rcases w with ⟨i, w, _⟩ | ⟨i, w, _⟩ | ⟨w, _⟩ <;> cases w
      | some r =>
        rw [hg] at w
        obtain ⟨i, b⟩ := r
        unfold F.spateref6_Table_Place.j1
        refine ⟨fun g => ?_, fun g => ?_⟩
        · rw [ldL_iff t.c1]
          refine find_spec (fun e => by rw [e] at g; simp at g) t.el.reads t.be hk hg ?_
          cases b with
          | true =>
            refine ⟨fun _ => ?_, fun h => by cases h⟩
            rcases w with ⟨j, w, _⟩ | ⟨j, w, wh, wn⟩ | ⟨w, _⟩
            · simp at w
            · simp at w; subst w
              exact k2 _ wh wn
            · cases w
          | false =>
            refine ⟨fun h => (by cases h), fun _ => ?_⟩
            rcases w with ⟨j, w, _⟩ | ⟨j, w, _⟩ | ⟨w, w1, w2⟩
            · simp at w
            · simp at w
            · exact k3 w1 w2
        · have he : T.elder = [] := List.eq_nil_of_length_eq_zero (by omega)
          rw [he] at hg
          cases hg
          rcases w with ⟨j, w, _⟩ | ⟨j, w, _⟩ | ⟨w, w1, w2⟩
          · simp at w
          · simp at w
          · exact k3 w1 w2
theorem Get_spec {Q : Int → Bool → H → Prop} (t : TD h n rs es T) (ok : TOk T) (hk : SmallK key) (k : Q ((getM T key).getD 0) (getM T key).isSome h) : F.spateref6_Table_Get (some ⟨n, 0, none⟩) key h Q := by
  unfold F.spateref6_Table_Get
  simp only [nn_some, add_lit, Nat.zero_add]
  refine Place_spec t ok hk (fun i hh => ?_) (fun i hh hn => ?_) (fun hn hne => ?_)
  · obtain ⟨p, g1, g2, g3⟩ := id hh
    obtain ⟨b', u1, u2⟩ := t.row_at g1
    refine ⟨fun h => (by cases h), fun _ => ⟨fun h => (by cases h), fun _ => ?_⟩⟩
    rw [ldL_iff t.c0]
    refine idxA_of u1 (by rw [t.rlen]; exact hh.lt) rfl ?_
    rw [ldI_iff (u2 3 _ rfl)]
    rw [get_row ok g1 g2 g3] at k
    exact k
  · obtain ⟨p, g1, g2, g3⟩ := id hh
    obtain ⟨b', u1, u2⟩ := t.el_at g1
    refine ⟨fun h => (by cases h), fun _ => ⟨fun _ => ?_, fun h => (by cases h)⟩⟩
    rw [ldL_iff t.c1]
    refine idxA_of u1 (by rw [t.elen]; exact hh.lt) rfl ?_
    rw [ldI_iff (u2 3 _ rfl)]
    rw [get_elder ok hn g1 g2 g3] at k
    exact k
  · refine ⟨fun _ => ?_, fun h => by cases h⟩
    rw [get_none hn hne] at k
    exact k
end
end Go.Proofs.Ytkedkajdiclmjaa.V.D
