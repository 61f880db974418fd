/- The program's table and the document's beside one another: like and sizes answer true; no condition. -/
import Derived.Test.YtkedkajdiclmjaaDi
import Derived.Test.YtkedkajdiclmjaaTo
namespace Go.Proofs.Ytkedkajdiclmjaa.V.D
open Go Go.Proofs.Ytkedkajdiclmjaa.V
set_option linter.unusedVariables false
set_option linter.unusedSimpArgs false

/-- No block of the one table is a block of the other. -/
theorem apart {h : H} {n m : Nat} {rs es rd ed : Sl} {T T2 : Tb Int} (t : TH h n rs es T) (d : TD h m rd ed T2) : ∀ b, FT n rs es b → ¬ FT m rd ed b := fun b hb hd => by
  have p : WB h b 73 ∨ WB h b 77 := by
    rcases hb with rfl | hb | hb
    · exact .inl ⟨_, t.tb⟩
    · exact .inr (t.row.typ hb)
    · exact .inr (t.el.typ hb)
  have q : WB h b 104 ∨ WB h b 114 := by
    rcases hd with rfl | hd | hd
    · exact .inl ⟨_, d.tb⟩
    · exact .inr (d.row.typ hd)
    · exact .inr (d.el.typ hd)
  rcases p with p | p <;> rcases q with q | q <;> exact p.ne q (by decide) rfl
/-- Both tables, of the same lists. -/
structure TT (h : H) (n : Nat) (rs es : Sl) (m : Nat) (rd ed : Sl) (T : Tb Int) : Prop where
  t : TH h n rs es T
  d : TD h m rd ed T
theorem TT.ext {h h' : H} {n m : Nat} {rs es rd ed : Sl} {T : Tb Int} (t : TT h n rs es m rd ed T) (e : Ext h h') : TT h' n rs es m rd ed T := ⟨t.t.ext e, t.d.only e fun _ _ f => f⟩
theorem TD.ext' {h h' : H} {m : Nat} {rd ed : Sl} {T : Tb Int} (t : TD h m rd ed T) (e : Ext h h') : TD h' m rd ed T := t.only e fun _ _ f => f
section
variable {h : H} {n m : Nat} {rs es rd ed : Sl} {T : Tb Int} {Q : Bool → H → Prop}
theorem sizes_spec (t : TT h n rs es m rd ed T) (k : Q true h) : F.spatelaw6_sizes (some ⟨n, 0, none⟩) (some ⟨m, 0, none⟩) h Q := by
  unfold F.spatelaw6_sizes
  simp only [nn_some, add_lit, Nat.zero_add]
  rw [ldI_iff t.d.c3]
  refine Len_spec t.t ?_
  refine ⟨t.d.c3, ?_⟩
  simp only [beq_self_eq_true]
  refine ⟨fun _ => ?_, fun g => by cases g⟩
  rw [ldL_iff t.d.c0]
  refine Slots_spec t.t ⟨t.d.c0, ?_⟩
  rw [t.d.rlen]
  simp only [beq_self_eq_true]
  refine ⟨fun _ => ?_, fun g => by cases g⟩
  refine V.Left_spec t.t ?_
  refine Left_spec t.d ?_
  simp only [beq_self_eq_true]
  exact k
theorem like_spec {key : ByteArray} (t : TT h n rs es m rd ed T) (ok : TOk T) (hk : SmallK key) (k : ∀ h', Ext h h' → Q true h') : F.spatelaw6_like (some ⟨n, 0, none⟩) (some ⟨m, 0, none⟩) key h Q := by
  unfold F.spatelaw6_like
  refine V.Get_spec t.t ok hk fun h1 e1 => ?_
  have t1 := t.ext e1
  refine Get_spec t1.d ok hk ?_
  have fin : ∀ (w : Option (Bool × Nat)) (a : Int) (b c : Bool), whereM T key = some w → a = (plA w).1 → b = (plA w).2.1 → c = (plA w).2.2 → ∀ h2, Ext h1 h2 →
      ((((((getM T key).getD 0) == ((getM T key).getD 0))) = true →
      (((getM T key).isSome == (getM T key).isSome) = true →
      ((((plA w).1 == a)) = true →
      (((plA w).2.1 == b) = true →
      Q ((plA w).2.2 == c) h2) ∧
      (((plA w).2.1 == b) = false →
      Q false h2)) ∧
      ((((plA w).1 == a)) = false →
      Q false h2)) ∧
      (((getM T key).isSome == (getM T key).isSome) = false →
      Q false h2)) ∧
      (((((getM T key).getD 0) == ((getM T key).getD 0))) = false →
      Q false h2)) := fun w a b c hw ha hb hc h2 e2 => by
    subst ha; subst hb; subst hc
    simp only [beq_self_eq_true]
    exact ⟨fun _ => ⟨fun _ => ⟨fun _ => ⟨fun _ => k h2 (e1.trans e2), fun g => by cases g⟩, fun g => by cases g⟩, fun g => by cases g⟩, fun g => by cases g⟩
  obtain ⟨w, hw⟩ : ∃ w, whereM T key = some w := by
    rcases where_ok ok key with ⟨i, w, _⟩ | ⟨i, w, _⟩ | ⟨w, _⟩ <;> exact ⟨_, w⟩
  refine V.Place_spec t1.t hk hw fun h2 e2 => ?_
  have t2 := t1.ext e2
  refine Place_spec t2.d ok hk (fun i hh => ?_) (fun i hh hn => ?_) (fun hn hne => ?_)
  · have hw2 : whereM T key = some (some (false, i)) := by unfold whereM; rw [ok.row.hit hh]
    rw [hw] at hw2; cases hw2
    exact fin _ _ _ _ hw rfl rfl rfl h2 e2
  · have hw2 : whereM T key = some (some (true, i)) := by
      rcases where_ok ok key with ⟨j, w, wh⟩ | ⟨j, w, wh, _⟩ | ⟨w, _, wn⟩
      · exact absurd wh (hn j)
      · obtain ⟨p, a1, a2, a3⟩ := hh
        obtain ⟨q, b1, b2, b3⟩ := wh
        rw [w, ok.elder.uniq i j p q a1 b1 a2 b2 (a3.trans b3.symm)]
      · exact absurd hh (wn i)
    rw [hw] at hw2; cases hw2
    exact fin _ _ _ _ hw rfl rfl rfl h2 e2
  · have hw2 : whereM T key = some none := by
      rcases where_ok ok key with ⟨j, w, wh⟩ | ⟨j, w, wh, _⟩ | ⟨w, _, _⟩
      · exact absurd wh (hn j)
      · exact absurd wh (hne j)
      · exact w
    rw [hw] at hw2; cases hw2
    exact fin _ _ _ _ hw rfl rfl rfl h2 e2
end
end Go.Proofs.Ytkedkajdiclmjaa.V.D
