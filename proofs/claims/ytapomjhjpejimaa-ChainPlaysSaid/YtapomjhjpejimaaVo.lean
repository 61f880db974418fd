/- copy onto an owned list; no condition. -/
import Derived.Test.YtapomjhjpejimaaVl
namespace Go.Proofs.Ytapomjhjpejimaa.V
open Go
set_option linter.unusedVariables false
set_option linter.unusedSimpArgs false
section
variable {P : Program} {h : H} {α : Type} {f : α → List Value} {k : Nat} {s : Sl} {L : List α} {t e : TypeId} {bytes : Nat} {z : Value}
theorem own_setFirst {b : Nat} {M : List α} {K : H → Prop} (hf : ∀ x, (f x).length = k) (o : Owns h s e k (L.flatMap f)) (hp : s.ptr = some ⟨b, 0, none⟩) (hi : M.length ≤ L.length)
    (kk : ∀ h', Owns h' s e k ((M ++ L.drop M.length).flatMap f) → Only (fun b => s.blk = some b) h h' → h'.size = h.size → K h') : stH h ⟨b, 0, none⟩ (M.flatMap f) K :=
  own_set o hp (by rw [flat_len f k hf, flat_len f k hf, Nat.zero_add]; exact Nat.mul_le_mul_right _ hi) fun h' h1 h2 h3 => kk h' (by
    rw [List.flatMap_append]
    have : (L.flatMap f).drop (0 + (M.flatMap f).length) = (L.drop M.length).flatMap f := by
      have e2 : L = L.take M.length ++ L.drop M.length := (List.take_append_drop _ L).symm
      conv => lhs; rw [e2, List.flatMap_append]
      have hlen : ((L.take M.length).flatMap f).length = M.length * k := by rw [flat_len f k hf, List.length_take, Nat.min_eq_left hi]
      rw [Nat.zero_add, flat_len f k hf, ← hlen, List.drop_left]
    rw [this, List.take_zero, List.nil_append] at h1
    exact h1) h2 h3
theorem copy_of {x : Sl} {M : List α} {u ty : TypeId} {K : Int → H → Prop} (hf : ∀ x, (f x).length = k) (hk : 0 < k) (el : El P t e k bytes z) (hs : Owns h s e k (L.flatMap f)) (hx : Reads h x k (M.flatMap f)) (ho : ∀ x, ∀ v ∈ f x, v.oneCell' = true) (hle : M.length ≤ L.length) (hsmall : M.length < 9223372036854775808)
    (kk : ∀ h', Owns h' s e k ((M ++ L.drop M.length).flatMap f) → Only (fun b => s.blk = some b) h h' → h'.size = h.size → K (M.length : Int) h') : runI P (Builtin.copy_ #[t, u] ty #[s.enc, x.enc]) h .i64 K := by
  obtain ⟨i, hi, hz, hsz, hby⟩ := el.info
  have h1 := own_len hf hk hs
  have h2 := rd_len hf hk hx
  show RunS P (Builtin.copy_ #[t, u] ty #[s.enc, x.enc]) h fun v h' => ∃ r, v = .int .i64 r ∧ K r h'
  unfold Builtin.copy_
  simp only [List.getElem?_toArray, List.getElem?_cons_zero, List.getElem?_cons_succ]
  refine RunS.bind (RunS.of_run (fun w _ => run_underlying el.slice w) ?_)
  simp only [Sl.enc]
  refine RunS.bind (RunS.of_run (v := x.len) (fun w _ => by simp [Builtin.lenOf, go_sem]) ?_)
  have hmin : Nat.min x.len s.len = x.len := Nat.min_eq_left (by omega)
  refine RunS.bind (RunS.of_run (v := k) (fun w _ => by simp [sizeOf, typeInfo, hi, hsz, go_sem]) ?_)
  refine RunS.bind (RunS.firstCells (s := x) hmin hx ?_)
  have hend : ∀ h', K (M.length : Int) h' → RunS P (pure (goInt (x.len.min s.len : Nat)) : Sem Value) h' fun v h' => ∃ r, v = .int .i64 r ∧ K r h' := fun h' q => RunS.pure ⟨(M.length : Int), by rw [show x.len.min s.len = M.length from by rw [← h2]; exact hmin]; rfl, q⟩
  have hones : ∀ v ∈ M.flatMap f, v.oneCell' = true := fun v hv => by
    obtain ⟨x, _, hx⟩ := List.mem_flatMap.1 hv
    exact ho x v hx
  cases hp : s.ptr with
  | none =>
    have hl : s.len = 0 := by
      obtain ⟨_, ⟨_, h3, _⟩ | ⟨b, c, h3, _⟩⟩ := hs
      · exact h3
      · rw [hp] at h3; cases h3
    have hM : M = [] := List.eq_nil_of_length_eq_zero (by omega)
    have hL : L = [] := List.eq_nil_of_length_eq_zero (by omega)
    subst hM; subst hL
    exact hend h (kk h (by simpa using hs) (.refl _) rfl)
  | some a =>
    obtain ⟨b, rfl⟩ : ∃ b, a = ⟨b, 0, none⟩ := by
      obtain ⟨_, ⟨h3, _⟩ | ⟨b, c, h3, _⟩⟩ := hs
      · rw [hp] at h3; cases h3
      · rw [hp] at h3; exact ⟨b, Option.some.inj h3⟩
    have hst := own_setFirst (K := fun h' => K (M.length : Int) h') hf hs hp hle kk
    refine RunS.bind (RunS.storeCells _ 0 _ (by simpa using hones) (fun j hj => ?_) (hend _ hst.2))
    rw [Nat.zero_add]
    exact hst.1 j (by simpa using hj)
end
end Go.Proofs.Ytapomjhjpejimaa.V
