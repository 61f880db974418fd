/- Every so-many-th number, in lists that are merged: plain Lean; no condition. -/
import Derived.Test.YtidpbnbjpglhfaaMu
import Derived.Test.YtidpbnbjpglhfaaMl
import Derived.Test.YtidpbnbjpglhfaaMh
namespace Go.Proofs.Ytidpbnbjpglhfaa.V
open Go
set_option linter.unusedVariables false
set_option linter.unusedSimpArgs false
def rowK (k i : Nat) : Rw8 := ⟨⟨0, ⟨#[107]⟩, (i : Int)⟩, ⟨(k : Int) + 1, 0, 0, 0⟩⟩
theorem cmp_rowK (k i k' i' : Nat) : cmpC (rowK k i).Cell (rowK k' i').Cell = cmpI (i : Int) (i' : Int) := by
  unfold cmpC rowK
  have h1 : cmpI 0 0 = 0 := by decide
  have h2 : cmpM ⟨#[107]⟩ ⟨#[107]⟩ = 0 := by decide
  simp [h1, h2]
section
variable (L n : Nat)
def pg : Nat → Nat → List Nat
  | 0, _ => []
  | m + 1, i => if i < n then i :: pg m (i + L) else []
def PG (i : Nat) : List Nat := pg L n (n - i) i
variable {L n}
theorem pg_fuel (hL : 0 < L) : ∀ (m m' i : Nat), n - i ≤ m → n - i ≤ m' → pg L n m i = pg L n m' i
  | 0, 0, i, _, _ => rfl
  | 0, m' + 1, i, h1, h2 => by rw [pg, pg, if_neg (by omega)]
  | m + 1, 0, i, h1, h2 => by rw [pg, pg, if_neg (by omega)]
  | m + 1, m' + 1, i, h1, h2 => by
    rw [pg, pg]
    split
    · rw [pg_fuel hL m m' (i + L) (by omega) (by omega)]
    · rfl
theorem PG_cons (hL : 0 < L) {i : Nat} (h : i < n) : PG L n i = i :: PG L n (i + L) := by
  unfold PG
  obtain ⟨m, hm⟩ : ∃ m, n - i = m + 1 := ⟨n - i - 1, by omega⟩
  rw [hm, pg, if_pos h, pg_fuel hL m (n - (i + L)) (i + L) (by omega) (by omega)]
theorem PG_nil {i : Nat} (h : n ≤ i) : PG L n i = [] := by
  unfold PG
  rw [show n - i = 0 from by omega, pg]
theorem pg_ge (hL : 0 < L) : ∀ (m i : Nat), ∀ x ∈ pg L n m i, i ≤ x
  | 0, i, x, h => by rw [pg] at h; cases h
  | m + 1, i, x, h => by
    rw [pg] at h
    split at h
    · rcases List.mem_cons.1 h with rfl | h
      · omega
      · have := pg_ge hL m (i + L) x h; omega
    · cases h
theorem pg_up (hL : 0 < L) : ∀ (m i : Nat), (pg L n m i).Pairwise (· < ·)
  | 0, i => by rw [pg]; exact .nil
  | m + 1, i => by
    rw [pg]
    split
    · exact List.pairwise_cons.2 ⟨fun x hx => by have := pg_ge hL m (i + L) x hx; omega, pg_up hL m (i + L)⟩
    · exact .nil
theorem pg_len (hL : 0 < L) : ∀ (m i : Nat), (pg L n m i).length ≤ m
  | 0, i => by rw [pg]; simp
  | m + 1, i => by
    rw [pg]
    split
    · have := pg_len hL m (i + L); simp; omega
    · simp
variable (L n)
/-- The lists, where the numbers below b + c are gone. -/
def Sb (b c : Nat) : List (List Rw8) := (List.range L).map fun k => (PG L n (if k < c then b + L + k else b + k)).map (rowK k)
def rowA (i : Nat) : Rw8 := rowK (i % L) i
variable {L n}
theorem Sb_at {b c k : Nat} (hk : k < L) : (Sb L n b c)[k]? = some ((PG L n (if k < c then b + L + k else b + k)).map (rowK k)) := by
  unfold Sb; rw [List.getElem?_map, List.getElem?_range hk]; rfl
theorem Sb_none {b c k : Nat} (hk : ¬ k < L) : (Sb L n b c)[k]? = none := by
  unfold Sb; rw [List.getElem?_map, List.getElem?_eq_none (by simp; omega)]; rfl
theorem mR_Sb (hL : 0 < L) : ∀ (m q c : Nat), n - (q * L + c) = m → c < L → mR (Sb L n (q * L) c) = (List.range' (q * L + c) m).map (rowA L)
  | 0, q, c, hm, hc => by
    refine mAll_none fun l hl => ?_
    obtain ⟨k, hk⟩ := List.mem_iff_getElem?.1 hl
    by_cases hkL : k < L
    · rw [Sb_at hkL] at hk
      cases hk
      rw [PG_nil (by split <;> omega)]; rfl
    · rw [Sb_none hkL] at hk; cases hk
  | m + 1, q, c, hm, hc => by
    generalize hb : q * L = b at hm ⊢
    have hj : b + c < n := by omega
    have hat : (Sb L n b c)[c]? = some (rowK c (b + c) :: (PG L n (b + c + L)).map (rowK c)) := by
      rw [Sb_at hc, if_neg (by omega), PG_cons hL hj]; rfl
    have hhead : ∀ (k : Nat) y s, k ≠ c → (Sb L n b c)[k]? = some (y :: s) → ∃ i, y = rowK k i ∧ b + c < i ∧ k < L := fun k y s hk hy => by
      by_cases hkL : k < L
      · rw [Sb_at hkL] at hy
        have hy' := Option.some.inj hy
        have hmem : y ∈ (PG L n (if k < c then b + L + k else b + k)).map (rowK k) := by rw [hy']; simp
        obtain ⟨i, hi, rfl⟩ := List.mem_map.1 hmem
        have := pg_ge hL _ _ i hi
        refine ⟨i, rfl, ?_, hkL⟩
        split at this <;> omega
      · rw [Sb_none hkL] at hy; cases hy
    have hp := mAll_pick (le := leC) hat (fun k y s hk hy => by
      obtain ⟨i, rfl, hi, _⟩ := hhead k y s (by omega) hy
      unfold leC
      rw [cmp_rowK]
      have := cmpI_val (i : Int) ((b + c : Nat) : Int)
      exact decide_eq_false (by omega)) (fun k y s hk hy => by
      obtain ⟨i, rfl, hi, _⟩ := hhead k y s (by omega) hy
      unfold leC
      rw [cmp_rowK]
      have := cmpI_val ((b + c : Nat) : Int) (i : Int)
      exact decide_eq_true (by omega))
    have hrow : rowA L (b + c) = rowK c (b + c) := by
      unfold rowA
      rw [← hb, show (q * L + c) % L = c from by rw [Nat.mul_comm, Nat.mul_add_mod]; exact Nat.mod_eq_of_lt hc]
    rw [List.range'_succ, List.map_cons, hrow]
    show mAll leC (Sb L n b c) = _
    rw [hp]
    congr 1
    by_cases hc1 : c + 1 < L
    · have hset : (Sb L n b c).set c ((PG L n (b + c + L)).map (rowK c)) = Sb L n b (c + 1) := by
        apply List.ext_getElem?; intro k
        rw [List.getElem?_set]
        by_cases e : c = k
        · subst e
          rw [if_pos rfl, if_pos (List.getElem?_eq_some_iff.1 hat).1, Sb_at hc, if_pos (by omega), show b + L + c = b + c + L from by omega]
        · rw [if_neg e]
          by_cases hkL : k < L
          · rw [Sb_at hkL, Sb_at hkL]
            by_cases hkc : k < c
            · rw [if_pos hkc, if_pos (by omega)]
            · rw [if_neg hkc, if_neg (by omega)]
          · rw [Sb_none hkL, Sb_none hkL]
      rw [hset, ← hb]
      exact mR_Sb hL m q (c + 1) (by omega) hc1
    · have hset : (Sb L n b c).set c ((PG L n (b + c + L)).map (rowK c)) = Sb L n (b + L) 0 := by
        apply List.ext_getElem?; intro k
        rw [List.getElem?_set]
        by_cases e : c = k
        · subst e
          rw [if_pos rfl, if_pos (List.getElem?_eq_some_iff.1 hat).1, Sb_at hc, if_neg (by omega), show b + L + c = b + c + L from by omega]
        · rw [if_neg e]
          by_cases hkL : k < L
          · rw [Sb_at hkL, Sb_at hkL, if_pos (by omega), if_neg (by omega)]
          · rw [Sb_none hkL, Sb_none hkL]
      have e1 : b + L = (q + 1) * L := by rw [Nat.add_mul, hb]; omega
      rw [hset, e1]
      have := mR_Sb hL m (q + 1) 0 (by omega) (by omega)
      show mR _ = _
      rw [this, show (q + 1) * L + 0 = b + c + 1 from by omega]
theorem mR_rows (hL : 0 < L) : mR (Sb L n 0 0) = (List.range n).map (rowA L) := by
  have := mR_Sb (L := L) (n := n) hL n 0 0 (by omega) hL
  rw [Nat.zero_mul, Nat.zero_add] at this
  rw [this, List.range_eq_range']
theorem mem_mR {x : Rw8} : ∀ {Ls : List (List Rw8)}, x ∈ mR Ls ↔ ∃ l ∈ Ls, x ∈ l
  | [] => by simp [mAll]
  | l :: Ls => by
    show x ∈ List.merge l (mAll leC Ls) leC ↔ _
    rw [List.mem_merge]
    have := mem_mR (x := x) (Ls := Ls)
    rw [this]; simp
theorem rowK_start {k i k' i' : Nat} (h : rowK k i = rowK k' i') : i = i' := by
  have : (rowK k i).Cell.Start = (rowK k' i').Cell.Start := by rw [h]
  unfold rowK at this; simp only at this; omega
/-- The numbers' lists. -/
theorem ints_all (hL : 0 < L) (hn : L < 1000000) : listsM leI (((List.range L).map fun k => (PG L n k).map fun (i : Nat) => (i : Int)).length + 1) ((List.range L).map fun k => (PG L n k).map fun (i : Nat) => (i : Int)) = (List.range n).map fun (i : Nat) => (i : Int) := by
  have hm : ∀ (k i : Nat), k < L → i ∈ PG L n k → i < n := fun k i hk hi => by
    have h1 : rowK k i ∈ mR (Sb L n 0 0) := mem_mR.2 ⟨_, List.mem_of_getElem? (Sb_at hk), List.mem_map.2 ⟨i, by rw [if_neg (by omega), Nat.zero_add]; exact hi, rfl⟩⟩
    rw [mR_rows hL] at h1
    obtain ⟨i', h2, h3⟩ := List.mem_map.1 h1
    have := rowK_start h3
    simp at h2; omega
  have hm2 : ∀ i, i < n → ∃ k, k < L ∧ i ∈ PG L n k := fun i hi => by
    have h1 : rowA L i ∈ mR (Sb L n 0 0) := by rw [mR_rows hL]; exact List.mem_map.2 ⟨i, by simpa using hi, rfl⟩
    obtain ⟨l, h2, h3⟩ := mem_mR.1 h1
    obtain ⟨k, hk⟩ := List.mem_iff_getElem?.1 h2
    by_cases hkL : k < L
    · rw [Sb_at hkL] at hk
      cases hk
      obtain ⟨i', h4, h5⟩ := List.mem_map.1 h3
      rw [if_neg (by omega), Nat.zero_add] at h4
      have := rowK_start (k' := i % L) h5
      subst this
      exact ⟨k, hkL, h4⟩
    · rw [Sb_none hkL] at hk; cases hk
  have up : ∀ A ∈ ((List.range L).map fun k => (PG L n k).map fun (i : Nat) => (i : Int)), Up A := fun A hA => by
    obtain ⟨k, _, rfl⟩ := List.mem_map.1 hA
    show List.Pairwise _ _
    rw [List.pairwise_map]
    exact (pg_up hL _ _).imp fun h => by omega
  obtain ⟨f1, f2⟩ := lists_facts (((List.range L).map fun k => (PG L n k).map fun (i : Nat) => (i : Int)).length + 1) _ (Nat.lt_succ_self _) up
  refine sup_unique _ _ f1 ?_ fun z => ?_
  · show List.Pairwise _ _
    rw [List.pairwise_map]
    exact (List.pairwise_lt_range).imp fun h => by omega
  · rw [f2]
    constructor
    · rintro ⟨A, hA, hz⟩
      obtain ⟨k, hk, rfl⟩ := List.mem_map.1 hA
      obtain ⟨i, hi, rfl⟩ := List.mem_map.1 hz
      exact List.mem_map.2 ⟨i, by simpa using hm k i (by simpa using hk) hi, rfl⟩
    · intro hz
      obtain ⟨i, hi, rfl⟩ := List.mem_map.1 hz
      obtain ⟨k, hk, hik⟩ := hm2 i (by simpa using hi)
      exact ⟨_, List.mem_map.2 ⟨k, by simpa using hk, rfl⟩, List.mem_map.2 ⟨i, hik, rfl⟩⟩
end
end Go.Proofs.Ytidpbnbjpglhfaa.V
