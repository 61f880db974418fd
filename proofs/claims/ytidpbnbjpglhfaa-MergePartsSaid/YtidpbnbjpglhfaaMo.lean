/- Lists merged as one; a heap; in plain Lean, no program in sight; no condition. -/
import Derived.Test.YtidpbnbjpglhfaaMn
namespace Go.Proofs.Ytidpbnbjpglhfaa.V
open Go
set_option linter.unusedVariables false
set_option linter.unusedSimpArgs false
/-! ### Merged -/
section
variable {α : Type} (le : α → α → Bool)
/-- Lists as one: the least head is told first, the first of them where several are. -/
def mAll (Ls : List (List α)) : List α := Ls.foldr (fun l m => List.merge l m le) []
variable {le}
theorem merge_nil (m : List α) : List.merge [] m le = m := by simp [List.merge]
theorem merge_nil' (l : List α) : List.merge l [] le = l := by cases l <;> simp [List.merge]
theorem merge_cons (x y : α) (l m : List α) : List.merge (x :: l) (y :: m) le = if le x y then x :: List.merge l (y :: m) le else y :: List.merge (x :: l) m le := by
  rw [List.merge]
theorem mAll_head : ∀ {Ls : List (List α)} {y : α} {r : List α}, mAll le Ls = y :: r → ∃ (j : Nat) (t : List α), Ls[j]? = some (y :: t)
  | [], y, r, h => by simp [mAll] at h
  | l :: Ls, y, r, h => by
    have hm : List.merge l (mAll le Ls) le = y :: r := h
    cases l with
    | nil =>
      rw [merge_nil] at hm
      obtain ⟨j, t, hj⟩ := mAll_head hm
      exact ⟨j + 1, t, by simpa using hj⟩
    | cons a l =>
      cases hq : mAll le Ls with
      | nil =>
        rw [hq, merge_nil'] at hm
        cases hm
        exact ⟨0, _, rfl⟩
      | cons b m =>
        rw [hq, merge_cons] at hm
        split at hm
        · cases hm; exact ⟨0, _, rfl⟩
        · cases hm
          obtain ⟨j, t, hj⟩ := mAll_head hq
          exact ⟨j + 1, t, by simpa using hj⟩
theorem mAll_none : ∀ {Ls : List (List α)}, (∀ l ∈ Ls, l = []) → mAll le Ls = []
  | [], _ => rfl
  | l :: Ls, h => by
    have h1 := h l (by simp)
    subst h1
    show List.merge [] (mAll le Ls) le = []
    rw [mAll_none fun l hl => h l (by simp [hl])]
    exact merge_nil _
/-- The head that is picked: no list ahead has one as small, none behind a smaller one. -/
theorem mAll_pick : ∀ {Ls : List (List α)} {k : Nat} {x : α} {t : List α}, Ls[k]? = some (x :: t) → (∀ (j : Nat) y s, j < k → Ls[j]? = some (y :: s) → le y x = false) → (∀ (j : Nat) y s, k < j → Ls[j]? = some (y :: s) → le x y = true) →
    mAll le Ls = x :: mAll le (Ls.set k t)
  | [], k, x, t, h, _, _ => by simp at h
  | l :: Ls, 0, x, t, h, _, h2 => by
    simp at h
    subst h
    show List.merge (x :: t) (mAll le Ls) le = x :: List.merge t (mAll le Ls) le
    cases hq : mAll le Ls with
    | nil => rw [merge_nil', merge_nil']
    | cons y r =>
      obtain ⟨j, s, hj⟩ := mAll_head hq
      rw [merge_cons, if_pos (h2 (j + 1) y s (by omega) (by simpa using hj))]
  | l :: Ls, k + 1, x, t, h, h1, h2 => by
    have ih := mAll_pick (Ls := Ls) (k := k) (x := x) (t := t) (by simpa using h) (fun j y s hj hy => h1 (j + 1) y s (by omega) (by simpa using hy)) (fun j y s hj hy => h2 (j + 1) y s (by omega) (by simpa using hy))
    show List.merge l (mAll le Ls) le = x :: List.merge l (mAll le (Ls.set k t)) le
    rw [ih]
    cases l with
    | nil => rw [merge_nil, merge_nil]
    | cons y s =>
      rw [merge_cons, if_neg (by rw [h1 0 y s (by omega) rfl]; simp)]
theorem mAll_len : ∀ {Ls : List (List α)}, (mAll le Ls).length = (Ls.map List.length).sum
  | [] => rfl
  | l :: Ls => by
    show (List.merge l (mAll le Ls) le).length = _
    rw [List.length_merge, mAll_len]; simp
end
/-! ### A heap -/
section
variable {α : Type} [Inhabited α]
abbrev g (A : List α) (i : Nat) : α := A.getD i default
def swp (A : List α) (i j : Nat) : List α := (A.set i (g A j)).set j (g A i)
theorem swp_len (A : List α) (i j : Nat) : (swp A i j).length = A.length := by simp [swp]
theorem g_set {A : List α} {i j : Nat} {x : α} (h : i < A.length) : g (A.set i x) j = if i = j then x else g A j := by
  simp only [g, List.getD_eq_getElem?_getD, List.getElem?_set]
  by_cases e : i = j
  · subst e; simp [h]
  · simp [e]
theorem g_swp {A : List α} {i j k : Nat} (hi : i < A.length) (hj : j < A.length) : g (swp A i j) k = if k = j then g A i else if k = i then g A j else g A k := by
  unfold swp
  rw [g_set (by simpa using hj), g_set hi]
  by_cases e : j = k
  · subst e; simp
  · rw [if_neg e, if_neg (show ¬ k = j from fun h => e h.symm)]
    by_cases e2 : i = k
    · rw [if_pos e2, if_pos e2.symm]
    · rw [if_neg e2, if_neg (show ¬ k = i from fun h => e2 h.symm)]
theorem swp_perm {A : List α} {i j : Nat} (hi : i < A.length) (hj : j < A.length) : (swp A i j).Perm A := by
  have e1 : g A j = A[j] := by simp [g, List.getD_eq_getElem?_getD, hj]
  have e2 : g A i = A[i] := by simp [g, List.getD_eq_getElem?_getD, hi]
  unfold swp
  rw [e1, e2]
  exact List.set_set_perm hi hj
variable (lt : α → α → Bool)
/-- An element that is too great is let down: Go's heap.down. -/
def dn : Nat → List α → Nat → Nat → List α × Nat
  | 0, A, n, i => (A, i)
  | m + 1, A, n, i =>
    if n ≤ 2 * i + 1 then (A, i)
    else if lt (g A (if 2 * i + 2 < n ∧ lt (g A (2 * i + 2)) (g A (2 * i + 1)) = true then 2 * i + 2 else 2 * i + 1)) (g A i) = true then
      dn m (swp A i (if 2 * i + 2 < n ∧ lt (g A (2 * i + 2)) (g A (2 * i + 1)) = true then 2 * i + 2 else 2 * i + 1)) n (if 2 * i + 2 < n ∧ lt (g A (2 * i + 2)) (g A (2 * i + 1)) = true then 2 * i + 2 else 2 * i + 1)
    else (A, i)
/-- From s on, no child is smaller than its parent. -/
def HP (A : List α) (n s : Nat) : Prop := ∀ c, 0 < c → c < n → s ≤ (c - 1) / 2 → lt (g A c) (g A ((c - 1) / 2)) = false
structure Ord : Prop where
  asym : ∀ a b, lt a b = true → lt b a = false
  trans : ∀ a b c, lt b a = false → lt c b = false → lt c a = false
variable {lt}
theorem dn_law (o : Ord lt) : ∀ (m : Nat) (A : List α) (n i s : Nat), n ≤ A.length → i < n → s ≤ i → n - i ≤ m →
    (∀ c, 0 < c → c < n → s ≤ (c - 1) / 2 → (c - 1) / 2 ≠ i → lt (g A c) (g A ((c - 1) / 2)) = false) →
    (∀ c, 0 < c → c < n → (c - 1) / 2 = i → 0 < i → s ≤ (i - 1) / 2 → lt (g A c) (g A ((i - 1) / 2)) = false) →
    HP lt (dn lt m A n i).1 n s ∧ (dn lt m A n i).1.Perm A ∧ (dn lt m A n i).1.length = A.length ∧ ∀ k, n ≤ k → g (dn lt m A n i).1 k = g A k
  | 0, A, n, i, s, hn, hi, hs, hm, h1, h2 => by omega
  | m + 1, A, n, i, s, hn, hi, hs, hm, h1, h2 => by
    unfold dn
    by_cases hl : n ≤ 2 * i + 1
    · rw [if_pos hl]
      exact ⟨fun c c0 cn cs => h1 c c0 cn cs (by omega), .refl _, rfl, fun _ _ => rfl⟩
    · rw [if_neg hl]
      generalize hj : (if 2 * i + 2 < n ∧ lt (g A (2 * i + 2)) (g A (2 * i + 1)) = true then 2 * i + 2 else 2 * i + 1) = j
      have hj2 : (j = 2 * i + 1 ∨ j = 2 * i + 2) ∧ j < n ∧ (∀ c, (c = 2 * i + 1 ∨ c = 2 * i + 2) → c < n → lt (g A c) (g A j) = false) := by
        have irr : ∀ a, lt a a = false := fun a => by
          cases h : lt a a with
          | false => rfl
          | true => have := o.asym a a h; rw [h] at this; cases this
        split at hj
        · rename_i h
          subst hj
          refine ⟨.inr rfl, h.1, fun c hc hcn => ?_⟩
          rcases hc with rfl | rfl
          · exact o.asym _ _ h.2
          · exact irr _
        · rename_i h
          subst hj
          refine ⟨.inl rfl, by omega, fun c hc hcn => ?_⟩
          rcases hc with rfl | rfl
          · exact irr _
          · cases h2 : lt (g A (2 * i + 2)) (g A (2 * i + 1)) with
            | false => rfl
            | true => exact absurd ⟨hcn, h2⟩ h
      obtain ⟨ja, jb, jc⟩ := hj2
      have jp : (j - 1) / 2 = i := by omega
      by_cases ht : lt (g A j) (g A i) = true
      · rw [if_pos ht]
        have hiA : i < A.length := by omega
        have hjA : j < A.length := by omega
        have gs : ∀ k, g (swp A i j) k = if k = j then g A i else if k = i then g A j else g A k := fun k => g_swp hiA hjA
        obtain ⟨r1, r2, r3, r4⟩ := dn_law o m (swp A i j) n j s (by rw [swp_len]; exact hn) jb (by omega) (by omega) (fun c c0 cn cs cp => by
          rw [gs, gs, if_neg (fun h => by subst h; omega : ¬ (c - 1) / 2 = j)]
          by_cases e1 : c = j
          · subst e1
            rw [if_pos rfl, if_pos jp]
            exact o.asym _ _ ht
          · rw [if_neg e1]
            by_cases e2 : c = i
            · subst e2
              rw [if_pos rfl, if_neg (by omega)]
              exact h2 j (by omega) jb jp c0 cs
            · rw [if_neg e2]
              by_cases e3 : (c - 1) / 2 = i
              · rw [if_pos e3]
                exact jc c (by omega) cn
              · rw [if_neg e3]
                exact h1 c c0 cn cs e3) (fun c c0 cn cp j0 js => by
          rw [gs, gs, if_neg (by omega), if_neg (by omega), jp, if_neg (by omega), if_pos rfl, ← cp]
          exact h1 c c0 cn (by omega) (by omega))
        exact ⟨r1, r2.trans (swp_perm hiA hjA), by rw [r3, swp_len], fun k hk => by rw [r4 k hk, gs, if_neg (by omega), if_neg (by omega)]⟩
      · rw [if_neg ht]
        have ht' : lt (g A j) (g A i) = false := by simpa using ht
        refine ⟨fun c c0 cn cs => ?_, .refl _, rfl, fun _ _ => rfl⟩
        by_cases e : (c - 1) / 2 = i
        · rw [e]
          exact o.trans _ _ _ ht' (jc c (by omega) cn)
        · exact h1 c c0 cn cs e
/-- The root is the least. -/
theorem hp_root (o : Ord lt) {A : List α} {n : Nat} (h : HP lt A n 0) : ∀ c, c < n → lt (g A c) (g A 0) = false := by
  intro c
  induction c using Nat.strongRecOn with
  | _ c ih =>
    intro hc
    by_cases h0 : c = 0
    · subst h0
      cases h : lt (g A 0) (g A 0) with
      | false => rfl
      | true => have := o.asym _ _ h; rw [h] at this; cases this
    · exact o.trans _ _ _ (ih ((c - 1) / 2) (by omega) (by omega)) (h c (by omega) hc (by omega))
end
end Go.Proofs.Ytidpbnbjpglhfaa.V
