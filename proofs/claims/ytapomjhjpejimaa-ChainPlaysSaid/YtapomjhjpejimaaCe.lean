/- Plain facts of rising lists of versions, and of what Prune leaves of them; no condition. -/
import Derived.Test.YtapomjhjpejimaaCd
namespace Go.Proofs.Ytapomjhjpejimaa.V
open Go
set_option linter.unusedVariables false
set_option linter.unusedSimpArgs false

theorem rise_sub {L R : List Ver} (hr : Rise L) (hs : R.Sublist L) : Rise R := List.Pairwise.sublist hs hr
theorem keep_sub : ∀ (L : List Ver) (S : List Bool), (keepM L S).Sublist L
  | [], S => by simp [keepM]
  | x :: r, [] => by simp [keepM]
  | x :: r, b :: s => by
    unfold keepM
    split
    · exact (keep_sub r s).cons_cons x
    · exact (keep_sub r s).cons x
theorem one_sub (R : List Ver) : (oneM R).Sublist R := by
  unfold oneM
  split
  · split <;> simp
  · simp
theorem prune_sub (L : List Ver) (E : List Int) : (pruneM L E).Sublist L := (one_sub _).trans (keep_sub _ _)
theorem mem_keep {x : Ver} : ∀ {L : List Ver} {S : List Bool} {i : Nat}, L[i]? = some x → S[i]? = some true → x ∈ keepM L S
  | [], S, i, h, _ => by simp at h
  | y :: r, [], i, _, h => by simp at h
  | y :: r, b :: s, 0, h1, h2 => by simp at h1 h2; subst h1; subst h2; simp [keepM]
  | y :: r, b :: s, i + 1, h1, h2 => by
    have := mem_keep (L := r) (S := s) (i := i) (by simpa using h1) (by simpa using h2)
    unfold keepM
    split
    · exact List.mem_cons_of_mem _ this
    · exact this
theorem mark_mono (L : List Ver) {i : Nat} : ∀ (E : List Int) (S : List Bool), S[i]? = some true → (E.foldl (markM L) S)[i]? = some true
  | [], S, h => h
  | e :: r, S, h => by
    rw [List.foldl_cons]
    refine mark_mono L r _ ?_
    unfold markM
    split
    · exact h
    · have hi := (List.getElem?_eq_some_iff.1 h).1
      rw [List.getElem?_set]
      split
      · rename_i he; subst he; rw [if_pos hi]
      · exact h
theorem mark_has (L : List Ver) {e : Int} (hc : cntM L e ≠ 0) : ∀ (E : List Int) (S : List Bool), e ∈ E → S.length = L.length → (E.foldl (markM L) S)[cntM L e - 1]? = some true
  | [], S, h, _ => by cases h
  | e' :: r, S, h, hl => by
    rw [List.foldl_cons]
    by_cases he : e = e'
    · subst he
      refine mark_mono L r _ ?_
      have hcl : cntM L e ≤ L.length := List.countP_le_length
      unfold markM
      rw [if_neg hc, List.getElem?_set, if_pos rfl, if_pos (by omega)]
    · exact mark_has L hc r _ (by rcases List.mem_cons.1 h with h | h; exact absurd h he; exact h) (by rw [markM_len]; exact hl)
theorem cntSet : ∀ (S : List Bool) (i : Nat), (S.set i true).count true ≤ S.count true + 1
  | [], i => by simp
  | b :: s, 0 => by cases b <;> simp
  | b :: s, i + 1 => by have := cntSet s i; cases b <;> simp <;> omega
theorem mark_count (L : List Ver) : ∀ (E : List Int) (S : List Bool), (E.foldl (markM L) S).count true ≤ S.count true + E.length
  | [], S => by simp
  | e :: r, S => by
    rw [List.foldl_cons]
    have h1 := mark_count L r (markM L S e)
    have h2 : (markM L S e).count true ≤ S.count true + 1 := by
      unfold markM
      split
      · omega
      · exact cntSet _ _
    simp only [List.length_cons]; omega
theorem keep_count : ∀ (L : List Ver) (S : List Bool), (keepM L S).length ≤ S.count true
  | [], S => by simp [keepM]
  | x :: r, [] => by simp [keepM]
  | x :: r, b :: s => by have := keep_count r s; unfold keepM; cases b <;> simp <;> omega
theorem one_len (R : List Ver) : (oneM R).length ≤ R.length := (one_sub R).length_le
theorem prune_few (L : List Ver) (E : List Int) : (pruneM L E).length ≤ E.length + 1 := by
  have h1 := one_len (keepM L (stayM L E))
  have h2 := keep_count L (stayM L E)
  have h3 := mark_count L E ((List.replicate L.length false).set (L.length - 1) true)
  have h4 := cntSet (List.replicate L.length false) (L.length - 1)
  have h5 : (List.replicate L.length false).count true = 0 := by simp [List.count_replicate]
  unfold pruneM stayM at *
  omega
theorem prune_le (L : List Ver) (E : List Int) : (pruneM L E).length ≤ L.length := (prune_sub L E).length_le
/-- The newest at or below an epoch, told outright. -/
theorem filter_last {R : List Ver} (hr : Rise R) {e : Int} {x : Ver} (hx : x ∈ R) (he : x.epoch ≤ e) (hm : ∀ y ∈ R, y.epoch ≤ e → y.epoch ≤ x.epoch) : (R.filter fun x => decide (x.epoch ≤ e)).getLast? = some x := by
  induction R with
  | nil => cases hx
  | cons y r ih =>
    have hr' := List.pairwise_cons.1 hr
    rcases List.mem_cons.1 hx with h | h
    · subst h
      have : r.filter (fun x => decide (x.epoch ≤ e)) = [] := by
        simp only [List.filter_eq_nil_iff, decide_eq_true_eq]
        intro z hz hze
        have := hm z (List.mem_cons_of_mem _ hz) hze
        have := hr'.1 z hz
        omega
      simp [he, this]
    · have hy : y.epoch ≤ e := by have := hr'.1 x h; omega
      have := ih hr'.2 h fun z hz => hm z (List.mem_cons_of_mem _ hz)
      simp only [List.filter_cons, hy, decide_true, if_true, List.getLast?_cons, this, Option.getD_some]
theorem filter_none {R : List Ver} {e : Int} (h : ∀ y ∈ R, e < y.epoch) : (R.filter fun x => decide (x.epoch ≤ e)).getLast? = none := by
  rw [List.getLast?_eq_none_iff, List.filter_eq_nil_iff]
  intro y hy; have := h y hy; simp; omega
theorem mem_of_last {L : List Ver} {e : Int} {x : Ver} (h : (L.filter fun x => decide (x.epoch ≤ e)).getLast? = some x) : x ∈ L ∧ x.epoch ≤ e := by
  have := List.mem_of_getLast? h
  rw [List.mem_filter] at this
  exact ⟨this.1, by simpa using this.2⟩
theorem last_max {L : List Ver} (hr : Rise L) {e : Int} {x : Ver} (h : (L.filter fun x => decide (x.epoch ≤ e)).getLast? = some x) : ∀ y ∈ L, y.epoch ≤ e → y.epoch ≤ x.epoch := by
  intro y hy hye
  have hf : y ∈ L.filter fun x => decide (x.epoch ≤ e) := List.mem_filter.2 ⟨hy, by simpa using hye⟩
  obtain ⟨l, hl⟩ := List.getLast?_eq_some_iff.1 h
  have hrf : Rise (L.filter fun x => decide (x.epoch ≤ e)) := rise_sub hr List.filter_sublist
  rw [hl] at hf hrf
  rcases List.mem_append.1 hf with hm | hm
  · have := (List.pairwise_append.1 hrf).2.2 y hm x (by simp)
    omega
  · simp at hm; subst hm; omega
/-- Where an epoch is asked for, its version is the same behind Prune (of what stays ahead of the last step). -/
theorem keep_at {L : List Ver} (hr : Rise L) {E : List Int} {e : Int} (he : e ∈ E) : ((keepM L (stayM L E)).filter fun x => decide (x.epoch ≤ e)).getLast? = (L.filter fun x => decide (x.epoch ≤ e)).getLast? := by
  have hk := keep_sub L (stayM L E)
  have hl := at_last hr e
  cases hx : (L.filter fun x => decide (x.epoch ≤ e)).getLast? with
  | none =>
    refine filter_none fun y hy => ?_
    rw [List.getLast?_eq_none_iff, List.filter_eq_nil_iff] at hx
    have := hx y (hk.subset hy); simp at this; omega
  | some x =>
    rw [hx] at hl
    have hc : cntM L e ≠ 0 := fun h => by rw [if_pos h] at hl; cases hl
    rw [if_neg hc] at hl
    have hmem : x ∈ keepM L (stayM L E) := mem_keep hl.symm (mark_has L hc E _ he (by simp))
    exact filter_last (rise_sub hr hk) hmem (mem_of_last hx).2 fun y hy => last_max hr hx y (hk.subset hy)
theorem atM_of {L R : List Ver} {e : Int} (h : (R.filter fun x => decide (x.epoch ≤ e)).getLast? = (L.filter fun x => decide (x.epoch ≤ e)).getLast?) : atM R e = atM L e := by unfold atM; rw [h]
theorem one_at (R : List Ver) (e : Int) : atM (oneM R) e = atM R e := by
  unfold oneM
  split
  · rename_i x
    split
    · rename_i hd
      unfold atM
      by_cases hx : x.epoch ≤ e <;> simp [hx, hd]
    · rfl
  · rfl
theorem prune_at {L : List Ver} (hr : Rise L) {E : List Int} {e : Int} (he : e ∈ E) : atM (pruneM L E) e = atM L e := by
  unfold pruneM
  rw [one_at, atM_of (keep_at hr he)]
theorem stay_last {L : List Ver} (hn : L ≠ []) (E : List Int) : (stayM L E)[L.length - 1]? = some true := by
  have hpos : 0 < L.length := List.length_pos_iff.2 hn
  exact mark_mono L E _ (by rw [List.getElem?_set, if_pos rfl, if_pos (by simp; omega)])
theorem keep_last {L : List Ver} (hr : Rise L) (hn : L ≠ []) (E : List Int) : (keepM L (stayM L E)).getLast? = some (L.getLast hn) := by
  have hmem : L.getLast hn ∈ keepM L (stayM L E) := mem_keep (last_get hn) (stay_last hn E)
  have hk := keep_sub L (stayM L E)
  have hr2 := rise_sub hr hk
  obtain ⟨y, hy⟩ : ∃ y, (keepM L (stayM L E)).getLast? = some y := ⟨_, List.getLast?_eq_some_getLast (List.ne_nil_of_mem hmem)⟩
  rw [hy]
  obtain ⟨l, hl⟩ := List.getLast?_eq_some_iff.1 hy
  congr 1
  rw [hl] at hmem hr2
  rcases List.mem_append.1 hmem with hm | hm
  · exfalso
    have h1 := (List.pairwise_append.1 hr2).2.2 _ hm y (by simp)
    have hyL : y ∈ L := hk.subset (by rw [hl]; simp)
    have hrr : ∀ z ∈ L, z.epoch ≤ (L.getLast hn).epoch := fun z hz => by
      obtain ⟨i, hi, rfl⟩ := List.mem_iff_getElem.1 hz
      by_cases he : i = L.length - 1
      · have : L.getLast hn = L[i] := by rw [List.getLast_eq_getElem]; congr 1; exact he.symm
        rw [this]; exact Int.le_refl _
      · have := hr.lt (i := i) (j := L.length - 1) (by omega) (List.getElem?_eq_getElem hi) (last_get hn); omega
    have := hrr y hyL
    omega
  · simp at hm; exact hm.symm
theorem prune_last {L : List Ver} (hr : Rise L) (hn : L ≠ []) (E : List Int) : (pruneM L E = [] ∧ (L.getLast hn).dead = true) ∨ (pruneM L E).getLast? = some (L.getLast hn) := by
  have hk := keep_last hr hn E
  unfold pruneM oneM
  split
  · rename_i x hx
    rw [hx] at hk
    simp at hk
    split
    · rename_i hd; exact .inl ⟨rfl, by rw [← hk]; exact hd⟩
    · exact .inr (by simp [hk])
  · exact .inr hk
end Go.Proofs.Ytapomjhjpejimaa.V
