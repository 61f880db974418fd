/- Plain facts of Prune: how many stay, that a second Prune lets nothing go, where the newest's epoch and later ones are asked for; epochs' bounds; no condition. -/
import Derived.Test.YtapomjhjpejimaaCe
namespace Go.Proofs.Ytapomjhjpejimaa.V
open Go
set_option linter.unusedVariables false
set_option linter.unusedSimpArgs false

/-- How many unlike numbers stand in a list, behind those of S. -/
def cntU (S : List Int) : List Int → Nat
  | [] => 0
  | x :: r => (if x ∈ S then 0 else 1) + cntU (S ++ [x]) r
theorem set_true_count : ∀ (S : List Bool) (i : Nat), S[i]? = some true → S.set i true = S
  | [], i, h => by simp at h
  | b :: s, 0, h => by simp at h; subst h; rfl
  | b :: s, i + 1, h => by simp at h; simp [set_true_count s i h]
theorem mark_countU (L : List Ver) : ∀ (E Z : List Int) (S : List Bool), S.length = L.length → (∀ e ∈ Z, cntM L e ≠ 0 → S[cntM L e - 1]? = some true) → (E.foldl (markM L) S).count true ≤ S.count true + cntU Z E
  | [], Z, S, _, _ => by simp [cntU]
  | e :: r, Z, S, hl, hz => by
    rw [List.foldl_cons]
    have hcl : cntM L e ≤ L.length := List.countP_le_length
    have hz2 : ∀ e' ∈ Z ++ [e], cntM L e' ≠ 0 → (markM L S e)[cntM L e' - 1]? = some true := fun e' he' hc => by
      rcases List.mem_append.1 he' with h | h
      · exact mark_mono L [e] S (hz e' h hc)
      · simp at h; subst h
        have := mark_has L hc [e'] S (by simp) hl
        exact this
    have h1 := mark_countU L r (Z ++ [e]) (markM L S e) (by rw [markM_len]; exact hl) hz2
    have h2 : (markM L S e).count true ≤ S.count true + (if e ∈ Z then 0 else 1) := by
      unfold markM
      split
      · split <;> omega
      · rename_i hc
        split
        · rename_i hm
          rw [set_true_count S _ (hz e hm hc)]; exact Nat.le_refl _
        · exact cntSet _ _
    simp only [cntU]; omega
theorem prune_fewU (L : List Ver) (E : List Int) : (pruneM L E).length ≤ cntU [] E + 1 := by
  have h1 := one_len (keepM L (stayM L E))
  have h2 := keep_count L (stayM L E)
  have h3 := mark_countU L E [] ((List.replicate L.length false).set (L.length - 1) true) (by simp) (fun e he => by cases he)
  have h4 := cntSet (List.replicate L.length false) (L.length - 1)
  have h5 : (List.replicate L.length false).count true = 0 := by simp [List.count_replicate]
  unfold pruneM stayM at *
  omega
/-- Who is kept. -/
theorem keep_mem {x : Ver} : ∀ {L : List Ver} {S : List Bool}, x ∈ keepM L S → ∃ i : Nat, L[i]? = some x ∧ S[i]? = some true
  | [], S, h => by simp [keepM] at h
  | y :: r, [], h => by simp [keepM] at h
  | y :: r, b :: s, h => by
    unfold keepM at h
    split at h
    · rename_i hb
      rcases List.mem_cons.1 h with h | h
      · exact ⟨0, by simp [h], by simp [hb]⟩
      · obtain ⟨i, h1, h2⟩ := keep_mem h; exact ⟨i + 1, by simpa using h1, by simpa using h2⟩
    · obtain ⟨i, h1, h2⟩ := keep_mem h; exact ⟨i + 1, by simpa using h1, by simpa using h2⟩
theorem mark_who (L : List Ver) {i : Nat} : ∀ (E : List Int) (S : List Bool), (E.foldl (markM L) S)[i]? = some true → S[i]? = some true ∨ ∃ e ∈ E, cntM L e = i + 1
  | [], S, h => .inl h
  | e :: r, S, h => by
    rw [List.foldl_cons] at h
    rcases mark_who L r _ h with h | ⟨e', h1, h2⟩
    · unfold markM at h
      split at h
      · exact .inl h
      · rename_i hc
        rw [List.getElem?_set] at h
        split at h
        · rename_i hi; exact .inr ⟨e, by simp, by omega⟩
        · exact .inl h
    · exact .inr ⟨e', List.mem_cons_of_mem _ h1, h2⟩
theorem stay_who {L : List Ver} {E : List Int} {i : Nat} (h : (stayM L E)[i]? = some true) : i = L.length - 1 ∨ ∃ e ∈ E, cntM L e = i + 1 := by
  rcases mark_who L E _ h with h | h
  · rw [List.getElem?_set] at h
    split at h
    · rename_i hi; exact .inl hi.symm
    · rw [List.getElem?_replicate] at h; split at h <;> simp at h
  · exact .inr h
theorem rise_nodup {L : List Ver} (hr : Rise L) : L.Nodup := by
  refine List.Pairwise.imp (fun {a b} hab e => ?_) hr
  subst e; omega
theorem sub_all {l R : List Ver} (h : l.Sublist R) : R.Nodup → (∀ x ∈ R, x ∈ l) → l = R := by
  induction h with
  | slnil => intro _ _; rfl
  | cons a h ih =>
    intro hn ha
    have h1 := List.nodup_cons.1 hn
    exact absurd (h.subset (ha a (by simp))) h1.1
  | cons_cons a h ih =>
    intro hn ha
    have h1 := List.nodup_cons.1 hn
    rw [ih h1.2 fun x hx => by
      rcases List.mem_cons.1 (ha x (List.mem_cons_of_mem _ hx)) with e | e
      · subst e; exact absurd hx h1.1
      · exact e]
/-- What Prune has kept, a second Prune keeps. -/
theorem keep_again {L : List Ver} (hr : Rise L) (E : List Int) : keepM (keepM L (stayM L E)) (stayM (keepM L (stayM L E)) E) = keepM L (stayM L E) := by
  by_cases hn : L = []
  · subst hn; simp [keepM]
  · obtain ⟨R, hR⟩ : ∃ R, keepM L (stayM L E) = R := ⟨_, rfl⟩
    have hlast := keep_last hr hn E
    have hsub := keep_sub L (stayM L E)
    rw [hR] at hlast hsub ⊢
    have hrR := rise_sub hr hsub
    have hnR : R ≠ [] := fun e => by rw [e] at hlast; simp at hlast
    have hall : ∀ x ∈ R, x ∈ keepM R (stayM R E) := fun x hx => by
      obtain ⟨i, h1, h2⟩ := keep_mem (L := L) (S := stayM L E) (by rw [hR]; exact hx)
      rcases stay_who h2 with h3 | ⟨e, he, h3⟩
      · have hxl : x = L.getLast hn := by
          have := last_get hn
          rw [← h3, h1] at this; exact Option.some.inj this
        have h4 := last_get hnR
        have : R.getLast hnR = x := by rw [List.getLast?_eq_some_getLast hnR] at hlast; rw [Option.some.inj hlast, hxl]
        rw [this] at h4
        exact mem_keep h4 (stay_last hnR E)
      · have h4 := at_last hr e
        rw [if_neg (by omega), show cntM L e - 1 = i from by omega, h1] at h4
        have h5 := keep_at hr he
        rw [hR, h4] at h5
        have h6 := at_last hrR e
        rw [h5] at h6
        have hc : cntM R e ≠ 0 := fun hc => by rw [if_pos hc] at h6; cases h6
        rw [if_neg hc] at h6
        exact mem_keep h6.symm (mark_has R hc E _ he (by simp))
    have hs2 := keep_sub R (stayM R E)
    exact sub_all hs2 (rise_nodup hrR) hall
theorem one_one (R : List Ver) : oneM (oneM R) = oneM R := by
  unfold oneM
  split
  · rename_i x h
    split at h
    · rename_i y
      split at h
      · cases h
      · rename_i hy; cases h; simp [hy]
    · subst h; simp_all
  · rfl
theorem prune_again {L : List Ver} (hr : Rise L) (E : List Int) : pruneM (pruneM L E) E = pruneM L E := by
  have hk := keep_again hr E
  unfold pruneM at *
  obtain ⟨R, hR⟩ : ∃ R, keepM L (stayM L E) = R := ⟨_, rfl⟩
  rw [hR] at hk ⊢
  by_cases ho : oneM R = R
  · rw [ho, hk, ho]
  · have : oneM R = [] := by
      unfold oneM at ho ⊢
      split
      · rename_i x
        split
        · rfl
        · rename_i hx; simp [hx] at ho
      · rename_i h; exfalso; apply ho; split
        · rename_i y; exact absurd rfl (h y)
        · rfl
    rw [this]; simp [keepM, oneM]
/-- An epoch from the newest version's on. -/
theorem at_new {L : List Ver} (hr : Rise L) (hn : L ≠ []) {e : Int} (he : (L.getLast hn).epoch ≤ e) : (L.filter fun x => decide (x.epoch ≤ e)).getLast? = some (L.getLast hn) := by
  have : L.filter (fun x => decide (x.epoch ≤ e)) = L := by
    rw [List.filter_eq_self]
    intro x hx
    obtain ⟨i, hi, rfl⟩ := List.mem_iff_getElem.1 hx
    by_cases hl : i = L.length - 1
    · have : L.getLast hn = L[i] := by rw [List.getLast_eq_getElem]; congr 1; exact hl.symm
      rw [this] at he; simpa using he
    · have := hr.lt (i := i) (j := L.length - 1) (by omega) (List.getElem?_eq_getElem hi) (last_get hn)
      simp; omega
  rw [this, List.getLast?_eq_some_getLast hn]
theorem prune_at_new {L : List Ver} (hr : Rise L) (E : List Int) {e : Int} (he : (newestM L).2.1 ≤ e) : atM (pruneM L E) e = atM L e := by
  by_cases hn : L = []
  · subst hn; simp [pruneM, keepM, oneM]
  · have hle : newestM L = ((L.getLast hn).value, (L.getLast hn).epoch, !(L.getLast hn).dead) := by unfold newestM; rw [List.getLast?_eq_some_getLast hn]
    rw [hle] at he
    have h1 := at_new hr hn he
    have hl := keep_last hr hn E
    have hrR := rise_sub hr (keep_sub L (stayM L E))
    have hnR : keepM L (stayM L E) ≠ [] := fun e => by rw [e] at hl; simp at hl
    have hx : (keepM L (stayM L E)).getLast hnR = L.getLast hn := by rw [List.getLast?_eq_some_getLast hnR] at hl; exact Option.some.inj hl
    have h2 := at_new hrR hnR (e := e) (by rw [hx]; exact he)
    unfold pruneM
    rw [one_at, atM_of]
    rw [h1, h2, hx]
/-- A lone tombstone is not left. -/
theorem prune_lone (L : List Ver) (E : List Int) {x : Ver} (h : pruneM L E = [x]) : x.dead = false := by
  unfold pruneM oneM at h
  split at h
  · split at h
    · cases h
    · rename_i hx; cases h; simpa using hx
  · rename_i hno; exact absurd h (by simpa using hno x)
/-! ### Epochs lie from 1 to MaxEpoch -/
def EpOk (L : List Ver) : Prop := ∀ x ∈ L, 1 ≤ x.epoch ∧ x.epoch ≤ 1099511627776
theorem EpOk.sub {L R : List Ver} (h : EpOk L) (hs : R.Sublist L) : EpOk R := fun x hx => h x (hs.subset hx)
theorem EpOk.lay {L : List Ver} (h : EpOk L) {x : Ver} (hm : mayM L x.epoch = 0) : EpOk (layM L x) := by
  have hx : 1 ≤ x.epoch ∧ x.epoch ≤ 1099511627776 := by
    unfold mayM at hm
    split at hm
    · omega
    · omega
  unfold layM
  intro y hy
  split at hy
  · rcases List.mem_append.1 hy with hy | hy
    · exact h y (List.dropLast_subset L hy)
    · simp at hy; subst hy; exact hx
  · rcases List.mem_append.1 hy with hy | hy
    · exact h y hy
    · simp at hy; subst hy; exact hx
theorem EpOk.newest {L : List Ver} (h : EpOk L) : 0 ≤ (newestM L).2.1 ∧ (newestM L).2.1 ≤ 1099511627776 := by
  unfold newestM
  cases hl : L.getLast? with
  | none => simp
  | some x => have := h x (List.mem_of_getLast? hl); simp; omega
theorem newest_ge {L : List Ver} (hr : Rise L) {x : Ver} (hx : x ∈ L) : x.epoch ≤ (newestM L).2.1 := by
  have hn : L ≠ [] := List.ne_nil_of_mem hx
  have hle : newestM L = ((L.getLast hn).value, (L.getLast hn).epoch, !(L.getLast hn).dead) := by unfold newestM; rw [List.getLast?_eq_some_getLast hn]
  rw [hle]
  obtain ⟨i, hi, rfl⟩ := List.mem_iff_getElem.1 hx
  by_cases hl : i = L.length - 1
  · have : L.getLast hn = L[i] := by rw [List.getLast_eq_getElem]; congr 1; exact hl.symm
    rw [this]; exact Int.le_refl _
  · have := hr.lt (i := i) (j := L.length - 1) (by omega) (List.getElem?_eq_getElem hi) (last_get hn)
    show _ ≤ (L.getLast hn).epoch; omega
end Go.Proofs.Ytapomjhjpejimaa.V
