/- The law EpochSets; no condition. -/
import Derived.Test.YtgcmojbajjajgaaEq
namespace Go.Proofs.Ytgcmojbajjajgaa.V
open Go Go.Proofs.Ytgcmojbajjajgaa.V.N
set_option linter.unusedVariables false
set_option linter.unusedSimpArgs false
set_option linter.unusedSectionVars false
/-- Sets within bounds; nobody is owner 0. -/
def Lim (pins : Int) (os : Os) : Prop := os[0]? = some ([], 0) ∧ ∀ x ∈ os, (x.1.length : Int) ≤ pins
theorem Lim.mod {pins : Int} {os : Os} {i : Nat} {f : List Int × Int → List Int × Int} (l : Lim pins os) (hi : 1 ≤ i) (hf : ∀ x, os[i]? = some x → ((f x).1.length : Int) ≤ pins) : Lim pins (os.modify i f) := by
  refine ⟨by rw [get_mod, if_neg (by omega)]; exact l.1, fun x hx => ?_⟩
  rcases mem_modify hx with hx | ⟨y, hy, rfl⟩
  · exact l.2 x hx
  · exact hf y hy
theorem mod_congr {α : Type} {f g : α → α} {l : List α} {i : Nat} {y : α} (hy : l[i]? = some y) (h : f y = g y) : l.modify i f = l.modify i g := by
  apply List.ext_getElem?; intro j
  rw [get_mod, get_mod]
  split
  · rename_i hj; subst hj; rw [hy]; simp [h]
  · rfl
theorem mod_id {α : Type} {f : α → α} {l : List α} {i : Nat} {y : α} (hy : l[i]? = some y) (h : f y = y) : l.modify i f = l := by
  apply List.ext_getElem?; intro j
  rw [get_mod]
  split
  · rename_i hj; subst hj; rw [hy]; simp [h]
  · rfl
theorem ins_in {S : List Int} {e : Int} (s : S.Pairwise (· < ·)) (h : e ∈ S) : insS S e = S :=
  sorted_eq (ins_sorted s) s fun a => by
    rw [mem_ins s]
    exact ⟨fun ha => ha.elim (fun e => e ▸ h) id, .inr⟩
theorem ins_len (e : Int) : ∀ S : List Int, (insS S e).length ≤ S.length + 1
  | [] => by simp [insS]
  | p :: r => by
    have := ins_len e r
    simp only [insS]
    split
    · simp
    · split
      · simp
      · simp; omega
theorem letB_pins (B : Bk) (e : Int) : (letB B e).pins = B.pins := by unfold letB; split <;> rfl
theorem lets_pins : ∀ {l : List Int} {B : Bk}, (l.foldl letB B).pins = B.pins
  | [], _ => rfl
  | e :: l, B => (lets_pins (l := l) (B := letB B e)).trans (letB_pins B e)
section
variable {B : Bk} {x : Stp9} {y : List Int × Int}
theorem do_pins : (doB B x).2.pins = B.pins := by
  unfold doB
  repeat' split
  · unfold sealB; repeat' split
    all_goals rfl
  · unfold innerB; repeat' split
    all_goals rfl
  · unfold joinB; repeat' split
    all_goals rfl
  · unfold releaseB; repeat' split
    · rfl
    · rfl
    · exact letB_pins _ _
  · unfold doneO; repeat' split
    · rfl
    · rfl
    · exact letB_pins _ _
  · unfold dropB; split
    · rfl
    · exact lets_pins
  · unfold beginB; split <;> rfl
  · unfold endB; split <;> rfl
  · rfl
theorem d_none (hk : x.Kind = 1 ∨ x.Kind = 2 ∨ x.Kind = 3 ∨ x.Kind = 4 ∨ x.Kind = 5 ∨ x.Kind = 6) (ho : isO x.Owner = false) : (doB B x).1 = false ∧ (doB B x).2 = B := by
  unfold doB sealB innerB joinB releaseB doneO dropB
  simp only [if_pos ho]
  rcases hk with h | h | h | h | h | h <;> simp [h]
theorem d_else (hk : ¬ (x.Kind = 1 ∨ x.Kind = 2 ∨ x.Kind = 3 ∨ x.Kind = 4 ∨ x.Kind = 5 ∨ x.Kind = 6)) : (doB B x).2.os = B.os := by
  simp only [not_or] at hk
  obtain ⟨h1, h2, h3, h4, h5, h6⟩ := hk
  unfold doB
  rw [if_neg h1, if_neg h2, if_neg h3, if_neg h4, if_neg h5, if_neg h6]
  split
  · unfold beginB; split <;> rfl
  · split
    · unfold endB; split <;> rfl
    · rfl
variable (ho : isO x.Owner = true) (hy : B.os[x.Owner.toNat]? = some y)
include ho hy
theorem set_is : setB B x.Owner = y.1 ∧ innB B x.Owner = y.2 := by unfold setB innB; rw [hy]; exact ⟨rfl, rfl⟩
theorem nf : ¬ isO x.Owner = false := by rw [ho]; simp
theorem d1 (hk : x.Kind = 1) (hl : (y.1.length : Int) ≤ B.pins) (hn : B.now < 1099511627776) : (doB B x).1 = decide ((y.1.length : Int) < B.pins) ∧
    (doB B x).2.os = if (y.1.length : Int) < B.pins then B.os.modify x.Owner.toNat (fun z => (insS z.1 B.now, z.2)) else B.os := by
  obtain ⟨h1, h2⟩ := set_is ho hy
  unfold doB
  rw [if_pos hk, sealB, if_neg (nf ho hy), h1]
  by_cases h : (y.1.length : Int) = B.pins
  · rw [if_pos h]
    exact ⟨by simp [h], by rw [if_neg (by omega)]⟩
  · rw [if_neg h, if_neg (by omega), if_pos (by omega)]
    exact ⟨by simp; omega, mod_congr hy rfl⟩
theorem d2 (hk : x.Kind = 2) (hn : B.now < 1099511627776) : (doB B x).1 = (y.2 == 0) ∧
    (doB B x).2.os = if y.2 = 0 then B.os.modify x.Owner.toNat (fun z => (z.1, B.now)) else B.os := by
  obtain ⟨h1, h2⟩ := set_is ho hy
  unfold doB
  rw [if_neg (by omega), if_pos hk, innerB, if_neg (nf ho hy), h2]
  by_cases h : y.2 = 0
  · rw [if_neg (by simp [h]), if_neg (by omega), if_pos h]
    exact ⟨by simp [h], mod_congr hy rfl⟩
  · rw [if_pos h, if_neg h]
    exact ⟨by simp [h], rfl⟩
theorem d3 (hk : x.Kind = 3) (hs : y.1.Pairwise (· < ·)) (hl : (y.1.length : Int) ≤ B.pins) : (doB B x).1 = (pinB B (ofB x B.now) && (decide (ofB x B.now ∈ y.1) || decide ((y.1.length : Int) < B.pins))) ∧
    (doB B x).2.os = if (doB B x).1 = true then B.os.modify x.Owner.toNat (fun z => (insS z.1 (ofB x B.now), z.2)) else B.os := by
  obtain ⟨h1, h2⟩ := set_is ho hy
  unfold doB
  rw [if_neg (by omega), if_neg (by omega), if_pos hk, joinB, if_neg (nf ho hy), h1]
  by_cases hp : pinB B (ofB x B.now) = false
  · rw [if_pos hp, hp]
    exact ⟨rfl, rfl⟩
  · rw [if_neg hp]
    have hp' : pinB B (ofB x B.now) = true := by simpa using hp
    rw [hp']
    by_cases hm : ofB x B.now ∈ y.1
    · rw [if_pos hm]
      exact ⟨by simp [hm], (mod_id hy (by rw [ins_in hs hm])).symm⟩
    · rw [if_neg hm]
      by_cases h : (y.1.length : Int) = B.pins
      · rw [if_pos h]
        exact ⟨by simp [h, hm], rfl⟩
      · rw [if_neg h]
        exact ⟨by simp [hm]; omega, mod_congr hy rfl⟩
theorem d4 (hk : x.Kind = 4) : (doB B x).1 = decide (ofB x B.now ∈ y.1) ∧
    (doB B x).2.os = if ofB x B.now ∈ y.1 then B.os.modify x.Owner.toNat (fun z => (z.1.filter (· != ofB x B.now), z.2)) else B.os := by
  obtain ⟨h1, h2⟩ := set_is ho hy
  unfold doB
  rw [if_neg (by omega), if_neg (by omega), if_neg (by omega), if_pos hk, releaseB, if_neg (nf ho hy), h1]
  by_cases hm : ofB x B.now ∈ y.1
  · rw [if_neg (by simp [hm]), if_pos hm]
    exact ⟨by simp [hm], (letB_os _ _).trans (mod_congr hy rfl)⟩
  · rw [if_pos hm, if_neg hm]
    exact ⟨by simp [hm], rfl⟩
theorem d5 (hk : x.Kind = 5) : (doB B x).1 = (y.2 != 0) ∧
    (doB B x).2.os = if y.2 = 0 then B.os else B.os.modify x.Owner.toNat (fun z => (z.1, 0)) := by
  obtain ⟨h1, h2⟩ := set_is ho hy
  unfold doB
  rw [if_neg (by omega), if_neg (by omega), if_neg (by omega), if_neg (by omega), if_pos hk, doneO, if_neg (nf ho hy), h2]
  by_cases h : y.2 = 0
  · rw [if_pos h, if_pos h]
    exact ⟨by simp [h], rfl⟩
  · rw [if_neg h, if_neg h]
    exact ⟨by simp [h], letB_os _ _⟩
theorem d6 (hk : x.Kind = 6) : (doB B x).1 = (decide ((y.1.length : Int) > 0) || (y.2 != 0)) ∧
    (doB B x).2.os = B.os.modify x.Owner.toNat (fun z => ([], 0)) := by
  obtain ⟨h1, h2⟩ := set_is ho hy
  unfold doB
  rw [if_neg (by omega), if_neg (by omega), if_neg (by omega), if_neg (by omega), if_neg (by omega), if_pos hk, dropB, if_neg (nf ho hy), h1, h2]
  refine ⟨?_, (lets_os (l := _) (B := _)).1⟩
  by_cases h : y.2 = 0
  · simp [h]
  · simp [h]
end
/-- The law's maps, as far as they are made. -/
structure PM (h2 h : H) (sb ib o : Nat) (ms : Nat → Nat) : Prop where
  ext : Ext h2 h
  sets : ∃ L, MS h sb L ∧ ∀ e, N.getK L e = if 1 ≤ e ∧ e < (o : Int) then some (.map (some (ms e.toNat))) else none
  each : ∀ p, 1 ≤ p → p < o → MS h (ms p) []
  inn : MI h ib (fun _ => none)
  lo : h2.size ≤ sb ∧ h2.size ≤ ib ∧ ∀ p, 1 ≤ p → p < o → h2.size ≤ ms p
  dj : sb ≠ ib ∧ ∀ p, 1 ≤ p → p < o → ms p ≠ sb ∧ ms p ≠ ib ∧ ∀ q, 1 ≤ q → q < o → ms p = ms q → p = q
theorem PM.more {h2 h : H} {sb ib o : Nat} {ms : Nat → Nat} {K : Unit → H → Prop} {c : Nat} {h3 : H} (m : PM h2 h sb ib o ms) (h1 : 1 ≤ o) (hc : c = h.size) (mc : MS h3 c []) (e : Ext h h3) (k : ∀ h', PM h2 h' sb ib (o + 1) (fun p => if p = o then c else ms p) → K () h') :
    RunS PP (Instr.mapUpdate tn_map_int_map_int_bool (.map (some sb)) (.int .i64 (o : Int)) (.map (some c))) h3 K := by
  obtain ⟨L, mL, eL⟩ := m.sets
  have hsb := mL.lt
  have hib := m.inn.lt
  refine updS_of mt_map_int_map_int_bool intT (mL.ext e) fun h' m' oo ss => k h' ?_
  have oo2 : Only (· = sb) h h' := (e.only (S := fun x => x = sb)).trans oo fun _ _ e => e
  have hs := m.ext.size
  refine ⟨m.ext.step oo2 fun n hn hf => by have := m.lo.1; omega, ⟨_, m', fun x => ?_⟩, fun p p1 p2 => ?_, (m.inn.only e (fun f => f)).only oo (fun e => m.dj.1 e.symm), ⟨m.lo.1, m.lo.2.1, fun p p1 p2 => ?_⟩, m.dj.1, fun p p1 p2 => ?_⟩
  · rw [getK_put mL.sk, eL x]
    by_cases hx : x = (o : Int)
    · subst hx
      simp
      exact ⟨by omega, by omega⟩
    · rw [if_neg hx]
      by_cases hi : 1 ≤ x ∧ x < (o : Int)
      · rw [if_pos hi, if_pos (by omega), if_neg (by omega)]
      · rw [if_neg hi, if_neg (by omega)]
  · split
    · exact mc.only oo (by omega)
    · exact (m.each p p1 (by omega)).only oo2 (m.dj.2 p p1 (by omega)).1
  · split
    · omega
    · exact m.lo.2.2 p p1 (by omega)
  · have lt : ∀ q, 1 ≤ q → q < o → ms q < h.size := fun q q1 q2 => (m.each q q1 q2).lt
    split
    · refine ⟨by omega, by omega, fun q q1 q2 hq => ?_⟩
      split at hq
      · omega
      · have := lt q q1 (by omega); omega
    · have hd := m.dj.2 p p1 (by omega)
      refine ⟨hd.1, hd.2.1, fun q q1 q2 hq => ?_⟩
      split at hq
      · have := lt p p1 (by omega); omega
      · exact hd.2.2 q q1 (by omega) hq
end Go.Proofs.Ytgcmojbajjajgaa.V
