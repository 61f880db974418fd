/- merge.Rows: lists of rows as one; no condition. -/
import Derived.Test.YtidpbnbjpglhfaaMq
namespace Go.Proofs.Ytidpbnbjpglhfaa.V
open Go
set_option linter.unusedVariables false
set_option linter.unusedSimpArgs false
theorem el_fronts : El PP tn_merge_fronts tn_merge_front 2 32 (.agg (⟨(⟨none, 0, 0⟩ : Sl), 0⟩ : S_merge_front).cells.toArray) := ⟨Try.underlying86, ⟨Try.t88, by kernel_rfl, by kernel_rfl, by kernel_rfl, by kernel_rfl⟩, by kernel_rfl, by omega, by omega⟩
theorem tk_snoc {α : Type} {l : List α} {i : Nat} {x : α} (h : l[i]? = some x) : l.take (i + 1) = l.take i ++ [x] := by rw [List.take_add_one, h]; rfl
def leC (a b : Rw8) : Bool := decide (cmpC a.Cell b.Cell ≤ 0)
abbrev mR (Ls : List (List Rw8)) : List Rw8 := mAll leC Ls
/-- The fronts of lists, as far as they are gone. -/
structure GR (G : List Fr) (Rem : List (List Rw8)) : Prop where
  a : ∀ f ∈ G, ∃ k : Nat, f.f.list = (k : Int) ∧ Rem[k]? = some f.R ∧ f.R ≠ []
  b : ∀ (k : Nat) R, Rem[k]? = some R → R ≠ [] → ∃ f ∈ G, f.f.list = (k : Int) ∧ f.R = R
  nd : (G.map (·.f.list)).Nodup
  cap : ∀ f ∈ G, f.f.rows.len ≤ f.f.rows.cap
theorem GR.perm {G G' : List Fr} {Rem : List (List Rw8)} (r : GR G Rem) (p : G'.Perm G) : GR G' Rem :=
  ⟨fun f hf => r.a f (p.mem_iff.1 hf), fun k R h1 h2 => by obtain ⟨f, hf, h⟩ := r.b k R h1 h2; exact ⟨f, p.mem_iff.2 hf, h⟩, (p.map _).nodup_iff.2 r.nd, fun f hf => r.cap f (p.mem_iff.1 hf)⟩
theorem GR.ne {G : List Fr} {Rem : List (List Rw8)} (r : GR G Rem) : ∀ f ∈ G, f.R ≠ [] := fun f hf => by obtain ⟨k, _, _, h⟩ := r.a f hf; exact h
/-- One list more. -/
theorem GR.snoc {G : List Fr} {Rem : List (List Rw8)} {s : Sl} {R : List Rw8} (r : GR G Rem) (hR : R ≠ []) (hc : s.len ≤ s.cap) : GR (G ++ [⟨⟨s, (Rem.length : Int)⟩, R⟩]) (Rem ++ [R]) := by
  refine ⟨fun f hf => ?_, fun k R' h1 h2 => ?_, ?_, fun f hf => ?_⟩
  · rcases List.mem_append.1 hf with hf | hf
    · obtain ⟨k, h1, h2, h3⟩ := r.a f hf
      exact ⟨k, h1, by rw [List.getElem?_append_left (List.getElem?_eq_some_iff.1 h2).1]; exact h2, h3⟩
    · simp at hf; subst hf
      exact ⟨Rem.length, rfl, by simp, hR⟩
  · by_cases hk : k < Rem.length
    · rw [List.getElem?_append_left hk] at h1
      obtain ⟨f, hf, h⟩ := r.b k R' h1 h2
      exact ⟨f, by simp [hf], h⟩
    · have hkl := (List.getElem?_eq_some_iff.1 h1).1
      simp at hkl
      have : k = Rem.length := by omega
      subst this
      simp at h1; subst h1
      exact ⟨⟨⟨s, (Rem.length : Int)⟩, R⟩, by simp, rfl, rfl⟩
  · rw [List.map_append, List.nodup_append]
    refine ⟨r.nd, by simp, fun a ha b hb => ?_⟩
    simp only [List.map_cons, List.map_nil, List.mem_singleton] at hb
    subst hb
    obtain ⟨f, hf, rfl⟩ := List.mem_map.1 ha
    obtain ⟨k, h1, h2, _⟩ := r.a f hf
    have := (List.getElem?_eq_some_iff.1 h2).1
    omega
  · rcases List.mem_append.1 hf with hf | hf
    · exact r.cap f hf
    · simp at hf; subst hf; exact hc
theorem GR.skip {G : List Fr} {Rem : List (List Rw8)} (r : GR G Rem) : GR G (Rem ++ [[]]) := by
  refine ⟨fun f hf => ?_, fun k R' h1 h2 => ?_, r.nd, r.cap⟩
  · obtain ⟨k, h1, h2, h3⟩ := r.a f hf
    exact ⟨k, h1, by rw [List.getElem?_append_left (List.getElem?_eq_some_iff.1 h2).1]; exact h2, h3⟩
  · by_cases hk : k < Rem.length
    · rw [List.getElem?_append_left hk] at h1
      exact r.b k R' h1 h2
    · have hkl := (List.getElem?_eq_some_iff.1 h1).1
      simp at hkl
      have : k = Rem.length := by omega
      subst this
      simp at h1
      exact (h2 h1).elim
/-- The root tells the least row. -/
theorem GR.pick {G : List Fr} {Rem : List (List Rw8)} (r : GR G Rem) (hG : 0 < G.length) (hp : Heap G) : ∃ (k : Nat) (x : Rw8) (t : List Rw8), (g G 0).f.list = (k : Int) ∧ Rem[k]? = some (x :: t) ∧ (g G 0).R = x :: t ∧ mR Rem = x :: mR (Rem.set k t) := by
  have hm := List.mem_of_getElem? (g_mem hG)
  obtain ⟨k, h1, h2, h3⟩ := r.a _ hm
  obtain ⟨x, t, hx⟩ : ∃ x t, (g G 0).R = x :: t := by
    cases hR : (g G 0).R with
    | nil => exact absurd hR h3
    | cons x t => exact ⟨x, t, rfl⟩
  have hroot := hp_root ltF_ord hp
  have other : ∀ (j : Nat) y s, Rem[j]? = some (y :: s) → ¬ (cmpC y.Cell x.Cell = -1 ∨ (cmpC y.Cell x.Cell = 0 ∧ (j : Int) < (k : Int))) := fun j y s hj hlt => by
    obtain ⟨f, hf, e1, e2⟩ := r.b j _ hj (by simp)
    obtain ⟨c, hc⟩ := List.mem_iff_getElem?.1 hf
    have hcl := (List.getElem?_eq_some_iff.1 hc).1
    have hgc : g G c = f := by
      have := g_mem hcl; rw [hc] at this; exact (Option.some.inj this).symm
    have := hroot c hcl
    rw [hgc] at this
    have hn : ¬ ltF f (g G 0) = true := by rw [this]; simp
    rw [ltF_iff, e1, h1] at hn
    have d1 : hdF f = y := by unfold hdF; rw [e2]; rfl
    have d2 : hdF (g G 0) = x := by unfold hdF; rw [hx]; rfl
    rw [d1, d2] at hn
    exact hn hlt
  refine ⟨k, x, t, h1, by rw [h2, hx], hx, mAll_pick (by rw [h2, hx]) (fun j y s hj hy => ?_) (fun j y s hj hy => ?_)⟩
  · have := other j y s hy
    have hr := cC_range y.Cell x.Cell
    unfold leC
    exact decide_eq_false (by omega)
  · have := other j y s hy
    have hr := cC_range y.Cell x.Cell
    have ha := cC_anti y.Cell x.Cell
    unfold leC
    exact decide_eq_true (by omega)
/-- The root's list is one row shorter. -/
theorem GR.turn {G : List Fr} {Rem : List (List Rw8)} {k : Nat} {x : Rw8} {t : List Rw8} {s : Sl} (r : GR G Rem) (hG : 0 < G.length) (h1 : (g G 0).f.list = (k : Int)) (h2 : Rem[k]? = some (x :: t)) (ht : t ≠ []) (hc : s.len ≤ s.cap) : GR (G.set 0 ⟨⟨s, (k : Int)⟩, t⟩) (Rem.set k t) := by
  have hkl := (List.getElem?_eq_some_iff.1 h2).1
  have hm0 := g_mem hG
  have uniq : ∀ c, c < G.length → (g G c).f.list = (k : Int) → c = 0 := fun c hc he => by
    have a1 : (G.map (·.f.list))[0]? = some (k : Int) := by rw [List.getElem?_map, hm0]; simp only [Option.map_some, h1]
    have a2 : (G.map (·.f.list))[c]? = some (k : Int) := by rw [List.getElem?_map, g_mem hc]; simp only [Option.map_some, he]
    exact ((List.getElem?_inj (by simpa using hc) r.nd).1 (a2.trans a1.symm))
  refine ⟨fun f hf => ?_, fun j R' g1 g2 => ?_, ?_, fun f hf => ?_⟩
  · obtain ⟨c, hc⟩ := List.mem_iff_getElem?.1 hf
    rw [List.getElem?_set] at hc
    by_cases e : 0 = c
    · rw [if_pos e, if_pos hG] at hc; cases hc
      exact ⟨k, rfl, by simp [hkl], ht⟩
    · rw [if_neg e] at hc
      have hcl := (List.getElem?_eq_some_iff.1 hc).1
      obtain ⟨j, q1, q2, q3⟩ := r.a f (List.mem_of_getElem? hc)
      have hgc : g G c = f := by have := g_mem hcl; rw [hc] at this; exact (Option.some.inj this).symm
      refine ⟨j, q1, ?_, q3⟩
      rw [List.getElem?_set, if_neg (fun e2 => e (uniq c hcl (by rw [hgc, q1, e2])).symm)]; exact q2
  · rw [List.getElem?_set] at g1
    by_cases e : k = j
    · subst e
      rw [if_pos rfl, if_pos hkl] at g1; cases g1
      exact ⟨_, List.mem_iff_getElem?.2 ⟨0, by rw [List.getElem?_set, if_pos rfl, if_pos hG]⟩, rfl, rfl⟩
    · rw [if_neg e] at g1
      obtain ⟨f, hf, q1, q2⟩ := r.b j R' g1 g2
      obtain ⟨c, hc⟩ := List.mem_iff_getElem?.1 hf
      have hcl := (List.getElem?_eq_some_iff.1 hc).1
      have hgc : g G c = f := by have := g_mem hcl; rw [hc] at this; exact (Option.some.inj this).symm
      refine ⟨f, List.mem_iff_getElem?.2 ⟨c, ?_⟩, q1, q2⟩
      rw [List.getElem?_set, if_neg (fun e2 => ?_)]
      · exact hc
      · subst e2; rw [hgc, q1] at h1; omega
  · have : (G.set 0 ⟨⟨s, (k : Int)⟩, t⟩).map (·.f.list) = G.map (·.f.list) := by
      rw [List.map_set]
      apply List.ext_getElem?; intro c
      rw [List.getElem?_set]
      by_cases e : 0 = c
      · subst e
        rw [if_pos rfl, if_pos (by simpa using hG), List.getElem?_map, hm0]; simp only [Option.map_some, h1]
      · rw [if_neg e]
    rw [this]; exact r.nd
  · rcases List.mem_or_eq_of_mem_set hf with hf | rfl
    · exact r.cap f hf
    · exact hc
/-- The root's list is at its end. -/
theorem GR.gone {G G' : List Fr} {Rem : List (List Rw8)} {k : Nat} {x : Rw8} {f0 : Fr} (r : GR G Rem) (hG : 0 < G.length) (h1 : (g G 0).f.list = (k : Int)) (h2 : Rem[k]? = some [x]) (p : (f0 :: G').Perm (G.set 0 f0)) : GR G' (Rem.set k []) := by
  have hkl := (List.getElem?_eq_some_iff.1 h2).1
  obtain ⟨a, G1, rfl⟩ : ∃ a G1, G = a :: G1 := by
    cases G with
    | nil => simp at hG
    | cons a G1 => exact ⟨a, G1, rfl⟩
  have hp : G'.Perm G1 := by
    have : (f0 :: G').Perm (f0 :: G1) := p
    exact this.cons_inv
  have h1' : a.f.list = (k : Int) := h1
  have nd := r.nd
  simp only [List.map_cons, List.nodup_cons] at nd
  have r1 : GR G1 (Rem.set k []) := by
    refine ⟨fun f hf => ?_, fun j R' g1 g2 => ?_, nd.2, fun f hf => r.cap f (by simp [hf])⟩
    · obtain ⟨j, q1, q2, q3⟩ := r.a f (by simp [hf])
      refine ⟨j, q1, ?_, q3⟩
      rw [List.getElem?_set, if_neg (fun e => nd.1 (List.mem_map.2 ⟨f, hf, by rw [q1, ← e, h1']⟩))]; exact q2
    · rw [List.getElem?_set] at g1
      by_cases e : k = j
      · subst e
        rw [if_pos rfl, if_pos hkl] at g1; cases g1
        exact absurd rfl g2
      · rw [if_neg e] at g1
        obtain ⟨f, hf, q1, q2⟩ := r.b j R' g1 g2
        rcases List.mem_cons.1 hf with rfl | hf
        · rw [h1'] at q1; omega
        · exact ⟨f, hf, q1, q2⟩
  exact r1.perm hp
theorem GR.nil {Rem : List (List Rw8)} (r : GR [] Rem) : mR Rem = [] := mAll_none fun l hl => by
  obtain ⟨k, hk⟩ := List.mem_iff_getElem?.1 hl
  cases hl2 : l with
  | nil => rfl
  | cons a t =>
    obtain ⟨f, hf, _⟩ := r.b k l hk (by rw [hl2]; simp)
    cases hf
end Go.Proofs.Ytidpbnbjpglhfaa.V
