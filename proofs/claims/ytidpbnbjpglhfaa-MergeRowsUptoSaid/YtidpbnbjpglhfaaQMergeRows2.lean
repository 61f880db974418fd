/- Parts of the proof of MergeRows; no condition. -/
import Derived.ChangeSlices
import Derived.OpenShut
import Derived.Test.YtidpbnbjpglhfaaQMergeRows1
namespace Go.Proofs.Ytidpbnbjpglhfaa.V
open Go
set_option linter.unusedVariables false
set_option linter.unusedSimpArgs false
section
variable {h0 hk h h' : H} {n : Nat} {s : Sl} {G : List Fr}
/-- All of it is a heap. -/
abbrev Heap (G : List Fr) : Prop := HP ltF G G.length 0
theorem Init_loop {Q : H → Prop} : ∀ (m : Nat) (i : Nat) (h : H) (G : List Fr), G.length < 1000000 → i ≤ G.length / 2 → i < m → FS h0 hk h n s G → (∀ f ∈ G, f.R ≠ []) → HP ltF G G.length i →
    (∀ h' G', FS h0 hk h' n s G' → G'.Perm G → Heap G' → Q h') → F.container_heap_Init.l1 Q m (some ⟨n, 0, none⟩) (G.length : Int) ((i : Int) - 1) h := by
  intro m
  induction m with
  | zero => intro i h G _ _ hm; omega
  | succ m ih =>
    intro i h G hn hi hm v ne hp k
    unfold F.container_heap_Init.l1
    refine ⟨fun g => ?_, fun g => ?_⟩
    · have hi0 : 0 < i := by simp at g; omega
      have e1 : ((i : Int) - 1) = ((i - 1 : Nat) : Int) := by omega
      rw [e1]
      have law := dn_law ltF_ord (G.length - (i - 1)) G G.length (i - 1) (i - 1) (Nat.le_refl _) (by omega) (Nat.le_refl _) (Nat.le_refl _) (fun c c0 cn cs cp => hp c c0 cn (by omega)) (fun c c0 cn cp c1 c2 => by omega)
      refine down_spec v (Nat.le_refl _) hn (by omega) (fun j hj => ne _ (List.mem_of_getElem? (g_mem hj))) fun h1 v1 b => ?_
      rw [w64 (by omega) (by omega)]
      obtain ⟨r1, r2, r3, r4⟩ := law
      have := ih (i - 1) h1 (dn ltF (G.length - (i - 1)) G G.length (i - 1)).1 (by rw [r3]; exact hn) (by rw [r3]; omega) (by omega) v1 (fun f hf => ne f (r2.mem_iff.1 hf)) (by rw [r3]; exact r1) fun h' G' v' p' hp' => k h' G' v' (p'.trans r2) hp'
      rw [r3] at this
      exact this
    · have : i = 0 := by simp at g; omega
      subst this
      exact k h G v (.refl _) hp
theorem tdiv2 {a : Nat} : Int.tdiv (a : Int) 2 = ((a / 2 : Nat) : Int) := by
  rw [Int.tdiv_eq_ediv_of_nonneg (by omega)]; omega
theorem Init_spec {Q : H → Prop} (v : FS h0 hk h n s G) (ne : ∀ f ∈ G, f.R ≠ []) (hn : G.length < 1000000) (k : ∀ h' G', FS h0 hk h' n s G' → G'.Perm G → Heap G' → Q h') : F.container_heap_Init (some ⟨n, 0, none⟩) h Q := by
  unfold F.container_heap_Init
  refine ⟨_, rfl, v.ldv ?_⟩
  unfold F.merge_fronts_Len
  have hl := own_len cF_len (by omega) v.own
  rw [List.length_map] at hl
  rw [hl]
  refine ⟨by decide, G.length / 2 + 1, ?_⟩
  rw [tdiv2, w64 (n := ((G.length / 2 : Nat) : Int)) (by omega) (by omega), w64 (by omega) (by omega)]
  exact Init_loop (G.length / 2 + 1) (G.length / 2) h G hn (by omega) (by omega) v ne (fun c c0 cn cs => by omega) k
/-- The last one is taken off. -/
theorem Pop_method {Q : Value → H → Prop} (v : FS h0 hk h n s G) (hG : 0 < G.length) (hn : G.length < 1000000) (k : ∀ u h' s', FS h0 hk h' n s' G.dropLast → Q u h') : F.merge_fronts_Pop (some ⟨n, 0, none⟩) h Q := by
  unfold F.merge_fronts_Pop
  have hl := own_len cF_len (by omega) v.own
  rw [List.length_map] at hl
  refine ⟨_, rfl, v.ldv ?_⟩
  rw [hl, w64 (by omega) (by omega)]
  have e1 : ((G.length : Int) - 1) = ((G.length - 1 : Nat) : Int) := by omega
  rw [e1]
  refine v.at (by omega) fun a1 d1 => ⟨_, d1, ?_⟩
  refine new_of fun m h1 hm b1 x1 s1 => ?_
  refine stH_of b1 (by simp [S_merge_front.cells]) fun h2 b2 o2 s2 => ?_
  rw [writeA_all (by simp [S_merge_front.cells])] at b2
  have x2 : Ext h h2 := x1.step o2 fun y hy e => by omega
  have v2 := v.e x2
  have hcap : s.len ≤ s.cap ∧ s.cap ≤ maxLen ∧ ∃ b, s.ptr = some ⟨b, 0, none⟩ := by
    obtain ⟨_, ⟨q1, q2, q3⟩ | ⟨b', c', q1, q2, q3, q4, q5, q6⟩⟩ := v.own
    · omega
    · exact ⟨q4, q5, b', q1⟩
  refine ⟨slcut s 0 (G.length - 1) 2, ⟨by omega, by omega, by omega, by simp⟩, ⟨_, rfl, ?_⟩⟩
  refine stH_of v2.var (by simp) fun h3 b3 o3 s3 => ?_
  rw [writeA_all (by simp)] at b3
  have hmn : m ≠ n := by have := block_lt v.var; omega
  have b2' : Blk h3 m _ _ := o3.block b2 (fun e => hmn e)
  refine ⟨_, fun j u hu => by rw [add_lit, Nat.zero_add]; exact b2'.cell (by simpa using hu), ?_⟩
  have hnb : s.blk ≠ some n := fun hb => by
    obtain ⟨_, ⟨q1, q2, q3⟩ | ⟨b', c', q1, q2, _⟩⟩ := v2.own
    · simp [Sl.blk, q1] at hb
    · simp [Sl.blk, q1] at hb
      subst hb
      have := v2.var
      unfold Blk at q2 this
      rw [q2] at this; cases this
  have hb0 := hcap.2.2
  obtain ⟨b, hb⟩ := hb0
  have hcut : slcut s 0 (G.length - 1) 2 = ⟨some ⟨b, 0, none⟩, G.length - 1, s.cap⟩ := by
    unfold slcut
    rw [if_neg (by omega), hb]
    simp [add_lit]
  rw [hcut] at b3
  have w2 := v2.own
  refine k _ h3 _ ⟨b3, ?_, fun y hy => v.mine y (by simp [Sl.blk] at hy ⊢; simp [hb, hy]), v.lo, v2.ext.step o3 fun y hy e => by have := v.lo; omega, fun f hf => v.rows f (List.dropLast_subset _ hf), v2.kp.blk o3 v2.var (.inr rfl)⟩
  have w3 := w2.only o3 fun y hy e => hnb (by rw [← e]; exact hy)
  obtain ⟨r1, ⟨q1, q2, q3⟩ | ⟨b', c', q1, q2, q3, q4, q5, q6⟩⟩ := w3
  · omega
  · rw [hb] at q1
    cases q1
    have hfl : ((G.map (·.f)).flatMap cF).length = G.length * 2 := by rw [flat_len _ 2 cF_len]; simp
    have hdl : ((G.dropLast.map (·.f)).flatMap cF) = ((G.map (·.f)).flatMap cF).take ((G.length - 1) * 2) := by
      have hne : G ≠ [] := by intro e; subst e; simp at hG
      have hGs := List.dropLast_concat_getLast hne
      have hfd : ((G.dropLast.map (·.f)).flatMap cF).length = (G.length - 1) * 2 := by rw [flat_len _ 2 cF_len]; simp
      have e : ((G.map (·.f)).flatMap cF) = ((G.dropLast.map (·.f)).flatMap cF) ++ (([G.getLast hne].map (·.f)).flatMap cF) := by rw [← List.flatMap_append, ← List.map_append, hGs]
      rw [e, List.take_left' hfd]
    refine ⟨by rw [hdl]; simp [hfl], .inr ⟨b, c', rfl, q2, q3, by show G.length - 1 ≤ s.cap; omega, q5, ?_⟩⟩
    rw [hdl, List.length_take, hfl, Nat.min_eq_left (by omega)]
    rw [hfl] at q6
    rw [← q6, List.take_take, Nat.min_eq_left (by omega)]
theorem dropLast_g {A : List Fr} {c : Nat} (h : c < A.length - 1) : g A.dropLast c = g A c := by
  simp only [g, List.getD_eq_getElem?_getD]
  rw [List.getElem?_dropLast, if_pos h]
/-- The least one is taken off. -/
theorem Pop_spec {Q : Value → H → Prop} (v : FS h0 hk h n s G) (hG : 0 < G.length) (hn : G.length < 1000000) (hp : ∀ c, 0 < c → c < G.length → (c - 1) / 2 ≠ 0 → ltF (g G c) (g G ((c - 1) / 2)) = false) (ne : ∀ j, 0 < j → j < G.length → (g G j).R ≠ [])
    (k : ∀ u h' s' G', FS h0 hk h' n s' G' → (g G 0 :: G').Perm G → Heap G' → Q u h') : F.container_heap_Pop (some ⟨n, 0, none⟩) h Q := by
  unfold F.container_heap_Pop
  have hl := own_len cF_len (by omega) v.own
  rw [List.length_map] at hl
  refine ⟨_, rfl, v.ldv ?_⟩
  unfold F.merge_fronts_Len
  rw [hl]
  refine ⟨_, rfl, v.ldv ?_⟩
  rw [w64 (by omega) (by omega)]
  have e1 : ((G.length : Int) - 1) = ((G.length - 1 : Nat) : Int) := by omega
  rw [e1]
  have q0 : (0 : Int) = ((0 : Nat) : Int) := rfl
  rw [q0]
  refine Swap_spec v (by omega) (by omega) fun h1 v1 => ?_
  have hgs : ∀ k, g (swp G 0 (G.length - 1)) k = if k = G.length - 1 then g G 0 else if k = 0 then g G (G.length - 1) else g G k := fun k => g_swp (by omega) (by omega)
  have hsl := swp_len G 0 (G.length - 1)
  have key : ∀ (A : List Fr), A.length = G.length → A.Perm (swp G 0 (G.length - 1)) → (∀ c, G.length - 1 ≤ c → g A c = g (swp G 0 (G.length - 1)) c) → HP ltF A (G.length - 1) 0 → (g G 0 :: A.dropLast).Perm G ∧ Heap A.dropLast := by
    intro A hA hperm hback hhp
    constructor
    · have hne : A ≠ [] := by intro e; rw [e] at hA; simp at hA; omega
      have hlast : A.getLast hne = g G 0 := by
        have : g A (G.length - 1) = g G 0 := by rw [hback _ (Nat.le_refl _), hgs, if_pos rfl]
        rw [List.getLast_eq_getElem, ← this]
        simp [g, List.getD_eq_getElem?_getD, hA, hG]
        rw [List.getElem?_eq_getElem (by omega)]; rfl
      have h1 : (A.dropLast ++ [g G 0]).Perm G := by
        rw [← hlast, List.dropLast_concat_getLast hne]
        exact hperm.trans (swp_perm (by omega) (by omega))
      exact (List.perm_append_singleton _ _).symm.trans h1
    · intro c c0 cn cs
      rw [List.length_dropLast, hA] at cn
      rw [dropLast_g (by omega), dropLast_g (by omega)]
      exact hhp c c0 cn cs
  refine down_spec v1 (by omega) (by omega) (by omega) (fun j hj => by
    rw [hgs, if_neg (by omega)]
    split
    · exact ne _ (by omega) (by omega)
    · exact ne j (by omega) (by omega)) fun h2 v2 b => ?_
  by_cases h1n : G.length = 1
  · have hd : (dn ltF (G.length - 1 - 0) (swp G 0 (G.length - 1)) (G.length - 1) 0).1 = swp G 0 (G.length - 1) := by
      rw [h1n]; rfl
    rw [hd] at v2
    obtain ⟨r1, r2⟩ := key _ hsl (.refl _) (fun _ _ => rfl) (fun c c0 cn cs => by omega)
    exact Pop_method v2 (by omega) (by omega) fun u h3 s3 v3 => k u h3 s3 _ v3 r1 r2
  · obtain ⟨r1, r2, r3, r4⟩ := dn_law ltF_ord (G.length - 1 - 0) (swp G 0 (G.length - 1)) (G.length - 1) 0 0 (by omega) (by omega) (Nat.le_refl _) (by omega) (fun c c0 cn cs cp => by
      rw [hgs, hgs, if_neg (by omega), if_neg (by omega), if_neg (by omega), if_neg (by omega)]
      exact hp c c0 (by omega) cp) (fun c c0 cn cp c1 c2 => by omega)
    obtain ⟨t1, t2⟩ := key _ (by omega) r2 r4 r1
    exact Pop_method v2 (by omega) (by omega) fun u h3 s3 v3 => k u h3 s3 _ v3 t1 t2
/-- The root was changed. -/
theorem Fix_spec {Q : H → Prop} (v : FS h0 hk h n s G) (hG : 0 < G.length) (hn : G.length < 1000000) (ne : ∀ f ∈ G, f.R ≠ []) (h1 : ∀ c, 0 < c → c < G.length → (c - 1) / 2 ≠ 0 → ltF (g G c) (g G ((c - 1) / 2)) = false)
    (k : ∀ h' G', FS h0 hk h' n s G' → G'.Perm G → Heap G' → Q h') : F.container_heap_Fix (some ⟨n, 0, none⟩) 0 h Q := by
  unfold F.container_heap_Fix
  have hl := own_len cF_len (by omega) v.own
  rw [List.length_map] at hl
  refine ⟨_, rfl, v.ldv ?_⟩
  unfold F.merge_fronts_Len
  rw [hl]
  have q0 : (0 : Int) = ((0 : Nat) : Int) := rfl
  rw [q0]
  obtain ⟨r1, r2, r3, r4⟩ := dn_law ltF_ord (G.length - 0) G G.length 0 0 (Nat.le_refl _) hG (Nat.le_refl _) (by omega) (fun c c0 cn cs cp => h1 c c0 cn cp) (fun c c0 cn cp c1 c2 => by omega)
  refine down_spec v (Nat.le_refl _) hn (by omega) (fun j hj => ne _ (List.mem_of_getElem? (g_mem hj))) fun h2 v2 b => ?_
  have kk := k h2 _ v2 r2 (by unfold Heap; rw [r3]; exact r1)
  refine ⟨fun _ => ?_, fun _ => kk⟩
  unfold F.container_heap_up
  refine ⟨1, ?_⟩
  unfold F.container_heap_up.l1
  refine ⟨by decide, fun _ => ?_, fun g => absurd g (by decide)⟩
  unfold F.container_heap_up.j3
  exact ⟨fun _ => kk, fun g => (by cases g)⟩
end
end Go.Proofs.Ytidpbnbjpglhfaa.V
namespace Go.Proofs.Ytidpbnbjpglhfaa.V
open Go
set_option linter.unusedVariables false
set_option linter.unusedSimpArgs false
theorem el_fronts : El PP tn_merge_fronts tn_merge_front 2 32 (.agg (⟨(⟨none, 0, 0⟩ : Sl), 0⟩ : S_merge_front).cells.toArray) := ⟨Try.underlying86, ⟨Try.t88, by kernel_rfl, by kernel_rfl, by kernel_rfl, by kernel_rfl⟩, by kernel_rfl, by omega, by omega⟩
theorem tk_snoc {α : Type} {l : List α} {i : Nat} {x : α} (h : l[i]? = some x) : l.take (i + 1) = l.take i ++ [x] := by rw [List.take_add_one, h]; rfl
def leC (a b : Rw8) : Bool := decide (cmpC a.Cell b.Cell ≤ 0)
abbrev mR (Ls : List (List Rw8)) : List Rw8 := mAll leC Ls
/-- The fronts of lists, asL far asL they are gone. -/
structure GR (G : List Fr) (Rem : List (List Rw8)) : Prop where
  a : ∀ f ∈ G, ∃ k : Nat, f.f.list = (k : Int) ∧ Rem[k]? = some f.R ∧ f.R ≠ []
  b : ∀ (k : Nat) R, Rem[k]? = some R → R ≠ [] → ∃ f ∈ G, f.f.list = (k : Int) ∧ f.R = R
  nd : (G.map (·.f.list)).Nodup
  cap : ∀ f ∈ G, f.f.rows.len ≤ f.f.rows.cap
theorem GR.perm {G G' : List Fr} {Rem : List (List Rw8)} (r : GR G Rem) (p : G'.Perm G) : GR G' Rem :=
  ⟨fun f hf => r.a f (p.mem_iff.1 hf), fun k R h1 h2 => by obtain ⟨f, hf, h⟩ := r.b k R h1 h2; exact ⟨f, p.mem_iff.2 hf, h⟩, (p.map _).nodup_iff.2 r.nd, fun f hf => r.cap f (p.mem_iff.1 hf)⟩
theorem GR.ne {G : List Fr} {Rem : List (List Rw8)} (r : GR G Rem) : ∀ f ∈ G, f.R ≠ [] := fun f hf => by obtain ⟨k, _, _, h⟩ := r.a f hf; exact h
/-- One list more. -/
theorem GR.snoc {G : List Fr} {Rem : List (List Rw8)} {s : Sl} {R : List Rw8} (r : GR G Rem) (hR : R ≠ []) (hc : s.len ≤ s.cap) : GR (G ++ [⟨⟨s, (Rem.length : Int)⟩, R⟩]) (Rem ++ [R]) := by
  refine ⟨fun f hf => ?_, fun k R' h1 h2 => ?_, ?_, fun f hf => ?_⟩
  · rcases List.mem_append.1 hf with hf | hf
    · obtain ⟨k, h1, h2, h3⟩ := r.a f hf
      exact ⟨k, h1, by rw [List.getElem?_append_left (List.getElem?_eq_some_iff.1 h2).1]; exact h2, h3⟩
    · simp at hf; subst hf
      exact ⟨Rem.length, rfl, by simp, hR⟩
  · by_cases hk : k < Rem.length
    · rw [List.getElem?_append_left hk] at h1
      obtain ⟨f, hf, h⟩ := r.b k R' h1 h2
      exact ⟨f, by simp [hf], h⟩
    · have hkl := (List.getElem?_eq_some_iff.1 h1).1
      simp at hkl
      have : k = Rem.length := by omega
      subst this
      simp at h1; subst h1
      exact ⟨⟨⟨s, (Rem.length : Int)⟩, R⟩, by simp, rfl, rfl⟩
  · rw [List.map_append, List.nodup_append]
    refine ⟨r.nd, by simp, fun a ha b hb => ?_⟩
    simp only [List.map_cons, List.map_nil, List.mem_singleton] at hb
    subst hb
    obtain ⟨f, hf, rfl⟩ := List.mem_map.1 ha
    obtain ⟨k, h1, h2, _⟩ := r.a f hf
    have := (List.getElem?_eq_some_iff.1 h2).1
    omega
  · rcases List.mem_append.1 hf with hf | hf
    · exact r.cap f hf
    · simp at hf; subst hf; exact hc
theorem GR.skip {G : List Fr} {Rem : List (List Rw8)} (r : GR G Rem) : GR G (Rem ++ [[]]) := by
  refine ⟨fun f hf => ?_, fun k R' h1 h2 => ?_, r.nd, r.cap⟩
  · obtain ⟨k, h1, h2, h3⟩ := r.a f hf
    exact ⟨k, h1, by rw [List.getElem?_append_left (List.getElem?_eq_some_iff.1 h2).1]; exact h2, h3⟩
  · by_cases hk : k < Rem.length
    · rw [List.getElem?_append_left hk] at h1
      exact r.b k R' h1 h2
    · have hkl := (List.getElem?_eq_some_iff.1 h1).1
      simp at hkl
      have : k = Rem.length := by omega
      subst this
      simp at h1
      exact (h2 h1).elim
/-- The root tells the least row. -/
theorem GR.pick {G : List Fr} {Rem : List (List Rw8)} (r : GR G Rem) (hG : 0 < G.length) (hp : Heap G) : ∃ (k : Nat) (x : Rw8) (t : List Rw8), (g G 0).f.list = (k : Int) ∧ Rem[k]? = some (x :: t) ∧ (g G 0).R = x :: t ∧ mR Rem = x :: mR (Rem.set k t) := by
  have hm := List.mem_of_getElem? (g_mem hG)
  obtain ⟨k, h1, h2, h3⟩ := r.a _ hm
  obtain ⟨x, t, hx⟩ : ∃ x t, (g G 0).R = x :: t := by
    cases hR : (g G 0).R with
    | nil => exact absurd hR h3
    | cons x t => exact ⟨x, t, rfl⟩
  have hroot := hp_root ltF_ord hp
  have other : ∀ (j : Nat) y s, Rem[j]? = some (y :: s) → ¬ (cmpC y.Cell x.Cell = -1 ∨ (cmpC y.Cell x.Cell = 0 ∧ (j : Int) < (k : Int))) := fun j y s hj hlt => by
    obtain ⟨f, hf, e1, e2⟩ := r.b j _ hj (by simp)
    obtain ⟨c, hc⟩ := List.mem_iff_getElem?.1 hf
    have hcl := (List.getElem?_eq_some_iff.1 hc).1
    have hgc : g G c = f := by
      have := g_mem hcl; rw [hc] at this; exact (Option.some.inj this).symm
    have := hroot c hcl
    rw [hgc] at this
    have hn : ¬ ltF f (g G 0) = true := by rw [this]; simp
    rw [ltF_iff, e1, h1] at hn
    have d1 : hdF f = y := by unfold hdF; rw [e2]; rfl
    have d2 : hdF (g G 0) = x := by unfold hdF; rw [hx]; rfl
    rw [d1, d2] at hn
    exact hn hlt
  refine ⟨k, x, t, h1, by rw [h2, hx], hx, mAll_pick (by rw [h2, hx]) (fun j y s hj hy => ?_) (fun j y s hj hy => ?_)⟩
  · have := other j y s hy
    have hr := cC_range y.Cell x.Cell
    unfold leC
    exact decide_eq_false (by omega)
  · have := other j y s hy
    have hr := cC_range y.Cell x.Cell
    have ha := cC_anti y.Cell x.Cell
    unfold leC
    exact decide_eq_true (by omega)
/-- The root's list is one row shorter. -/
theorem GR.turn {G : List Fr} {Rem : List (List Rw8)} {k : Nat} {x : Rw8} {t : List Rw8} {s : Sl} (r : GR G Rem) (hG : 0 < G.length) (h1 : (g G 0).f.list = (k : Int)) (h2 : Rem[k]? = some (x :: t)) (ht : t ≠ []) (hc : s.len ≤ s.cap) : GR (G.set 0 ⟨⟨s, (k : Int)⟩, t⟩) (Rem.set k t) := by
  have hkl := (List.getElem?_eq_some_iff.1 h2).1
  have hm0 := g_mem hG
  have uniq : ∀ c, c < G.length → (g G c).f.list = (k : Int) → c = 0 := fun c hc he => by
    have a1 : (G.map (·.f.list))[0]? = some (k : Int) := by rw [List.getElem?_map, hm0]; simp only [Option.map_some, h1]
    have a2 : (G.map (·.f.list))[c]? = some (k : Int) := by rw [List.getElem?_map, g_mem hc]; simp only [Option.map_some, he]
    exact ((List.getElem?_inj (by simpa using hc) r.nd).1 (a2.trans a1.symm))
  refine ⟨fun f hf => ?_, fun j R' g1 g2 => ?_, ?_, fun f hf => ?_⟩
  · obtain ⟨c, hc⟩ := List.mem_iff_getElem?.1 hf
    rw [List.getElem?_set] at hc
    by_cases e : 0 = c
    · rw [if_pos e, if_pos hG] at hc; cases hc
      exact ⟨k, rfl, by simp [hkl], ht⟩
    · rw [if_neg e] at hc
      have hcl := (List.getElem?_eq_some_iff.1 hc).1
      obtain ⟨j, q1, q2, q3⟩ := r.a f (List.mem_of_getElem? hc)
      have hgc : g G c = f := by have := g_mem hcl; rw [hc] at this; exact (Option.some.inj this).symm
      refine ⟨j, q1, ?_, q3⟩
      rw [List.getElem?_set, if_neg (fun e2 => e (uniq c hcl (by rw [hgc, q1, e2])).symm)]; exact q2
  · rw [List.getElem?_set] at g1
    by_cases e : k = j
    · subst e
      rw [if_pos rfl, if_pos hkl] at g1; cases g1
      exact ⟨_, List.mem_iff_getElem?.2 ⟨0, by rw [List.getElem?_set, if_pos rfl, if_pos hG]⟩, rfl, rfl⟩
    · rw [if_neg e] at g1
      obtain ⟨f, hf, q1, q2⟩ := r.b j R' g1 g2
      obtain ⟨c, hc⟩ := List.mem_iff_getElem?.1 hf
      have hcl := (List.getElem?_eq_some_iff.1 hc).1
      have hgc : g G c = f := by have := g_mem hcl; rw [hc] at this; exact (Option.some.inj this).symm
      refine ⟨f, List.mem_iff_getElem?.2 ⟨c, ?_⟩, q1, q2⟩
      rw [List.getElem?_set, if_neg (fun e2 => ?_)]
      · exact hc
      · subst e2; rw [hgc, q1] at h1; omega
  · have : (G.set 0 ⟨⟨s, (k : Int)⟩, t⟩).map (·.f.list) = G.map (·.f.list) := by
      rw [List.map_set]
      apply List.ext_getElem?; intro c
      rw [List.getElem?_set]
      by_cases e : 0 = c
      · subst e
        rw [if_pos rfl, if_pos (by simpa using hG), List.getElem?_map, hm0]; simp only [Option.map_some, h1]
      · rw [if_neg e]
    rw [this]; exact r.nd
  · rcases List.mem_or_eq_of_mem_set hf with hf | rfl
    · exact r.cap f hf
    · exact hc
/-- The root's list is at its end. -/
theorem GR.gone {G G' : List Fr} {Rem : List (List Rw8)} {k : Nat} {x : Rw8} {f0 : Fr} (r : GR G Rem) (hG : 0 < G.length) (h1 : (g G 0).f.list = (k : Int)) (h2 : Rem[k]? = some [x]) (p : (f0 :: G').Perm (G.set 0 f0)) : GR G' (Rem.set k []) := by
  have hkl := (List.getElem?_eq_some_iff.1 h2).1
  obtain ⟨a, G1, rfl⟩ : ∃ a G1, G = a :: G1 := by
    cases G with
    | nil => simp at hG
    | cons a G1 => exact ⟨a, G1, rfl⟩
  have hp : G'.Perm G1 := by
    have : (f0 :: G').Perm (f0 :: G1) := p
    exact this.cons_inv
  have h1' : a.f.list = (k : Int) := h1
  have nd := r.nd
  simp only [List.map_cons, List.nodup_cons] at nd
  have r1 : GR G1 (Rem.set k []) := by
    refine ⟨fun f hf => ?_, fun j R' g1 g2 => ?_, nd.2, fun f hf => r.cap f (by simp [hf])⟩
    · obtain ⟨j, q1, q2, q3⟩ := r.a f (by simp [hf])
      refine ⟨j, q1, ?_, q3⟩
      rw [List.getElem?_set, if_neg (fun e => nd.1 (List.mem_map.2 ⟨f, hf, by rw [q1, ← e, h1']⟩))]; exact q2
    · rw [List.getElem?_set] at g1
      by_cases e : k = j
      · subst e
        rw [if_pos rfl, if_pos hkl] at g1; cases g1
        exact absurd rfl g2
      · rw [if_neg e] at g1
        obtain ⟨f, hf, q1, q2⟩ := r.b j R' g1 g2
        rcases List.mem_cons.1 hf with rfl | hf
        · rw [h1'] at q1; omega
        · exact ⟨f, hf, q1, q2⟩
  exact r1.perm hp
theorem GR.nil {Rem : List (List Rw8)} (r : GR [] Rem) : mR Rem = [] := mAll_none fun l hl => by
  obtain ⟨k, hk⟩ := List.mem_iff_getElem?.1 hl
  cases hl2 : l with
  | nil => rfl
  | cons a t =>
    obtain ⟨f, hf, _⟩ := r.b k l hk (by rw [hl2]; simp)
    cases hf
end Go.Proofs.Ytidpbnbjpglhfaa.V
namespace Go.Proofs.Ytidpbnbjpglhfaa.V
open Go
set_option linter.unusedVariables false
set_option linter.unusedSimpArgs false
abbrev cS8 (s : Sl) : List Value := [s.enc]
theorem cS8_len (s : Sl) : (cS8 s).length = 1 := rfl
section
variable {h0 hk h h' : H} {n : Nat} {s : Sl} {G : List Fr}
/-- The fronts' slice is another, told by its variable. -/
theorem FS.put {hk2 : H} {s' : Sl} {G' : List Fr} {K : H → Prop} (v : FS h0 hk h n s G) (w : Owns h' s' tn_merge_front 2 ((G'.map (·.f)).flatMap cF)) (b : Blk h' n #[s.enc] tn_merge_fronts) (e : Ext h0 h') (m : Mine h0 s') (hr : ∀ f ∈ G', f.R ≠ [] → Reads h0 f.f.rows 7 (f.R.flatMap cW)) (kp : Keep hk2 h')
    (k : ∀ h2, FS h0 hk2 h2 n s' G' → Only (· = n) h' h2 → K h2) : stH h' ⟨n, 0, none⟩ [s'.enc] K := by
  refine stH_of b (by simp) fun h2 b2 o2 s2 => k h2 ⟨?_, w.only o2 fun y hy hf => own_ne w b (by decide) (by rw [hy, hf]), m, v.lo, e.step o2 fun y hy hf => by have := v.lo; omega, hr, kp.blk o2 b (.inr rfl)⟩ o2
  rw [writeA_all (by simp)] at b2; exact b2
theorem FS.re (v : FS h0 hk h n s G) : FS h0 h h n s G := ⟨v.var, v.own, v.mine, v.lo, v.ext, v.rows, .refl _⟩
theorem root_row (v : FS h0 hk h n s G) (hG : 0 < G.length) {x : Rw8} {t : List Rw8} (hx : (g G 0).R = x :: t) {K : Rw8 → Prop} (k : K x) : idxA (g G 0).f.rows 0 7 fun a => ld_S_api_Row h a K := by
  have rd := v.rows _ (List.mem_of_getElem? (g_mem hG)) (by rw [hx]; simp)
  have rd' := rd.only v.ext fun _ _ f => f
  rw [hx] at rd'
  obtain ⟨p, p1, p2, p3⟩ := rd_at cW_len (by omega) rd' (i := 0) (x := x) rfl
  have hl := rd_len cW_len (by omega) rd'
  exact idxR_of (i := 0) p1 (by rw [hl]; simp) rfl ⟨x, p3, k⟩
theorem Rows_main {n : Nat} {most : Int} {All : List Rw8} {Q : Sl → H → Prop} (hA : All.length < 100000)
    (k : ∀ r h', Owns h' r tn_api_Row 7 ((All.take most.toNat).flatMap cW) → Mine h0 r → Ext h0 h' → Q r h') : ∀ (d : Nat) (h : H) (s : Sl) (G : List Fr) (Rem : List (List Rw8)) (r : Sl) (out : List Rw8), (mR Rem).length < d → FS h0 h h n s G → G.length < 100000 → Heap G → GR G Rem →
    Owns h r tn_api_Row 7 (out.flatMap cW) → Mine h0 r → out ++ mR Rem = All → out.length ≤ most.toNat → F.merge_Rows.l2 Q d most ⟨n, 0, none⟩ r h := by
  intro d
  induction d with
  | zero => intro h s G Rem r out hm; omega
  | succ d ih =>
    intro h s G Rem r out hm v hGl hp gr w m hall hout
    have hl := own_len cF_len (by omega) v.own
    rw [List.length_map] at hl
    have hlr := own_len cW_len (by omega) w
    have hol : out.length ≤ All.length := by rw [← hall]; simp
    unfold F.merge_Rows.l2
    refine v.ldv ?_
    simp only [decide_eq_true_eq, decide_eq_false_iff_not]
    rw [hl]
    refine ⟨fun gg => ?_, fun gg => ?_⟩
    · have hG : 0 < G.length := by omega
      unfold F.merge_Rows.j4
      refine ⟨fun g2 => ?_, fun g2 => ?_⟩
      · have hlt : out.length < most.toNat := by rw [hlr] at g2; simp at g2; omega
        obtain ⟨kk, x, t, h1, h2, h3, h4⟩ := gr.pick hG hp
        have hkl := (List.getElem?_eq_some_iff.1 h2).1
        unfold F.merge_Rows.j3
        have c0 : ∀ {hh : H} {a : Addr} {y : S_merge_front}, Cells hh a (cF y) → cellH hh (a.add 0) = some y.rows.enc := fun c => c 0 _ rfl
        have q0 : (0 : Int) = ((0 : Nat) : Int) := rfl
        refine v.ldv ?_
        conv in idxA s 0 2 => rw [q0]
        refine v.at hG fun a1 d1 => (ldL_iff (c0 d1)).2 (root_row v hG h3 ?_)
        refine newL_of fun m1 h5 hm1 b5 e5 s5 => ?_
        have r5 : Reads h5 ⟨some ⟨m1, 0, none⟩, 1, 1⟩ 7 ([x].flatMap cW) := blk_reads (by simpa using b5) rfl
        refine app_list (L := out) (M := [x]) cW_len (by omega) el_Slapi_Row (w.ext e5) r5 (fun x => ones_S_api_Row x) (by simp only [List.length_singleton]; omega) fun r6 h6 w6 o6 n6 => ?_
        have hs5 := e5.size
        have m6 : Mine h0 r6 := fun y hy => by
          rcases n6 with n6 | ⟨b', n6, n7⟩
          · exact m y (by rw [← n6]; exact hy)
          · rw [n6] at hy; cases hy; have := v.ext.size; omega
        have e6 : Ext h0 h6 := (v.ext.trans e5).mine m o6
        have v5 := v.e e5
        have v6 : FS h0 h6 h6 n s G := ⟨o6.block v5.var (fun hb => own_ne (w.ext e5) v5.var (by decide) hb), v5.own.only o6 (fun y hy hb => by
          obtain ⟨_, ⟨q1, q2, q3⟩ | ⟨b', c', q1, q2, _⟩⟩ := v5.own
          · simp [Sl.blk, q1] at hy
          · simp [Sl.blk, q1] at hy
            subst hy
            exact own_ne (w.ext e5) q2 (by decide) hb), v.mine, v.lo, e6, v.rows, .refl _⟩
        refine v6.ldv (v6.ldv ?_)
        conv in idxA s 0 2 => rw [q0]
        refine v6.at hG fun a2 d2 => (ldL_iff (c0 d2)).2 ?_
        have hmem := List.mem_of_getElem? (g_mem hG)
        have rd0 := v.rows _ hmem (by rw [h3]; simp)
        have hrl := rd_len cW_len (by omega) rd0
        have hcap := gr.cap _ hmem
        refine cutL_of (lo := 1) (hi := (g G 0).f.rows.len) rfl rfl (by rw [hrl, h3]; simp) hcap ?_
        have rdc := cut_reads (lo := 1) (hi := (g G 0).f.rows.len) cW_len (by omega) rd0 (by rw [hrl, h3]; simp) (by rw [hrl]; exact Nat.le_refl _) hcap
        have hdrop : (((g G 0).R.drop 1).take ((g G 0).f.rows.len - 1)) = t := by
          rw [h3, hrl, h3]; simp
        rw [hdrop] at rdc
        have hcl : (slcut (g G 0).f.rows 1 (g G 0).f.rows.len 7).len = t.length := rd_len cW_len (by omega) rdc
        have hcc : (slcut (g G 0).f.rows 1 (g G 0).f.rows.len 7).len ≤ (slcut (g G 0).f.rows 1 (g G 0).f.rows.len 7).cap := by unfold slcut; simp only; omega
        generalize hsc : slcut (g G 0).f.rows 1 (g G 0).f.rows.len 7 = sc at rdc hcl hcc
        -- the root's rows are one less
        obtain ⟨b, p1, p2⟩ := own_at cF_len (by omega) v6.own (i := 0) (x := (g G 0).f) (by rw [List.getElem?_map, g_mem hG]; rfl)
        conv in idxA s 0 2 => rw [q0]
        refine idxA_of (i := 0) p1 (by rw [hl]; exact hG) rfl ?_
        rw [show ((⟨b, 0 * 2, none⟩ : Addr).add 0) = ⟨b, 0, none⟩ from by rw [add_lit]]
        have hfl : ((G.map (·.f)).flatMap cF).length = G.length * 2 := by rw [flat_len _ 2 cF_len]; simp
        refine own_set (o := 0) v6.own p1 (by rw [hfl]; simp; omega) fun h7 w7 o7 s7 => ?_
        have hset : ((G.map (·.f)).flatMap cF).take 0 ++ [sc.enc] ++ ((G.map (·.f)).flatMap cF).drop (0 + [sc.enc].length) = (((G.set 0 ⟨⟨sc, (kk : Int)⟩, t⟩).map (·.f)).flatMap cF) := by
          obtain ⟨a, G1, rfl⟩ : ∃ a G1, G = a :: G1 := by
            cases G with
            | nil => simp at hG
            | cons a G1 => exact ⟨a, G1, rfl⟩
          have h1' : a.f.list = (kk : Int) := h1
          simp [S_merge_front.cells, h1']
        rw [hset] at w7
        have hgs : ∀ c, g (G.set 0 ⟨⟨sc, (kk : Int)⟩, t⟩) c = if 0 = c then ⟨⟨sc, (kk : Int)⟩, t⟩ else g G c := fun c => g_set hG
        have v7 : FS h0 h7 h7 n s (G.set 0 ⟨⟨sc, (kk : Int)⟩, t⟩) := ⟨o7.block v6.var fun hb => own_ne v6.own v6.var (by decide) hb, w7, v.mine, v.lo, e6.mine v.mine o7, fun f hf hR => by
          rcases List.mem_or_eq_of_mem_set hf with hf | rfl
          · exact v.rows f hf hR
          · exact rdc, .refl _⟩
        have w6' : Owns h7 r6 tn_api_Row 7 ((out ++ [x]).flatMap cW) := w6.only o7 fun y hy hb => by
          obtain ⟨_, ⟨q1, q2, q3⟩ | ⟨b', c', q1, q2, _⟩⟩ := w6
          · simp [Sl.blk, q1] at hy
          · simp [Sl.blk, q1] at hy
            subst hy
            exact own_ne v6.own q2 (by decide) hb
        have hlen : (G.set 0 ⟨⟨sc, (kk : Int)⟩, t⟩).length = G.length := by simp
        refine v7.ldv ?_
        conv in idxA s 0 2 => rw [q0]
        refine v7.at (by rw [hlen]; exact hG) fun a3 d3 => ?_
        rw [hgs, if_pos rfl] at d3
        refine (ldL_iff (c0 d3)).2 ?_
        rw [hcl]
        have hrem : (mR (Rem.set kk t)).length < d := by rw [h4] at hm; simp at hm; omega
        have hall' : (out ++ [x]) ++ mR (Rem.set kk t) = All := by rw [List.append_assoc, List.singleton_append, ← h4]; exact hall
        have hp' : ∀ c, 0 < c → c < (G.set 0 ⟨⟨sc, (kk : Int)⟩, t⟩).length → (c - 1) / 2 ≠ 0 → ltF (g (G.set 0 ⟨⟨sc, (kk : Int)⟩, t⟩) c) (g (G.set 0 ⟨⟨sc, (kk : Int)⟩, t⟩) ((c - 1) / 2)) = false := fun c c0 cn cp => by
          rw [hgs, hgs, if_neg (by omega), if_neg (by omega)]
          exact hp c c0 (by rw [hlen] at cn; exact cn) (by omega)
        refine ⟨fun g3 => ?_, fun g3 => ?_⟩
        · have ht : t = [] := List.eq_nil_of_length_eq_zero (by simpa using g3)
          subst ht
          refine Pop_spec v7 (by rw [hlen]; exact hG) (by rw [hlen]; omega) hp' (fun j j0 jn => ?_) fun u h8 s8 G8 v8 p8 hp8 => ?_
          · rw [hgs, if_neg (by omega)]
            exact gr.ne _ (List.mem_of_getElem? (g_mem (by rw [hlen] at jn; exact jn)))
          · rw [hgs, if_pos rfl] at p8
            have gr8 := gr.gone hG h1 h2 p8
            have hl8 : G8.length + 1 = G.length := by have := p8.length_eq; simp at this; omega
            refine ih h8 s8 G8 (Rem.set kk []) r6 (out ++ [x]) hrem v8.re (by omega) hp8 gr8 (v8.kp.w w6' (by decide) (by decide)) m6 hall' (by simp; omega)
        · have ht : t ≠ [] := fun e => by subst e; simp at g3
          have gr7 := gr.turn hG h1 h2 ht hcc
          refine Fix_spec v7 (by rw [hlen]; exact hG) (by rw [hlen]; omega) gr7.ne hp' fun h8 G8 v8 p8 hp8 => ?_
          have hl8 : G8.length = G.length := by have := p8.length_eq; simp at this; omega
          refine ih h8 s G8 (Rem.set kk t) r6 (out ++ [x]) hrem v8.re (by omega) hp8 (gr7.perm p8) (v8.kp.w w6' (by decide) (by decide)) m6 hall' (by simp; omega)
      · have : out.length = most.toNat := by rw [hlr] at g2; simp at g2; omega
        refine k r h ?_ m v.ext
        rw [← hall, ← this, List.take_left']
        · exact w
        · rfl
    · have hG : G = [] := List.eq_nil_of_length_eq_zero (by omega)
      subst hG
      have hnil := gr.nil
      unfold F.merge_Rows.j4
      refine ⟨fun g2 => (by cases g2), fun _ => k r h ?_ m v.ext⟩
      rw [hnil, List.append_nil] at hall
      rw [← hall, List.take_of_length_le hout]; exact w
end
end Go.Proofs.Ytidpbnbjpglhfaa.V
namespace Go.Proofs.Ytidpbnbjpglhfaa.V
open Go
set_option linter.unusedVariables false
set_option linter.unusedSimpArgs false
theorem w64s {n : Nat} (h : n < 9000000000000000000) : IntKind.wrap .i64 ((n : Int) + 1) = ((n + 1 : Nat) : Int) := by rw [w64 (by omega) (by omega)]; omega
section
variable {h0 h h' : H}
/-- A table of slices, each of rows. -/
structure TB (h : H) (p : Sl) (ss : List Sl) (Ls : List (List Rw8)) : Prop where
  tb : Reads h p 1 (ss.flatMap cS8)
  len : ss.length = Ls.length
  row : ∀ (i : Nat) s R, ss[i]? = some s → Ls[i]? = some R → Reads h s 7 (R.flatMap cW) ∧ s.len ≤ s.cap
theorem TB.at {p : Sl} {ss : List Sl} {Ls : List (List Rw8)} (t : TB h0 p ss Ls) (e : Ext h0 h) {i : Nat} {s : Sl} (hs : ss[i]? = some s) {K : Sl → Prop} (k : K s) : idxA p (i : Int) 1 fun a => ldL h a K := by
  obtain ⟨q, r1, r2, r3⟩ := rd_at cS8_len (by omega) (t.tb.only e fun _ _ f => f) hs
  have hl := rd_len cS8_len (by omega) t.tb
  exact idxR_of (i := i) r1 (by have := (List.getElem?_eq_some_iff.1 hs).1; omega) rfl ((ldL_iff r3.one).2 k)
theorem Rows_spec {most : Int} {p1 : Sl} {ss : List Sl} {Ls : List (List Rw8)} {Q : Sl → H → Prop} (t : TB h p1 ss Ls) (hs : ss.length < 90000) (hn : (mR Ls).length < 100000)
    (k : ∀ r h', Owns h' r tn_api_Row 7 (((mR Ls).take most.toNat).flatMap cW) → Mine h r → Ext h h' → Q r h') : F.merge_Rows most p1 h Q := by
  unfold F.merge_Rows
  have hl := rd_len cS8_len (by omega) t.tb
  refine new_of fun n h1 hn1 b1 e1 s1 => ⟨ss.length + 1, ?_⟩
  rw [hl]
  have key : ∀ (d i : Nat) (h' : H) (s : Sl) (G : List Fr), i ≤ ss.length → ss.length - i < d → FS h h' h' n s G → GR G (Ls.take i) → G.length ≤ i → F.merge_Rows.l1 Q d most ⟨n, 0, none⟩ p1 (ss.length : Int) (i : Int) h' := by
    intro d
    induction d with
    | zero => intro i h' s G _ hm; omega
    | succ d ih =>
      intro i h' s G hi hm v gr hGi
      have hlG := own_len cF_len (by omega) v.own
      rw [List.length_map] at hlG
      unfold F.merge_Rows.l1
      simp only [decide_eq_true_eq, decide_eq_false_iff_not]
      refine ⟨fun gg => ?_, fun gg => ?_⟩
      · obtain ⟨sl, hsl⟩ : ∃ sl, ss[i]? = some sl := ⟨_, List.getElem?_eq_getElem (by omega)⟩
        obtain ⟨R, hR⟩ : ∃ R, Ls[i]? = some R := ⟨_, List.getElem?_eq_getElem (by have := t.len; omega)⟩
        obtain ⟨rd, hcap⟩ := t.row i sl R hsl hR
        have hlr := rd_len cW_len (by omega) rd
        have hli : (Ls.take i).length = i := by have := t.len; rw [List.length_take]; omega
        refine t.at v.ext hsl ?_
        refine ⟨fun g2 => v.ldv ?_, fun g2 => ?_⟩
        · have hRn : R ≠ [] := fun e => by subst e; rw [hlr] at g2; simp at g2
          refine newL_of fun m2 h2 hm2 b2 e2 s2 => ?_
          have r2 : Reads h2 ⟨some ⟨m2, 0, none⟩, 1, 1⟩ 2 ([(⟨sl, (i : Int)⟩ : S_merge_front)].flatMap cF) := blk_reads (by simpa using b2) rfl
          have v2 := v.e e2
          refine app_list (L := G.map (·.f)) (M := [⟨sl, (i : Int)⟩]) cF_len (by omega) el_fronts v2.own r2 (fun x => ones_S_merge_front x) (by simp only [List.length_singleton, List.length_map]; omega) fun r3 h3 w3 o3 n3 => ?_
          have m3 : Mine h r3 := fun y hy => by
            rcases n3 with n3 | ⟨b', n3, n4⟩
            · exact v.mine y (by rw [← n3]; exact hy)
            · rw [n3] at hy; cases hy; have := v2.ext.size; omega
          have e3 : Ext h h3 := v2.ext.mine v2.mine o3
          have b3 : Blk h3 n #[s.enc] tn_merge_fronts := o3.block v2.var fun hb => own_ne v2.own v2.var (by decide) hb
          have gr' := gr.snoc (s := sl) hRn hcap
          rw [← tk_snoc hR, hli] at gr'
          refine FS.put (hk2 := h3) (G' := G ++ [⟨⟨sl, (i : Int)⟩, R⟩]) v2 (by rw [List.map_append]; exact w3) b3 e3 m3 (fun f hf hfr => ?_) (.refl _) fun h4 v4 o4 => ?_
          · rcases List.mem_append.1 hf with hf | hf
            · exact v.rows f hf hfr
            · rw [List.mem_singleton] at hf; subst hf; exact rd
          · rw [w64s (by omega)]
            exact ih (i + 1) h4 r3 _ (by omega) (by omega) v4.re gr' (by rw [List.length_append]; simp only [List.length_singleton]; omega)
        · have hRn : R = [] := by
            cases R with
            | nil => rfl
            | cons a b => rw [hlr] at g2; simp at g2
          subst hRn
          have gr' := gr.skip
          rw [← tk_snoc hR] at gr'
          rw [w64s (by omega)]
          exact ih (i + 1) h' s G (by omega) (by omega) v gr' (by omega)
      · have hiL : i = ss.length := by omega
        rw [hiL, t.len, List.take_length] at gr
        refine Init_spec v gr.ne (by omega) fun h2 G2 v2 p2 hp2 => ⟨(mR Ls).length + 1, ?_⟩
        have hl2 := p2.length_eq
        exact Rows_main (All := mR Ls) hn k _ h2 s G2 Ls _ [] (by omega) v2.re (by omega) hp2 (gr.perm p2) (by simpa using Owns.nil h2 tn_api_Row 7) (.nil _ _ _) rfl (by simp)
  exact key _ 0 h1 ⟨none, 0, 0⟩ [] (by omega) (by omega) ⟨b1, by simpa using Owns.nil h1 tn_merge_front 2, .nil _ _ _, by omega, e1, fun f hf => (by cases hf), .refl _⟩ ⟨fun f hf => (by cases hf), fun k R hk => (by simp at hk), .nil, fun f hf => (by cases hf)⟩ (by simp)
theorem row_eq {x y : Rw8} : ((((x.Cell.View == y.Cell.View) && ((x.Cell.Key.toList == y.Cell.Key.toList) && ((x.Cell.Start == y.Cell.Start) && true)))) && ((((x.Agg.Count == y.Agg.Count) && ((x.Agg.Sum == y.Agg.Sum) && ((x.Agg.Min == y.Agg.Min) && ((x.Agg.Max == y.Agg.Max) && true))))) && true)) = true ↔ x = y := by
  obtain ⟨⟨a1, ⟨⟨a2⟩⟩, a3⟩, ⟨a4, a5, a6, a7⟩⟩ := x
  obtain ⟨⟨b1, ⟨⟨b2⟩⟩, b3⟩, ⟨b4, b5, b6, b7⟩⟩ := y
  simp [toList_data, and_assoc]
theorem SameRows_spec {r s : Sl} {A C : List Rw8} {Q : Bool → H → Prop} (ra : Reads h r 7 (A.flatMap cW)) (rc : Reads h s 7 (C.flatMap cW)) (hs : A.length < 1000000) (kt : A = C → Q true h) (kf : A ≠ C → Q false h) : F.spatelaw2_SameRows r s h Q := by
  have la := rd_len cW_len (by omega) ra
  have lc := rd_len cW_len (by omega) rc
  unfold F.spatelaw2_SameRows
  rw [la, lc]
  refine ⟨fun gg => kf fun e => by rw [e] at gg; simp at gg, fun gg => ⟨A.length + 1, ?_⟩⟩
  have hl : A.length = C.length := by simp at gg; omega
  have key : ∀ (d i : Nat), i ≤ A.length → A.length - i < d → A.take i = C.take i → F.spatelaw2_SameRows.l1 Q d r s (i : Int) h := by
    intro d
    induction d with
    | zero => intro i _ hm; omega
    | succ d ih =>
      intro i hi hm he
      unfold F.spatelaw2_SameRows.l1
      simp only [decide_eq_true_eq, decide_eq_false_iff_not]
      rw [la]
      refine ⟨fun gg => ?_, fun gg => ?_⟩
      · obtain ⟨x, hx⟩ : ∃ x, A[i]? = some x := ⟨_, List.getElem?_eq_getElem (by omega)⟩
        obtain ⟨y, hy⟩ : ∃ y, C[i]? = some y := ⟨_, List.getElem?_eq_getElem (by omega)⟩
        obtain ⟨p, p1, p2, p3⟩ := rd_at cW_len (by omega) ra hx
        obtain ⟨q, q1, q2, q3⟩ := rd_at cW_len (by omega) rc hy
        refine idxR_of (i := i) p1 (by omega) rfl ⟨x, p3, idxR_of (i := i) q1 (by omega) rfl ⟨y, q3, ?_⟩⟩
        have hrow := row_eq (x := x) (y := y)
        refine ⟨fun g2 => kf fun e => ?_, fun g2 => ?_⟩
        · have : x = y := by rw [e] at hx; rw [hx] at hy; exact Option.some.inj hy
          rw [hrow.2 this] at g2; cases g2
        · have hxy : x = y := hrow.1 (by simpa using g2)
          rw [w64s (by omega)]
          refine ih (i + 1) (by omega) (by omega) ?_
          rw [tk_snoc hx, tk_snoc hy, he, hxy]
      · have : i = A.length := by omega
        subst this
        rw [List.take_length] at he
        exact kt (by rw [he, hl, List.take_length])
  exact key _ 0 (by omega) (by omega) (by simp)
end
end Go.Proofs.Ytidpbnbjpglhfaa.V
namespace Go.Proofs.Ytidpbnbjpglhfaa.V
open Go
set_option linter.unusedVariables false
set_option linter.unusedSimpArgs false
section
variable {h0 h h' : H}
/-- What is left of lists from places on. -/
def remL (Ls : List (List Rw8)) (at_ : List Nat) : List (List Rw8) := List.zipWith (fun R a => R.drop a) Ls at_
theorem rem_at {Ls : List (List Rw8)} {A : List Nat} {i : Nat} {R : List Rw8} {a : Nat} (h1 : Ls[i]? = some R) (h2 : A[i]? = some a) : (remL Ls A)[i]? = some (R.drop a) := by
  unfold remL; rw [List.getElem?_zipWith, h1, h2]
theorem rem_set {Ls : List (List Rw8)} {A : List Nat} {i : Nat} {R : List Rw8} {a : Nat} (h1 : Ls[i]? = some R) (h2 : A[i]? = some a) : remL Ls (A.set i (a + 1)) = (remL Ls A).set i (R.drop (a + 1)) := by
  apply List.ext_getElem?; intro j
  rw [List.getElem?_set]
  unfold remL
  rw [List.getElem?_zipWith, List.getElem?_zipWith, List.getElem?_set]
  have hil := (List.getElem?_eq_some_iff.1 h1).1
  have hia := (List.getElem?_eq_some_iff.1 h2).1
  by_cases e : i = j
  · subst e
    rw [if_pos rfl, if_pos rfl, if_pos hia, if_pos (by rw [List.length_zipWith]; omega), h1]
  · rw [if_neg e, if_neg e]
theorem drop_cons {R : List Rw8} {a : Nat} {x : Rw8} (h : R[a]? = some x) : R.drop a = x :: R.drop (a + 1) := by
  obtain ⟨hl, rfl⟩ := List.getElem?_eq_some_iff.1 h
  exact List.drop_eq_getElem_cons hl
/-- What has been picked among the lists ahead of i. -/
def Pk (Ls : List (List Rw8)) (A : List Nat) (i : Nat) (kk : Int) : Prop := (kk < 0 ∧ ∀ (j : Nat) R a, j < i → Ls[j]? = some R → A[j]? = some a → R.drop a = []) ∨
  (∃ (k : Nat) (R : List Rw8) (a : Nat) (x : Rw8), kk = (k : Int) ∧ k < i ∧ Ls[k]? = some R ∧ A[k]? = some a ∧ R[a]? = some x ∧
    (∀ (j : Nat) R' a' y, j < k → Ls[j]? = some R' → A[j]? = some a' → R'[a']? = some y → leC y x = false) ∧ (∀ (j : Nat) R' a' y, k < j → j < i → Ls[j]? = some R' → A[j]? = some a' → R'[a']? = some y → leC x y = true))
theorem mem_len : ∀ {Ls : List (List Rw8)} {R : List Rw8}, R ∈ Ls → R.length ≤ (mR Ls).length
  | [], _, h => by cases h
  | l :: Ls, R, h => by
    have e : (mR (l :: Ls)).length = l.length + (mR Ls).length := by
      show (List.merge l (mAll leC Ls) leC).length = _
      rw [List.length_merge]
    rcases List.mem_cons.1 h with rfl | h
    · omega
    · have := mem_len h; omega
abbrev nI (a : Nat) : List Value := cI (a : Int)
theorem RRows_spec {most : Int} {p1 : Sl} {ss : List Sl} {Ls : List (List Rw8)} {Q : Sl → H → Prop} (t : TB h p1 ss Ls) (hs : ss.length < 90000) (hn : (mR Ls).length < 100000)
    (k : ∀ r h', Owns h' r tn_api_Row 7 (((mR Ls).take most.toNat).flatMap cW) → Mine h r → Ext h h' → Q r h') : F.spateref8_Rows most p1 h Q := by
  unfold F.spateref8_Rows
  have hl := rd_len cS8_len (by omega) t.tb
  have htl := t.len
  rw [hl]
  refine make_of (n := ss.length) el_Slint (by omega) (by simp only [maxLen]; omega) fun b h1 hb w1 e1 => ⟨(mR Ls).length + 1, ?_⟩
  have mI : (madeCells (Value.int .i64 0).cells (ss.length * 1)).toList = (List.replicate ss.length 0).flatMap nI := by
    rw [Nat.mul_one]; exact (made_one _ _).trans (flat_replicate nI 0 _ rfl _).symm
  rw [mI] at w1
  have nI_len : ∀ a : Nat, (nI a).length = 1 := fun _ => rfl
  have key : ∀ (d : Nat) (h' : H) (A : List Nat) (r : Sl) (out : List Rw8), (mR (remL Ls A)).length < d → A.length = ss.length → (∀ (i : Nat) R a, Ls[i]? = some R → A[i]? = some a → a ≤ R.length) → Owns h' ⟨some ⟨b, 0, none⟩, ss.length, ss.length⟩ 3 1 (A.flatMap nI) →
      Owns h' r tn_api_Row 7 (out.flatMap cW) → Mine h r → Ext h h' → out ++ mR (remL Ls A) = mR Ls → out.length ≤ most.toNat → F.spateref8_Rows.l2 Q d most p1 r ⟨some ⟨b, 0, none⟩, ss.length, ss.length⟩ h' := by
    intro d
    induction d with
    | zero => intro h' A r out hm; omega
    | succ d ih =>
      intro h' A r out hm hA hAl wA w m e hall hout
      have hlr := own_len cW_len (by omega) w
      have hol : out.length ≤ (mR Ls).length := by rw [← hall]; simp
      unfold F.spateref8_Rows.l2
      simp only [decide_eq_true_eq, decide_eq_false_iff_not]
      rw [hlr]
      have fin : out = (mR Ls).take most.toNat → F.spateref8_Rows.j1 Q r h' := fun ho => by
        unfold F.spateref8_Rows.j1
        refine k r h' ?_ m e
        rw [← ho]; exact w
      refine ⟨fun gg => ⟨ss.length + 1, ?_⟩, fun gg => fin ?_⟩
      · have hlt : out.length < most.toNat := by omega
        -- the place in list i
        have atA : ∀ {hh : H} {i : Nat} {a : Nat} {K : Int → Prop}, Owns hh ⟨some ⟨b, 0, none⟩, ss.length, ss.length⟩ 3 1 (A.flatMap nI) → A[i]? = some a → K (a : Int) → idxA ⟨some ⟨b, 0, none⟩, ss.length, ss.length⟩ (i : Int) 1 fun q => ldI .i64 hh q K := fun {hh i a K} ww ha kk => by
          obtain ⟨b', p1', p2'⟩ := own_at nI_len (by omega) ww ha
          exact idxA_of (i := i) p1' (by show i < ss.length; have := (List.getElem?_eq_some_iff.1 ha).1; omega) rfl ((ldI_iff (n := (a : Int)) p2'.one).2 kk)
        have rowAt : ∀ {hh : H} {i a : Nat} {s : Sl} {R : List Rw8} {x : Rw8} {K : Rw8 → Prop}, Ext h hh → ss[i]? = some s → Ls[i]? = some R → R[a]? = some x → K x → idxA s (a : Int) 7 fun q => ld_S_api_Row hh q K := fun {hh i a s R x K} ee h1 h2 h3 kk => by
          obtain ⟨rd, _⟩ := t.row _ s R h1 h2
          obtain ⟨p, q1, q2, q3⟩ := rd_at cW_len (by omega) (rd.only ee fun _ _ f => f) h3
          have hll := rd_len cW_len (by omega) rd
          exact idxR_of (i := a) q1 (by have := (List.getElem?_eq_some_iff.1 h3).1; omega) rfl ⟨x, q3, kk⟩
        have celAt : ∀ {hh : H} {i a : Nat} {s : Sl} {R : List Rw8} {x : Rw8} {K : Cel → Prop}, Ext h hh → ss[i]? = some s → Ls[i]? = some R → R[a]? = some x → K x.Cell → idxA s (a : Int) 7 fun q => ld_S_api_Cell hh (q.add 0) K := fun {hh i a s R x K} ee h1 h2 h3 kk => by
          obtain ⟨rd, _⟩ := t.row _ s R h1 h2
          obtain ⟨p, q1, q2, q3⟩ := rd_at cW_len (by omega) (rd.only ee fun _ _ f => f) h3
          have hll := rd_len cW_len (by omega) rd
          exact idxR_of (i := a) q1 (by have := (List.getElem?_eq_some_iff.1 h3).1; omega) rfl (by rw [add0]; exact ⟨x.Cell, Cells.pre q3, kk⟩)
        -- what has been picked among the lists ahead of i
        have pick : ∀ (d2 i : Nat) (kk : Int) (h2 : H), i ≤ ss.length → ss.length - i < d2 → Pk Ls A i kk → Owns h2 ⟨some ⟨b, 0, none⟩, ss.length, ss.length⟩ 3 1 (A.flatMap nI) → Owns h2 r tn_api_Row 7 (out.flatMap cW) → Ext h h2 →
            F.spateref8_Rows.l3 Q (F.spateref8_Rows.l2 Q d) d2 most p1 r ⟨some ⟨b, 0, none⟩, ss.length, ss.length⟩ kk (i : Int) h2 := by
          intro d2
          induction d2 with
          | zero => intro i kk h2 _ hm2; omega
          | succ d2 ih2 =>
            intro i kk h2 hi hm2 hP wA2 w2 e2
            unfold F.spateref8_Rows.l3
            simp only [decide_eq_true_eq, decide_eq_false_iff_not]
            rw [hl]
            refine ⟨fun g2 => ?_, fun g2 => ?_⟩
            · obtain ⟨a, ha⟩ : ∃ a, A[i]? = some a := ⟨_, List.getElem?_eq_getElem (by omega)⟩
              obtain ⟨s, hss⟩ : ∃ s, ss[i]? = some s := ⟨_, List.getElem?_eq_getElem (by omega)⟩
              obtain ⟨R, hR⟩ : ∃ R, Ls[i]? = some R := ⟨_, List.getElem?_eq_getElem (by omega)⟩
              have hsl := rd_len cW_len (by omega) (t.row i s R hss hR).1
              have j5 : ∀ (bb : Bool) (h3 : H), Pk Ls A (i + 1) (if bb then (i : Int) else kk) → Owns h3 ⟨some ⟨b, 0, none⟩, ss.length, ss.length⟩ 3 1 (A.flatMap nI) → Owns h3 r tn_api_Row 7 (out.flatMap cW) → Ext h h3 →
                  F.spateref8_Rows.j5 Q (F.spateref8_Rows.l2 Q d) (F.spateref8_Rows.l3 Q (F.spateref8_Rows.l2 Q d) d2) most p1 r ⟨some ⟨b, 0, none⟩, ss.length, ss.length⟩ kk (i : Int) bb h3 := by
                intro bb h3 hP3 wA3 w3 e3
                unfold F.spateref8_Rows.j5 F.spateref8_Rows.j4
                rw [w64s (by omega)]
                refine ⟨fun g => ?_, fun g => ?_⟩
                · rw [g] at hP3; exact ih2 (i + 1) _ h3 (by omega) (by omega) hP3 wA3 w3 e3
                · rw [g] at hP3; exact ih2 (i + 1) _ h3 (by omega) (by omega) hP3 wA3 w3 e3
              refine atA wA2 ha (t.at e2 hss ?_)
              rw [hsl]
              refine ⟨fun g3 => ?_, fun g3 => j5 false h2 ?_ wA2 w2 e2⟩
              · obtain ⟨y, hy⟩ : ∃ y, R[a]? = some y := ⟨_, List.getElem?_eq_getElem (by omega)⟩
                refine ⟨fun g4 => j5 true h2 ?_ wA2 w2 e2, fun g4 => ?_⟩
                · rcases hP with ⟨_, hnone⟩ | ⟨k0, _, _, _, hk, _⟩
                  · refine Or.inr ⟨i, R, a, y, rfl, by omega, hR, ha, hy, fun j R' a' z hj h1 h2 h3 => ?_, fun j R' a' z hj hj2 h1 h2 h3 => by omega⟩
                    have := hnone j R' a' hj h1 h2
                    rw [drop_cons h3] at this; cases this
                  · omega
                · rcases hP with ⟨hneg, _⟩ | ⟨k0, R0, a0, x0, hk, hki, hR0, ha0, hx0, hbef, haft⟩
                  · omega
                  · obtain ⟨s0, hs0⟩ : ∃ s0, ss[k0]? = some s0 := ⟨_, List.getElem?_eq_getElem (by omega)⟩
                    subst hk
                    refine t.at e2 hss (atA wA2 ha (celAt e2 hss hR hy (t.at e2 hs0 (atA wA2 ha0 (celAt e2 hs0 hR0 hx0 ?_)))))
                    refine CompareR_spec fun h3 e3 => ?_
                    have hrng := cC_range y.Cell x0.Cell
                    have hanti := cC_anti y.Cell x0.Cell
                    refine j5 _ h3 ?_ (wA2.ext e3) (w2.ext e3) (e2.trans e3)
                    by_cases hc : cmpC y.Cell x0.Cell < 0
                    · rw [decide_eq_true hc, if_pos rfl]
                      refine Or.inr ⟨i, R, a, y, rfl, by omega, hR, ha, hy, fun j R' a' z hj h1 h2 h3 => ?_, fun j R' a' z hj hj2 h1 h2 h3 => by omega⟩
                      -- the earlier heads are greater than y
                      by_cases hjk : j = k0
                      · subst hjk
                        rw [hR0] at h1; cases h1; rw [ha0] at h2; cases h2; rw [hx0] at h3; cases h3
                        unfold leC; exact decide_eq_false (by omega)
                      · unfold leC
                        refine decide_eq_false fun hle => ?_
                        by_cases hlt2 : j < k0
                        · have := hbef j R' a' z hlt2 h1 h2 h3
                          unfold leC at this
                          have := of_decide_eq_false this
                          exact this (cC_le_trans hle (by omega))
                        · have := haft j R' a' z (by omega) hj h1 h2 h3
                          unfold leC at this
                          have h5 := of_decide_eq_true this
                          have := cC_le_trans h5 hle
                          omega
                    · rw [decide_eq_false hc, if_neg (by simp)]
                      refine Or.inr ⟨k0, R0, a0, x0, rfl, by omega, hR0, ha0, hx0, hbef, fun j R' a' z hj hj2 h1 h2 h3 => ?_⟩
                      by_cases hji : j = i
                      · subst hji
                        rw [hR] at h1; cases h1; rw [ha] at h2; cases h2; rw [hy] at h3; cases h3
                        unfold leC; exact decide_eq_true (by omega)
                      · exact haft j R' a' z hj (by omega) h1 h2 h3
              · rw [if_neg (by simp)]
                have hdr : R.drop a = [] := List.drop_of_length_le (by omega)
                have hno : R[a]? = none := List.getElem?_eq_none (by omega)
                rcases hP with ⟨hneg, hnone⟩ | ⟨k0, R0, a0, x0, hk, hki, hR0, ha0, hx0, hbef, haft⟩
                · refine Or.inl ⟨hneg, fun j R' a' hj h1 h2 => ?_⟩
                  by_cases hji : j = i
                  · subst hji
                    rw [hR] at h1; cases h1; rw [ha] at h2; cases h2; exact hdr
                  · exact hnone j R' a' (by omega) h1 h2
                · refine Or.inr ⟨k0, R0, a0, x0, hk, by omega, hR0, ha0, hx0, hbef, fun j R' a' z hj hj2 h1 h2 h3 => ?_⟩
                  by_cases hji : j = i
                  · subst hji
                    rw [hR] at h1; cases h1; rw [ha] at h2; cases h2; rw [hno] at h3; cases h3
                  · exact haft j R' a' z hj (by omega) h1 h2 h3
            · have hiL : i = ss.length := by omega
              subst hiL
              refine ⟨fun g3 => ?_, fun g3 => ?_⟩
              · rcases hP with ⟨_, hnone⟩ | ⟨k0, _, _, _, hk, _⟩
                · have hz : mR (remL Ls A) = [] := mAll_none fun l hll => by
                    obtain ⟨j, hj⟩ := List.mem_iff_getElem?.1 hll
                    have hjl := (List.getElem?_eq_some_iff.1 hj).1
                    unfold remL at hjl
                    rw [List.length_zipWith] at hjl
                    obtain ⟨R', hR'⟩ : ∃ R', Ls[j]? = some R' := ⟨_, List.getElem?_eq_getElem (by omega)⟩
                    obtain ⟨a', ha'⟩ : ∃ a', A[j]? = some a' := ⟨_, List.getElem?_eq_getElem (by omega)⟩
                    rw [rem_at hR' ha'] at hj
                    cases hj
                    exact hnone j R' a' (by omega) hR' ha'
                  rw [hz, List.append_nil] at hall
                  unfold F.spateref8_Rows.j1
                  refine k r h2 ?_ m e2
                  rw [← hall, List.take_of_length_le hout]; exact w2
                · omega
              · rcases hP with ⟨hneg, _⟩ | ⟨k0, R0, a0, x0, hk, hki, hR0, ha0, hx0, hbef, haft⟩
                · omega
                · subst hk
                  obtain ⟨s0, hs0⟩ : ∃ s0, ss[k0]? = some s0 := ⟨_, List.getElem?_eq_getElem (by omega)⟩
                  refine t.at e2 hs0 (atA wA2 ha0 (rowAt e2 hs0 hR0 hx0 ?_))
                  refine newL_of fun m1 h5 hm1 b5 e5 s5 => ?_
                  have r5 : Reads h5 ⟨some ⟨m1, 0, none⟩, 1, 1⟩ 7 ([x0].flatMap cW) := blk_reads (by simpa using b5) rfl
                  refine app_list (L := out) (M := [x0]) cW_len (by omega) el_Slapi_Row (w2.ext e5) r5 (fun x => ones_S_api_Row x) (by simp only [List.length_singleton]; omega) fun r6 h6 w6 o6 n6 => ?_
                  have m6 : Mine h r6 := fun y hy => by
                    rcases n6 with n6 | ⟨b', n6, n7⟩
                    · exact m y (by rw [← n6]; exact hy)
                    · rw [n6] at hy; cases hy; have := e2.size; have := e5.size; omega
                  have e6 : Ext h h6 := (e2.trans e5).mine m o6
                  have wA5 := wA2.ext e5
                  have wA6 : Owns h6 ⟨some ⟨b, 0, none⟩, ss.length, ss.length⟩ 3 1 (A.flatMap nI) := wA5.only o6 fun y hy hb2 => by
                    obtain ⟨_, ⟨q1, q2, q3⟩ | ⟨b', c', q1, q2, _⟩⟩ := wA5
                    · cases q1
                    · cases q1
                      simp [Sl.blk] at hy
                      subst hy
                      exact own_ne (w2.ext e5) q2 (by decide) hb2
                  refine atA wA6 ha0 ?_
                  have hal := (List.getElem?_eq_some_iff.1 ha0).1
                  have hRl := (List.getElem?_eq_some_iff.1 hx0).1
                  have hRn := rd_len cW_len (by omega) (t.row k0 s0 R0 hs0 hR0).1
                  refine idxA_of (i := k0) rfl (by show k0 < ss.length; omega) rfl ?_
                  have hbig : (a0 : Int) < 9000000000000000000 := by
                    have := mem_len (List.mem_of_getElem? hR0); omega
                  rw [w64s (by omega)]
                  refine own_setAt (i := k0) (x := a0 + 1) nI_len wA6 rfl hal fun h7 w7 o7 s7 => ?_
                  have hx1 : mR (remL Ls A) = x0 :: mR (remL Ls (A.set k0 (a0 + 1))) := by
                    rw [rem_set hR0 ha0]
                    have hd0 := drop_cons hx0
                    refine mAll_pick (by rw [rem_at hR0 ha0, hd0]) (fun j y s hj hy => ?_) (fun j y s hj hy => ?_)
                    · have hjl : j < Ls.length ∧ j < A.length := by omega
                      obtain ⟨R', hR'⟩ : ∃ R', Ls[j]? = some R' := ⟨_, List.getElem?_eq_getElem hjl.1⟩
                      obtain ⟨a', ha'⟩ : ∃ a', A[j]? = some a' := ⟨_, List.getElem?_eq_getElem hjl.2⟩
                      rw [rem_at hR' ha'] at hy
                      have hy1 : R'[a']? = some y := by
                        have : (R'.drop a')[0]? = some y := by rw [Option.some.inj hy]; rfl
                        rw [List.getElem?_drop] at this; exact this
                      exact hbef j R' a' y hj hR' ha' hy1
                    · have hjl0 := (List.getElem?_eq_some_iff.1 hy).1
                      unfold remL at hjl0
                      rw [List.length_zipWith] at hjl0
                      obtain ⟨R', hR'⟩ : ∃ R', Ls[j]? = some R' := ⟨_, List.getElem?_eq_getElem (by omega)⟩
                      obtain ⟨a', ha'⟩ : ∃ a', A[j]? = some a' := ⟨_, List.getElem?_eq_getElem (by omega)⟩
                      rw [rem_at hR' ha'] at hy
                      have hy1 : R'[a']? = some y := by
                        have : (R'.drop a')[0]? = some y := by rw [Option.some.inj hy]; rfl
                        rw [List.getElem?_drop] at this; exact this
                      exact haft j R' a' y hj (by omega) hR' ha' hy1
                  have w6' : Owns h7 r6 tn_api_Row 7 ((out ++ [x0]).flatMap cW) := w6.only o7 fun y hy hb2 => by
                    obtain ⟨_, ⟨q1, q2, q3⟩ | ⟨b', c', q1, q2, _⟩⟩ := w6
                    · simp [Sl.blk, q1] at hy
                    · simp [Sl.blk, q1] at hy
                      subst hy
                      exact own_ne wA6 q2 (by decide) hb2
                  refine ih h7 (A.set k0 (a0 + 1)) r6 (out ++ [x0]) (by rw [hx1] at hm; simp at hm; omega) (by simp [hA]) (fun i R a h1 h2 => ?_) w7 w6' m6 (e6.step o7 fun y hy hb2 => by simp [Sl.blk] at hb2; omega) (by rw [List.append_assoc, List.singleton_append, ← hx1]; exact hall) (by simp; omega)
                  rw [List.getElem?_set] at h2
                  by_cases e : k0 = i
                  · subst e
                    rw [if_pos rfl, if_pos hal] at h2; cases h2
                    rw [hR0] at h1; cases h1; omega
                  · rw [if_neg e] at h2
                    exact hAl i R a h1 h2
        exact pick _ 0 (-1) h' (by omega) (by omega) (Or.inl ⟨by omega, fun j R a hj => by omega⟩) wA w e
      · have : out.length = most.toNat := by omega
        rw [← hall, ← this, List.take_left' rfl]
  have hrem0 : remL Ls (List.replicate ss.length 0) = Ls := by
    apply List.ext_getElem?; intro j
    unfold remL
    rw [List.getElem?_zipWith, List.getElem?_replicate, htl]
    by_cases hj : j < Ls.length
    · rw [if_pos hj, List.getElem?_eq_getElem hj]; simp
    · rw [if_neg hj, List.getElem?_eq_none (by omega)]
  refine key _ h1 (List.replicate ss.length 0) _ [] (by rw [hrem0]; omega) (by simp) (fun i R a h1 h2 => ?_) w1 (by simpa using Owns.nil h1 tn_api_Row 7) (.nil _ _ _) e1 (by rw [hrem0]; rfl) (by simp)
  rw [List.getElem?_replicate] at h2
  split at h2
  · cases h2; omega
  · cases h2
end
end Go.Proofs.Ytidpbnbjpglhfaa.V
namespace Go.Proofs.Ytidpbnbjpglhfaa.V
open Go
set_option linter.unusedVariables false
set_option linter.unusedSimpArgs false
theorem push8 {α : Type} {f : α → List Value} {kk : Nat} {t e : TypeId} {bytes : Nat} {z : Value} {h0 h : H} {s : Sl} {D : List α} {x : α} {K : Sl → H → Prop} (el : El PP t e kk bytes z) (hf : ∀ x, (f x).length = kk) (hk : 0 < kk) (one : ∀ x, ∀ v ∈ f x, v.oneCell' = true)
    (e0 : Ext h0 h) (w : Owns h s e kk (D.flatMap f)) (m : Mine h0 s) (hl : (D.length + 1 + (D.length + 1) / 4 + 256) * bytes ≤ 281474976710656)
    (k : ∀ s' h', Owns h' s' e kk ((D ++ [x]).flatMap f) → Mine h0 s' → Ext h0 h' → Only (fun b => s.blk = some b) h h' → K s' h') :
    newL h (f x).toArray e 1 fun s7 h6 => runL PP (Builtin.append_ #[t, t] t #[s.enc, s7.enc]) h6 fun s9 h8 => K s9 h8 := by
  refine newL_of fun n6 h6 hn6 b6 e6 sz6 => ?_
  have r6 : Reads h6 ⟨some ⟨n6, 0, none⟩, 1, 1⟩ kk ([x].flatMap f) := blk_reads (by simpa using b6) (by simp [hf])
  refine app_list (L := D) (M := [x]) hf hk el (w.ext e6) r6 one (by simpa using hl) fun r7 h7 q1 q2 q3 => ?_
  refine k r7 h7 q1 (fun b hb => ?_) ((e0.trans e6).mine m q2) ((e6.only (S := fun b => s.blk = some b)).trans q2 fun _ _ e => e)
  rcases q3 with q3 | ⟨b', q3, q4⟩
  · exact m b (by rw [← q3]; exact hb)
  · rw [q3] at hb; cases hb
    have := e0.size; have := e6.size; omega
theorem own_typ {h h' : H} {s r : Sl} {e e' : TypeId} {k k' : Nat} {cs ds : List Value} (w : Owns h r e k cs) (o : Only (fun b => s.blk = some b) h h') (ws : Owns h s e' k' ds) (he : e ≠ e') : Owns h' r e k cs := w.only o fun y hy hb => by
  obtain ⟨_, ⟨q1, q2, q3⟩ | ⟨b', c', q1, q2, _⟩⟩ := w
  · simp [Sl.blk, q1] at hy
  · simp [Sl.blk, q1] at hy
    subst hy
    exact own_ne ws q2 (fun e => he e.symm) hb
theorem cap_of {h : H} {s : Sl} {e : TypeId} {k : Nat} {cs : List Value} (w : Owns h s e k cs) : s.len ≤ s.cap := by
  obtain ⟨_, ⟨q1, q2, q3⟩ | ⟨b', c', q1, q2, q3, q4, _⟩⟩ := w
  · omega
  · exact q4
end Go.Proofs.Ytidpbnbjpglhfaa.V
namespace Go.Proofs.Ytidpbnbjpglhfaa.V
open Go
set_option linter.unusedVariables false
set_option linter.unusedSimpArgs false
/-- Each row's cell is ahead of those behind it. -/
def SC (l : List Rw8) : Prop := l.Pairwise fun a b => cmpC a.Cell b.Cell = -1
def ordI (out : List Rw8) (x : Rw8) : List Rw8 :=
  match out.dropWhile (fun y => decide (cmpC y.Cell x.Cell < 0)) with
  | y :: r => if cmpC y.Cell x.Cell = 0 then out else out.takeWhile (fun y => decide (cmpC y.Cell x.Cell < 0)) ++ x :: y :: r
  | [] => out ++ [x]
def ordL (A : List Rw8) : List Rw8 := (A.take 200).foldl ordI []
theorem ordI_sc {out : List Rw8} {x : Rw8} (s : SC out) : SC (ordI out x) ∧ (ordI out x).length ≤ out.length + 1 ∧ ∀ z, z ∈ ordI out x → z ∈ out ∨ z = x := by
  unfold ordI
  have htd := List.takeWhile_append_dropWhile (p := fun y : Rw8 => decide (cmpC y.Cell x.Cell < 0)) (l := out)
  have htk : ∀ y ∈ out.takeWhile (fun y => decide (cmpC y.Cell x.Cell < 0)), cmpC y.Cell x.Cell < 0 := fun y hy => by
    have hall := List.all_takeWhile (p := fun y : Rw8 => decide (cmpC y.Cell x.Cell < 0)) (l := out)
    rw [List.all_eq_true] at hall
    simpa using hall y hy
  generalize hA : out.takeWhile (fun y => decide (cmpC y.Cell x.Cell < 0)) = A at htd htk ⊢
  generalize hB : out.dropWhile (fun y => decide (cmpC y.Cell x.Cell < 0)) = B at htd ⊢
  cases B with
  | nil =>
    rw [List.append_nil] at htd
    subst htd
    refine ⟨?_, by simp, fun z hz => by simpa using hz⟩
    unfold SC
    rw [List.pairwise_append]
    refine ⟨s, by simp, fun a ha b hb => ?_⟩
    simp at hb; subst hb
    have := htk a ha; have := cC_range a.Cell b.Cell; omega
  | cons y r =>
    simp only
    split
    · exact ⟨s, by omega, fun z hz => .inl hz⟩
    · rename_i hne
      have hy : ¬ cmpC y.Cell x.Cell < 0 := by
        have := List.head?_dropWhile_not (p := fun y : Rw8 => decide (cmpC y.Cell x.Cell < 0)) (l := out)
        rw [hB] at this
        simpa using this
      have hry := cC_range y.Cell x.Cell
      have hxy : cmpC x.Cell y.Cell = -1 := by have := cC_anti x.Cell y.Cell; omega
      subst htd
      unfold SC at s ⊢
      rw [List.pairwise_append] at s ⊢
      obtain ⟨s1, s2, s3⟩ := s
      have s2' := List.pairwise_cons.1 s2
      refine ⟨⟨s1, List.pairwise_cons.2 ⟨fun b hb => ?_, s2⟩, fun a ha b hb => ?_⟩, by simp; omega, fun z hz => ?_⟩
      · rcases List.mem_cons.1 hb with rfl | hb
        · exact hxy
        · exact cC_trans hxy (s2'.1 b hb)
      · rcases List.mem_cons.1 hb with rfl | hb
        · have := htk a ha; have := cC_range a.Cell b.Cell; omega
        · exact s3 a ha b hb
      · simp only [List.mem_append, List.mem_cons] at hz ⊢
        rcases hz with hz | rfl | hz
        · exact .inl (.inl hz)
        · exact .inr rfl
        · exact .inl (.inr hz)
theorem ord_fold : ∀ (A out : List Rw8), SC out → SC (A.foldl ordI out) ∧ (A.foldl ordI out).length ≤ out.length + A.length
  | [], out, s => ⟨s, by simp⟩
  | x :: A, out, s => by
    obtain ⟨h1, h2, _⟩ := ordI_sc (x := x) s
    obtain ⟨h3, h4⟩ := ord_fold A (ordI out x) h1
    exact ⟨h3, by simp only [List.foldl_cons, List.length_cons]; omega⟩
theorem ordL_sc (A : List Rw8) : SC (ordL A) ∧ (ordL A).length ≤ 200 := by
  obtain ⟨h1, h2⟩ := ord_fold (A.take 200) [] .nil
  refine ⟨h1, ?_⟩
  unfold ordL
  simp at h2 ⊢; omega
abbrev mg (a b : List Rw8) : List Rw8 := List.merge a b leC
end Go.Proofs.Ytidpbnbjpglhfaa.V
namespace Go.Proofs.Ytidpbnbjpglhfaa.V
open Go
set_option linter.unusedVariables false
set_option linter.unusedSimpArgs false
theorem twr_get {p : Rw8 → Bool} : ∀ {out : List Rw8} {i : Nat}, i < (out.takeWhile p).length → ∃ v, out[i]? = some v ∧ p v = true
  | [], i, h => by simp at h
  | a :: r, i, h => by
    rw [List.takeWhile_cons] at h
    split at h
    · rename_i hp
      cases i with
      | zero => exact ⟨a, rfl, hp⟩
      | succ i =>
        simp at h
        obtain ⟨v, h1, h2⟩ := twr_get (out := r) (i := i) h
        exact ⟨v, by simpa using h1, h2⟩
    · simp at h
theorem twr_parts (p : Rw8 → Bool) (out : List Rw8) : out.take (out.takeWhile p).length = out.takeWhile p ∧ out.drop (out.takeWhile p).length = out.dropWhile p := by
  have h := List.takeWhile_append_dropWhile (p := p) (l := out)
  constructor
  · conv => lhs; arg 2; rw [← h]
    exact List.take_left' rfl
  · conv => lhs; arg 2; rw [← h]
    exact List.drop_left' rfl
theorem rowAt8 {h : H} {s : Sl} {A : List Rw8} (rd : Reads h s 7 (A.flatMap cW)) {i : Nat} {x : Rw8} (hx : A[i]? = some x) {K : Addr → Prop} (k : ∀ a, Cells h a (cW x) → K a) : idxA s (i : Int) 7 K := by
  obtain ⟨p, q1, q2, q3⟩ := rd_at cW_len (by omega) rd hx
  have hl := rd_len cW_len (by omega) rd
  exact idxR_of (i := i) q1 (by have := (List.getElem?_eq_some_iff.1 hx).1; omega) rfl (k _ q3)
theorem ldC8 {h : H} {a : Addr} {x : Rw8} {K : Cel → Prop} (c : Cells h a (cW x)) (k : K x.Cell) : ld_S_api_Cell h (a.add 0) K := by
  rw [add0]; exact ⟨x.Cell, Cells.pre c, k⟩
theorem cel_eq {x y : Cel} : ((x.View == y.View) && ((x.Key.toList == y.Key.toList) && ((x.Start == y.Start) && true))) = decide (cmpC x y = 0) := by
  rw [Bool.eq_iff_iff, decide_eq_true_eq, cC_zero]
  obtain ⟨a1, ⟨⟨a2⟩⟩, a3⟩ := x
  obtain ⟨b1, ⟨⟨b2⟩⟩, b3⟩ := y
  simp [toList_data]
theorem ordered_spec {h : H} {s : Sl} {A : List Rw8} {Q : Sl → H → Prop} (rd : Reads h s 7 (A.flatMap cW)) (hA : A.length < 10000000000000000000) (k : ∀ r h', Owns h' r tn_api_Row 7 ((ordL A).flatMap cW) → Mine h r → Ext h h' → Q r h') : F.spatelaw8_ordered s h Q := by
  unfold F.spatelaw8_ordered
  have hl := rd_len cW_len (by omega) rd
  refine ⟨201, ?_⟩
  have key : ∀ (d i : Nat) (h' : H) (so : Sl) (out : List Rw8), i ≤ A.length → i ≤ 200 → 200 - i < d → out = (A.take i).foldl ordI [] → out.length ≤ i → Owns h' so tn_api_Row 7 (out.flatMap cW) → Mine h so → Ext h h' → F.spatelaw8_ordered.l1 Q d s so (i : Int) h' := by
    intro d
    induction d with
    | zero => intro i h' so out _ _ hd; omega
    | succ d ih =>
      intro i h' so out hiA hi2 hd ho hol w m e
      have hlo := own_len cW_len (by omega) w
      unfold F.spatelaw8_ordered.l1
      simp only [decide_eq_true_eq, decide_eq_false_iff_not]
      rw [hl]
      have fin : (A.take 200).foldl ordI [] = out → ∀ b, b = false → F.spatelaw8_ordered.j9 Q (F.spatelaw8_ordered.l1 Q d) s so (i : Int) b h' := fun he b hb => by
        unfold F.spatelaw8_ordered.j9
        refine ⟨fun g => (by rw [hb] at g; cases g), fun _ => k so h' ?_ m e⟩
        unfold ordL; rw [he]; exact w
      refine ⟨fun gg => ?_, fun gg => fin ?_ _ rfl⟩
      · by_cases h200 : i < 200
        · rw [decide_eq_true (show (i : Int) < 200 by omega)]
          unfold F.spatelaw8_ordered.j9
          refine ⟨fun _ => ?_, fun g => (by cases g)⟩
          unfold F.spatelaw8_ordered.j2
          obtain ⟨x, hx⟩ : ∃ x, A[i]? = some x := ⟨_, List.getElem?_eq_getElem (by omega)⟩
          have hfold : (A.take (i + 1)).foldl ordI [] = ordI out x := by rw [tk_snoc hx, List.foldl_append, ← ho]; rfl
          have hol2 : (ordI out x).length ≤ i + 1 := by
            have hsc : SC out := by rw [ho]; exact (ord_fold (A.take i) [] .nil).1
            have := (ordI_sc (x := x) hsc).2.1; omega
          have j3 : ∀ (h2 : H) (so2 : Sl), Owns h2 so2 tn_api_Row 7 ((ordI out x).flatMap cW) → Mine h so2 → Ext h h2 → F.spatelaw8_ordered.j3 Q (F.spatelaw8_ordered.l1 Q d) s so2 (i : Int) h2 := fun h2 so2 w2 m2 e2 => by
            unfold F.spatelaw8_ordered.j3
            rw [w64s (by omega)]
            exact ih (i + 1) h2 so2 _ (by omega) (by omega) (by omega) hfold.symm hol2 w2 m2 e2
          obtain ⟨tp1, tp2⟩ := twr_parts (fun y : Rw8 => decide (cmpC y.Cell x.Cell < 0)) out
          have hget := fun j => twr_get (p := fun y : Rw8 => decide (cmpC y.Cell x.Cell < 0)) (out := out) (i := j)
          have htl : (out.takeWhile (fun y : Rw8 => decide (cmpC y.Cell x.Cell < 0))).length ≤ out.length := (List.takeWhile_prefix _).length_le
          generalize hat : (out.takeWhile (fun y : Rw8 => decide (cmpC y.Cell x.Cell < 0))).length = at_ at tp1 tp2 hget htl
          -- it is laid in
          have j7 : ∀ (h2 : H), Ext h' h2 → ordI out x = out.take at_ ++ x :: out.drop at_ → F.spatelaw8_ordered.j7 Q (F.spatelaw8_ordered.l1 Q d) s so (i : Int) (at_ : Int) h2 := fun h2 e2 hins => by
            have w2 := w.ext e2
            have hcap := cap_of w2
            unfold F.spatelaw8_ordered.j7
            refine cutL_of (lo := 0) (hi := at_) rfl rfl (by omega) (by omega) ?_
            have r1 := cut_reads (lo := 0) (hi := at_) cW_len (by omega) w2.reads (by omega) htl hcap
            simp only [List.drop_zero, Nat.sub_zero] at r1
            refine app_list (L := []) (M := out.take at_) cW_len (by omega) el_Slapi_Row (by simpa using Owns.nil h2 tn_api_Row 7) r1 (fun x => ones_S_api_Row x) (by simp only [List.length_nil, List.length_take]; omega) fun r5 h4 w5 o5 n5 => ?_
            have m5 : Mine h r5 := fun y hy => by
              rcases n5 with n5 | ⟨b', n5, n6⟩
              · rw [n5] at hy; simp [Sl.blk] at hy
              · rw [n5] at hy; cases hy; have := e.size; have := e2.size; omega
            have e4 : Ext h h4 := (e.trans e2).step o5 fun y hy hb => by simp [Sl.blk] at hb
            have w4 : Owns h4 so tn_api_Row 7 (out.flatMap cW) := w2.only o5 fun y hy hb => by simp [Sl.blk] at hb
            refine rowAt8 (rd.only e4 fun _ _ f => f) hx fun a ca => ⟨x, ca, ?_⟩
            refine push8 (f := cW) (x := x) el_Slapi_Row cW_len (by omega) (fun x => ones_S_api_Row x) e4 w5 m5 (by simp only [List.length_append, List.length_nil, List.length_take]; omega) fun s6 h6 w6 m6 e6 o6 => ?_
            have hso : Owns h6 so tn_api_Row 7 (out.flatMap cW) := w4.only o6 fun y hy hb => by
              rcases n5 with n5 | ⟨b', n5, n6⟩
              · rw [n5] at hb; simp [Sl.blk] at hb
              · rw [n5] at hb; cases hb; have := w2.blk_lt hy; omega
            refine cutL_of (lo := at_) (hi := out.length) rfl (by rw [hlo]) htl (by omega) ?_
            have r6 := cut_reads (lo := at_) (hi := out.length) cW_len (by omega) hso.reads htl (Nat.le_refl _) hcap
            rw [List.take_of_length_le (by rw [List.length_drop]; omega)] at r6
            refine app_list (L := [] ++ out.take at_ ++ [x]) (M := out.drop at_) cW_len (by omega) el_Slapi_Row w6 r6 (fun x => ones_S_api_Row x) (by simp only [List.length_append, List.length_nil, List.length_take, List.length_singleton, List.length_drop]; omega) fun r7 h7 w7 o7 n7 => ?_
            have m7 : Mine h r7 := fun y hy => by
              rcases n7 with n7 | ⟨b', n7, n8⟩
              · exact m6 y (by rw [← n7]; exact hy)
              · rw [n7] at hy; cases hy; have := e6.size; omega
            refine j3 h7 r7 ?_ m7 (e6.mine m6 o7)
            rw [hins]
            simpa using w7
          refine ⟨out.length + 1, ?_⟩
          have find : ∀ (d2 j : Nat) (h2 : H), j ≤ at_ → at_ - j < d2 → Ext h' h2 → F.spatelaw8_ordered.l4 Q (F.spatelaw8_ordered.l1 Q d) d2 s so (i : Int) (j : Int) h2 := by
            intro d2
            induction d2 with
            | zero => intro j h2 _ hd2; omega
            | succ d2 ih2 =>
              intro j h2 hj hd2 e2
              have w2 := w.ext e2
              have rd2 := rd.only (e.trans e2) fun _ _ f => f
              unfold F.spatelaw8_ordered.l4
              simp only [decide_eq_true_eq, decide_eq_false_iff_not]
              rw [hlo]
              refine ⟨fun g2 => ?_, fun g2 => ?_⟩
              · obtain ⟨v, hv⟩ : ∃ v, out[j]? = some v := ⟨_, List.getElem?_eq_getElem (by omega)⟩
                refine rowAt8 w2.reads hv fun a1 c1 => ldC8 c1 (rowAt8 rd2 hx fun a2 c2 => ldC8 c2 ?_)
                refine CompareR_spec fun h3 e3 => ?_
                unfold F.spatelaw8_ordered.j6
                by_cases hja : j < at_
                · obtain ⟨v', hv', hp⟩ := hget j hja
                  rw [hv] at hv'; cases hv'
                  rw [hp]
                  refine ⟨fun _ => ?_, fun g => (by cases g)⟩
                  unfold F.spatelaw8_ordered.j5
                  rw [w64s (by omega)]
                  exact ih2 (j + 1) h3 (by omega) (by omega) (e2.trans e3)
                · have hje : j = at_ := by omega
                  subst hje
                  have hdr : out.dropWhile (fun y : Rw8 => decide (cmpC y.Cell x.Cell < 0)) = v :: out.drop (j + 1) := by rw [← tp2]; exact drop_cons hv
                  have hvp : decide (cmpC v.Cell x.Cell < 0) = false := by
                    have := List.head?_dropWhile_not (p := fun y : Rw8 => decide (cmpC y.Cell x.Cell < 0)) (l := out)
                    rw [hdr] at this
                    simpa using this
                  rw [hvp]
                  refine ⟨fun g => (by cases g), fun _ => ⟨fun _ => ?_, fun g => absurd g2 (by simpa [hlo] using g)⟩⟩
                  have w3 := w2.ext e3
                  have rd3 := rd2.only e3 fun _ _ f => f
                  refine rowAt8 w3.reads hv fun a1 c1 => ldC8 c1 (rowAt8 rd3 hx fun a2 c2 => ldC8 c2 ?_)
                  rw [cel_eq]
                  unfold F.spatelaw8_ordered.j8
                  refine ⟨fun g => ?_, fun g => ?_⟩
                  · have hz := of_decide_eq_true g
                    refine j3 h3 so ?_ m ((e.trans e2).trans e3)
                    have : ordI out x = out := by unfold ordI; rw [hdr]; simp only [if_pos hz]
                    rw [this]; exact w3
                  · have hz := of_decide_eq_false g
                    refine j7 h3 (e2.trans e3) ?_
                    unfold ordI; rw [hdr]; simp only [if_neg hz]
                    rw [tp1, drop_cons hv]
              · have hje : j = at_ ∧ at_ = out.length := by omega
                unfold F.spatelaw8_ordered.j6
                refine ⟨fun g => (by cases g), fun _ => ⟨fun g => absurd (by simpa [hlo] using g) g2, fun _ => ?_⟩⟩
                unfold F.spatelaw8_ordered.j8
                refine ⟨fun g => (by cases g), fun _ => ?_⟩
                rw [hje.1]
                refine j7 h2 e2 ?_
                have hdr : out.dropWhile (fun y : Rw8 => decide (cmpC y.Cell x.Cell < 0)) = [] := by rw [← tp2, hje.2]; simp
                unfold ordI; rw [hdr, hje.2]; simp
          exact find _ 0 h' (by omega) (by omega) (.refl _)
        · rw [decide_eq_false (show ¬ (i : Int) < 200 by omega)]
          have : i = 200 := by omega
          exact fin (by rw [ho, this]) _ rfl
      · have : i = A.length := by omega
        rw [ho, this, List.take_length, List.take_of_length_le (by omega)]
  exact key _ 0 h _ [] (by omega) (by omega) (by omega) rfl (by simp) (by simpa using Owns.nil h tn_api_Row 7) (.nil _ _ _) (.refl _)
end Go.Proofs.Ytidpbnbjpglhfaa.V
namespace Go.Proofs.Ytidpbnbjpglhfaa.V
open Go
set_option linter.unusedVariables false
set_option linter.unusedSimpArgs false
section
variable {T : Type} {P : Program} {enc : TypeId × Value → T} {w : World} {base : Nat} {spare : Nat → Bool} {held : Bool} {fuel : Nat}
theorem cells_of {a : Addr} {n : Nat} {cs : List Value} (h : w.cells? base a n = some cs) : cs.length = n ∧ ∀ j v, cs[j]? = some v → w.cell? (a.add j) = some v := by
  obtain ⟨h1, h2, h3⟩ := World.cells?_some h
  refine ⟨h2, fun j v hv => ?_⟩
  have hj : j < n := by rw [← h2]; exact (List.getElem?_eq_some_iff.1 hv).1
  rw [h3 j hj, hv]
/-- A slice that came in, each of whose things is asL G says. -/
theorem open_slice {t e : TypeId} {k : Nat} {v : Value} {x : DataW T × List MemPlace} (G : List Value → Prop) (ht : P.underlying t = some (.slice e)) (hk : P.cellsOf e = k) (hk0 : 0 < k) (h : DataW.trod enc P w base spare held fuel t [v] = some x)
    (hG : ∀ n cs y, DataW.trod enc P w base spare held n e cs = some y → cs.length = k → G cs) :
    ∃ s : Sl, v = s.enc ∧ s.len ≤ s.cap ∧ s.cap ≤ maxLen ∧ ∃ CS : List (List Value), CS.length = s.len ∧ (∀ c ∈ CS, c.length = k ∧ G c) ∧ Reads w.heap s k CS.flatten ∧ (CS ≠ [] → ∀ b, s.blk = some b → b < w.heap.size) := by
  rcases DataW.trod_slice ht h with ⟨h0, _⟩ | ⟨a, len, cap, elems, rest, n, _, h0, _, hb, hl, hm, hlen, hel, _, _⟩
  · simp at h0; subst h0
    exact ⟨⟨none, 0, 0⟩, rfl, Nat.le_refl _, Nat.zero_le _, [], rfl, (fun c hc => by cases hc), ⟨by simp, fun _ => ⟨rfl, rfl⟩, fun i v hv => by simp at hv⟩, fun h => absurd rfl h⟩
  · simp at h0; subst h0
    rw [hk] at hel
    have each : ∀ i, i < len → ∃ cs, w.cells? base (a.add (i * k)) k = some cs ∧ G cs := fun i hi => by
      have hx := hel i hi
      rw [List.getElem?_eq_getElem (by omega), Option.bind_eq_some_iff] at hx
      obtain ⟨cs, hc, ht'⟩ := hx
      exact ⟨cs, hc, hG _ _ _ ht' (cells_of hc).1⟩
    obtain ⟨CS, hCS, hall⟩ : ∃ CS : List (List Value), CS.length = len ∧ ∀ i c, CS[i]? = some c → w.cells? base (a.add (i * k)) k = some c ∧ G c := by
      clear hel h
      have : ∀ m, m ≤ len → ∃ CS : List (List Value), CS.length = m ∧ ∀ i c, CS[i]? = some c → w.cells? base (a.add (i * k)) k = some c ∧ G c := fun m => by
        induction m with
        | zero => intro _; exact ⟨[], rfl, fun i c hc => by simp at hc⟩
        | succ m ih =>
          intro hm2
          obtain ⟨CS, h1, h2⟩ := ih (by omega)
          obtain ⟨c, h3, h4⟩ := each m (by omega)
          refine ⟨CS ++ [c], by simp [h1], fun i d hd => ?_⟩
          by_cases hi : i < CS.length
          · rw [List.getElem?_append_left hi] at hd; exact h2 i d hd
          · rw [List.getElem?_append_right (by omega)] at hd
            have hi2 : i - CS.length = 0 := by
              have := (List.getElem?_eq_some_iff.1 hd).1
              simp at this; omega
            rw [hi2] at hd; simp at hd; subst hd
            have : i = m := by omega
            subst this; exact ⟨h3, h4⟩
      exact this len (Nat.le_refl _)
    have hlen' : ∀ c ∈ CS, c.length = k ∧ G c := fun c hc => by
      obtain ⟨i, hi⟩ := List.mem_iff_getElem?.1 hc
      exact ⟨(cells_of (hall i c hi).1).1, (hall i c hi).2⟩
    have hspot : 0 < len → a.spot = none ∧ a.block < w.heap.size := fun h0 => by
      obtain ⟨c, hc⟩ : ∃ c, CS[0]? = some c := ⟨_, List.getElem?_eq_getElem (by omega)⟩
      obtain ⟨h1, h2⟩ := cells_of (hall 0 c hc).1
      obtain ⟨v, hv⟩ : ∃ v, c[0]? = some v := ⟨_, List.getElem?_eq_getElem (by omega)⟩
      have hcell : cellH w.heap ((a.add (0 * k)).add 0) = some v := h2 0 v hv
      have e0 : ∀ p : Addr, p.add 0 = p := fun p => by unfold Addr.add; split <;> simp_all
      rw [Nat.zero_mul, e0, e0] at hcell
      unfold cellH at hcell
      split at hcell
      · rename_i hh
        refine ⟨?_, (Array.getElem?_eq_some_iff.1 hh).1⟩
        cases hs : a.spot with
        | none => rfl
        | some s => rw [hs] at hcell; simp at hcell
      · cases hcell
    refine ⟨⟨some a, len, cap⟩, rfl, hl, hm, CS, hCS, hlen', ⟨?_, (fun h => by cases h), fun i v hv => ?_⟩, fun hne b hb => ?_⟩
    · rw [← hCS]
      have : ∀ (L : List (List Value)), (∀ c ∈ L, c.length = k) → L.flatten.length = L.length * k := fun L => by
        induction L with
        | nil => intro _; simp
        | cons c r ih => intro hL; simp [hL c (by simp), ih fun c hc => hL c (List.mem_cons_of_mem _ hc), Nat.add_mul]; omega
      exact this CS fun c hc => (hlen' c hc).1
    · have : ∀ (L : List (List Value)) (m : Nat), (∀ c ∈ L, c.length = k) → (∀ i c, L[i]? = some c → ∀ j v, c[j]? = some v → w.cell? (a.add ((m + i) * k + j)) = some v) → ∀ i v, L.flatten[i]? = some v → w.cell? (a.add (m * k + i)) = some v := fun L => by
        induction L with
        | nil => intro m _ _ i v hv; simp at hv
        | cons c r ih =>
          intro m hL hc i v hv
          have hcl := hL c (by simp)
          rw [List.flatten_cons] at hv
          by_cases hi : i < c.length
          · rw [List.getElem?_append_left hi] at hv
            exact hc 0 c rfl i v hv
          · rw [List.getElem?_append_right (by omega)] at hv
            have := ih (m + 1) (fun c hc => hL c (List.mem_cons_of_mem _ hc)) (fun i d hd j v hj => by
              have := hc (i + 1) d (by simpa using hd) j v hj
              rwa [show m + (i + 1) = m + 1 + i from by omega] at this) _ v hv
            rwa [show (m + 1) * k + (i - c.length) = m * k + i from by rw [Nat.add_mul]; omega] at this
      have hlt : 0 < len := by
        rcases Nat.eq_zero_or_pos len with h0 | h0
        · have : CS = [] := List.eq_nil_of_length_eq_zero (by omega)
          subst this; simp at hv
        · exact h0
      obtain ⟨hsp, _⟩ := hspot hlt
      refine ⟨a, rfl, hsp, ?_⟩
      have := this CS 0 (fun c hc => (hlen' c hc).1) (fun i c hc j v hj => by
        have h1 := (cells_of (hall i c hc).1).2 j v hj
        obtain ⟨ab, ao, asp⟩ := a
        simp only at hsp; subst hsp
        rw [add_lit, add_lit] at h1
        rw [add_lit, Nat.zero_add, ← Nat.add_assoc]; exact h1) i v hv
      rw [Nat.zero_mul, Nat.zero_add] at this
      exact this
    · simp [Sl.blk] at hb
      subst hb
      have : 0 < len := by
        rw [← hCS]; exact List.length_pos_iff.2 hne
      exact (hspot this).2
end
end Go.Proofs.Ytidpbnbjpglhfaa.V
namespace Go.Proofs.Ytidpbnbjpglhfaa.V
open Go
set_option linter.unusedVariables false
section
variable {T : Type} {enc : TypeId × Value → T} {w : World} {base : Nat} {spare : Nat → Bool} {held : Bool} {fuel : Nat}
theorem list3 {β : Type} : ∀ {l : List β}, l.length = 3 → ∃ a b c, l = [a, b, c]
  | [a, b, c], _ => ⟨a, b, c, rfl⟩
theorem cell_open {cs : List Value} {y : DataW T × List MemPlace} (h : DataW.trod enc PP w base spare held fuel 34 cs = some y) (hl : cs.length = 3) :
    ∃ c : Cel, cs = c.cells ∧ (-9223372036854775808 ≤ c.View ∧ c.View < 9223372036854775808) ∧ (-9223372036854775808 ≤ c.Start ∧ c.Start < 9223372036854775808) ∧ c.Key.size ≤ maxLen := by
  obtain ⟨xs, n, _, _, _, hlen, hf⟩ := DataW.trod_struct Try.underlying34 h
  have hlen3 : xs.length = 3 := hlen
  have k3 : PP.cellsOf 3 = 1 := by kernel_rfl
  have k9 : PP.cellsOf 9 = 1 := by kernel_rfl
  have k2 : PP.cellsOf 2 = 1 := by kernel_rfl
  obtain ⟨c0, c1, c2, rfl⟩ := list3 hl
  obtain ⟨y0, y1, y2, rfl⟩ := list3 hlen3
  have f0 : DataW.trod enc PP w base spare held n 3 (([c0, c1, c2].drop 0).take (PP.cellsOf 3)) = some y0 := hf 0 _ rfl
  have f1 : DataW.trod enc PP w base spare held n 9 (([c0, c1, c2].drop 1).take (PP.cellsOf 9)) = some y1 := hf 1 _ rfl
  have f2 : DataW.trod enc PP w base spare held n 2 (([c0, c1, c2].drop 2).take (PP.cellsOf 2)) = some y2 := hf 2 _ rfl
  rw [k3] at f0
  rw [k9] at f1
  rw [k2] at f2
  simp only [List.drop_zero, List.drop_succ_cons, List.take_succ_cons, List.take_zero] at f0 f1 f2
  obtain ⟨m0, e0, _, w0⟩ := DataW.trod_int Try.underlying3 f0
  obtain ⟨s1, e1, _, w1⟩ := DataW.trod_string Try.underlying9 f1
  obtain ⟨m2, e2, _, w2⟩ := DataW.trod_int Try.underlying2 f2
  simp only [List.cons.injEq, and_true] at e0 e1 e2
  subst e0; subst e1; subst e2
  exact ⟨⟨m0, s1, m2⟩, rfl, i64_of w0, i64_of w2, w1⟩
end
end Go.Proofs.Ytidpbnbjpglhfaa.V
namespace Go.Proofs.Ytidpbnbjpglhfaa.V
open Go
set_option linter.unusedVariables false
set_option linter.unusedSimpArgs false
section
variable {T : Type} {enc : TypeId × Value → T} {w : World} {base : Nat} {spare : Nat → Bool} {held : Bool} {fuel : Nat}
theorem gen_open {α : Type} (f : α → List Value) (ok : α → Prop) {t e : TypeId} {k : Nat} {v : Value} {y : DataW T × List MemPlace} (hf : ∀ x, (f x).length = k) (ht : PP.underlying t = some (.slice e)) (hk : PP.cellsOf e = k) (hk0 : 0 < k) (h : DataW.trod enc PP w base spare held fuel t [v] = some y)
    (hG : ∀ n cs y, DataW.trod enc PP w base spare held n e cs = some y → cs.length = k → ∃ x, cs = f x ∧ ok x) :
    ∃ (s : Sl) (L : List α), v = s.enc ∧ Reads w.heap s k (L.flatMap f) ∧ s.len ≤ s.cap ∧ (L ≠ [] → ∀ b, s.blk = some b → b < w.heap.size) ∧ (∀ x ∈ L, ok x) ∧ L.length ≤ 9223372036854775807 := by
  obtain ⟨s, h1, h2, h3, CS, h4, h5, h6, h7⟩ := open_slice (fun cs => ∃ x : α, cs = f x ∧ ok x) ht hk hk0 h fun n cs y hy hl => hG n cs y hy hl
  have : ∀ (L : List (List Value)), (∀ c ∈ L, c.length = k ∧ ∃ x : α, c = f x ∧ ok x) → ∃ S : List α, L = S.map f ∧ ∀ x ∈ S, ok x := fun L => by
    induction L with
    | nil => intro _; exact ⟨[], rfl, fun n hn => by cases hn⟩
    | cons c r ih =>
      intro hL
      obtain ⟨E, h1, h2⟩ := ih fun c hc => hL c (List.mem_cons_of_mem _ hc)
      obtain ⟨_, n, rfl, hn⟩ := hL c (by simp)
      refine ⟨n :: E, by rw [h1]; rfl, fun m hm => ?_⟩
      rcases List.mem_cons.1 hm with e | e
      · subst e; exact hn
      · exact h2 m e
  obtain ⟨S, rfl, hS⟩ := this CS h5
  have hr : Reads w.heap s k (S.flatMap f) := by rw [List.flatMap_def]; exact h6
  refine ⟨s, S, h1, hr, h2, fun hn b hb => h7 (by simpa using hn) b hb, hS, ?_⟩
  have := rd_len hf hk0 hr
  simp only [maxLen] at h3; omega
theorem list4 {β : Type} : ∀ {l : List β}, l.length = 4 → ∃ a b c d, l = [a, b, c, d]
  | [a, b, c, d], _ => ⟨a, b, c, d, rfl⟩
theorem list2 {β : Type} : ∀ {l : List β}, l.length = 2 → ∃ a b, l = [a, b]
  | [a, b], _ => ⟨a, b, rfl⟩
theorem agg_open {cs : List Value} {y : DataW T × List MemPlace} (h : DataW.trod enc PP w base spare held fuel tn_api_Agg cs = some y) (hl : cs.length = 4) : ∃ x : S_api_Agg, cs = x.cells := by
  obtain ⟨xs, n, _, _, _, hlen, hf⟩ := DataW.trod_struct ut_api_Agg h
  have hlen4 : xs.length = 4 := hlen
  have k2 : PP.cellsOf 2 = 1 := by kernel_rfl
  obtain ⟨c0, c1, c2, c3, rfl⟩ := list4 hl
  obtain ⟨y0, y1, y2, y3, rfl⟩ := list4 hlen4
  have f0 : DataW.trod enc PP w base spare held n 2 (([c0, c1, c2, c3].drop 0).take (PP.cellsOf 2)) = some y0 := hf 0 _ rfl
  have f1 : DataW.trod enc PP w base spare held n 2 (([c0, c1, c2, c3].drop 1).take (PP.cellsOf 2)) = some y1 := hf 1 _ rfl
  have f2 : DataW.trod enc PP w base spare held n 2 (([c0, c1, c2, c3].drop 2).take (PP.cellsOf 2)) = some y2 := hf 2 _ rfl
  have f3 : DataW.trod enc PP w base spare held n 2 (([c0, c1, c2, c3].drop 3).take (PP.cellsOf 2)) = some y3 := hf 3 _ rfl
  rw [k2] at f0 f1 f2 f3
  simp only [List.drop_zero, List.drop_succ_cons, List.take_succ_cons, List.take_zero] at f0 f1 f2 f3
  obtain ⟨m0, e0, _, w0⟩ := DataW.trod_int Try.underlying2 f0
  obtain ⟨m1, e1, _, w1⟩ := DataW.trod_int Try.underlying2 f1
  obtain ⟨m2, e2, _, w2⟩ := DataW.trod_int Try.underlying2 f2
  obtain ⟨m3, e3, _, w3⟩ := DataW.trod_int Try.underlying2 f3
  simp only [List.cons.injEq, and_true] at e0 e1 e2 e3
  subst e0; subst e1; subst e2; subst e3
  exact ⟨⟨m0, m1, m2, m3⟩, rfl⟩
theorem row_open {cs : List Value} {y : DataW T × List MemPlace} (h : DataW.trod enc PP w base spare held fuel tn_api_Row cs = some y) (hl : cs.length = 7) : ∃ x : Rw8, cs = cW x ∧ True := by
  obtain ⟨xs, n, _, _, _, hlen, hf⟩ := DataW.trod_struct ut_api_Row h
  have hlen2 : xs.length = 2 := hlen
  have k3 : PP.cellsOf tn_api_Cell = 3 := by kernel_rfl
  have k4 : PP.cellsOf tn_api_Agg = 4 := by kernel_rfl
  obtain ⟨y0, y1, rfl⟩ := list2 hlen2
  have f0 : DataW.trod enc PP w base spare held n tn_api_Cell ((cs.drop 0).take (PP.cellsOf tn_api_Cell)) = some y0 := hf 0 _ rfl
  have f1 : DataW.trod enc PP w base spare held n tn_api_Agg ((cs.drop 3).take (PP.cellsOf tn_api_Agg)) = some y1 := hf 1 _ rfl
  rw [k3] at f0
  rw [k4] at f1
  obtain ⟨c, hc, _⟩ := cell_open f0 (by simp; omega)
  obtain ⟨a, ha⟩ := agg_open f1 (by simp; omega)
  refine ⟨⟨c, a⟩, ?_, trivial⟩
  have h1 : cs = cs.take 3 ++ (cs.drop 3).take 4 := by
    conv => lhs; rw [← List.take_append_drop 3 cs]
    rw [List.take_of_length_le (l := cs.drop 3) (by simp; omega)]
  rw [h1]
  rw [List.drop_zero] at hc
  rw [hc, ha]; rfl
theorem rows_open {v : Value} {y : DataW T × List MemPlace} (h : DataW.trod enc PP w base spare held fuel tn_Slapi_Row [v] = some y) :
    ∃ (s : Sl) (L : List Rw8), v = s.enc ∧ Reads w.heap s 7 (L.flatMap cW) ∧ s.len ≤ s.cap ∧ (L ≠ [] → ∀ b, s.blk = some b → b < w.heap.size) ∧ (∀ x ∈ L, True) ∧ L.length ≤ 9223372036854775807 :=
  gen_open cW (fun _ => True) cW_len ut_Slapi_Row (show PP.cellsOf tn_api_Row = 7 from by kernel_rfl) (by omega) h fun n cs y hy hl => row_open hy hl
end
end Go.Proofs.Ytidpbnbjpglhfaa.V
namespace Go.Proofs.Ytidpbnbjpglhfaa.V
open Go
set_option linter.unusedVariables false
set_option linter.unusedSimpArgs false
theorem mR3 (a b c : List Rw8) : mR [a, b, c] = mg a (mg b c) := by
  show List.merge a (List.merge b (List.merge c [] leC) leC) leC = _
  rw [merge_nil']
end Go.Proofs.Ytidpbnbjpglhfaa.V
namespace Go.Proofs.Ytidpbnbjpglhfaa.V
open Go
set_option linter.unusedVariables false
set_option linter.unusedSimpArgs false
/-- A slice that was made between two heaps. -/
def Btw (a b : H) (s : Sl) : Prop := ∀ x, s.blk = some x → a.size ≤ x ∧ x < b.size
theorem Btw.of {a b : H} {s : Sl} {e : TypeId} {k : Nat} {cs : List Value} (m : Mine a s) (w : Owns b s e k cs) : Btw a b s := fun x hx => ⟨m x hx, w.blk_lt hx⟩
theorem Btw.ne {a b c d : H} {s t : Sl} (u : Btw a b s) (v : Btw c d t) (h : b.size ≤ c.size) {x : Nat} (hx : s.blk = some x) : t.blk ≠ some x := fun hy => by
  have := u x hx; have := v x hy; omega
end Go.Proofs.Ytidpbnbjpglhfaa.V
namespace Go.Proofs.Ytidpbnbjpglhfaa.V
open Go
set_option linter.unusedVariables false
set_option linter.unusedSimpArgs false
/-- Element i of an owned list is written: the list is asL long, of the same block. -/
theorem put_at {α : Type} {f : α → List Value} {kk : Nat} {e : TypeId} {h : H} {s : Sl} {D : List α} {i : Nat} {x : α} {K : H → Prop} (hf : ∀ x, (f x).length = kk) (hk : 0 < kk) (w : Owns h s e kk (D.flatMap f)) (hi : i < D.length)
    (k : ∀ h', Owns h' s e kk ((D.set i x).flatMap f) → Only (fun b => s.blk = some b) h h' → K h') : idxA s (i : Int) kk fun a => stH h a (f x) K := by
  obtain ⟨b, p1, p2⟩ := own_at hf hk w (i := i) (x := D[i]) (List.getElem?_eq_getElem hi)
  have hl := own_len hf hk w
  refine idxA_of (i := i) p1 (by rw [hl]; exact hi) rfl ?_
  exact own_setAt (i := i) (x := x) hf w p1 hi fun h' w' o _ => k h' w' o
end Go.Proofs.Ytidpbnbjpglhfaa.V
namespace Go.Proofs.Ytidpbnbjpglhfaa.V
open Go
set_option linter.unusedVariables false
set_option linter.unusedSimpArgs false
/-- Rows and numbers that are kept. -/
structure KP (h : H) (RR : List (Sl × List Rw8)) (II : List (Sl × List Int)) : Prop where
  r : ∀ p ∈ RR, Owns h p.1 tn_api_Row 7 (p.2.flatMap cW)
  i : ∀ p ∈ II, Owns h p.1 3 1 (p.2.flatMap cI)
/-- Apart from all of them. -/
def Ap (w : Sl) (RR : List (Sl × List Rw8)) (II : List (Sl × List Int)) : Prop := (∀ p ∈ RR, ∀ x, w.blk = some x → p.1.blk ≠ some x) ∧ ∀ p ∈ II, ∀ x, w.blk = some x → p.1.blk ≠ some x
section
variable {h h' : H} {RR : List (Sl × List Rw8)} {II : List (Sl × List Int)} {w : Sl}
theorem KP.sub {RR' : List (Sl × List Rw8)} {II' : List (Sl × List Int)} (k : KP h RR II) (hr : ∀ p ∈ RR', p ∈ RR) (hi : ∀ p ∈ II', p ∈ II) : KP h RR' II' :=
  ⟨fun p hp => k.r p (hr p hp), fun p hp => k.i p (hi p hp)⟩
theorem KP.ext (k : KP h RR II) (e : Ext h h') : KP h' RR II := ⟨fun p hp => (k.r p hp).ext e, fun p hp => (k.i p hp).ext e⟩
theorem KP.wr (k : KP h RR II) (o : Only (fun b => w.blk = some b) h h') (a : Ap w RR II) : KP h' RR II :=
  ⟨fun p hp => (k.r p hp).only o fun x hx hw => a.1 p hp x hw hx, fun p hp => (k.i p hp).only o fun x hx hw => a.2 p hp x hw hx⟩
end
end Go.Proofs.Ytidpbnbjpglhfaa.V
namespace Go.Proofs.Ytidpbnbjpglhfaa.V
open Go
set_option linter.unusedVariables false
set_option linter.unusedSimpArgs false
section
variable {RR : List (Sl × List Rw8)} {II : List (Sl × List Int)}
theorem call_rowsM {h : H} {most : Int} {ss : List Sl} {Ls : List (List Rw8)} {Q : Sl → H → Prop} (len : ss.length = Ls.length) (hs : ss.length < 1000) (row : ∀ (i : Nat) s R, ss[i]? = some s → Ls[i]? = some R → Owns h s tn_api_Row 7 (R.flatMap cW)) (hn : (mR Ls).length < 100000)
    (k : ∀ r h', Owns h' r tn_api_Row 7 (((mR Ls).take most.toNat).flatMap cW) → Mine h r → Ext h h' → Q r h') : newL h (ss.flatMap cS8).toArray tn_Slapi_Row ss.length fun s h2 => F.merge_Rows most s h2 Q := by
  refine newL_of fun n h2 hn2 b2 e2 s2 => ?_
  refine Rows_spec (ss := ss) (Ls := Ls) ⟨blk_reads b2 (by rw [flat_len _ 1 cS8_len]), len, fun i s R h1 h3 => ?_⟩ (by omega) hn fun r h3 w m e => k r h3 w (m.older e2) (e2.trans e)
  have := (row i s R h1 h3).ext e2
  exact ⟨this.reads, cap_of this⟩
end
end Go.Proofs.Ytidpbnbjpglhfaa.V
namespace Go.Proofs.Ytidpbnbjpglhfaa.V
open Go
set_option linter.unusedVariables false
set_option linter.unusedSimpArgs false
section
variable {P : Program} {h : H} {α : Type} {f : α → List Value} {k : Nat} {s : Sl} {L : List α} {t e : TypeId} {bytes : Nat} {z : Value}
theorem own_setFirst {b : Nat} {M : List α} {K : H → Prop} (hf : ∀ x, (f x).length = k) (o : Owns h s e k (L.flatMap f)) (hp : s.ptr = some ⟨b, 0, none⟩) (hi : M.length ≤ L.length)
    (kk : ∀ h', Owns h' s e k ((M ++ L.drop M.length).flatMap f) → Only (fun b => s.blk = some b) h h' → h'.size = h.size → K h') : stH h ⟨b, 0, none⟩ (M.flatMap f) K :=
  own_set o hp (by rw [flat_len f k hf, flat_len f k hf, Nat.zero_add]; exact Nat.mul_le_mul_right _ hi) fun h' h1 h2 h3 => kk h' (by
    rw [List.flatMap_append]
    have : (L.flatMap f).drop (0 + (M.flatMap f).length) = (L.drop M.length).flatMap f := by
      have e2 : L = L.take M.length ++ L.drop M.length := (List.take_append_drop _ L).symm
      conv => lhs; rw [e2, List.flatMap_append]
      have hlen : ((L.take M.length).flatMap f).length = M.length * k := by rw [flat_len f k hf, List.length_take, Nat.min_eq_left hi]
      rw [Nat.zero_add, flat_len f k hf, ← hlen, List.drop_left]
    rw [this, List.take_zero, List.nil_append] at h1
    exact h1) h2 h3
theorem copy_of {x : Sl} {M : List α} {u ty : TypeId} {K : Int → H → Prop} (hf : ∀ x, (f x).length = k) (hk : 0 < k) (el : El P t e k bytes z) (hs : Owns h s e k (L.flatMap f)) (hx : Reads h x k (M.flatMap f)) (ho : ∀ x, ∀ v ∈ f x, v.oneCell' = true) (hle : M.length ≤ L.length) (hsmall : M.length < 9223372036854775808)
    (kk : ∀ h', Owns h' s e k ((M ++ L.drop M.length).flatMap f) → Only (fun b => s.blk = some b) h h' → h'.size = h.size → K (M.length : Int) h') : runI P (Builtin.copy_ #[t, u] ty #[s.enc, x.enc]) h .i64 K := by
  obtain ⟨i, hi, hz, hsz, hby⟩ := el.info
  have h1 := own_len hf hk hs
  have h2 := rd_len hf hk hx
  show RunS P (Builtin.copy_ #[t, u] ty #[s.enc, x.enc]) h fun v h' => ∃ r, v = .int .i64 r ∧ K r h'
  unfold Builtin.copy_
  simp only [List.getElem?_toArray, List.getElem?_cons_zero, List.getElem?_cons_succ]
  refine RunS.bind (RunS.of_run (fun w _ => run_underlying el.slice w) ?_)
  simp only [Sl.enc]
  refine RunS.bind (RunS.of_run (v := x.len) (fun w _ => by simp [Builtin.lenOf, go_sem]) ?_)
  have hmin : Nat.min x.len s.len = x.len := Nat.min_eq_left (by omega)
  refine RunS.bind (RunS.of_run (v := k) (fun w _ => by simp [sizeOf, typeInfo, hi, hsz, go_sem]) ?_)
  refine RunS.bind (RunS.firstCells (s := x) hmin hx ?_)
  have hend : ∀ h', K (M.length : Int) h' → RunS P (pure (goInt (x.len.min s.len : Nat)) : Sem Value) h' fun v h' => ∃ r, v = .int .i64 r ∧ K r h' := fun h' q => RunS.pure ⟨(M.length : Int), by rw [show x.len.min s.len = M.length from by rw [← h2]; exact hmin]; rfl, q⟩
  have hones : ∀ v ∈ M.flatMap f, v.oneCell' = true := fun v hv => by
    obtain ⟨x, _, hx⟩ := List.mem_flatMap.1 hv
    exact ho x v hx
  cases hp : s.ptr with
  | none =>
    have hl : s.len = 0 := by
      obtain ⟨_, ⟨_, h3, _⟩ | ⟨b, c, h3, _⟩⟩ := hs
      · exact h3
      · rw [hp] at h3; cases h3
    have hM : M = [] := List.eq_nil_of_length_eq_zero (by omega)
    have hL : L = [] := List.eq_nil_of_length_eq_zero (by omega)
    subst hM; subst hL
    exact hend h (kk h (by simpa using hs) (.refl _) rfl)
  | some a =>
    obtain ⟨b, rfl⟩ : ∃ b, a = ⟨b, 0, none⟩ := by
      obtain ⟨_, ⟨h3, _⟩ | ⟨b, c, h3, _⟩⟩ := hs
      · rw [hp] at h3; cases h3
      · rw [hp] at h3; exact ⟨b, Option.some.inj h3⟩
    have hst := own_setFirst (K := fun h' => K (M.length : Int) h') hf hs hp hle kk
    refine RunS.bind (RunS.storeCells _ 0 _ (by simpa using hones) (fun j hj => ?_) (hend _ hst.2))
    rw [Nat.zero_add]
    exact hst.1 j (by simpa using hj)
end
end Go.Proofs.Ytidpbnbjpglhfaa.V
namespace Go.Proofs.Ytidpbnbjpglhfaa.V
open Go
set_option linter.unusedVariables false
set_option linter.unusedSimpArgs false
/-- Some cells of thing i of an owned list are written. -/
theorem put_in {α : Type} {f : α → List Value} {kk : Nat} {e : TypeId} {h : H} {s : Sl} {D : List α} {i o : Nat} {x y : α} {vs : List Value} {K : H → Prop} (hf : ∀ x, (f x).length = kk) (hk : 0 < kk) (w : Owns h s e kk (D.flatMap f)) (hi : D[i]? = some y)
    (hx : f x = (f y).take o ++ vs ++ (f y).drop (o + vs.length)) (ho : o + vs.length ≤ kk) (k : ∀ h', Owns h' s e kk ((D.set i x).flatMap f) → Only (fun b => s.blk = some b) h h' → K h') : idxA s (i : Int) kk fun a => stH h (a.add o) vs K := by
  obtain ⟨b, p1, p2⟩ := own_at hf hk w hi
  have hl := own_len hf hk w
  obtain ⟨hlt, hg⟩ := List.getElem?_eq_some_iff.1 hi
  refine idxA_of (i := i) p1 (by rw [hl]; exact hlt) rfl ?_
  rw [add_lit]
  have hm : i * kk + kk ≤ D.length * kk := by rw [← Nat.succ_mul]; exact Nat.mul_le_mul_right _ hlt
  have hfl := flat_len f kk hf D
  refine own_set w p1 (by rw [hfl]; omega) fun h' w' o' _ => k h' ?_ o'
  have h1 : D = D.take i ++ y :: D.drop (i + 1) := by rw [← hg, ← List.drop_eq_getElem_cons hlt, List.take_append_drop]
  have h2 : D.set i x = D.take i ++ x :: D.drop (i + 1) := List.set_eq_take_append_cons_drop.trans (by rw [if_pos hlt])
  have h3 : ((D.take i).flatMap f).length = i * kk := by rw [flat_len f kk hf, List.length_take, Nat.min_eq_left (by omega)]
  have h4 : D.flatMap f = (D.take i).flatMap f ++ (f y ++ (D.drop (i + 1)).flatMap f) := by
    conv => lhs; rw [h1]
    rw [List.flatMap_append, List.flatMap_cons]
  have h5 : (D.set i x).flatMap f = (D.take i).flatMap f ++ (f x ++ (D.drop (i + 1)).flatMap f) := by rw [h2, List.flatMap_append, List.flatMap_cons]
  have hy := hf y
  rw [h5, hx]
  rw [h4] at w'
  have t1 : ((D.take i).flatMap f ++ (f y ++ (D.drop (i + 1)).flatMap f)).take (i * kk + o) = (D.take i).flatMap f ++ (f y).take o := by
    rw [← h3, List.take_length_add_append, List.take_append_of_le_length (by omega)]
  have t2 : ((D.take i).flatMap f ++ (f y ++ (D.drop (i + 1)).flatMap f)).drop (i * kk + o + vs.length) = (f y).drop (o + vs.length) ++ (D.drop (i + 1)).flatMap f := by
    rw [← h3, Nat.add_assoc, List.drop_length_add_append, List.drop_append_of_le_length (by omega)]
  rw [t1, t2] at w'
  simpa only [List.append_assoc] using w'
theorem Blk.cells {h : H} {n : Nat} {cs : List Value} {e : TypeId} (b : Blk h n cs.toArray e) : Cells h ⟨n, 0, none⟩ cs := fun i v hv => by
  rw [add_lit, Nat.zero_add]
  exact b.cell (by simpa using hv)
/-- Cells that were made: so many times the same thing. -/
theorem made_all {α : Type} {f : α → List Value} {kk : Nat} (hf : ∀ x, (f x).length = kk) (hk : 0 < kk) {x : α} {cs : Array Value} (hx : f x = cs.toList) (n : Nat) : (madeCells cs (n * kk)).toList = (List.replicate n x).flatMap f := by
  have hs : cs.size = kk := by rw [← hf x, hx, Array.length_toList]
  apply List.ext_getElem?
  intro j
  by_cases hj : j < n * kk
  · have hd : j = (j / kk) * kk + j % kk := by rw [Nat.mul_comm]; exact (Nat.div_add_mod j kk).symm
    have hm : j % kk < kk := Nat.mod_lt _ hk
    have hu : (List.replicate n x)[j / kk]? = some x := by rw [List.getElem?_replicate, if_pos (Nat.div_lt_of_lt_mul (by rw [Nat.mul_comm]; exact hj))]
    have := flat_get f kk hf (List.replicate n x) (j / kk) x hu (j % kk) hm
    rw [← hd] at this
    rw [this, hx]
    simp [madeCells, hj, hs]
    rw [getElem!_pos cs (j % kk) (by omega), Array.getElem?_eq_getElem (by omega)]
  · rw [List.getElem?_eq_none (by simp [size_madeCells]; omega), List.getElem?_eq_none (by rw [flat_len f kk hf]; simp; omega)]
end Go.Proofs.Ytidpbnbjpglhfaa.V
namespace Go.Proofs.Ytidpbnbjpglhfaa.V
open Go
set_option linter.unusedVariables false
set_option linter.unusedSimpArgs false
abbrev mkC : Cel := ⟨-9, ⟨#[109, 97, 114, 107]⟩, 9⟩
abbrev mkW : Rw8 := ⟨mkC, ⟨0, 0, 0, 0⟩⟩
abbrev noW : Rw8 := ⟨⟨0, ⟨#[]⟩, 0⟩, ⟨0, 0, 0, 0⟩⟩
theorem mark_spec {h : H} {Q : S_api_Cell → H → Prop} (k : ∀ h', Ext h h' → Q mkC h') : F.spatelaw2_mark h Q := by
  unfold F.spatelaw2_mark
  refine new_of fun n h1 hn b1 e1 s1 => stH_of b1 (by simp [S_api_Cell.cells]) fun h2 b2 o2 s2 => ⟨mkC, ?_, ?_⟩
  · have : Blk h2 n mkC.cells.toArray tn_api_Cell := b2
    exact this.cells
  · exact k h2 (e1.step o2 fun m hm hb => by omega)
/-- A list lent: so many rows, and three marks. -/
abbrev lentL (R : List Rw8) : List Rw8 := R ++ List.replicate 3 mkW
abbrev lentS (b n : Nat) : Sl := ⟨some ⟨b, 0, none⟩, n, n + 3⟩
abbrev lentA (b n : Nat) : Sl := ⟨some ⟨b, 0, none⟩, n + 3, n + 3⟩
theorem lent_get {R : List Rw8} {j : Nat} (h1 : R.length ≤ j) (h2 : j < R.length + 3) : (lentL R)[j]? = some mkW := by
  rw [List.getElem?_append_right h1, List.getElem?_replicate, if_pos (by omega)]
theorem lent_reads {h : H} {b : Nat} {R : List Rw8} (w : Owns h (lentA b R.length) tn_api_Row 7 ((lentL R).flatMap cW)) : Reads h (lentS b R.length) 7 (R.flatMap cW) := by
  have := cut_reads (lo := 0) (hi := R.length) cW_len (by omega) w.reads (by omega) (by simp) (Nat.le_refl _)
  simpa [slcut, Addr.add] using this
theorem Lend_spec {h : H} {r : S_api_Response} {R : List Rw8} {Q : S_api_Response → H → Prop} (rd : Reads h r.Rows 7 (R.flatMap cW)) (hc : r.Rows.len ≤ r.Rows.cap) (hR : R.length < 100000)
    (k : ∀ (r' : S_api_Response) (b : Nat) (h' : H), r'.Rows = lentS b R.length → Owns h' (lentA b R.length) tn_api_Row 7 ((lentL R).flatMap cW) → h.size ≤ b → Ext h h' → Q r' h') : F.spatelaw2_LendResponse r h Q := by
  obtain ⟨q1, q2, q3, q4, q5, ⟨q6, q7, q8, q9, q10, q11⟩⟩ := r
  have hl : q5.len = R.length := rd_len cW_len (by omega) rd
  unfold F.spatelaw2_LendResponse
  refine new_of fun n2 h1 hn2 b2 e1 s1 => new_of fun n4 h3 hn4 b4 e3 s3 => ?_
  have e13 := e1.trans e3
  have b2a : Blk h3 n2 _ _ := e3.block b2 fun f => f
  refine ldL_of (n := q5) (Blk.cell (i := 4) b2a rfl) ?_
  rw [hl, w64 (n := (R.length : Int) + 3) (by omega) (by omega), show (R.length : Int) + 3 = ((R.length + 3 : Nat) : Int) from by omega]
  refine make_of (n := R.length + 3) el_Slapi_Row (by omega) (by simp only [maxLen]; omega) fun b h7 hb w7 e7 => ?_
  rw [made_all (f := cW) cW_len (by omega) (x := noW) (by rfl)] at w7
  have b2b := e7.block b2a fun f => f
  refine ldL_of (n := q5) (Blk.cell (i := 4) b2b rfl) ?_
  have rd7 : Reads h7 q5 7 (R.flatMap cW) := rd.only (e13.trans e7) fun _ _ f => f
  refine copy_of (M := R) cW_len (by omega) el_Slapi_Row w7 rd7 (fun x => ones_S_api_Row x) (by simp) (by omega) fun h11 w11 o11 z11 => ?_
  have e11 : Ext h3 h11 := e7.step o11 fun m hm hb' => by
    have : b = m := by simpa [Sl.blk] using hb'
    omega
  have b2c := e11.block b2a fun f => f
  have b4a := e11.block b4 fun f => f
  refine ldL_of (n := q5) (Blk.cell (i := 4) b2c rfl) ?_
  rw [hl]
  have key : ∀ (d i : Nat) (h' : H) (D : List Rw8), R.length ≤ i → i ≤ R.length + 3 → R.length + 3 - i < d → D.length = R.length + 3 → (∀ j, j < i → D[j]? = (lentL R)[j]?) → (∀ j, i ≤ j → j < R.length + 3 → D[j]? = some noW) →
      Owns h' (lentA b R.length) tn_api_Row 7 (D.flatMap cW) → Ext h3 h' → F.spatelaw2_LendResponse.l1 Q d ⟨n2, 0, none⟩ ⟨n4, 0, none⟩ (lentA b R.length) (i : Int) h' := by
    intro d
    induction d with
    | zero => intro i h' D _ _ hd; omega
    | succ d ih =>
      intro i h' D h1i hi hd hD hlo hhi w e
      unfold F.spatelaw2_LendResponse.l1
      simp only [decide_eq_true_eq, decide_eq_false_iff_not]
      refine ⟨fun gg => ?_, fun gg => ?_⟩
      · refine mark_spec fun h16 e16 => ?_
        refine put_in (o := 0) (x := mkW) (y := noW) cW_len (by omega) (w.ext e16) (hhi i (by omega) (by omega)) rfl (by simp [S_api_Cell.cells]) fun h20 w20 o20 => ?_
        rw [w64s (by omega)]
        refine ih (i + 1) h20 _ (by omega) (by omega) (by omega) (by simpa using hD) (fun j hj => ?_) (fun j hj hj2 => ?_) w20 ((e.trans e16).step o20 fun m hm hb' => by
          have : b = m := by simpa [Sl.blk] using hb'
          omega)
        · by_cases hji : j = i
          · subst hji
            rw [List.getElem?_set_self (by omega), lent_get h1i (by omega)]
          · rw [List.getElem?_set_ne (by omega)]; exact hlo j (by omega)
        · rw [List.getElem?_set_ne (by omega)]; exact hhi j (by omega) hj2
      · have hi3 : i = R.length + 3 := by omega
        have hDD : D = lentL R := by
          apply List.ext_getElem?
          intro j
          by_cases hj : j < i
          · exact hlo j hj
          · rw [List.getElem?_eq_none (by omega), List.getElem?_eq_none (by simp; omega)]
        subst hDD
        have c2 := e.block b2a fun f => f
        have c4 := e.block b4 fun f => f
        refine ldL_of (n := q5) (Blk.cell (i := 4) c2 rfl) ?_
        rw [hl]
        refine cutL_of (lo := 0) (hi := R.length) rfl rfl (by omega) (by simp) ?_
        rw [show slcut (lentA b R.length) 0 R.length 7 = lentS b R.length from by simp [slcut, Addr.add]]
        refine stH_of c2 (by simp [S_api_Response.cells, S_api_Stats.cells]) fun h25 b25 o25 z25 => ?_
        have c2' : Blk h25 n2 ((⟨q1, q2, q3, q4, lentS b R.length, ⟨q6, q7, q8, q9, q10, q11⟩⟩ : S_api_Response).cells.toArray) tn_api_Response := b25
        refine ⟨⟨q1, q2, q3, q4, lentS b R.length, ⟨q6, q7, q8, q9, q10, q11⟩⟩, c2'.cells, ?_⟩
        have n24 : n4 ≠ n2 := by omega
        have c4' := o25.block c4 n24
        refine stH_of c4' (by simp [S_api_Response.cells, S_api_Stats.cells]) fun h28 b28 o28 z28 => ?_
        have c4'' : Blk h28 n4 ((⟨q1, q2, q3, q4, lentS b R.length, ⟨q6, q7, q8, q9, q10, q11⟩⟩ : S_api_Response).cells.toArray) tn_api_Response := by
          rw [writeA_all (by simp [S_api_Response.cells, S_api_Stats.cells])] at b28
          exact b28
        refine ⟨⟨q1, q2, q3, q4, lentS b R.length, ⟨q6, q7, q8, q9, q10, q11⟩⟩, c4''.cells, ?_⟩
        have l5 : b ≠ n2 := by omega
        have l6 : b ≠ n4 := by omega
        have l7 : ∀ m, m < h.size → ¬ m = n2 := fun m hm => by omega
        have l8 : ∀ m, m < h.size → ¬ m = n4 := fun m hm => by omega
        refine k _ b h28 rfl ?_ (by have := e13.size; omega) ?_
        · exact (w.only o25 fun x hx hb' => l5 ((Option.some.inj hx).trans hb')).only o28 fun x hx hb' => l6 ((Option.some.inj hx).trans hb')
        · exact ((e13.trans e).step o25 l7).step o28 l8
  refine ⟨4, key 4 R.length h11 _ (by omega) (by omega) (by omega) (by simp) (fun j hj => ?_) (fun j hj hj2 => ?_) w11 e11⟩
  · rw [List.getElem?_append_left hj, List.getElem?_append_left hj]
  · rw [List.getElem?_append_right hj, List.drop_replicate, List.getElem?_replicate, if_pos (by omega)]
theorem kept_cell {x y : Cel} (h : x = y) : ((x.View == y.View) && ((x.Key.toList == y.Key.toList) && ((x.Start == y.Start) && true))) = true := by subst h; simp
theorem Kept_spec {h : H} {b : Nat} {s : Sl} {R : List Rw8} {Q : Bool → H → Prop} (w : Owns h (lentA b R.length) tn_api_Row 7 ((lentL R).flatMap cW)) (rs : Reads h s 7 (R.flatMap cW)) (hR : R.length < 100000)
    (k : ∀ h', Only (· = b) h h' → Q true h') : F.spatelaw2_KeptRows (lentS b R.length) s h Q := by
  unfold F.spatelaw2_KeptRows
  refine SameRows_spec (lent_reads w) rs (by omega) (fun _ => ?_) fun hne => absurd rfl hne
  have ls := rd_len cW_len (by omega) rs
  rw [show ((lentS b R.length).len : Int) + 3 = ((R.length + 3 : Nat) : Int) from by simp, w64 (by omega) (by omega)]
  refine cutL_of (lo := 0) (hi := R.length + 3) rfl rfl (by omega) (by simp) ?_
  rw [show slcut (lentS b R.length) 0 (R.length + 3) 7 = lentA b R.length from by simp [slcut, Addr.add]]
  refine ⟨R.length + 4, ?_⟩
  have key : ∀ (d i : Nat) (h' : H) (D : List Rw8), i ≤ R.length + 3 → R.length + 3 - i < d → D.length = R.length + 3 → (∀ j, i ≤ j → D[j]? = (lentL R)[j]?) → Owns h' (lentA b R.length) tn_api_Row 7 (D.flatMap cW) → Only (· = b) h h' → F.spatelaw2_KeptRows.l1 Q d s true (lentA b R.length) (i : Int) h' := by
    intro d
    induction d with
    | zero => intro i h' D _ hd; omega
    | succ d ih =>
      intro i h' D hi hd hD hhi w e
      unfold F.spatelaw2_KeptRows.l1
      simp only [decide_eq_true_eq, decide_eq_false_iff_not]
      rw [ls]
      refine ⟨fun gg => ⟨fun _ => ?_, fun g => by cases g⟩, fun gg => k h' e⟩
      have gi : i < R.length + 3 := by have : (i : Int) < ((R.length + 3 : Nat) : Int) := gg
                                       omega
      have step : ∀ h2, Only (· = b) h h2 → Owns h2 (lentA b R.length) tn_api_Row 7 (D.flatMap cW) → F.spatelaw2_KeptRows.j3 Q (F.spatelaw2_KeptRows.l1 Q d) s true (lentA b R.length) (i : Int) h2 := fun h2 e2 w2 => by
        unfold F.spatelaw2_KeptRows.j3 F.spatelaw2_KeptRows.j2
        refine put_at (f := cW) (x := ⟨⟨0, ⟨#[115, 112, 111, 105, 108, 116]⟩, 0⟩, ⟨0, 0, 0, 0⟩⟩) cW_len (by omega) w2 (by omega) fun h3 w3 o3 => ?_
        rw [w64s (by omega)]
        refine ih (i + 1) h3 _ (by omega) (by omega) (by simpa using hD) (fun j hj => ?_) w3 (e2.trans o3 fun m hm hb => (Option.some.inj hb).symm)
        rw [List.getElem?_set_ne (by omega)]
        exact hhi j (by omega)
      refine ⟨fun g2 => step h' e w, fun g2 => ?_⟩
      have hx : D[i]? = some mkW := by rw [hhi i (by omega)]; exact lent_get (by omega) gi
      refine rowAt8 w.reads hx fun a c => ldC8 c (mark_spec fun h5 e5 => ⟨?_, ?_⟩)
      · have c2 : Cells h' (a.add 0) mkC.cells := by
          intro i v hv
          have h0 : (a.add 0).add i = a.add i := by
            unfold Addr.add
            split <;> simp
          rw [h0]
          exact c i v (by rw [show cW mkW = mkC.cells ++ (mkW.Agg).cells from rfl, List.getElem?_append_left (List.getElem?_eq_some_iff.1 hv).1]; exact hv)
        exact c2.ext e5
      · rw [kept_cell rfl]
        exact step h5 (e.ext e5) (w.ext e5)
  exact key _ 0 h _ (by omega) (by omega) (by simp) (fun j _ => rfl) w (.refl _)
end Go.Proofs.Ytidpbnbjpglhfaa.V
namespace Go.Proofs.Ytidpbnbjpglhfaa.V
open Go
set_option linter.unusedVariables false
set_option linter.unusedSimpArgs false
theorem row_of {h : H} {l : List (Sl × List Rw8)} (hl : ∀ p ∈ l, Owns h p.1 tn_api_Row 7 (p.2.flatMap cW)) : ∀ (i : Nat) s R, (l.map (·.1))[i]? = some s → (l.map (·.2))[i]? = some R → Owns h s tn_api_Row 7 (R.flatMap cW) := by
  intro i s R h1 h2
  rw [List.getElem?_map] at h1 h2
  cases hx : l[i]? with
  | none => rw [hx] at h1; cases h1
  | some p =>
    rw [hx] at h1 h2
    cases h1; cases h2
    exact hl p (List.mem_of_getElem? hx)
theorem lent_owns {h : H} {b : Nat} {R : List Rw8} (w : Owns h (lentA b R.length) tn_api_Row 7 ((lentL R).flatMap cW)) : Owns h (lentS b R.length) tn_api_Row 7 (R.flatMap cW) := by
  obtain ⟨q0, ⟨q1, q2, q3⟩ | ⟨b', c', q1, q2, q3, q4, q5, q6⟩⟩ := w
  · cases q1
  · refine ⟨flat_len cW 7 cW_len R, .inr ⟨b', c', q1, q2, q3, Nat.le_add_right _ _, q5, ?_⟩⟩
    rw [List.flatMap_append, List.length_append] at q6
    have := congrArg (List.take (R.flatMap cW).length) q6
    rw [List.take_take, Nat.min_eq_left (by omega), List.take_left] at this
    exact this
theorem mR3_len (X Y Z : List Rw8) : (mR [X, Y, Z]).length = X.length + (Y.length + Z.length) := by
  rw [mR3]; simp [mg, List.length_merge]
theorem tab_at {hh : H} {s : Sl} {ss : List Sl} (w : Reads hh s 1 (ss.flatMap cS8)) {i : Nat} {x : Sl} (hs : ss[i]? = some x) {K : Sl → Prop} (k : K x) : idxA s (i : Int) 1 fun a => ldL hh a K := by
  obtain ⟨q, r1, r2, r3⟩ := rd_at cS8_len (by omega) w hs
  have hl := rd_len cS8_len (by omega) w
  exact idxR_of (i := i) r1 (by have := (List.getElem?_eq_some_iff.1 hs).1; omega) rfl ((ldL_iff r3.one).2 k)
theorem MergeRows_spec {h : H} {p0 : Int} {s1 s2 s3 : Sl} {A1 A2 A3 : List Rw8} {Q : Bool → H → Prop} (t1 : Reads h s1 7 (A1.flatMap cW)) (t2 : Reads h s2 7 (A2.flatMap cW)) (t3 : Reads h s3 7 (A3.flatMap cW)) (b1 : A1.length ≤ 9223372036854775807) (b2 : A2.length ≤ 9223372036854775807) (b3 : A3.length ≤ 9223372036854775807)
    (k : ∀ h', Ext h h' → Q true h') : F.spatelaw8_MergeRows p0 s1 s2 s3 h Q := by
  unfold F.spatelaw8_MergeRows
  refine known8_spec fun h1 e1 => ⟨fun g => by simp at g, fun _ => ?_⟩
  refine ordered_spec (t1.only e1 fun _ _ f => f) (by omega) fun r5 h4 w5 m5 e4 => ?_
  have e14 := e1.trans e4
  refine ordered_spec (t2.only e14 fun _ _ f => f) (by omega) fun r7 h6 w7 m7 e6 => ?_
  have e16 := e14.trans e6
  refine ordered_spec (t3.only e16 fun _ _ f => f) (by omega) fun r9 h8 w9 m9 e8 => ?_
  have e18 := e16.trans e8
  obtain ⟨sX, lX⟩ := ordL_sc A1
  obtain ⟨sY, lY⟩ := ordL_sc A2
  obtain ⟨sZ, lZ⟩ := ordL_sc A3
  generalize ordL A1 = X at w5 sX lX
  generalize ordL A2 = Y at w7 sY lY
  generalize ordL A3 = Z at w9 sZ lZ
  have u5 := Btw.of m5 w5
  have u7 := Btw.of m7 w7
  have u9 := Btw.of m9 w9
  refine newL_of fun n11 h10 hn11 c11 e10 z10 => ?_
  have w11 : Owns h10 ⟨some ⟨n11, 0, none⟩, 3, 3⟩ tn_Slapi_Row 1 ([r5, r7, r9].flatMap cS8) := blk_owns c11 rfl (by simp only [maxLen]; omega)
  generalize (⟨some ⟨n11, 0, none⟩, 3, 3⟩ : Sl) = s11 at w11
  have w5a := ((w5.ext e6).ext e8).ext e10
  have w7a := (w7.ext e8).ext e10
  have w9a := w9.ext e10
  refine tab_at (i := 0) w11.reads rfl ?_
  refine Lend_spec (R := X) w5a.reads (cap_of w5a) (by omega) fun r17 b17 h16 q17 w17 l17 e17 => ?_
  refine tab_at (i := 1) (w11.ext e17).reads rfl ?_
  refine Lend_spec (R := Y) (w7a.ext e17).reads (cap_of w7a) (by omega) fun r23 b23 h22 q23 w23 l23 e23 => ?_
  have e1723 := e17.trans e23
  refine tab_at (i := 2) (w11.ext e1723).reads rfl ?_
  refine Lend_spec (R := Z) (w9a.ext e1723).reads (cap_of w9a) (by omega) fun r29 b29 h28 q29 w29 l29 e29 => ?_
  rw [q17, q23, q29]
  have w17a := (w17.ext e23).ext e29
  have w23a := w23.ext e29
  have x17 : b17 < h16.size := w17.blk_lt rfl
  have x23 : b23 < h22.size := w23.blk_lt rfl
  have x29 : b29 < h28.size := w29.blk_lt rfl
  have hS := mR3_len X Y Z
  refine call_rowsM (ss := [lentS b17 X.length, lentS b23 Y.length, lentS b29 Z.length]) (Ls := [X, Y, Z]) rfl (by simp) (row_of (l := [(lentS b17 X.length, X), (lentS b23 Y.length, Y), (lentS b29 Z.length, Z)]) fun p hp => ?_) (by omega) fun r33 h32 w33 m33 e32 => ?_
  · simp only [List.mem_cons, List.not_mem_nil, or_false] at hp
    rcases hp with rfl | rfl | rfl
    · exact lent_owns w17a
    · exact lent_owns w23a
    · exact lent_owns w29
  have u33 := Btw.of m33 w33
  have e1029 := e1723.trans e29
  have e1032 := e1029.trans e32
  have w11b := w11.ext e1032
  have tb : ∀ {hh : H}, Owns hh s11 tn_Slapi_Row 1 ([r5, r7, r9].flatMap cS8) → Owns hh r5 tn_api_Row 7 (X.flatMap cW) → Owns hh r7 tn_api_Row 7 (Y.flatMap cW) → Owns hh r9 tn_api_Row 7 (Z.flatMap cW) → TB hh s11 [r5, r7, r9] [X, Y, Z] := fun q0 q1 q2 q3 =>
    ⟨q0.reads, rfl, fun i s R h1 h2 => by
      have := row_of (l := [(r5, X), (r7, Y), (r9, Z)]) (fun p hp => by
        simp only [List.mem_cons, List.not_mem_nil, or_false] at hp
        rcases hp with rfl | rfl | rfl
        · exact q1
        · exact q2
        · exact q3) i s R h1 h2
      exact ⟨this.reads, cap_of this⟩⟩
  refine RRows_spec (tb w11b (w5a.ext e1032) (w7a.ext e1032) (w9a.ext e1032)) (by simp) (by omega) fun r35 h34 w35 m35 e34 => ?_
  have lS : ((mR [X, Y, Z]).take p0.toNat).length ≤ 600 := by rw [List.length_take]; omega
  generalize hSd : (mR [X, Y, Z]).take p0.toNat = S at w33 w35 lS
  refine SameRows_spec (A := S) (C := S) (w33.ext e34).reads w35.reads (by omega) (fun _ => ⟨fun _ => ?_, fun g => by cases g⟩) fun hne => absurd rfl hne
  have e1034 := e1032.trans e34
  have kp : KP h34 [(r5, X), (r7, Y), (r9, Z), (lentA b17 X.length, lentL X), (lentA b23 Y.length, lentL Y), (lentA b29 Z.length, lentL Z), (r33, S)] [] := by
    refine ⟨fun p hp => ?_, fun p hp => by cases hp⟩
    simp only [List.mem_cons, List.not_mem_nil, or_false] at hp
    rcases hp with rfl | rfl | rfl | rfl | rfl | rfl | rfl
    · exact w5a.ext e1034
    · exact w7a.ext e1034
    · exact w9a.ext e1034
    · exact (w17a.ext e32).ext e34
    · exact (w23a.ext e32).ext e34
    · exact (w29.ext e32).ext e34
    · exact w33.ext e34
  have z1 := e1.size
  have z4 := e4.size
  have z6 := e6.size
  have z8 := e8.size
  have z17 := e17.size
  have z23 := e23.size
  have z29 := e29.size
  have z32 := e32.size
  have w11c := w11.ext e1034
  have eall : Ext h h34 := (e18.trans e10).trans e1034
  -- the three that were lent are looked at, and written over
  have ap : ∀ (b n : Nat) (RR : List (Sl × List Rw8)), (∀ p ∈ RR, ∀ x, p.1.blk = some x → x ≠ b) → Ap (lentA b n) RR [] := fun b n RR hRR =>
    ⟨fun p hp x hx hy => hRR p hp x hy (Option.some.inj hx).symm, fun p hp => by cases hp⟩
  have on : ∀ {b n : Nat} {a a' : H}, Only (· = b) a a' → Only (fun x => (lentA b n).blk = some x) a a' := fun o => o.mono fun x _ hx => by rw [hx]; rfl
  refine tab_at (i := 0) w11c.reads rfl ?_
  refine Kept_spec (kp.r (lentA b17 X.length, lentL X) (by simp)) (kp.r (r5, X) (by simp)).reads (by omega) fun h43 o43 => ⟨fun _ => ?_, fun g => by cases g⟩
  have kp1 : KP h43 [(r5, X), (r7, Y), (r9, Z), (lentA b23 Y.length, lentL Y), (lentA b29 Z.length, lentL Z), (r33, S)] [] := by
    refine (kp.sub (RR' := [(r5, X), (r7, Y), (r9, Z), (lentA b23 Y.length, lentL Y), (lentA b29 Z.length, lentL Z), (r33, S)]) (fun p hp => ?_) fun p hp => hp).wr (on o43) (ap b17 X.length _ fun p hp x hx => ?_)
    · simp only [List.mem_cons, List.not_mem_nil, or_false] at hp ⊢
      rcases hp with h | h | h | h | h | h <;> simp [h]
    · simp only [List.mem_cons, List.not_mem_nil, or_false] at hp
      rcases hp with rfl | rfl | rfl | rfl | rfl | rfl
      · have := u5 x hx; omega
      · have := u7 x hx; omega
      · have := u9 x hx; omega
      · have := Option.some.inj hx; simp only at this; omega
      · have := Option.some.inj hx; simp only at this; omega
      · have := u33 x hx; omega
  have w11d := own_typ w11c (on (n := X.length) o43) (kp.r (lentA b17 X.length, lentL X) (by simp)) (by decide)
  have ee1 : Ext h h43 := eall.step o43 fun m hm hb => by omega
  refine tab_at (i := 1) w11d.reads rfl ?_
  refine Kept_spec (kp1.r (lentA b23 Y.length, lentL Y) (by simp)) (kp1.r (r7, Y) (by simp)).reads (by omega) fun h50 o50 => ⟨fun _ => ?_, fun g => by cases g⟩
  have kp2 : KP h50 [(r5, X), (r7, Y), (r9, Z), (lentA b29 Z.length, lentL Z), (r33, S)] [] := by
    refine (kp1.sub (RR' := [(r5, X), (r7, Y), (r9, Z), (lentA b29 Z.length, lentL Z), (r33, S)]) (fun p hp => ?_) fun p hp => hp).wr (on o50) (ap b23 Y.length _ fun p hp x hx => ?_)
    · simp only [List.mem_cons, List.not_mem_nil, or_false] at hp ⊢
      rcases hp with h | h | h | h | h <;> simp [h]
    · simp only [List.mem_cons, List.not_mem_nil, or_false] at hp
      rcases hp with rfl | rfl | rfl | rfl | rfl
      · have := u5 x hx; omega
      · have := u7 x hx; omega
      · have := u9 x hx; omega
      · have := Option.some.inj hx; simp only at this; omega
      · have := u33 x hx; omega
  have w11e := own_typ w11d (on (n := Y.length) o50) (kp1.r (lentA b23 Y.length, lentL Y) (by simp)) (by decide)
  have ee2 : Ext h h50 := ee1.step o50 fun m hm hb => by omega
  refine tab_at (i := 2) w11e.reads rfl ?_
  refine Kept_spec (kp2.r (lentA b29 Z.length, lentL Z) (by simp)) (kp2.r (r9, Z) (by simp)).reads (by omega) fun h57 o57 => ⟨fun _ => ?_, fun g => by cases g⟩
  have kp3 : KP h57 [(r5, X), (r7, Y), (r9, Z), (r33, S)] [] := by
    refine (kp2.sub (RR' := [(r5, X), (r7, Y), (r9, Z), (r33, S)]) (fun p hp => ?_) fun p hp => hp).wr (on o57) (ap b29 Z.length _ fun p hp x hx => ?_)
    · simp only [List.mem_cons, List.not_mem_nil, or_false] at hp ⊢
      rcases hp with h | h | h | h <;> simp [h]
    · simp only [List.mem_cons, List.not_mem_nil, or_false] at hp
      rcases hp with rfl | rfl | rfl | rfl
      · have := u5 x hx; omega
      · have := u7 x hx; omega
      · have := u9 x hx; omega
      · have := u33 x hx; omega
  have w11f := own_typ w11e (on (n := Z.length) o57) (kp2.r (lentA b29 Z.length, lentL Z) (by simp)) (by decide)
  have ee3 : Ext h h57 := ee2.step o57 fun m hm hb => by omega
  have v5 := kp3.r (r5, X) (by simp)
  have v7 := kp3.r (r7, Y) (by simp)
  have v9 := kp3.r (r9, Z) (by simp)
  have v33 := kp3.r (r33, S) (by simp)
  refine RRows_spec (tb w11f v5 v7 v9) (by simp) (by omega) fun r61 h60 w61 m61 e60 => ?_
  rw [hSd] at w61
  refine SameRows_spec (A := S) (C := S) (v33.ext e60).reads w61.reads (by omega) (fun _ => ⟨fun _ => ?_, fun g => by cases g⟩) fun hne => absurd rfl hne
  refine Rows_spec (ss := []) (Ls := []) ⟨(Owns.nil h60 tn_Slapi_Row 1).reads, rfl, fun i s R h1 => by cases h1⟩ (by simp) (by show 0 < _; omega) fun r66 h65 w66 m66 e65 => ?_
  have l66 : r66.len = 0 := by
    have := own_len cW_len (by omega) w66
    rw [this, show mR [] = [] from rfl]; simp
  rw [l66]
  refine ⟨fun _ => ?_, fun g => by simp at g⟩
  have e5765 := e60.trans e65
  have w11g := w11f.ext e5765
  refine tab_at (i := 0) w11g.reads rfl ?_
  refine cutL_of (lo := 0) (hi := 1) rfl rfl (by omega) (by have := cap_of w11g; have := own_len cS8_len (by omega) w11g; simp at this; omega) ?_
  have rc := cut_reads (lo := 0) (hi := 1) cS8_len (by omega) w11g.reads (by omega) (by simp) (cap_of w11g)
  simp only [List.drop_zero, Nat.sub_zero, List.take_succ_cons, List.take_zero] at rc
  generalize slcut s11 0 1 1 = s73 at rc
  have l1 : mR [X] = X := merge_nil' X
  refine call_rowsM (ss := [r5]) (Ls := [X]) rfl (by simp) (row_of (l := [(r5, X)]) fun p hp => by simp only [List.mem_cons, List.not_mem_nil, or_false] at hp; subst hp; exact v5.ext e5765) (by rw [l1]; omega) fun r77 h76 w77 m77 e76 => ?_
  have v5b := (v5.ext e5765).ext e76
  refine RRows_spec (ss := [r5]) (Ls := [X]) ⟨rc.only e76 fun _ _ f => f, rfl, fun i s R h1 h2 => by
    match i, h1, h2 with
    | 0, h1, h2 => cases h1; cases h2; exact ⟨v5b.reads, cap_of v5b⟩
    | n + 1, h1, h2 => cases h1⟩ (by simp) (by rw [l1]; omega) fun r79 h78 w79 m79 e78 => ?_
  refine SameRows_spec (w77.ext e78).reads w79.reads (by rw [l1, List.length_take]; omega) (fun _ => ?_) fun hne => absurd rfl hne
  exact k h78 (ee3.trans (e5765.trans (e76.trans e78)))
end Go.Proofs.Ytidpbnbjpglhfaa.V
