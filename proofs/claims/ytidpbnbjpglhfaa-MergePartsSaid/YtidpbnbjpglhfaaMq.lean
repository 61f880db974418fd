/- The heap of fronts: Init, Pop, Fix; no condition. -/
import Derived.Test.YtidpbnbjpglhfaaMp
namespace Go.Proofs.Ytidpbnbjpglhfaa.V
open Go
set_option linter.unusedVariables false
set_option linter.unusedSimpArgs false
section
variable {h0 hk h h' : H} {n : Nat} {s : Sl} {G : List Fr}
/-- All of it is a heap. -/
abbrev Heap (G : List Fr) : Prop := HP ltF G G.length 0
theorem Init_loop {Q : H → Prop} : ∀ (m : Nat) (i : Nat) (h : H) (G : List Fr), G.length < 1000000 → i ≤ G.length / 2 → i < m → FS h0 hk h n s G → (∀ f ∈ G, f.R ≠ []) → HP ltF G G.length i →
    (∀ h' G', FS h0 hk h' n s G' → G'.Perm G → Heap G' → Q h') → F.container_heap_Init.l1 Q m (some ⟨n, 0, none⟩) (G.length : Int) ((i : Int) - 1) h := by
  intro m
  induction m with
  | zero => intro i h G _ _ hm; omega
  | succ m ih =>
    intro i h G hn hi hm v ne hp k
    unfold F.container_heap_Init.l1
    refine ⟨fun g => ?_, fun g => ?_⟩
    · have hi0 : 0 < i := by simp at g; omega
      have e1 : ((i : Int) - 1) = ((i - 1 : Nat) : Int) := by omega
      rw [e1]
      have law := dn_law ltF_ord (G.length - (i - 1)) G G.length (i - 1) (i - 1) (Nat.le_refl _) (by omega) (Nat.le_refl _) (Nat.le_refl _) (fun c c0 cn cs cp => hp c c0 cn (by omega)) (fun c c0 cn cp c1 c2 => by omega)
      refine down_spec v (Nat.le_refl _) hn (by omega) (fun j hj => ne _ (List.mem_of_getElem? (g_mem hj))) fun h1 v1 b => ?_
      rw [w64 (by omega) (by omega)]
      obtain ⟨r1, r2, r3, r4⟩ := law
      have := ih (i - 1) h1 (dn ltF (G.length - (i - 1)) G G.length (i - 1)).1 (by rw [r3]; exact hn) (by rw [r3]; omega) (by omega) v1 (fun f hf => ne f (r2.mem_iff.1 hf)) (by rw [r3]; exact r1) fun h' G' v' p' hp' => k h' G' v' (p'.trans r2) hp'
      rw [r3] at this
      exact this
    · have : i = 0 := by simp at g; omega
      subst this
      exact k h G v (.refl _) hp
theorem tdiv2 {a : Nat} : Int.tdiv (a : Int) 2 = ((a / 2 : Nat) : Int) := by
  rw [Int.tdiv_eq_ediv_of_nonneg (by omega)]; omega
theorem Init_spec {Q : H → Prop} (v : FS h0 hk h n s G) (ne : ∀ f ∈ G, f.R ≠ []) (hn : G.length < 1000000) (k : ∀ h' G', FS h0 hk h' n s G' → G'.Perm G → Heap G' → Q h') : F.container_heap_Init (some ⟨n, 0, none⟩) h Q := by
  unfold F.container_heap_Init
  refine ⟨_, rfl, v.ldv ?_⟩
  unfold F.merge_fronts_Len
  have hl := own_len cF_len (by omega) v.own
  rw [List.length_map] at hl
  rw [hl]
  refine ⟨by decide, G.length / 2 + 1, ?_⟩
  rw [tdiv2, w64 (n := ((G.length / 2 : Nat) : Int)) (by omega) (by omega), w64 (by omega) (by omega)]
  exact Init_loop (G.length / 2 + 1) (G.length / 2) h G hn (by omega) (by omega) v ne (fun c c0 cn cs => by omega) k
/-- The last one is taken off. -/
theorem Pop_method {Q : Value → H → Prop} (v : FS h0 hk h n s G) (hG : 0 < G.length) (hn : G.length < 1000000) (k : ∀ u h' s', FS h0 hk h' n s' G.dropLast → Q u h') : F.merge_fronts_Pop (some ⟨n, 0, none⟩) h Q := by
  unfold F.merge_fronts_Pop
  have hl := own_len cF_len (by omega) v.own
  rw [List.length_map] at hl
  refine ⟨_, rfl, v.ldv ?_⟩
  rw [hl, w64 (by omega) (by omega)]
  have e1 : ((G.length : Int) - 1) = ((G.length - 1 : Nat) : Int) := by omega
  rw [e1]
  refine v.at (by omega) fun a1 d1 => ⟨_, d1, ?_⟩
  refine new_of fun m h1 hm b1 x1 s1 => ?_
  refine stH_of b1 (by simp [S_merge_front.cells]) fun h2 b2 o2 s2 => ?_
  rw [writeA_all (by simp [S_merge_front.cells])] at b2
  have x2 : Ext h h2 := x1.step o2 fun y hy e => by omega
  have v2 := v.e x2
  have hcap : s.len ≤ s.cap ∧ s.cap ≤ maxLen ∧ ∃ b, s.ptr = some ⟨b, 0, none⟩ := by
    obtain ⟨_, ⟨q1, q2, q3⟩ | ⟨b', c', q1, q2, q3, q4, q5, q6⟩⟩ := v.own
    · omega
    · exact ⟨q4, q5, b', q1⟩
  refine ⟨slcut s 0 (G.length - 1) 2, ⟨by omega, by omega, by omega, by simp⟩, ⟨_, rfl, ?_⟩⟩
  refine stH_of v2.var (by simp) fun h3 b3 o3 s3 => ?_
  rw [writeA_all (by simp)] at b3
  have hmn : m ≠ n := by have := block_lt v.var; omega
  have b2' : Blk h3 m _ _ := o3.block b2 (fun e => hmn e)
  refine ⟨_, fun j u hu => by rw [add_lit, Nat.zero_add]; exact b2'.cell (by simpa using hu), ?_⟩
  have hnb : s.blk ≠ some n := fun hb => by
    obtain ⟨_, ⟨q1, q2, q3⟩ | ⟨b', c', q1, q2, _⟩⟩ := v2.own
    · simp [Sl.blk, q1] at hb
    · simp [Sl.blk, q1] at hb
      subst hb
      have := v2.var
      unfold Blk at q2 this
      rw [q2] at this; cases this
  have hb0 := hcap.2.2
  obtain ⟨b, hb⟩ := hb0
  have hcut : slcut s 0 (G.length - 1) 2 = ⟨some ⟨b, 0, none⟩, G.length - 1, s.cap⟩ := by
    unfold slcut
    rw [if_neg (by omega), hb]
    simp [add_lit]
  rw [hcut] at b3
  have w2 := v2.own
  refine k _ h3 _ ⟨b3, ?_, fun y hy => v.mine y (by simp [Sl.blk] at hy ⊢; simp [hb, hy]), v.lo, v2.ext.step o3 fun y hy e => by have := v.lo; omega, fun f hf => v.rows f (List.dropLast_subset _ hf), v2.kp.blk o3 v2.var (.inr rfl)⟩
  have w3 := w2.only o3 fun y hy e => hnb (by rw [← e]; exact hy)
  obtain ⟨r1, ⟨q1, q2, q3⟩ | ⟨b', c', q1, q2, q3, q4, q5, q6⟩⟩ := w3
  · omega
  · rw [hb] at q1
    cases q1
    have hfl : ((G.map (·.f)).flatMap cF).length = G.length * 2 := by rw [flat_len _ 2 cF_len]; simp
    have hdl : ((G.dropLast.map (·.f)).flatMap cF) = ((G.map (·.f)).flatMap cF).take ((G.length - 1) * 2) := by
      have hne : G ≠ [] := by intro e; subst e; simp at hG
      have hGs := List.dropLast_concat_getLast hne
      have hfd : ((G.dropLast.map (·.f)).flatMap cF).length = (G.length - 1) * 2 := by rw [flat_len _ 2 cF_len]; simp
      have e : ((G.map (·.f)).flatMap cF) = ((G.dropLast.map (·.f)).flatMap cF) ++ (([G.getLast hne].map (·.f)).flatMap cF) := by rw [← List.flatMap_append, ← List.map_append, hGs]
      rw [e, List.take_left' hfd]
    refine ⟨by rw [hdl]; simp [hfl], .inr ⟨b, c', rfl, q2, q3, by show G.length - 1 ≤ s.cap; omega, q5, ?_⟩⟩
    rw [hdl, List.length_take, hfl, Nat.min_eq_left (by omega)]
    rw [hfl] at q6
    rw [← q6, List.take_take, Nat.min_eq_left (by omega)]
theorem dropLast_g {A : List Fr} {c : Nat} (h : c < A.length - 1) : g A.dropLast c = g A c := by
  simp only [g, List.getD_eq_getElem?_getD]
  rw [List.getElem?_dropLast, if_pos h]
/-- The least one is taken off. -/
theorem Pop_spec {Q : Value → H → Prop} (v : FS h0 hk h n s G) (hG : 0 < G.length) (hn : G.length < 1000000) (hp : ∀ c, 0 < c → c < G.length → (c - 1) / 2 ≠ 0 → ltF (g G c) (g G ((c - 1) / 2)) = false) (ne : ∀ j, 0 < j → j < G.length → (g G j).R ≠ [])
    (k : ∀ u h' s' G', FS h0 hk h' n s' G' → (g G 0 :: G').Perm G → Heap G' → Q u h') : F.container_heap_Pop (some ⟨n, 0, none⟩) h Q := by
  unfold F.container_heap_Pop
  have hl := own_len cF_len (by omega) v.own
  rw [List.length_map] at hl
  refine ⟨_, rfl, v.ldv ?_⟩
  unfold F.merge_fronts_Len
  rw [hl]
  refine ⟨_, rfl, v.ldv ?_⟩
  rw [w64 (by omega) (by omega)]
  have e1 : ((G.length : Int) - 1) = ((G.length - 1 : Nat) : Int) := by omega
  rw [e1]
  have q0 : (0 : Int) = ((0 : Nat) : Int) := rfl
  rw [q0]
  refine Swap_spec v (by omega) (by omega) fun h1 v1 => ?_
  have hgs : ∀ k, g (swp G 0 (G.length - 1)) k = if k = G.length - 1 then g G 0 else if k = 0 then g G (G.length - 1) else g G k := fun k => g_swp (by omega) (by omega)
  have hsl := swp_len G 0 (G.length - 1)
  have key : ∀ (A : List Fr), A.length = G.length → A.Perm (swp G 0 (G.length - 1)) → (∀ c, G.length - 1 ≤ c → g A c = g (swp G 0 (G.length - 1)) c) → HP ltF A (G.length - 1) 0 → (g G 0 :: A.dropLast).Perm G ∧ Heap A.dropLast := by
    intro A hA hperm hback hhp
    constructor
    · have hne : A ≠ [] := by intro e; rw [e] at hA; simp at hA; omega
      have hlast : A.getLast hne = g G 0 := by
        have : g A (G.length - 1) = g G 0 := by rw [hback _ (Nat.le_refl _), hgs, if_pos rfl]
        rw [List.getLast_eq_getElem, ← this]
        simp [g, List.getD_eq_getElem?_getD, hA, hG]
        rw [List.getElem?_eq_getElem (by omega)]; rfl
      have h1 : (A.dropLast ++ [g G 0]).Perm G := by
        rw [← hlast, List.dropLast_concat_getLast hne]
        exact hperm.trans (swp_perm (by omega) (by omega))
      exact (List.perm_append_singleton _ _).symm.trans h1
    · intro c c0 cn cs
      rw [List.length_dropLast, hA] at cn
      rw [dropLast_g (by omega), dropLast_g (by omega)]
      exact hhp c c0 cn cs
  refine down_spec v1 (by omega) (by omega) (by omega) (fun j hj => by
    rw [hgs, if_neg (by omega)]
    split
    · exact ne _ (by omega) (by omega)
    · exact ne j (by omega) (by omega)) fun h2 v2 b => ?_
  by_cases h1n : G.length = 1
  · have hd : (dn ltF (G.length - 1 - 0) (swp G 0 (G.length - 1)) (G.length - 1) 0).1 = swp G 0 (G.length - 1) := by
      rw [h1n]; rfl
    rw [hd] at v2
    obtain ⟨r1, r2⟩ := key _ hsl (.refl _) (fun _ _ => rfl) (fun c c0 cn cs => by omega)
    exact Pop_method v2 (by omega) (by omega) fun u h3 s3 v3 => k u h3 s3 _ v3 r1 r2
  · obtain ⟨r1, r2, r3, r4⟩ := dn_law ltF_ord (G.length - 1 - 0) (swp G 0 (G.length - 1)) (G.length - 1) 0 0 (by omega) (by omega) (Nat.le_refl _) (by omega) (fun c c0 cn cs cp => by
      rw [hgs, hgs, if_neg (by omega), if_neg (by omega), if_neg (by omega), if_neg (by omega)]
      exact hp c c0 (by omega) cp) (fun c c0 cn cp c1 c2 => by omega)
    obtain ⟨t1, t2⟩ := key _ (by omega) r2 r4 r1
    exact Pop_method v2 (by omega) (by omega) fun u h3 s3 v3 => k u h3 s3 _ v3 t1 t2
/-- The root was changed. -/
theorem Fix_spec {Q : H → Prop} (v : FS h0 hk h n s G) (hG : 0 < G.length) (hn : G.length < 1000000) (ne : ∀ f ∈ G, f.R ≠ []) (h1 : ∀ c, 0 < c → c < G.length → (c - 1) / 2 ≠ 0 → ltF (g G c) (g G ((c - 1) / 2)) = false)
    (k : ∀ h' G', FS h0 hk h' n s G' → G'.Perm G → Heap G' → Q h') : F.container_heap_Fix (some ⟨n, 0, none⟩) 0 h Q := by
  unfold F.container_heap_Fix
  have hl := own_len cF_len (by omega) v.own
  rw [List.length_map] at hl
  refine ⟨_, rfl, v.ldv ?_⟩
  unfold F.merge_fronts_Len
  rw [hl]
  have q0 : (0 : Int) = ((0 : Nat) : Int) := rfl
  rw [q0]
  obtain ⟨r1, r2, r3, r4⟩ := dn_law ltF_ord (G.length - 0) G G.length 0 0 (Nat.le_refl _) hG (Nat.le_refl _) (by omega) (fun c c0 cn cs cp => h1 c c0 cn cp) (fun c c0 cn cp c1 c2 => by omega)
  refine down_spec v (Nat.le_refl _) hn (by omega) (fun j hj => ne _ (List.mem_of_getElem? (g_mem hj))) fun h2 v2 b => ?_
  have kk := k h2 _ v2 r2 (by unfold Heap; rw [r3]; exact r1)
  refine ⟨fun _ => ?_, fun _ => kk⟩
  unfold F.container_heap_up
  refine ⟨1, ?_⟩
  unfold F.container_heap_up.l1
  refine ⟨by decide, fun _ => ?_, fun g => absurd g (by decide)⟩
  unfold F.container_heap_up.j3
  exact ⟨fun _ => kk, fun g => (by cases g)⟩
end
end Go.Proofs.Ytidpbnbjpglhfaa.V
