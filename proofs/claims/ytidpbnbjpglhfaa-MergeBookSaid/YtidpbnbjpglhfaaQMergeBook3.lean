/- Parts of the proof of MergeBook; no condition. -/
import Derived.ChangeSlices
import Derived.OpenShut
import Derived.Test.YtidpbnbjpglhfaaQMergeBook2
namespace Go.Proofs.Ytidpbnbjpglhfaa.V
open Go
set_option linter.unusedVariables false
set_option linter.unusedSimpArgs false
theorem el_fronts : El PP tn_merge_fronts tn_merge_front 2 32 (.agg (⟨(⟨none, 0, 0⟩ : Sl), 0⟩ : S_merge_front).cells.toArray) := ⟨Try.underlying86, ⟨Try.t88, by kernel_rfl, by kernel_rfl, by kernel_rfl, by kernel_rfl⟩, by kernel_rfl, by omega, by omega⟩
theorem tk_snoc {α : Type} {l : List α} {i : Nat} {x : α} (h : l[i]? = some x) : l.take (i + 1) = l.take i ++ [x] := by rw [List.take_add_one, h]; rfl
def leC (a b : Rw8) : Bool := decide (cmpC a.Cell b.Cell ≤ 0)
abbrev mR (Ls : List (List Rw8)) : List Rw8 := mAll leC Ls
/-- The fronts of lists, asL far asL they are gone. -/
structure GR (G : List Fr) (Rem : List (List Rw8)) : Prop where
  a : ∀ f ∈ G, ∃ k : Nat, f.f.list = (k : Int) ∧ Rem[k]? = some f.R ∧ f.R ≠ []
  b : ∀ (k : Nat) R, Rem[k]? = some R → R ≠ [] → ∃ f ∈ G, f.f.list = (k : Int) ∧ f.R = R
  nd : (G.map (·.f.list)).Nodup
  cap : ∀ f ∈ G, f.f.rows.len ≤ f.f.rows.cap
theorem GR.perm {G G' : List Fr} {Rem : List (List Rw8)} (r : GR G Rem) (p : G'.Perm G) : GR G' Rem :=
  ⟨fun f hf => r.a f (p.mem_iff.1 hf), fun k R h1 h2 => by obtain ⟨f, hf, h⟩ := r.b k R h1 h2; exact ⟨f, p.mem_iff.2 hf, h⟩, (p.map _).nodup_iff.2 r.nd, fun f hf => r.cap f (p.mem_iff.1 hf)⟩
theorem GR.ne {G : List Fr} {Rem : List (List Rw8)} (r : GR G Rem) : ∀ f ∈ G, f.R ≠ [] := fun f hf => by obtain ⟨k, _, _, h⟩ := r.a f hf; exact h
/-- One list more. -/
theorem GR.snoc {G : List Fr} {Rem : List (List Rw8)} {s : Sl} {R : List Rw8} (r : GR G Rem) (hR : R ≠ []) (hc : s.len ≤ s.cap) : GR (G ++ [⟨⟨s, (Rem.length : Int)⟩, R⟩]) (Rem ++ [R]) := by
  refine ⟨fun f hf => ?_, fun k R' h1 h2 => ?_, ?_, fun f hf => ?_⟩
  · rcases List.mem_append.1 hf with hf | hf
    · obtain ⟨k, h1, h2, h3⟩ := r.a f hf
      exact ⟨k, h1, by rw [List.getElem?_append_left (List.getElem?_eq_some_iff.1 h2).1]; exact h2, h3⟩
    · simp at hf; subst hf
      exact ⟨Rem.length, rfl, by simp, hR⟩
  · by_cases hk : k < Rem.length
    · rw [List.getElem?_append_left hk] at h1
      obtain ⟨f, hf, h⟩ := r.b k R' h1 h2
      exact ⟨f, by simp [hf], h⟩
    · have hkl := (List.getElem?_eq_some_iff.1 h1).1
      simp at hkl
      have : k = Rem.length := by omega
      subst this
      simp at h1; subst h1
      exact ⟨⟨⟨s, (Rem.length : Int)⟩, R⟩, by simp, rfl, rfl⟩
  · rw [List.map_append, List.nodup_append]
    refine ⟨r.nd, by simp, fun a ha b hb => ?_⟩
    simp only [List.map_cons, List.map_nil, List.mem_singleton] at hb
    subst hb
    obtain ⟨f, hf, rfl⟩ := List.mem_map.1 ha
    obtain ⟨k, h1, h2, _⟩ := r.a f hf
    have := (List.getElem?_eq_some_iff.1 h2).1
    omega
  · rcases List.mem_append.1 hf with hf | hf
    · exact r.cap f hf
    · simp at hf; subst hf; exact hc
theorem GR.skip {G : List Fr} {Rem : List (List Rw8)} (r : GR G Rem) : GR G (Rem ++ [[]]) := by
  refine ⟨fun f hf => ?_, fun k R' h1 h2 => ?_, r.nd, r.cap⟩
  · obtain ⟨k, h1, h2, h3⟩ := r.a f hf
    exact ⟨k, h1, by rw [List.getElem?_append_left (List.getElem?_eq_some_iff.1 h2).1]; exact h2, h3⟩
  · by_cases hk : k < Rem.length
    · rw [List.getElem?_append_left hk] at h1
      exact r.b k R' h1 h2
    · have hkl := (List.getElem?_eq_some_iff.1 h1).1
      simp at hkl
      have : k = Rem.length := by omega
      subst this
      simp at h1
      exact (h2 h1).elim
/-- The root tells the least row. -/
theorem GR.pick {G : List Fr} {Rem : List (List Rw8)} (r : GR G Rem) (hG : 0 < G.length) (hp : Heap G) : ∃ (k : Nat) (x : Rw8) (t : List Rw8), (g G 0).f.list = (k : Int) ∧ Rem[k]? = some (x :: t) ∧ (g G 0).R = x :: t ∧ mR Rem = x :: mR (Rem.set k t) := by
  have hm := List.mem_of_getElem? (g_mem hG)
  obtain ⟨k, h1, h2, h3⟩ := r.a _ hm
  obtain ⟨x, t, hx⟩ : ∃ x t, (g G 0).R = x :: t := by
    cases hR : (g G 0).R with
    | nil => exact absurd hR h3
    | cons x t => exact ⟨x, t, rfl⟩
  have hroot := hp_root ltF_ord hp
  have other : ∀ (j : Nat) y s, Rem[j]? = some (y :: s) → ¬ (cmpC y.Cell x.Cell = -1 ∨ (cmpC y.Cell x.Cell = 0 ∧ (j : Int) < (k : Int))) := fun j y s hj hlt => by
    obtain ⟨f, hf, e1, e2⟩ := r.b j _ hj (by simp)
    obtain ⟨c, hc⟩ := List.mem_iff_getElem?.1 hf
    have hcl := (List.getElem?_eq_some_iff.1 hc).1
    have hgc : g G c = f := by
      have := g_mem hcl; rw [hc] at this; exact (Option.some.inj this).symm
    have := hroot c hcl
    rw [hgc] at this
    have hn : ¬ ltF f (g G 0) = true := by rw [this]; simp
    rw [ltF_iff, e1, h1] at hn
    have d1 : hdF f = y := by unfold hdF; rw [e2]; rfl
    have d2 : hdF (g G 0) = x := by unfold hdF; rw [hx]; rfl
    rw [d1, d2] at hn
    exact hn hlt
  refine ⟨k, x, t, h1, by rw [h2, hx], hx, mAll_pick (by rw [h2, hx]) (fun j y s hj hy => ?_) (fun j y s hj hy => ?_)⟩
  · have := other j y s hy
    have hr := cC_range y.Cell x.Cell
    unfold leC
    exact decide_eq_false (by omega)
  · have := other j y s hy
    have hr := cC_range y.Cell x.Cell
    have ha := cC_anti y.Cell x.Cell
    unfold leC
    exact decide_eq_true (by omega)
/-- The root's list is one row shorter. -/
theorem GR.turn {G : List Fr} {Rem : List (List Rw8)} {k : Nat} {x : Rw8} {t : List Rw8} {s : Sl} (r : GR G Rem) (hG : 0 < G.length) (h1 : (g G 0).f.list = (k : Int)) (h2 : Rem[k]? = some (x :: t)) (ht : t ≠ []) (hc : s.len ≤ s.cap) : GR (G.set 0 ⟨⟨s, (k : Int)⟩, t⟩) (Rem.set k t) := by
  have hkl := (List.getElem?_eq_some_iff.1 h2).1
  have hm0 := g_mem hG
  have uniq : ∀ c, c < G.length → (g G c).f.list = (k : Int) → c = 0 := fun c hc he => by
    have a1 : (G.map (·.f.list))[0]? = some (k : Int) := by rw [List.getElem?_map, hm0]; simp only [Option.map_some, h1]
    have a2 : (G.map (·.f.list))[c]? = some (k : Int) := by rw [List.getElem?_map, g_mem hc]; simp only [Option.map_some, he]
    exact ((List.getElem?_inj (by simpa using hc) r.nd).1 (a2.trans a1.symm))
  refine ⟨fun f hf => ?_, fun j R' g1 g2 => ?_, ?_, fun f hf => ?_⟩
  · obtain ⟨c, hc⟩ := List.mem_iff_getElem?.1 hf
    rw [List.getElem?_set] at hc
    by_cases e : 0 = c
    · rw [if_pos e, if_pos hG] at hc; cases hc
      exact ⟨k, rfl, by simp [hkl], ht⟩
    · rw [if_neg e] at hc
      have hcl := (List.getElem?_eq_some_iff.1 hc).1
      obtain ⟨j, q1, q2, q3⟩ := r.a f (List.mem_of_getElem? hc)
      have hgc : g G c = f := by have := g_mem hcl; rw [hc] at this; exact (Option.some.inj this).symm
      refine ⟨j, q1, ?_, q3⟩
      rw [List.getElem?_set, if_neg (fun e2 => e (uniq c hcl (by rw [hgc, q1, e2])).symm)]; exact q2
  · rw [List.getElem?_set] at g1
    by_cases e : k = j
    · subst e
      rw [if_pos rfl, if_pos hkl] at g1; cases g1
      exact ⟨_, List.mem_iff_getElem?.2 ⟨0, by rw [List.getElem?_set, if_pos rfl, if_pos hG]⟩, rfl, rfl⟩
    · rw [if_neg e] at g1
      obtain ⟨f, hf, q1, q2⟩ := r.b j R' g1 g2
      obtain ⟨c, hc⟩ := List.mem_iff_getElem?.1 hf
      have hcl := (List.getElem?_eq_some_iff.1 hc).1
      have hgc : g G c = f := by have := g_mem hcl; rw [hc] at this; exact (Option.some.inj this).symm
      refine ⟨f, List.mem_iff_getElem?.2 ⟨c, ?_⟩, q1, q2⟩
      rw [List.getElem?_set, if_neg (fun e2 => ?_)]
      · exact hc
      · subst e2; rw [hgc, q1] at h1; omega
  · have : (G.set 0 ⟨⟨s, (k : Int)⟩, t⟩).map (·.f.list) = G.map (·.f.list) := by
      rw [List.map_set]
      apply List.ext_getElem?; intro c
      rw [List.getElem?_set]
      by_cases e : 0 = c
      · subst e
        rw [if_pos rfl, if_pos (by simpa using hG), List.getElem?_map, hm0]; simp only [Option.map_some, h1]
      · rw [if_neg e]
    rw [this]; exact r.nd
  · rcases List.mem_or_eq_of_mem_set hf with hf | rfl
    · exact r.cap f hf
    · exact hc
/-- The root's list is at its end. -/
theorem GR.gone {G G' : List Fr} {Rem : List (List Rw8)} {k : Nat} {x : Rw8} {f0 : Fr} (r : GR G Rem) (hG : 0 < G.length) (h1 : (g G 0).f.list = (k : Int)) (h2 : Rem[k]? = some [x]) (p : (f0 :: G').Perm (G.set 0 f0)) : GR G' (Rem.set k []) := by
  have hkl := (List.getElem?_eq_some_iff.1 h2).1
  obtain ⟨a, G1, rfl⟩ : ∃ a G1, G = a :: G1 := by
    cases G with
    | nil => simp at hG
    | cons a G1 => exact ⟨a, G1, rfl⟩
  have hp : G'.Perm G1 := by
    have : (f0 :: G').Perm (f0 :: G1) := p
    exact this.cons_inv
  have h1' : a.f.list = (k : Int) := h1
  have nd := r.nd
  simp only [List.map_cons, List.nodup_cons] at nd
  have r1 : GR G1 (Rem.set k []) := by
    refine ⟨fun f hf => ?_, fun j R' g1 g2 => ?_, nd.2, fun f hf => r.cap f (by simp [hf])⟩
    · obtain ⟨j, q1, q2, q3⟩ := r.a f (by simp [hf])
      refine ⟨j, q1, ?_, q3⟩
      rw [List.getElem?_set, if_neg (fun e => nd.1 (List.mem_map.2 ⟨f, hf, by rw [q1, ← e, h1']⟩))]; exact q2
    · rw [List.getElem?_set] at g1
      by_cases e : k = j
      · subst e
        rw [if_pos rfl, if_pos hkl] at g1; cases g1
        exact absurd rfl g2
      · rw [if_neg e] at g1
        obtain ⟨f, hf, q1, q2⟩ := r.b j R' g1 g2
        rcases List.mem_cons.1 hf with rfl | hf
        · rw [h1'] at q1; omega
        · exact ⟨f, hf, q1, q2⟩
  exact r1.perm hp
theorem GR.nil {Rem : List (List Rw8)} (r : GR [] Rem) : mR Rem = [] := mAll_none fun l hl => by
  obtain ⟨k, hk⟩ := List.mem_iff_getElem?.1 hl
  cases hl2 : l with
  | nil => rfl
  | cons a t =>
    obtain ⟨f, hf, _⟩ := r.b k l hk (by rw [hl2]; simp)
    cases hf
end Go.Proofs.Ytidpbnbjpglhfaa.V
namespace Go.Proofs.Ytidpbnbjpglhfaa.V
open Go
set_option linter.unusedVariables false
set_option linter.unusedSimpArgs false
abbrev cS8 (s : Sl) : List Value := [s.enc]
theorem cS8_len (s : Sl) : (cS8 s).length = 1 := rfl
section
variable {h0 hk h h' : H} {n : Nat} {s : Sl} {G : List Fr}
/-- The fronts' slice is another, told by its variable. -/
theorem FS.put {hk2 : H} {s' : Sl} {G' : List Fr} {K : H → Prop} (v : FS h0 hk h n s G) (w : Owns h' s' tn_merge_front 2 ((G'.map (·.f)).flatMap cF)) (b : Blk h' n #[s.enc] tn_merge_fronts) (e : Ext h0 h') (m : Mine h0 s') (hr : ∀ f ∈ G', f.R ≠ [] → Reads h0 f.f.rows 7 (f.R.flatMap cW)) (kp : Keep hk2 h')
    (k : ∀ h2, FS h0 hk2 h2 n s' G' → Only (· = n) h' h2 → K h2) : stH h' ⟨n, 0, none⟩ [s'.enc] K := by
  refine stH_of b (by simp) fun h2 b2 o2 s2 => k h2 ⟨?_, w.only o2 fun y hy hf => own_ne w b (by decide) (by rw [hy, hf]), m, v.lo, e.step o2 fun y hy hf => by have := v.lo; omega, hr, kp.blk o2 b (.inr rfl)⟩ o2
  rw [writeA_all (by simp)] at b2; exact b2
theorem FS.re (v : FS h0 hk h n s G) : FS h0 h h n s G := ⟨v.var, v.own, v.mine, v.lo, v.ext, v.rows, .refl _⟩
theorem root_row (v : FS h0 hk h n s G) (hG : 0 < G.length) {x : Rw8} {t : List Rw8} (hx : (g G 0).R = x :: t) {K : Rw8 → Prop} (k : K x) : idxA (g G 0).f.rows 0 7 fun a => ld_S_api_Row h a K := by
  have rd := v.rows _ (List.mem_of_getElem? (g_mem hG)) (by rw [hx]; simp)
  have rd' := rd.only v.ext fun _ _ f => f
  rw [hx] at rd'
  obtain ⟨p, p1, p2, p3⟩ := rd_at cW_len (by omega) rd' (i := 0) (x := x) rfl
  have hl := rd_len cW_len (by omega) rd'
  exact idxR_of (i := 0) p1 (by rw [hl]; simp) rfl ⟨x, p3, k⟩
theorem Rows_main {n : Nat} {most : Int} {All : List Rw8} {Q : Sl → H → Prop} (hA : All.length < 100000)
    (k : ∀ r h', Owns h' r tn_api_Row 7 ((All.take most.toNat).flatMap cW) → Mine h0 r → Ext h0 h' → Q r h') : ∀ (d : Nat) (h : H) (s : Sl) (G : List Fr) (Rem : List (List Rw8)) (r : Sl) (out : List Rw8), (mR Rem).length < d → FS h0 h h n s G → G.length < 100000 → Heap G → GR G Rem →
    Owns h r tn_api_Row 7 (out.flatMap cW) → Mine h0 r → out ++ mR Rem = All → out.length ≤ most.toNat → F.merge_Rows.l2 Q d most ⟨n, 0, none⟩ r h := by
  intro d
  induction d with
  | zero => intro h s G Rem r out hm; omega
  | succ d ih =>
    intro h s G Rem r out hm v hGl hp gr w m hall hout
    have hl := own_len cF_len (by omega) v.own
    rw [List.length_map] at hl
    have hlr := own_len cW_len (by omega) w
    have hol : out.length ≤ All.length := by rw [← hall]; simp
    unfold F.merge_Rows.l2
    refine v.ldv ?_
    simp only [decide_eq_true_eq, decide_eq_false_iff_not]
    rw [hl]
    refine ⟨fun gg => ?_, fun gg => ?_⟩
    · have hG : 0 < G.length := by omega
      unfold F.merge_Rows.j4
      refine ⟨fun g2 => ?_, fun g2 => ?_⟩
      · have hlt : out.length < most.toNat := by rw [hlr] at g2; simp at g2; omega
        obtain ⟨kk, x, t, h1, h2, h3, h4⟩ := gr.pick hG hp
        have hkl := (List.getElem?_eq_some_iff.1 h2).1
        unfold F.merge_Rows.j3
        have c0 : ∀ {hh : H} {a : Addr} {y : S_merge_front}, Cells hh a (cF y) → cellH hh (a.add 0) = some y.rows.enc := fun c => c 0 _ rfl
        have q0 : (0 : Int) = ((0 : Nat) : Int) := rfl
        refine v.ldv ?_
        conv in idxA s 0 2 => rw [q0]
        refine v.at hG fun a1 d1 => (ldL_iff (c0 d1)).2 (root_row v hG h3 ?_)
        refine newL_of fun m1 h5 hm1 b5 e5 s5 => ?_
        have r5 : Reads h5 ⟨some ⟨m1, 0, none⟩, 1, 1⟩ 7 ([x].flatMap cW) := blk_reads (by simpa using b5) rfl
        refine app_list (L := out) (M := [x]) cW_len (by omega) el_Slapi_Row (w.ext e5) r5 (fun x => ones_S_api_Row x) (by simp only [List.length_singleton]; omega) fun r6 h6 w6 o6 n6 => ?_
        have hs5 := e5.size
        have m6 : Mine h0 r6 := fun y hy => by
          rcases n6 with n6 | ⟨b', n6, n7⟩
          · exact m y (by rw [← n6]; exact hy)
          · rw [n6] at hy; cases hy; have := v.ext.size; omega
        have e6 : Ext h0 h6 := (v.ext.trans e5).mine m o6
        have v5 := v.e e5
        have v6 : FS h0 h6 h6 n s G := ⟨o6.block v5.var (fun hb => own_ne (w.ext e5) v5.var (by decide) hb), v5.own.only o6 (fun y hy hb => by
          obtain ⟨_, ⟨q1, q2, q3⟩ | ⟨b', c', q1, q2, _⟩⟩ := v5.own
          · simp [Sl.blk, q1] at hy
          · simp [Sl.blk, q1] at hy
            subst hy
            exact own_ne (w.ext e5) q2 (by decide) hb), v.mine, v.lo, e6, v.rows, .refl _⟩
        refine v6.ldv (v6.ldv ?_)
        conv in idxA s 0 2 => rw [q0]
        refine v6.at hG fun a2 d2 => (ldL_iff (c0 d2)).2 ?_
        have hmem := List.mem_of_getElem? (g_mem hG)
        have rd0 := v.rows _ hmem (by rw [h3]; simp)
        have hrl := rd_len cW_len (by omega) rd0
        have hcap := gr.cap _ hmem
        refine cutL_of (lo := 1) (hi := (g G 0).f.rows.len) rfl rfl (by rw [hrl, h3]; simp) hcap ?_
        have rdc := cut_reads (lo := 1) (hi := (g G 0).f.rows.len) cW_len (by omega) rd0 (by rw [hrl, h3]; simp) (by rw [hrl]; exact Nat.le_refl _) hcap
        have hdrop : (((g G 0).R.drop 1).take ((g G 0).f.rows.len - 1)) = t := by
          rw [h3, hrl, h3]; simp
        rw [hdrop] at rdc
        have hcl : (slcut (g G 0).f.rows 1 (g G 0).f.rows.len 7).len = t.length := rd_len cW_len (by omega) rdc
        have hcc : (slcut (g G 0).f.rows 1 (g G 0).f.rows.len 7).len ≤ (slcut (g G 0).f.rows 1 (g G 0).f.rows.len 7).cap := by unfold slcut; simp only; omega
        generalize hsc : slcut (g G 0).f.rows 1 (g G 0).f.rows.len 7 = sc at rdc hcl hcc
        -- the root's rows are one less
        obtain ⟨b, p1, p2⟩ := own_at cF_len (by omega) v6.own (i := 0) (x := (g G 0).f) (by rw [List.getElem?_map, g_mem hG]; rfl)
        conv in idxA s 0 2 => rw [q0]
        refine idxA_of (i := 0) p1 (by rw [hl]; exact hG) rfl ?_
        rw [show ((⟨b, 0 * 2, none⟩ : Addr).add 0) = ⟨b, 0, none⟩ from by rw [add_lit]]
        have hfl : ((G.map (·.f)).flatMap cF).length = G.length * 2 := by rw [flat_len _ 2 cF_len]; simp
        refine own_set (o := 0) v6.own p1 (by rw [hfl]; simp; omega) fun h7 w7 o7 s7 => ?_
        have hset : ((G.map (·.f)).flatMap cF).take 0 ++ [sc.enc] ++ ((G.map (·.f)).flatMap cF).drop (0 + [sc.enc].length) = (((G.set 0 ⟨⟨sc, (kk : Int)⟩, t⟩).map (·.f)).flatMap cF) := by
          obtain ⟨a, G1, rfl⟩ : ∃ a G1, G = a :: G1 := by
            cases G with
            | nil => simp at hG
            | cons a G1 => exact ⟨a, G1, rfl⟩
          have h1' : a.f.list = (kk : Int) := h1
          simp [S_merge_front.cells, h1']
        rw [hset] at w7
        have hgs : ∀ c, g (G.set 0 ⟨⟨sc, (kk : Int)⟩, t⟩) c = if 0 = c then ⟨⟨sc, (kk : Int)⟩, t⟩ else g G c := fun c => g_set hG
        have v7 : FS h0 h7 h7 n s (G.set 0 ⟨⟨sc, (kk : Int)⟩, t⟩) := ⟨o7.block v6.var fun hb => own_ne v6.own v6.var (by decide) hb, w7, v.mine, v.lo, e6.mine v.mine o7, fun f hf hR => by
          rcases List.mem_or_eq_of_mem_set hf with hf | rfl
          · exact v.rows f hf hR
          · exact rdc, .refl _⟩
        have w6' : Owns h7 r6 tn_api_Row 7 ((out ++ [x]).flatMap cW) := w6.only o7 fun y hy hb => by
          obtain ⟨_, ⟨q1, q2, q3⟩ | ⟨b', c', q1, q2, _⟩⟩ := w6
          · simp [Sl.blk, q1] at hy
          · simp [Sl.blk, q1] at hy
            subst hy
            exact own_ne v6.own q2 (by decide) hb
        have hlen : (G.set 0 ⟨⟨sc, (kk : Int)⟩, t⟩).length = G.length := by simp
        refine v7.ldv ?_
        conv in idxA s 0 2 => rw [q0]
        refine v7.at (by rw [hlen]; exact hG) fun a3 d3 => ?_
        rw [hgs, if_pos rfl] at d3
        refine (ldL_iff (c0 d3)).2 ?_
        rw [hcl]
        have hrem : (mR (Rem.set kk t)).length < d := by rw [h4] at hm; simp at hm; omega
        have hall' : (out ++ [x]) ++ mR (Rem.set kk t) = All := by rw [List.append_assoc, List.singleton_append, ← h4]; exact hall
        have hp' : ∀ c, 0 < c → c < (G.set 0 ⟨⟨sc, (kk : Int)⟩, t⟩).length → (c - 1) / 2 ≠ 0 → ltF (g (G.set 0 ⟨⟨sc, (kk : Int)⟩, t⟩) c) (g (G.set 0 ⟨⟨sc, (kk : Int)⟩, t⟩) ((c - 1) / 2)) = false := fun c c0 cn cp => by
          rw [hgs, hgs, if_neg (by omega), if_neg (by omega)]
          exact hp c c0 (by rw [hlen] at cn; exact cn) (by omega)
        refine ⟨fun g3 => ?_, fun g3 => ?_⟩
        · have ht : t = [] := List.eq_nil_of_length_eq_zero (by simpa using g3)
          subst ht
          refine Pop_spec v7 (by rw [hlen]; exact hG) (by rw [hlen]; omega) hp' (fun j j0 jn => ?_) fun u h8 s8 G8 v8 p8 hp8 => ?_
          · rw [hgs, if_neg (by omega)]
            exact gr.ne _ (List.mem_of_getElem? (g_mem (by rw [hlen] at jn; exact jn)))
          · rw [hgs, if_pos rfl] at p8
            have gr8 := gr.gone hG h1 h2 p8
            have hl8 : G8.length + 1 = G.length := by have := p8.length_eq; simp at this; omega
            refine ih h8 s8 G8 (Rem.set kk []) r6 (out ++ [x]) hrem v8.re (by omega) hp8 gr8 (v8.kp.w w6' (by decide) (by decide)) m6 hall' (by simp; omega)
        · have ht : t ≠ [] := fun e => by subst e; simp at g3
          have gr7 := gr.turn hG h1 h2 ht hcc
          refine Fix_spec v7 (by rw [hlen]; exact hG) (by rw [hlen]; omega) gr7.ne hp' fun h8 G8 v8 p8 hp8 => ?_
          have hl8 : G8.length = G.length := by have := p8.length_eq; simp at this; omega
          refine ih h8 s G8 (Rem.set kk t) r6 (out ++ [x]) hrem v8.re (by omega) hp8 (gr7.perm p8) (v8.kp.w w6' (by decide) (by decide)) m6 hall' (by simp; omega)
      · have : out.length = most.toNat := by rw [hlr] at g2; simp at g2; omega
        refine k r h ?_ m v.ext
        rw [← hall, ← this, List.take_left']
        · exact w
        · rfl
    · have hG : G = [] := List.eq_nil_of_length_eq_zero (by omega)
      subst hG
      have hnil := gr.nil
      unfold F.merge_Rows.j4
      refine ⟨fun g2 => (by cases g2), fun _ => k r h ?_ m v.ext⟩
      rw [hnil, List.append_nil] at hall
      rw [← hall, List.take_of_length_le hout]; exact w
end
end Go.Proofs.Ytidpbnbjpglhfaa.V
namespace Go.Proofs.Ytidpbnbjpglhfaa.V
open Go
set_option linter.unusedVariables false
set_option linter.unusedSimpArgs false
theorem w64s {n : Nat} (h : n < 9000000000000000000) : IntKind.wrap .i64 ((n : Int) + 1) = ((n + 1 : Nat) : Int) := by rw [w64 (by omega) (by omega)]; omega
section
variable {h0 h h' : H}
/-- A table of slices, each of rows. -/
structure TB (h : H) (p : Sl) (ss : List Sl) (Ls : List (List Rw8)) : Prop where
  tb : Reads h p 1 (ss.flatMap cS8)
  len : ss.length = Ls.length
  row : ∀ (i : Nat) s R, ss[i]? = some s → Ls[i]? = some R → Reads h s 7 (R.flatMap cW) ∧ s.len ≤ s.cap
theorem TB.at {p : Sl} {ss : List Sl} {Ls : List (List Rw8)} (t : TB h0 p ss Ls) (e : Ext h0 h) {i : Nat} {s : Sl} (hs : ss[i]? = some s) {K : Sl → Prop} (k : K s) : idxA p (i : Int) 1 fun a => ldL h a K := by
  obtain ⟨q, r1, r2, r3⟩ := rd_at cS8_len (by omega) (t.tb.only e fun _ _ f => f) hs
  have hl := rd_len cS8_len (by omega) t.tb
  exact idxR_of (i := i) r1 (by have := (List.getElem?_eq_some_iff.1 hs).1; omega) rfl ((ldL_iff r3.one).2 k)
theorem Rows_spec {most : Int} {p1 : Sl} {ss : List Sl} {Ls : List (List Rw8)} {Q : Sl → H → Prop} (t : TB h p1 ss Ls) (hs : ss.length < 90000) (hn : (mR Ls).length < 100000)
    (k : ∀ r h', Owns h' r tn_api_Row 7 (((mR Ls).take most.toNat).flatMap cW) → Mine h r → Ext h h' → Q r h') : F.merge_Rows most p1 h Q := by
  unfold F.merge_Rows
  have hl := rd_len cS8_len (by omega) t.tb
  refine new_of fun n h1 hn1 b1 e1 s1 => ⟨ss.length + 1, ?_⟩
  rw [hl]
  have key : ∀ (d i : Nat) (h' : H) (s : Sl) (G : List Fr), i ≤ ss.length → ss.length - i < d → FS h h' h' n s G → GR G (Ls.take i) → G.length ≤ i → F.merge_Rows.l1 Q d most ⟨n, 0, none⟩ p1 (ss.length : Int) (i : Int) h' := by
    intro d
    induction d with
    | zero => intro i h' s G _ hm; omega
    | succ d ih =>
      intro i h' s G hi hm v gr hGi
      have hlG := own_len cF_len (by omega) v.own
      rw [List.length_map] at hlG
      unfold F.merge_Rows.l1
      simp only [decide_eq_true_eq, decide_eq_false_iff_not]
      refine ⟨fun gg => ?_, fun gg => ?_⟩
      · obtain ⟨sl, hsl⟩ : ∃ sl, ss[i]? = some sl := ⟨_, List.getElem?_eq_getElem (by omega)⟩
        obtain ⟨R, hR⟩ : ∃ R, Ls[i]? = some R := ⟨_, List.getElem?_eq_getElem (by have := t.len; omega)⟩
        obtain ⟨rd, hcap⟩ := t.row i sl R hsl hR
        have hlr := rd_len cW_len (by omega) rd
        have hli : (Ls.take i).length = i := by have := t.len; rw [List.length_take]; omega
        refine t.at v.ext hsl ?_
        refine ⟨fun g2 => v.ldv ?_, fun g2 => ?_⟩
        · have hRn : R ≠ [] := fun e => by subst e; rw [hlr] at g2; simp at g2
          refine newL_of fun m2 h2 hm2 b2 e2 s2 => ?_
          have r2 : Reads h2 ⟨some ⟨m2, 0, none⟩, 1, 1⟩ 2 ([(⟨sl, (i : Int)⟩ : S_merge_front)].flatMap cF) := blk_reads (by simpa using b2) rfl
          have v2 := v.e e2
          refine app_list (L := G.map (·.f)) (M := [⟨sl, (i : Int)⟩]) cF_len (by omega) el_fronts v2.own r2 (fun x => ones_S_merge_front x) (by simp only [List.length_singleton, List.length_map]; omega) fun r3 h3 w3 o3 n3 => ?_
          have m3 : Mine h r3 := fun y hy => by
            rcases n3 with n3 | ⟨b', n3, n4⟩
            · exact v.mine y (by rw [← n3]; exact hy)
            · rw [n3] at hy; cases hy; have := v2.ext.size; omega
          have e3 : Ext h h3 := v2.ext.mine v2.mine o3
          have b3 : Blk h3 n #[s.enc] tn_merge_fronts := o3.block v2.var fun hb => own_ne v2.own v2.var (by decide) hb
          have gr' := gr.snoc (s := sl) hRn hcap
          rw [← tk_snoc hR, hli] at gr'
          refine FS.put (hk2 := h3) (G' := G ++ [⟨⟨sl, (i : Int)⟩, R⟩]) v2 (by rw [List.map_append]; exact w3) b3 e3 m3 (fun f hf hfr => ?_) (.refl _) fun h4 v4 o4 => ?_
          · rcases List.mem_append.1 hf with hf | hf
            · exact v.rows f hf hfr
            · rw [List.mem_singleton] at hf; subst hf; exact rd
          · rw [w64s (by omega)]
            exact ih (i + 1) h4 r3 _ (by omega) (by omega) v4.re gr' (by rw [List.length_append]; simp only [List.length_singleton]; omega)
        · have hRn : R = [] := by
            cases R with
            | nil => rfl
            | cons a b => rw [hlr] at g2; simp at g2
          subst hRn
          have gr' := gr.skip
          rw [← tk_snoc hR] at gr'
          rw [w64s (by omega)]
          exact ih (i + 1) h' s G (by omega) (by omega) v gr' (by omega)
      · have hiL : i = ss.length := by omega
        rw [hiL, t.len, List.take_length] at gr
        refine Init_spec v gr.ne (by omega) fun h2 G2 v2 p2 hp2 => ⟨(mR Ls).length + 1, ?_⟩
        have hl2 := p2.length_eq
        exact Rows_main (All := mR Ls) hn k _ h2 s G2 Ls _ [] (by omega) v2.re (by omega) hp2 (gr.perm p2) (by simpa using Owns.nil h2 tn_api_Row 7) (.nil _ _ _) rfl (by simp)
  exact key _ 0 h1 ⟨none, 0, 0⟩ [] (by omega) (by omega) ⟨b1, by simpa using Owns.nil h1 tn_merge_front 2, .nil _ _ _, by omega, e1, fun f hf => (by cases hf), .refl _⟩ ⟨fun f hf => (by cases hf), fun k R hk => (by simp at hk), .nil, fun f hf => (by cases hf)⟩ (by simp)
theorem row_eq {x y : Rw8} : ((((x.Cell.View == y.Cell.View) && ((x.Cell.Key.toList == y.Cell.Key.toList) && ((x.Cell.Start == y.Cell.Start) && true)))) && ((((x.Agg.Count == y.Agg.Count) && ((x.Agg.Sum == y.Agg.Sum) && ((x.Agg.Min == y.Agg.Min) && ((x.Agg.Max == y.Agg.Max) && true))))) && true)) = true ↔ x = y := by
  obtain ⟨⟨a1, ⟨⟨a2⟩⟩, a3⟩, ⟨a4, a5, a6, a7⟩⟩ := x
  obtain ⟨⟨b1, ⟨⟨b2⟩⟩, b3⟩, ⟨b4, b5, b6, b7⟩⟩ := y
  simp [toList_data, and_assoc]
theorem SameRows_spec {r s : Sl} {A C : List Rw8} {Q : Bool → H → Prop} (ra : Reads h r 7 (A.flatMap cW)) (rc : Reads h s 7 (C.flatMap cW)) (hs : A.length < 1000000) (kt : A = C → Q true h) (kf : A ≠ C → Q false h) : F.spatelaw2_SameRows r s h Q := by
  have la := rd_len cW_len (by omega) ra
  have lc := rd_len cW_len (by omega) rc
  unfold F.spatelaw2_SameRows
  rw [la, lc]
  refine ⟨fun gg => kf fun e => by rw [e] at gg; simp at gg, fun gg => ⟨A.length + 1, ?_⟩⟩
  have hl : A.length = C.length := by simp at gg; omega
  have key : ∀ (d i : Nat), i ≤ A.length → A.length - i < d → A.take i = C.take i → F.spatelaw2_SameRows.l1 Q d r s (i : Int) h := by
    intro d
    induction d with
    | zero => intro i _ hm; omega
    | succ d ih =>
      intro i hi hm he
      unfold F.spatelaw2_SameRows.l1
      simp only [decide_eq_true_eq, decide_eq_false_iff_not]
      rw [la]
      refine ⟨fun gg => ?_, fun gg => ?_⟩
      · obtain ⟨x, hx⟩ : ∃ x, A[i]? = some x := ⟨_, List.getElem?_eq_getElem (by omega)⟩
        obtain ⟨y, hy⟩ : ∃ y, C[i]? = some y := ⟨_, List.getElem?_eq_getElem (by omega)⟩
        obtain ⟨p, p1, p2, p3⟩ := rd_at cW_len (by omega) ra hx
        obtain ⟨q, q1, q2, q3⟩ := rd_at cW_len (by omega) rc hy
        refine idxR_of (i := i) p1 (by omega) rfl ⟨x, p3, idxR_of (i := i) q1 (by omega) rfl ⟨y, q3, ?_⟩⟩
        have hrow := row_eq (x := x) (y := y)
        refine ⟨fun g2 => kf fun e => ?_, fun g2 => ?_⟩
        · have : x = y := by rw [e] at hx; rw [hx] at hy; exact Option.some.inj hy
          rw [hrow.2 this] at g2; cases g2
        · have hxy : x = y := hrow.1 (by simpa using g2)
          rw [w64s (by omega)]
          refine ih (i + 1) (by omega) (by omega) ?_
          rw [tk_snoc hx, tk_snoc hy, he, hxy]
      · have : i = A.length := by omega
        subst this
        rw [List.take_length] at he
        exact kt (by rw [he, hl, List.take_length])
  exact key _ 0 (by omega) (by omega) (by simp)
end
end Go.Proofs.Ytidpbnbjpglhfaa.V
namespace Go.Proofs.Ytidpbnbjpglhfaa.V
open Go
set_option linter.unusedVariables false
set_option linter.unusedSimpArgs false
section
variable {h0 h h' : H}
/-- What is left of lists from places on. -/
def remL (Ls : List (List Rw8)) (at_ : List Nat) : List (List Rw8) := List.zipWith (fun R a => R.drop a) Ls at_
theorem rem_at {Ls : List (List Rw8)} {A : List Nat} {i : Nat} {R : List Rw8} {a : Nat} (h1 : Ls[i]? = some R) (h2 : A[i]? = some a) : (remL Ls A)[i]? = some (R.drop a) := by
  unfold remL; rw [List.getElem?_zipWith, h1, h2]
theorem rem_set {Ls : List (List Rw8)} {A : List Nat} {i : Nat} {R : List Rw8} {a : Nat} (h1 : Ls[i]? = some R) (h2 : A[i]? = some a) : remL Ls (A.set i (a + 1)) = (remL Ls A).set i (R.drop (a + 1)) := by
  apply List.ext_getElem?; intro j
  rw [List.getElem?_set]
  unfold remL
  rw [List.getElem?_zipWith, List.getElem?_zipWith, List.getElem?_set]
  have hil := (List.getElem?_eq_some_iff.1 h1).1
  have hia := (List.getElem?_eq_some_iff.1 h2).1
  by_cases e : i = j
  · subst e
    rw [if_pos rfl, if_pos rfl, if_pos hia, if_pos (by rw [List.length_zipWith]; omega), h1]
  · rw [if_neg e, if_neg e]
theorem drop_cons {R : List Rw8} {a : Nat} {x : Rw8} (h : R[a]? = some x) : R.drop a = x :: R.drop (a + 1) := by
  obtain ⟨hl, rfl⟩ := List.getElem?_eq_some_iff.1 h
  exact List.drop_eq_getElem_cons hl
/-- What has been picked among the lists ahead of i. -/
def Pk (Ls : List (List Rw8)) (A : List Nat) (i : Nat) (kk : Int) : Prop := (kk < 0 ∧ ∀ (j : Nat) R a, j < i → Ls[j]? = some R → A[j]? = some a → R.drop a = []) ∨
  (∃ (k : Nat) (R : List Rw8) (a : Nat) (x : Rw8), kk = (k : Int) ∧ k < i ∧ Ls[k]? = some R ∧ A[k]? = some a ∧ R[a]? = some x ∧
    (∀ (j : Nat) R' a' y, j < k → Ls[j]? = some R' → A[j]? = some a' → R'[a']? = some y → leC y x = false) ∧ (∀ (j : Nat) R' a' y, k < j → j < i → Ls[j]? = some R' → A[j]? = some a' → R'[a']? = some y → leC x y = true))
theorem mem_len : ∀ {Ls : List (List Rw8)} {R : List Rw8}, R ∈ Ls → R.length ≤ (mR Ls).length
  | [], _, h => by cases h
  | l :: Ls, R, h => by
    have e : (mR (l :: Ls)).length = l.length + (mR Ls).length := by
      show (List.merge l (mAll leC Ls) leC).length = _
      rw [List.length_merge]
    rcases List.mem_cons.1 h with rfl | h
    · omega
    · have := mem_len h; omega
abbrev nI (a : Nat) : List Value := cI (a : Int)
theorem RRows_spec {most : Int} {p1 : Sl} {ss : List Sl} {Ls : List (List Rw8)} {Q : Sl → H → Prop} (t : TB h p1 ss Ls) (hs : ss.length < 90000) (hn : (mR Ls).length < 100000)
    (k : ∀ r h', Owns h' r tn_api_Row 7 (((mR Ls).take most.toNat).flatMap cW) → Mine h r → Ext h h' → Q r h') : F.spateref8_Rows most p1 h Q := by
  unfold F.spateref8_Rows
  have hl := rd_len cS8_len (by omega) t.tb
  have htl := t.len
  rw [hl]
  refine make_of (n := ss.length) el_Slint (by omega) (by simp only [maxLen]; omega) fun b h1 hb w1 e1 => ⟨(mR Ls).length + 1, ?_⟩
  have mI : (madeCells (Value.int .i64 0).cells (ss.length * 1)).toList = (List.replicate ss.length 0).flatMap nI := by
    rw [Nat.mul_one]; exact (made_one _ _).trans (flat_replicate nI 0 _ rfl _).symm
  rw [mI] at w1
  have nI_len : ∀ a : Nat, (nI a).length = 1 := fun _ => rfl
  have key : ∀ (d : Nat) (h' : H) (A : List Nat) (r : Sl) (out : List Rw8), (mR (remL Ls A)).length < d → A.length = ss.length → (∀ (i : Nat) R a, Ls[i]? = some R → A[i]? = some a → a ≤ R.length) → Owns h' ⟨some ⟨b, 0, none⟩, ss.length, ss.length⟩ 3 1 (A.flatMap nI) →
      Owns h' r tn_api_Row 7 (out.flatMap cW) → Mine h r → Ext h h' → out ++ mR (remL Ls A) = mR Ls → out.length ≤ most.toNat → F.spateref8_Rows.l2 Q d most p1 r ⟨some ⟨b, 0, none⟩, ss.length, ss.length⟩ h' := by
    intro d
    induction d with
    | zero => intro h' A r out hm; omega
    | succ d ih =>
      intro h' A r out hm hA hAl wA w m e hall hout
      have hlr := own_len cW_len (by omega) w
      have hol : out.length ≤ (mR Ls).length := by rw [← hall]; simp
      unfold F.spateref8_Rows.l2
      simp only [decide_eq_true_eq, decide_eq_false_iff_not]
      rw [hlr]
      have fin : out = (mR Ls).take most.toNat → F.spateref8_Rows.j1 Q r h' := fun ho => by
        unfold F.spateref8_Rows.j1
        refine k r h' ?_ m e
        rw [← ho]; exact w
      refine ⟨fun gg => ⟨ss.length + 1, ?_⟩, fun gg => fin ?_⟩
      · have hlt : out.length < most.toNat := by omega
        -- the place in list i
        have atA : ∀ {hh : H} {i : Nat} {a : Nat} {K : Int → Prop}, Owns hh ⟨some ⟨b, 0, none⟩, ss.length, ss.length⟩ 3 1 (A.flatMap nI) → A[i]? = some a → K (a : Int) → idxA ⟨some ⟨b, 0, none⟩, ss.length, ss.length⟩ (i : Int) 1 fun q => ldI .i64 hh q K := fun {hh i a K} ww ha kk => by
          obtain ⟨b', p1', p2'⟩ := own_at nI_len (by omega) ww ha
          exact idxA_of (i := i) p1' (by show i < ss.length; have := (List.getElem?_eq_some_iff.1 ha).1; omega) rfl ((ldI_iff (n := (a : Int)) p2'.one).2 kk)
        have rowAt : ∀ {hh : H} {i a : Nat} {s : Sl} {R : List Rw8} {x : Rw8} {K : Rw8 → Prop}, Ext h hh → ss[i]? = some s → Ls[i]? = some R → R[a]? = some x → K x → idxA s (a : Int) 7 fun q => ld_S_api_Row hh q K := fun {hh i a s R x K} ee h1 h2 h3 kk => by
          obtain ⟨rd, _⟩ := t.row _ s R h1 h2
          obtain ⟨p, q1, q2, q3⟩ := rd_at cW_len (by omega) (rd.only ee fun _ _ f => f) h3
          have hll := rd_len cW_len (by omega) rd
          exact idxR_of (i := a) q1 (by have := (List.getElem?_eq_some_iff.1 h3).1; omega) rfl ⟨x, q3, kk⟩
        have celAt : ∀ {hh : H} {i a : Nat} {s : Sl} {R : List Rw8} {x : Rw8} {K : Cel → Prop}, Ext h hh → ss[i]? = some s → Ls[i]? = some R → R[a]? = some x → K x.Cell → idxA s (a : Int) 7 fun q => ld_S_api_Cell hh (q.add 0) K := fun {hh i a s R x K} ee h1 h2 h3 kk => by
          obtain ⟨rd, _⟩ := t.row _ s R h1 h2
          obtain ⟨p, q1, q2, q3⟩ := rd_at cW_len (by omega) (rd.only ee fun _ _ f => f) h3
          have hll := rd_len cW_len (by omega) rd
          exact idxR_of (i := a) q1 (by have := (List.getElem?_eq_some_iff.1 h3).1; omega) rfl (by rw [add0]; exact ⟨x.Cell, Cells.pre q3, kk⟩)
        -- what has been picked among the lists ahead of i
        have pick : ∀ (d2 i : Nat) (kk : Int) (h2 : H), i ≤ ss.length → ss.length - i < d2 → Pk Ls A i kk → Owns h2 ⟨some ⟨b, 0, none⟩, ss.length, ss.length⟩ 3 1 (A.flatMap nI) → Owns h2 r tn_api_Row 7 (out.flatMap cW) → Ext h h2 →
            F.spateref8_Rows.l3 Q (F.spateref8_Rows.l2 Q d) d2 most p1 r ⟨some ⟨b, 0, none⟩, ss.length, ss.length⟩ kk (i : Int) h2 := by
          intro d2
          induction d2 with
          | zero => intro i kk h2 _ hm2; omega
          | succ d2 ih2 =>
            intro i kk h2 hi hm2 hP wA2 w2 e2
            unfold F.spateref8_Rows.l3
            simp only [decide_eq_true_eq, decide_eq_false_iff_not]
            rw [hl]
            refine ⟨fun g2 => ?_, fun g2 => ?_⟩
            · obtain ⟨a, ha⟩ : ∃ a, A[i]? = some a := ⟨_, List.getElem?_eq_getElem (by omega)⟩
              obtain ⟨s, hss⟩ : ∃ s, ss[i]? = some s := ⟨_, List.getElem?_eq_getElem (by omega)⟩
              obtain ⟨R, hR⟩ : ∃ R, Ls[i]? = some R := ⟨_, List.getElem?_eq_getElem (by omega)⟩
              have hsl := rd_len cW_len (by omega) (t.row i s R hss hR).1
              have j5 : ∀ (bb : Bool) (h3 : H), Pk Ls A (i + 1) (if bb then (i : Int) else kk) → Owns h3 ⟨some ⟨b, 0, none⟩, ss.length, ss.length⟩ 3 1 (A.flatMap nI) → Owns h3 r tn_api_Row 7 (out.flatMap cW) → Ext h h3 →
                  F.spateref8_Rows.j5 Q (F.spateref8_Rows.l2 Q d) (F.spateref8_Rows.l3 Q (F.spateref8_Rows.l2 Q d) d2) most p1 r ⟨some ⟨b, 0, none⟩, ss.length, ss.length⟩ kk (i : Int) bb h3 := by
                intro bb h3 hP3 wA3 w3 e3
                unfold F.spateref8_Rows.j5 F.spateref8_Rows.j4
                rw [w64s (by omega)]
                refine ⟨fun g => ?_, fun g => ?_⟩
                · rw [g] at hP3; exact ih2 (i + 1) _ h3 (by omega) (by omega) hP3 wA3 w3 e3
                · rw [g] at hP3; exact ih2 (i + 1) _ h3 (by omega) (by omega) hP3 wA3 w3 e3
              refine atA wA2 ha (t.at e2 hss ?_)
              rw [hsl]
              refine ⟨fun g3 => ?_, fun g3 => j5 false h2 ?_ wA2 w2 e2⟩
              · obtain ⟨y, hy⟩ : ∃ y, R[a]? = some y := ⟨_, List.getElem?_eq_getElem (by omega)⟩
                refine ⟨fun g4 => j5 true h2 ?_ wA2 w2 e2, fun g4 => ?_⟩
                · rcases hP with ⟨_, hnone⟩ | ⟨k0, _, _, _, hk, _⟩
                  · refine Or.inr ⟨i, R, a, y, rfl, by omega, hR, ha, hy, fun j R' a' z hj h1 h2 h3 => ?_, fun j R' a' z hj hj2 h1 h2 h3 => by omega⟩
                    have := hnone j R' a' hj h1 h2
                    rw [drop_cons h3] at this; cases this
                  · omega
                · rcases hP with ⟨hneg, _⟩ | ⟨k0, R0, a0, x0, hk, hki, hR0, ha0, hx0, hbef, haft⟩
                  · omega
                  · obtain ⟨s0, hs0⟩ : ∃ s0, ss[k0]? = some s0 := ⟨_, List.getElem?_eq_getElem (by omega)⟩
                    subst hk
                    refine t.at e2 hss (atA wA2 ha (celAt e2 hss hR hy (t.at e2 hs0 (atA wA2 ha0 (celAt e2 hs0 hR0 hx0 ?_)))))
                    refine CompareR_spec fun h3 e3 => ?_
                    have hrng := cC_range y.Cell x0.Cell
                    have hanti := cC_anti y.Cell x0.Cell
                    refine j5 _ h3 ?_ (wA2.ext e3) (w2.ext e3) (e2.trans e3)
                    by_cases hc : cmpC y.Cell x0.Cell < 0
                    · rw [decide_eq_true hc, if_pos rfl]
                      refine Or.inr ⟨i, R, a, y, rfl, by omega, hR, ha, hy, fun j R' a' z hj h1 h2 h3 => ?_, fun j R' a' z hj hj2 h1 h2 h3 => by omega⟩
                      -- the earlier heads are greater than y
                      by_cases hjk : j = k0
                      · subst hjk
                        rw [hR0] at h1; cases h1; rw [ha0] at h2; cases h2; rw [hx0] at h3; cases h3
                        unfold leC; exact decide_eq_false (by omega)
                      · unfold leC
                        refine decide_eq_false fun hle => ?_
                        by_cases hlt2 : j < k0
                        · have := hbef j R' a' z hlt2 h1 h2 h3
                          unfold leC at this
                          have := of_decide_eq_false this
                          exact this (cC_le_trans hle (by omega))
                        · have := haft j R' a' z (by omega) hj h1 h2 h3
                          unfold leC at this
                          have h5 := of_decide_eq_true this
                          have := cC_le_trans h5 hle
                          omega
                    · rw [decide_eq_false hc, if_neg (by simp)]
                      refine Or.inr ⟨k0, R0, a0, x0, rfl, by omega, hR0, ha0, hx0, hbef, fun j R' a' z hj hj2 h1 h2 h3 => ?_⟩
                      by_cases hji : j = i
                      · subst hji
                        rw [hR] at h1; cases h1; rw [ha] at h2; cases h2; rw [hy] at h3; cases h3
                        unfold leC; exact decide_eq_true (by omega)
                      · exact haft j R' a' z hj (by omega) h1 h2 h3
              · rw [if_neg (by simp)]
                have hdr : R.drop a = [] := List.drop_of_length_le (by omega)
                have hno : R[a]? = none := List.getElem?_eq_none (by omega)
                rcases hP with ⟨hneg, hnone⟩ | ⟨k0, R0, a0, x0, hk, hki, hR0, ha0, hx0, hbef, haft⟩
                · refine Or.inl ⟨hneg, fun j R' a' hj h1 h2 => ?_⟩
                  by_cases hji : j = i
                  · subst hji
                    rw [hR] at h1; cases h1; rw [ha] at h2; cases h2; exact hdr
                  · exact hnone j R' a' (by omega) h1 h2
                · refine Or.inr ⟨k0, R0, a0, x0, hk, by omega, hR0, ha0, hx0, hbef, fun j R' a' z hj hj2 h1 h2 h3 => ?_⟩
                  by_cases hji : j = i
                  · subst hji
                    rw [hR] at h1; cases h1; rw [ha] at h2; cases h2; rw [hno] at h3; cases h3
                  · exact haft j R' a' z hj (by omega) h1 h2 h3
            · have hiL : i = ss.length := by omega
              subst hiL
              refine ⟨fun g3 => ?_, fun g3 => ?_⟩
              · rcases hP with ⟨_, hnone⟩ | ⟨k0, _, _, _, hk, _⟩
                · have hz : mR (remL Ls A) = [] := mAll_none fun l hll => by
                    obtain ⟨j, hj⟩ := List.mem_iff_getElem?.1 hll
                    have hjl := (List.getElem?_eq_some_iff.1 hj).1
                    unfold remL at hjl
                    rw [List.length_zipWith] at hjl
                    obtain ⟨R', hR'⟩ : ∃ R', Ls[j]? = some R' := ⟨_, List.getElem?_eq_getElem (by omega)⟩
                    obtain ⟨a', ha'⟩ : ∃ a', A[j]? = some a' := ⟨_, List.getElem?_eq_getElem (by omega)⟩
                    rw [rem_at hR' ha'] at hj
                    cases hj
                    exact hnone j R' a' (by omega) hR' ha'
                  rw [hz, List.append_nil] at hall
                  unfold F.spateref8_Rows.j1
                  refine k r h2 ?_ m e2
                  rw [← hall, List.take_of_length_le hout]; exact w2
                · omega
              · rcases hP with ⟨hneg, _⟩ | ⟨k0, R0, a0, x0, hk, hki, hR0, ha0, hx0, hbef, haft⟩
                · omega
                · subst hk
                  obtain ⟨s0, hs0⟩ : ∃ s0, ss[k0]? = some s0 := ⟨_, List.getElem?_eq_getElem (by omega)⟩
                  refine t.at e2 hs0 (atA wA2 ha0 (rowAt e2 hs0 hR0 hx0 ?_))
                  refine newL_of fun m1 h5 hm1 b5 e5 s5 => ?_
                  have r5 : Reads h5 ⟨some ⟨m1, 0, none⟩, 1, 1⟩ 7 ([x0].flatMap cW) := blk_reads (by simpa using b5) rfl
                  refine app_list (L := out) (M := [x0]) cW_len (by omega) el_Slapi_Row (w2.ext e5) r5 (fun x => ones_S_api_Row x) (by simp only [List.length_singleton]; omega) fun r6 h6 w6 o6 n6 => ?_
                  have m6 : Mine h r6 := fun y hy => by
                    rcases n6 with n6 | ⟨b', n6, n7⟩
                    · exact m y (by rw [← n6]; exact hy)
                    · rw [n6] at hy; cases hy; have := e2.size; have := e5.size; omega
                  have e6 : Ext h h6 := (e2.trans e5).mine m o6
                  have wA5 := wA2.ext e5
                  have wA6 : Owns h6 ⟨some ⟨b, 0, none⟩, ss.length, ss.length⟩ 3 1 (A.flatMap nI) := wA5.only o6 fun y hy hb2 => by
                    obtain ⟨_, ⟨q1, q2, q3⟩ | ⟨b', c', q1, q2, _⟩⟩ := wA5
                    · cases q1
                    · cases q1
                      simp [Sl.blk] at hy
                      subst hy
                      exact own_ne (w2.ext e5) q2 (by decide) hb2
                  refine atA wA6 ha0 ?_
                  have hal := (List.getElem?_eq_some_iff.1 ha0).1
                  have hRl := (List.getElem?_eq_some_iff.1 hx0).1
                  have hRn := rd_len cW_len (by omega) (t.row k0 s0 R0 hs0 hR0).1
                  refine idxA_of (i := k0) rfl (by show k0 < ss.length; omega) rfl ?_
                  have hbig : (a0 : Int) < 9000000000000000000 := by
                    have := mem_len (List.mem_of_getElem? hR0); omega
                  rw [w64s (by omega)]
                  refine own_setAt (i := k0) (x := a0 + 1) nI_len wA6 rfl hal fun h7 w7 o7 s7 => ?_
                  have hx1 : mR (remL Ls A) = x0 :: mR (remL Ls (A.set k0 (a0 + 1))) := by
                    rw [rem_set hR0 ha0]
                    have hd0 := drop_cons hx0
                    refine mAll_pick (by rw [rem_at hR0 ha0, hd0]) (fun j y s hj hy => ?_) (fun j y s hj hy => ?_)
                    · have hjl : j < Ls.length ∧ j < A.length := by omega
                      obtain ⟨R', hR'⟩ : ∃ R', Ls[j]? = some R' := ⟨_, List.getElem?_eq_getElem hjl.1⟩
                      obtain ⟨a', ha'⟩ : ∃ a', A[j]? = some a' := ⟨_, List.getElem?_eq_getElem hjl.2⟩
                      rw [rem_at hR' ha'] at hy
                      have hy1 : R'[a']? = some y := by
                        have : (R'.drop a')[0]? = some y := by rw [Option.some.inj hy]; rfl
                        rw [List.getElem?_drop] at this; exact this
                      exact hbef j R' a' y hj hR' ha' hy1
                    · have hjl0 := (List.getElem?_eq_some_iff.1 hy).1
                      unfold remL at hjl0
                      rw [List.length_zipWith] at hjl0
                      obtain ⟨R', hR'⟩ : ∃ R', Ls[j]? = some R' := ⟨_, List.getElem?_eq_getElem (by omega)⟩
                      obtain ⟨a', ha'⟩ : ∃ a', A[j]? = some a' := ⟨_, List.getElem?_eq_getElem (by omega)⟩
                      rw [rem_at hR' ha'] at hy
                      have hy1 : R'[a']? = some y := by
                        have : (R'.drop a')[0]? = some y := by rw [Option.some.inj hy]; rfl
                        rw [List.getElem?_drop] at this; exact this
                      exact haft j R' a' y hj (by omega) hR' ha' hy1
                  have w6' : Owns h7 r6 tn_api_Row 7 ((out ++ [x0]).flatMap cW) := w6.only o7 fun y hy hb2 => by
                    obtain ⟨_, ⟨q1, q2, q3⟩ | ⟨b', c', q1, q2, _⟩⟩ := w6
                    · simp [Sl.blk, q1] at hy
                    · simp [Sl.blk, q1] at hy
                      subst hy
                      exact own_ne wA6 q2 (by decide) hb2
                  refine ih h7 (A.set k0 (a0 + 1)) r6 (out ++ [x0]) (by rw [hx1] at hm; simp at hm; omega) (by simp [hA]) (fun i R a h1 h2 => ?_) w7 w6' m6 (e6.step o7 fun y hy hb2 => by simp [Sl.blk] at hb2; omega) (by rw [List.append_assoc, List.singleton_append, ← hx1]; exact hall) (by simp; omega)
                  rw [List.getElem?_set] at h2
                  by_cases e : k0 = i
                  · subst e
                    rw [if_pos rfl, if_pos hal] at h2; cases h2
                    rw [hR0] at h1; cases h1; omega
                  · rw [if_neg e] at h2
                    exact hAl i R a h1 h2
        exact pick _ 0 (-1) h' (by omega) (by omega) (Or.inl ⟨by omega, fun j R a hj => by omega⟩) wA w e
      · have : out.length = most.toNat := by omega
        rw [← hall, ← this, List.take_left' rfl]
  have hrem0 : remL Ls (List.replicate ss.length 0) = Ls := by
    apply List.ext_getElem?; intro j
    unfold remL
    rw [List.getElem?_zipWith, List.getElem?_replicate, htl]
    by_cases hj : j < Ls.length
    · rw [if_pos hj, List.getElem?_eq_getElem hj]; simp
    · rw [if_neg hj, List.getElem?_eq_none (by omega)]
  refine key _ h1 (List.replicate ss.length 0) _ [] (by rw [hrem0]; omega) (by simp) (fun i R a h1 h2 => ?_) w1 (by simpa using Owns.nil h1 tn_api_Row 7) (.nil _ _ _) e1 (by rw [hrem0]; rfl) (by simp)
  rw [List.getElem?_replicate] at h2
  split at h2
  · cases h2; omega
  · cases h2
end
end Go.Proofs.Ytidpbnbjpglhfaa.V
namespace Go.Proofs.Ytidpbnbjpglhfaa.V
open Go
set_option linter.unusedVariables false
set_option linter.unusedSimpArgs false
abbrev Up (L : List Int) : Prop := L.Pairwise (· ≤ ·)
abbrev SUp (L : List Int) : Prop := L.Pairwise (· < ·)
theorem sup_unique : ∀ (A B : List Int), SUp A → SUp B → (∀ x, x ∈ A ↔ x ∈ B) → A = B
  | [], [], _, _, _ => rfl
  | [], y :: b, _, _, h => by have := (h y).2 (by simp); cases this
  | x :: a, [], _, _, h => by have := (h x).1 (by simp); cases this
  | x :: a, y :: b, ha, hb, h => by
    have ha' := List.pairwise_cons.1 ha
    have hb' := List.pairwise_cons.1 hb
    have hxy : x = y := by
      have h1 := (h x).1 (by simp)
      have h2 := (h y).2 (by simp)
      rcases List.mem_cons.1 h1 with e | e
      · exact e
      · rcases List.mem_cons.1 h2 with e2 | e2
        · exact e2.symm
        · have := hb'.1 x e; have := ha'.1 y e2; omega
    subst hxy
    congr 1
    refine sup_unique a b ha'.2 hb'.2 fun z => ⟨fun hz => ?_, fun hz => ?_⟩
    · rcases List.mem_cons.1 ((h z).1 (List.mem_cons_of_mem _ hz)) with e | e
      · have := ha'.1 z hz; omega
      · exact e
    · rcases List.mem_cons.1 ((h z).2 (List.mem_cons_of_mem _ hz)) with e | e
      · have := hb'.1 z hz; omega
      · exact e
theorem addM_mem {out : List Int} {x z : Int} : z ∈ addM out x ↔ z ∈ out ∨ z = x := by
  unfold addM
  split
  · rename_i h
    have := List.mem_of_getLast? h
    constructor
    · exact .inl
    · rintro (h | h)
      · exact h
      · subst h; exact this
  · simp
theorem addM_sup {out : List Int} {x : Int} (h : SUp out) (hle : ∀ y ∈ out, y ≤ x) : SUp (addM out x) := by
  unfold addM
  split
  · exact h
  · rename_i hne
    refine List.pairwise_append.2 ⟨h, by simp, fun y hy z hz => ?_⟩
    simp at hz; subst hz
    have h1 := hle y hy
    have : y ≠ z := fun e => by
      subst e
      obtain ⟨v, hv⟩ : ∃ v, out.getLast? = some v := ⟨_, List.getLast?_eq_some_getLast (List.ne_nil_of_mem hy)⟩
      obtain ⟨l, hl⟩ := List.getLast?_eq_some_iff.1 hv
      have hvm := List.mem_of_getLast? hv
      have h2 := hle v hvm
      rw [hl] at hy h
      rcases List.mem_append.1 hy with hm | hm
      · have := (List.pairwise_append.1 h).2.2 y hm v (by simp); omega
      · simp at hm; subst hm; exact hne hv
    omega
theorem two_facts : ∀ (n : Nat) (out a b : List Int), a.length + b.length ≤ n → SUp out → Up a → Up b → (∀ x ∈ out, ∀ y ∈ a, x ≤ y) → (∀ x ∈ out, ∀ y ∈ b, x ≤ y) → SUp (twoM leI n out a b) ∧ ∀ z, z ∈ twoM leI n out a b ↔ z ∈ out ∨ z ∈ a ∨ z ∈ b
  | 0, out, a, b, hn, ho, _, _, _, _ => by
    have h1 : a = [] := List.eq_nil_of_length_eq_zero (by omega)
    have h2 : b = [] := List.eq_nil_of_length_eq_zero (by omega)
    subst h1; subst h2
    simp [twoM, ho]
  | n + 1, out, [], [], hn, ho, _, _, _, _ => by simp [twoM, ho]
  | n + 1, out, x :: a, [], hn, ho, ha, hb, h1, h2 => by
    have ha' := List.pairwise_cons.1 ha
    simp only [List.length_cons, List.length_nil] at hn
    have := two_facts n (addM out x) a [] (by simp; omega) (addM_sup ho fun y hy => h1 y hy x (by simp)) ha'.2 hb (fun y hy z hz => by
      rcases addM_mem.1 hy with h | h
      · exact h1 y h z (List.mem_cons_of_mem _ hz)
      · subst h; exact ha'.1 z hz) (fun y hy z hz => by cases hz)
    refine ⟨this.1, fun z => ?_⟩
    simp only [twoM]
    rw [this.2, addM_mem]; simp [or_assoc]
  | n + 1, out, [], y :: b, hn, ho, ha, hb, h1, h2 => by
    have hb' := List.pairwise_cons.1 hb
    simp only [List.length_cons, List.length_nil] at hn
    have := two_facts n (addM out y) [] b (by simp; omega) (addM_sup ho fun z hz => h2 z hz y (by simp)) ha hb'.2 (fun y hy z hz => by cases hz) (fun x hx z hz => by
      rcases addM_mem.1 hx with h | h
      · exact h2 x h z (List.mem_cons_of_mem _ hz)
      · subst h; exact hb'.1 z hz)
    refine ⟨this.1, fun z => ?_⟩
    simp only [twoM]
    rw [this.2, addM_mem]; simp [or_assoc]
  | n + 1, out, x :: a, y :: b, hn, ho, ha, hb, h1, h2 => by
    have ha' := List.pairwise_cons.1 ha
    have hb' := List.pairwise_cons.1 hb
    simp only [List.length_cons] at hn
    simp only [twoM]
    split
    · rename_i hle
      have hle : x ≤ y := by simpa using hle
      have := two_facts n (addM out x) a (y :: b) (by simp; omega) (addM_sup ho fun z hz => h1 z hz x (by simp)) ha'.2 hb (fun w hw z hz => by
        rcases addM_mem.1 hw with h | h
        · exact h1 w h z (List.mem_cons_of_mem _ hz)
        · subst h; exact ha'.1 z hz) (fun w hw z hz => by
        rcases addM_mem.1 hw with h | h
        · exact h2 w h z hz
        · subst h
          rcases List.mem_cons.1 hz with e | e
          · omega
          · have := hb'.1 z e; omega)
      refine ⟨this.1, fun z => ?_⟩
      rw [this.2, addM_mem]; simp only [List.mem_cons]; constructor
      · rintro ((h | h) | h | h | h) <;> simp [h]
      · rintro (h | (h | h) | h | h) <;> simp [h]
    · rename_i hle
      have hle : y < x := by simpa using hle
      have := two_facts n (addM out y) (x :: a) b (by simp; omega) (addM_sup ho fun z hz => h2 z hz y (by simp)) ha hb'.2 (fun w hw z hz => by
        rcases addM_mem.1 hw with h | h
        · exact h1 w h z hz
        · subst h
          rcases List.mem_cons.1 hz with e | e
          · omega
          · have := ha'.1 z e; omega) (fun w hw z hz => by
        rcases addM_mem.1 hw with h | h
        · exact h2 w h z (List.mem_cons_of_mem _ hz)
        · subst h; exact hb'.1 z hz)
      refine ⟨this.1, fun z => ?_⟩
      rw [this.2, addM_mem]; simp only [List.mem_cons]; constructor
      · rintro ((h | h) | (h | h) | h) <;> simp [h]
      · rintro (h | (h | h) | h | h) <;> simp [h]
theorem lists_facts : ∀ (n : Nat) (LL : List (List Int)), LL.length < n → (∀ A ∈ LL, Up A) → SUp (listsM leI n LL) ∧ ∀ z, z ∈ listsM leI n LL ↔ ∃ A ∈ LL, z ∈ A
  | 0, LL, hn, _ => by omega
  | n + 1, [], _, _ => by simp [listsM]
  | n + 1, [a], _, h => by
    have := two_facts a.length [] a [] (by simp) (by simp) (h a (by simp)) (by simp) (by simp) (by simp)
    refine ⟨this.1, fun z => ?_⟩
    simp only [listsM]
    rw [this.2]; simp
  | n + 1, a :: b :: r, hn, h => by
    simp only [List.length_cons] at hn
    have h1 := lists_facts n ((a :: b :: r).take ((a :: b :: r).length / 2)) (by simp; omega) fun A hA => h A (List.mem_of_mem_take hA)
    have h2 := lists_facts n ((a :: b :: r).drop ((a :: b :: r).length / 2)) (by simp; omega) fun A hA => h A (List.mem_of_mem_drop hA)
    have hu : ∀ {L : List Int}, SUp L → Up L := fun h => h.imp (fun h => by omega)
    have := two_facts _ [] _ _ (Nat.le_refl _) (by simp) (hu h1.1) (hu h2.1) (by simp) (by simp)
    refine ⟨by simpa only [listsM] using this.1, fun z => ?_⟩
    simp only [listsM]
    rw [this.2, h1.2, h2.2]
    have hm : ∀ A, A ∈ a :: b :: r ↔ A ∈ (a :: b :: r).take ((a :: b :: r).length / 2) ∨ A ∈ (a :: b :: r).drop ((a :: b :: r).length / 2) := fun A => by
      rw [← List.mem_append, List.take_append_drop]
    simp only [List.not_mem_nil, false_or]
    constructor
    · rintro (⟨A, hA, hz⟩ | ⟨A, hA, hz⟩)
      · exact ⟨A, (hm A).2 (.inl hA), hz⟩
      · exact ⟨A, (hm A).2 (.inr hA), hz⟩
    · rintro ⟨A, hA, hz⟩
      rcases (hm A).1 hA with h | h
      · exact .inl ⟨A, h, hz⟩
      · exact .inr ⟨A, h, hz⟩
def insL (out : List Int) (x : Int) : List Int := out.takeWhile (fun y => decide (y ≤ x)) ++ [x] ++ out.dropWhile (fun y => decide (y ≤ x))
def risL (A : List Int) : List Int := (A.take 200).foldl insL []
theorem insL_mem {out : List Int} {x z : Int} : z ∈ insL out x ↔ z ∈ out ∨ z = x := by
  have h := List.takeWhile_append_dropWhile (p := fun y => decide (y ≤ x)) (l := out)
  have : z ∈ out ↔ z ∈ out.takeWhile (fun y => decide (y ≤ x)) ∨ z ∈ out.dropWhile (fun y => decide (y ≤ x)) := by rw [← List.mem_append, h]
  rw [this]; unfold insL; simp only [List.mem_append, List.mem_singleton]; constructor
  · rintro ((h | h) | h) <;> simp [h]
  · rintro ((h | h) | h) <;> simp [h]
theorem insL_up : ∀ {out : List Int} {x : Int}, Up out → Up (insL out x)
  | [], x, _ => by simp [insL]
  | y :: r, x, h => by
    have h' := List.pairwise_cons.1 h
    unfold insL
    by_cases hy : y ≤ x
    · have ih := insL_up (x := x) h'.2
      unfold insL at ih
      simp only [List.takeWhile_cons, List.dropWhile_cons, hy, decide_true, if_true, List.cons_append]
      refine List.pairwise_cons.2 ⟨fun z hz => ?_, ih⟩
      have : z ∈ insL r x := hz
      rcases insL_mem.1 this with h | h
      · exact h'.1 z h
      · subst h; exact hy
    · simp only [List.takeWhile_cons, List.dropWhile_cons, hy, decide_false, Bool.false_eq_true, if_false, List.nil_append, List.singleton_append]
      refine List.pairwise_cons.2 ⟨fun z hz => ?_, h⟩
      rcases List.mem_cons.1 hz with e | e
      · omega
      · have := h'.1 z e; omega
theorem insL_len (out : List Int) (x : Int) : (insL out x).length = out.length + 1 := by
  have h := congrArg List.length (List.takeWhile_append_dropWhile (p := fun y => decide (y ≤ x)) (l := out))
  unfold insL; simp only [List.length_append, List.length_singleton] at h ⊢; omega
theorem fold_facts : ∀ (A out : List Int), Up out → Up (A.foldl insL out) ∧ (∀ z, z ∈ A.foldl insL out ↔ z ∈ out ∨ z ∈ A) ∧ (A.foldl insL out).length = out.length + A.length
  | [], out, h => by simp [h]
  | x :: r, out, h => by
    have := fold_facts r (insL out x) (insL_up h)
    refine ⟨this.1, fun z => ?_, ?_⟩
    · rw [List.foldl_cons, this.2.1, insL_mem]; simp [or_assoc]
    · rw [List.foldl_cons, this.2.2, insL_len]; simp; omega
theorem risL_up (A : List Int) : Up (risL A) := (fold_facts _ [] (by simp)).1
theorem risL_mem {A : List Int} {z : Int} (h : z ∈ risL A) : z ∈ A := by
  have := ((fold_facts (A.take 200) [] (by simp)).2.1 z).1 h
  rcases this with h | h
  · cases h
  · exact List.mem_of_mem_take h
theorem risL_len (A : List Int) : (risL A).length ≤ 200 := by
  have := (fold_facts (A.take 200) [] (by simp)).2.2
  unfold risL; rw [this]; simp; omega
end Go.Proofs.Ytidpbnbjpglhfaa.V
namespace Go.Proofs.Ytidpbnbjpglhfaa.V
open Go
set_option linter.unusedVariables false
set_option linter.unusedSimpArgs false
theorem tw_get {p : Int → Bool} : ∀ {out : List Int} {i : Nat}, i < (out.takeWhile p).length → ∃ v, out[i]? = some v ∧ p v = true
  | [], i, h => by simp at h
  | x :: r, i, h => by
    by_cases hx : p x = true
    · rw [List.takeWhile_cons, if_pos hx] at h
      cases i with
      | zero => exact ⟨x, rfl, hx⟩
      | succ i => exact tw_get (out := r) (i := i) (by simpa using h)
    · rw [List.takeWhile_cons, if_neg hx] at h; simp at h
theorem tw_at {p : Int → Bool} : ∀ {out : List Int} {v : Int}, out[(out.takeWhile p).length]? = some v → p v = false
  | [], v, h => by simp at h
  | x :: r, v, h => by
    by_cases hx : p x = true
    · rw [List.takeWhile_cons, if_pos hx] at h
      exact tw_at (out := r) (by simpa using h)
    · rw [List.takeWhile_cons, if_neg hx] at h
      simp at h; subst h; simpa using hx
theorem tw_take (p : Int → Bool) (out : List Int) : out.take (out.takeWhile p).length = out.takeWhile p ∧ out.drop (out.takeWhile p).length = out.dropWhile p := by
  have h := List.takeWhile_append_dropWhile (p := p) (l := out)
  constructor
  · have : ∀ (a b : List Int), out = a ++ b → out.take a.length = a := fun a b e => by rw [e, List.take_left]
    exact this _ _ h.symm
  · have : ∀ (a b : List Int), out = a ++ b → out.drop a.length = b := fun a b e => by rw [e, List.drop_left]
    exact this _ _ h.symm
theorem rise_find {Q : Sl → H → Prop} {C1 : Sl → Sl → Int → H → Prop} {h : H} {s0 s3 : Sl} {A out : List Int} {i : Nat} {x : Int} (l0 : Lst h s0 cI A) (l3 : Lst h s3 cI out) (hx : A[i]? = some x) (ho : out.length < 1000) :
    ∀ (m j : Nat), j ≤ (out.takeWhile fun y => decide (y ≤ x)).length → (out.takeWhile fun y => decide (y ≤ x)).length - j < m →
    (∀ C2, F.spatelaw8_rising.j5 Q C1 C2 s0 s3 (i : Int) ((out.takeWhile fun y => decide (y ≤ x)).length : Int) false h) → F.spatelaw8_rising.l3 Q C1 m s0 s3 (i : Int) (j : Int) h
  | 0, j, _, hm, _ => by omega
  | m + 1, j, hj, hm, k => by
    unfold F.spatelaw8_rising.l3
    have hl := l3.len cI_len
    have htw : (out.takeWhile fun y => decide (y ≤ x)).length ≤ out.length := (List.takeWhile_sublist _).length_le
    rw [hl]
    simp only [decide_eq_true_eq, decide_eq_false_iff_not]
    refine ⟨fun g => ?_, fun g => ?_⟩
    · obtain ⟨v, hv⟩ : ∃ v, out[j]? = some v := ⟨_, List.getElem?_eq_getElem (by omega)⟩
      refine l3.get cI_len hv rfl fun a ha => ?_
      rw [ldI_iff ha.one]
      refine l0.get cI_len hx rfl fun a ha => ?_
      rw [ldI_iff ha.one]
      by_cases hjk : j < (out.takeWhile fun y => decide (y ≤ x)).length
      · obtain ⟨v', h1, h2⟩ := tw_get hjk
        rw [hv] at h1; cases h1
        rw [show decide (v ≤ x) = true from h2]
        unfold F.spatelaw8_rising.j5
        refine ⟨fun _ => ?_, fun h => by cases h⟩
        unfold F.spatelaw8_rising.j4
        rw [show IntKind.wrap .i64 ((j : Int) + 1) = ((j + 1 : Nat) : Int) from by rw [w64 (by omega) (by omega)]; omega]
        exact rise_find l0 l3 hx ho m (j + 1) (by omega) (by omega) k
      · have hjk : j = (out.takeWhile fun y => decide (y ≤ x)).length := by omega
        have := tw_at (p := fun y => decide (y ≤ x)) (out := out) (v := v) (by rw [← hjk]; exact hv)
        rw [show decide (v ≤ x) = false from this, hjk]
        exact k _
    · have hjk : j = (out.takeWhile fun y => decide (y ≤ x)).length := by omega
      rw [hjk]; exact k _
theorem cut_lst {h : H} {s : Sl} {A : List Int} {lo hi : Nat} {nl nh : Int} {K : Sl → Prop} (l : Lst h s cI A) (e1 : nl = (lo : Int)) (e2 : nh = (hi : Int)) (h1 : lo ≤ hi) (h2 : hi ≤ A.length) (k : ∀ t, Lst h t cI ((A.drop lo).take (hi - lo)) → t.blk = s.blk → K t) : cutL s nl nh 1 K := by
  have hl := l.len cI_len
  have hc := l.2
  exact cutL_of e1 e2 h1 (by omega) (k _ ⟨cut_reads cI_len (by omega) l.1 h1 h2 hc, by simp only [slcut]; omega⟩ slcut_blk)
theorem Lst.keep {α : Type} {S : Nat → Prop} {h h' : H} {s : Sl} {f : α → List Value} {A : List α} (l : Lst h s f A) (e : Only S h h') (hn : A ≠ [] → ∀ b, s.blk = some b → ¬ S b) : Lst h' s f A := by
  by_cases hA : A = []
  · subst hA; exact ⟨⟨l.1.1, l.1.2.1, fun i v hv => by simp at hv⟩, l.2⟩
  · exact l.only e (hn hA)
theorem rise_loop {h0 : H} {Q : Sl → H → Prop} {s0 : Sl} {A : List Int} (hs0 : A ≠ [] → ∀ b, s0.blk = some b → b < h0.size) (hA : A.length < 10000000000000000000) (k : ∀ r h', Owns h' r 3 1 ((risL A).flatMap cI) → Ext h0 h' → Mine h0 r → Q r h') :
    ∀ (m i : Nat) (h : H) (s3 : Sl), Ext h0 h → Lst h s0 cI A → Owns h s3 3 1 (((A.take i).foldl insL []).flatMap cI) → Mine h0 s3 → i ≤ 200 → i ≤ A.length → 200 - i < m → F.spatelaw8_rising.l1 Q m s0 s3 (i : Int) h
  | 0, i, h, s3, _, _, _, _, _, _, hm => by omega
  | m + 1, i, h, s3, e0, l0, ow, mi, hi, hiA, hm => by
    unfold F.spatelaw8_rising.l1
    have hl := l0.len cI_len
    have hout := (fold_facts (A.take i) [] (by simp)).2.2
    rw [List.length_take] at hout
    have hend : i = 200 ∨ i = A.length → Q s3 h := fun hh => by
      have : risL A = (A.take i).foldl insL [] := by
        unfold risL
        rcases hh with rfl | rfl
        · rfl
        · rw [List.take_of_length_le (by omega), List.take_of_length_le (Nat.le_refl _)]
      rw [← this] at ow
      exact k s3 h ow e0 mi
    rw [hl]
    unfold F.spatelaw8_rising.j6
    simp only [decide_eq_true_eq, decide_eq_false_iff_not]
    refine ⟨fun g => ⟨fun g2 => ?_, fun g2 => hend (by omega)⟩, fun g => ⟨(fun h => by cases h), fun _ => hend (by omega)⟩⟩
    obtain ⟨x, hx⟩ : ∃ x, A[i]? = some x := ⟨_, List.getElem?_eq_getElem (by omega)⟩
    have htk : (A.take (i + 1)).foldl insL [] = insL ((A.take i).foldl insL []) x := by rw [List.take_add_one, hx, List.foldl_append]; rfl
    generalize (A.take i).foldl insL [] = out at *
    have lo := ow.lst
    have hol := lo.len cI_len
    have htw : (out.takeWhile fun y => decide (y ≤ x)).length ≤ out.length := (List.takeWhile_sublist _).length_le
    obtain ⟨t1, t2⟩ := tw_take (fun y => decide (y ≤ x)) out
    simp only [List.length_nil, Nat.zero_add] at hout
    refine ⟨out.length + 1, ?_⟩
    refine rise_find (j := 0) l0 lo hx (by omega) _ (by omega) (by omega) fun C2 => ?_
    unfold F.spatelaw8_rising.j5
    refine ⟨(fun h => by cases h), fun _ => ?_⟩
    refine cut_lst lo (lo := 0) (hi := (out.takeWhile fun y => decide (y ≤ x)).length) rfl rfl (by omega) htw fun t lt htb => ?_
    rw [List.drop_zero, Nat.sub_zero, t1] at lt
    refine app_mine (f := cI) (s := ⟨none, 0, 0⟩) (L := []) e0 (Mine.nil _ _ _) cI_len (by omega) elI (Owns.nil _ _ _) lt.1 (fun x => one1 rfl) (by simp; omega) fun r1 h1 q1 q2 q3 q4 q5 => ?_
    have x1 : Ext h h1 := q4.mono fun b _ e => by simp [Sl.blk] at e
    refine (l0.ext x1).get cI_len hx rfl fun a ha => ?_
    rw [ldI_iff ha.one]
    have hs3 : ∀ b, s3.blk = some b → b < h.size := fun b hb => ow.blk_lt hb
    have hr1 : ∀ b, r1.blk = some b → h.size ≤ b := fun b hb => by
      rcases q5 with q5 | ⟨b', q5, q6⟩
      · rw [q5] at hb; simp [Sl.blk] at hb
      · rw [q5] at hb; cases hb; exact q6
    refine push_mine (f := cI) x q2 q3 cI_len (by omega) elI q1 (fun x => one1 rfl) (by simp; omega) fun r2 h2 p1 p2 p3 p4 p5 => ?_
    have lo2 : Lst h2 s3 cI out := (lo.ext x1).only p4 fun b hb e => by have := hs3 b hb; have := hr1 b e; omega
    have hr2 : ∀ b, r2.blk = some b → h.size ≤ b := fun b hb => by
      rcases p5 with p5 | ⟨b', p5, p6⟩
      · rw [p5] at hb; exact hr1 b hb
      · rw [p5] at hb; cases hb; have := x1.size; omega
    refine cut_lst lo2 (lo := (out.takeWhile fun y => decide (y ≤ x)).length) (hi := out.length) rfl (by rw [hol]) htw (Nat.le_refl _) fun t' lt' htb' => ?_
    rw [t2, List.take_of_length_le (by rw [← t2, List.length_drop]; exact Nat.le_refl _)] at lt'
    refine app_mine (f := cI) p2 p3 cI_len (by omega) elI p1 lt'.1 (fun x => one1 rfl) (by
      have := congrArg List.length (List.takeWhile_append_dropWhile (p := fun y => decide (y ≤ x)) (l := out))
      simp only [List.length_append, List.nil_append, List.length_singleton] at this ⊢; omega) fun r3 h3 u1 u2 u3 u4 u5 => ?_
    rw [show IntKind.wrap .i64 ((i : Int) + 1) = ((i + 1 : Nat) : Int) from by rw [w64 (by omega) (by omega)]; omega]
    have l03 : Lst h3 s0 cI A := ((l0.ext x1).keep p4 (fun hne b hb e => by have := hs0 hne b hb; have := q3 b e; omega)).keep u4 fun hne b hb e => by have := hs0 hne b hb; have := p3 b e; omega
    refine rise_loop hs0 hA k m (i + 1) h3 r3 u2 l03 ?_ u3 (by omega) (by omega) (by omega)
    rw [htk]; simpa [insL] using u1
theorem rising_spec {h : H} {s : Sl} {A : List Int} {Q : Sl → H → Prop} (l : Lst h s cI A) (hs : A ≠ [] → ∀ b, s.blk = some b → b < h.size) (hA : A.length < 10000000000000000000) (k : ∀ r h', Owns h' r 3 1 ((risL A).flatMap cI) → Ext h h' → Mine h r → Q r h') : F.spatelaw8_rising s h Q :=
  ⟨201, rise_loop hs hA k 201 0 h _ (.refl _) l (Owns.nil _ _ _) (Mine.nil _ _ _) (by omega) (by omega) (by omega)⟩
theorem same_loop {h : H} {s t : Sl} {A : List Int} {Q : Bool → H → Prop} (ls : Lst h s cI A) (lt : Lst h t cI A) (hA : A.length ≤ 100000) (k : Q true h) : ∀ (m i : Nat), i ≤ A.length → A.length - i < m → F.spatelaw8_same.l1 Q m s t (i : Int) h
  | 0, i, _, hm => by omega
  | m + 1, i, hi, hm => by
    unfold F.spatelaw8_same.l1
    rw [ls.len cI_len]
    simp only [decide_eq_true_eq, decide_eq_false_iff_not]
    refine ⟨fun g => ?_, fun g => k⟩
    obtain ⟨x, hx⟩ : ∃ x, A[i]? = some x := ⟨_, List.getElem?_eq_getElem (by omega)⟩
    refine ls.get cI_len hx rfl fun a ha => ?_
    rw [ldI_iff ha.one]
    refine lt.get cI_len hx rfl fun a ha => ?_
    rw [ldI_iff ha.one, bne_iff_ne, bne_eq_false_iff_eq]
    refine ⟨fun g => absurd rfl g, fun _ => ?_⟩
    rw [show IntKind.wrap .i64 ((i : Int) + 1) = ((i + 1 : Nat) : Int) from by rw [w64 (by omega) (by omega)]; omega]
    exact same_loop ls lt hA k m (i + 1) (by omega) (by omega)
theorem same_spec {h : H} {s t : Sl} {A : List Int} {Q : Bool → H → Prop} (ls : Lst h s cI A) (lt : Lst h t cI A) (hA : A.length ≤ 100000) (k : Q true h) : F.spatelaw8_same s t h Q := by
  unfold F.spatelaw8_same
  rw [ls.len cI_len, lt.len cI_len, bne_iff_ne, bne_eq_false_iff_eq]
  exact ⟨fun g => absurd rfl g, fun _ => ⟨A.length + 1, same_loop ls lt hA k _ 0 (by omega) (by omega)⟩⟩
end Go.Proofs.Ytidpbnbjpglhfaa.V
namespace Go.Proofs.Ytidpbnbjpglhfaa.V
open Go
set_option linter.unusedVariables false
set_option linter.unusedSimpArgs false
/-- The numbers that say how far each list is gone. -/
abbrev atsL (n : Nat) (f : Nat → Nat) : List Int := (List.range n).map fun i => (f i : Int)
theorem atsL_get {n : Nat} {f : Nat → Nat} {i : Nat} (h : i < n) : (atsL n f)[i]? = some (f i : Int) := by simp [atsL, h]
theorem atsL_set {n : Nat} {f : Nat → Nat} {k v : Nat} : (atsL n f).set k (v : Int) = atsL n (fun i => if i = k then v else f i) := by
  apply List.ext_getElem?
  intro i
  rw [List.getElem?_set]
  by_cases h : k = i
  · subst h
    by_cases hk : k < n <;> simp [atsL, hk]
  · have h' : ¬ i = k := fun e => h e.symm
    by_cases hi : i < n <;> simp [atsL, h, h', hi]
/-- List i; its next number. -/
abbrev li (LL : List (List Int)) (i : Nat) : List Int := LL.getD i []
theorem li_of {LL : List (List Int)} {i : Nat} (h : i < LL.length) : LL[i]? = some (li LL i) := by simp [li, List.getD, h]
/-- k is the place, below j, of a least next number; or there is none. -/
def Best (LL : List (List Int)) (f : Nat → Nat) (j : Nat) (k : Int) : Prop :=
  (k = -1 ∧ ∀ i, i < j → (li LL i).length ≤ f i) ∨ ∃ (q : Nat) (v : Int), k = (q : Int) ∧ q < j ∧ (li LL q)[f q]? = some v ∧ ∀ i w, i < j → (li LL i)[f i]? = some w → v ≤ w
theorem ref_inner {LL : List (List Int)} {SL : List Sl} {f : Nat → Nat} {h : H} {s0 s3 s4 : Sl} {Q : Sl → H → Prop} {C1 : Sl → Sl → Sl → H → Prop} (l0 : Lst h s0 cS SL) (ll : Lsts_int h SL LL) (l4 : Lst h s4 cI (atsL LL.length f)) (hn : LL.length < 1000) (hf : ∀ i, i < LL.length → f i ≤ (li LL i).length) (hb : ∀ i, (li LL i).length < 100000)
    (k : ∀ (kk : Int), Best LL f LL.length kk → F.spateref8_Lists.l2 Q C1 1 s0 s3 s4 kk (LL.length : Int) h) :
    ∀ (m j : Nat) (kk : Int), j ≤ LL.length → LL.length - j < m → Best LL f j kk → F.spateref8_Lists.l2 Q C1 m s0 s3 s4 kk (j : Int) h
  | 0, j, kk, _, hm, _ => by omega
  | m + 1, j, kk, hj, hm, hbest => by
    have hsl := l0.len cS_len
    have hsn : SL.length = LL.length := ll.1
    by_cases hjn : j = LL.length
    · subst hjn
      have := k kk hbest
      unfold F.spateref8_Lists.l2 at this ⊢
      rw [hsl, hsn] at this ⊢
      simp only [decide_eq_true_eq, decide_eq_false_iff_not] at this ⊢
      exact ⟨fun g => by omega, fun g => this.2 (by omega)⟩
    · unfold F.spateref8_Lists.l2
      rw [hsl, hsn]
      simp only [decide_eq_true_eq, decide_eq_false_iff_not]
      refine ⟨fun g => ?_, fun g => by omega⟩
      have hjl : j < LL.length := by omega
      have hget : ∀ {i : Nat} {n : Int} {K : Sl → Prop}, i < LL.length → n = (i : Int) → (∀ t, Lst h t cI (li LL i) → K t) → idxA s0 n 1 fun a => ldL h a fun y => K y := fun {i n K} hi hn kk => by
        obtain ⟨t, ht⟩ : ∃ t, SL[i]? = some t := ⟨_, List.getElem?_eq_getElem (by omega)⟩
        refine l0.get cS_len ht hn fun a ha => ?_
        rw [ldL_iff ha.one]
        exact kk t (ll.2 i t _ ht (li_of hi)).1
      have hat : ∀ {i : Nat} {n : Int} {K : Int → Prop}, i < LL.length → n = (i : Int) → K (f i : Int) → idxA s4 n 1 fun a => ldI .i64 h a fun y => K y := fun {i n K} hi hn kk => by
        refine l4.get cI_len (atsL_get hi) hn fun a ha => ?_
        rw [ldI_iff ha.one]
        exact kk
      refine hat hjl rfl (hget hjl rfl fun t lt => ?_)
      rw [lt.len cI_len]
      have hw : IntKind.wrap .i64 ((j : Int) + 1) = ((j + 1 : Nat) : Int) := by rw [w64 (by omega) (by omega)]; omega
      have hnew : ∀ v, (li LL j)[f j]? = some v → (∀ (q : Nat) (w : Int), kk = (q : Int) → (li LL q)[f q]? = some w → v ≤ w) → F.spateref8_Lists.j4 Q C1 (F.spateref8_Lists.l2 Q C1 m) s0 s3 s4 kk (j : Int) true h := fun v hv hle => by
        unfold F.spateref8_Lists.j4 F.spateref8_Lists.j3
        refine ⟨fun _ => ?_, fun h => by cases h⟩
        rw [hw]
        refine ref_inner l0 ll l4 hn hf hb k m (j + 1) _ (by omega) (by omega) (.inr ⟨j, v, rfl, by omega, hv, fun i w hi hww => ?_⟩)
        by_cases hij : i = j
        · subst hij; rw [hv] at hww; cases hww; exact Int.le_refl _
        · rcases hbest with ⟨_, h1⟩ | ⟨q, u, h1, h2, h3, h4⟩
          · have := (List.getElem?_eq_some_iff.1 hww).1
            have := h1 i (by omega); omega
          · have := hle q u h1 h3
            have := h4 i w (by omega) hww; omega
      have hold : (∀ v, (li LL j)[f j]? = some v → ∃ q u, kk = ((q : Nat) : Int) ∧ (li LL q)[f q]? = some u ∧ u ≤ v) → F.spateref8_Lists.j4 Q C1 (F.spateref8_Lists.l2 Q C1 m) s0 s3 s4 kk (j : Int) false h := fun hle => by
        unfold F.spateref8_Lists.j4 F.spateref8_Lists.j3
        refine ⟨(fun h => by cases h), fun _ => ?_⟩
        rw [hw]
        refine ref_inner l0 ll l4 hn hf hb k m (j + 1) _ (by omega) (by omega) ?_
        rcases hbest with ⟨h0, h1⟩ | ⟨q, u, h1, h2, h3, h4⟩
        · refine .inl ⟨h0, fun i hi => ?_⟩
          by_cases hij : i = j
          · subst hij
            rcases Nat.lt_or_ge (f i) (li LL i).length with hlt | hge
            · obtain ⟨q, u, e, _⟩ := hle _ (List.getElem?_eq_getElem hlt); omega
            · exact hge
          · exact h1 i (by omega)
        · refine .inr ⟨q, u, h1, by omega, h3, fun i w hi hww => ?_⟩
          by_cases hij : i = j
          · subst hij
            obtain ⟨q', u', e, e2, e3⟩ := hle w hww
            have : q' = q := by omega
            subst this; rw [h3] at e2; cases e2; exact e3
          · exact h4 i w (by omega) hww
      refine ⟨fun g1 => ⟨fun g2 => ?_, fun g2 => ?_⟩, fun g1 => hold fun v hv => ?_⟩
      · obtain ⟨v, hv⟩ : ∃ v, (li LL j)[f j]? = some v := ⟨_, List.getElem?_eq_getElem (by omega)⟩
        exact hnew v hv fun q w e _ => by omega
      · rcases hbest with ⟨h0, _⟩ | ⟨q, u, h1, h2, h3, h4⟩
        · omega
        · obtain ⟨v, hv⟩ : ∃ v, (li LL j)[f j]? = some v := ⟨_, List.getElem?_eq_getElem (by omega)⟩
          refine hget hjl rfl fun t1 lt1 => hat hjl rfl (lt1.get cI_len hv rfl fun a ha => ?_)
          rw [ldI_iff ha.one]
          refine hget (i := q) (by omega) h1 fun t2 lt2 => hat (i := q) (by omega) h1 (lt2.get cI_len h3 rfl fun a ha => ?_)
          rw [ldI_iff ha.one]
          by_cases hvu : v < u
          · rw [show decide (v < u) = true from by simp [hvu]]
            exact hnew v hv fun q' w e hw => by
              have : q' = q := by omega
              subst this; rw [h3] at hw; cases hw; omega
          · rw [show decide (v < u) = false from by simp [hvu]]
            exact hold fun v' hv' => ⟨q, u, h1, h3, by rw [hv] at hv'; cases hv'; omega⟩
      · have := (List.getElem?_eq_some_iff.1 hv).1; omega
/-- What is gone of the lists. -/
def Gone (LL : List (List Int)) (f : Nat → Nat) (z : Int) : Prop := ∃ i t, i < LL.length ∧ t < f i ∧ (li LL i)[t]? = some z
def leftN (LL : List (List Int)) (f : Nat → Nat) : Nat := ((List.range LL.length).map fun i => (li LL i).length - f i).sum
theorem sum_less {n k : Nat} {g g' : Nat → Nat} (hk : k < n) (h1 : g' k < g k) (h2 : ∀ i, i ≠ k → g' i = g i) : ((List.range n).map g').sum < ((List.range n).map g).sum := by
  induction n with
  | zero => omega
  | succ n ih =>
    rw [List.range_succ, List.map_append, List.map_append, List.sum_append, List.sum_append]
    simp only [List.map_cons, List.map_nil, List.sum_cons, List.sum_nil]
    by_cases hkn : k = n
    · subst hkn
      have : (List.range k).map g' = (List.range k).map g := List.map_congr_left fun i hi => h2 i (by have := List.mem_range.1 hi; omega)
      rw [this]; omega
    · have := ih (by omega)
      have := h2 n (fun e => hkn e.symm)
      omega
theorem ref_outer {LL : List (List Int)} {SL : List Sl} {h0 : H} {s0 : Sl} {Q : Sl → H → Prop} (hs0 : ∀ b, s0.blk = some b → b < h0.size) (hll0 : ∀ (i : Nat) (s : Sl), SL[i]? = some s → ∀ b, s.blk = some b → b < h0.size) (hn : LL.length < 1000) (hb : ∀ i, (li LL i).length < 100000) (hup : ∀ i, Up (li LL i))
    (k : ∀ r h' R, SUp R → (∀ z, z ∈ R ↔ ∃ A ∈ LL, z ∈ A) → Owns h' r 3 1 (R.flatMap cI) → Ext h0 h' → Mine h0 r → Q r h') :
    ∀ (m : Nat) (f : Nat → Nat) (h : H) (s3 s4 : Sl) (R : List Int), Ext h0 h → Lst h s0 cS SL → Lsts_int h SL LL → Owns h s3 3 1 (R.flatMap cI) → Mine h0 s3 → Owns h s4 3 1 ((atsL LL.length f).flatMap cI) → Mine h0 s4 → (∀ b, s3.blk = some b → s4.blk ≠ some b) → 
    (∀ i, i < LL.length → f i ≤ (li LL i).length) → SUp R → (∀ z, z ∈ R ↔ Gone LL f z) → (∀ z ∈ R, ∀ i w, i < LL.length → (li LL i)[f i]? = some w → z ≤ w) → R.length + leftN LL f ≤ 100000000000 → leftN LL f < m → F.spateref8_Lists.l1 Q m s0 s3 s4 h
  | 0, f, h, s3, s4, R, _, _, _, _, _, _, _, _, _, _, _, _, _, hm => by omega
  | m + 1, f, h, s3, s4, R, e0, l0, ll, ow, mi, o4, m4, hne, hf, hR, hmem, hle, hsz, hm => by
    unfold F.spateref8_Lists.l1
    refine ⟨LL.length + 1, ref_inner l0 ll o4.lst hn hf hb (fun kk hbest => ?_) (LL.length + 1) 0 (-1) (by omega) (by omega) (.inl ⟨rfl, fun i hi => by omega⟩)⟩
    have hsl := l0.len cS_len
    have hsn : SL.length = LL.length := ll.1
    unfold F.spateref8_Lists.l2
    rw [hsl, hsn]
    simp only [decide_eq_true_eq, decide_eq_false_iff_not]
    refine ⟨fun g => by omega, fun _ => ⟨fun g => ?_, fun g => ?_⟩⟩
    · rcases hbest with ⟨_, h1⟩ | ⟨q, u, h1, _⟩
      · refine k s3 h R hR (fun z => ?_) ow e0 mi
        rw [hmem]
        constructor
        · rintro ⟨i, t, hi, ht, hz⟩
          exact ⟨li LL i, List.mem_of_getElem? (li_of hi), List.mem_of_getElem? hz⟩
        · rintro ⟨A, hA, hz⟩
          obtain ⟨i, hi⟩ := List.mem_iff_getElem?.1 hA
          obtain ⟨t, ht⟩ := List.mem_iff_getElem?.1 hz
          have hil := (List.getElem?_eq_some_iff.1 hi).1
          have hA2 : li LL i = A := by have := li_of hil; rw [hi] at this; cases this; rfl
          refine ⟨i, t, hil, ?_, by rw [hA2]; exact ht⟩
          have := h1 i hil
          have := (List.getElem?_eq_some_iff.1 ht).1
          rw [hA2] at *; omega
      · omega
    · rcases hbest with ⟨h1, _⟩ | ⟨q, u, h1, hq, hu, hmin⟩
      · omega
      · subst h1
        obtain ⟨t, ht⟩ : ∃ t, SL[q]? = some t := ⟨_, List.getElem?_eq_getElem (by omega)⟩
        refine l0.get cS_len ht rfl fun a ha => ?_
        rw [ldL_iff ha.one]
        refine o4.lst.get cI_len (atsL_get hq) rfl fun a ha => ?_
        rw [ldI_iff ha.one]
        refine (ll.2 q t _ ht (li_of hq)).1.get cI_len hu rfl fun a ha => ?_
        rw [ldI_iff ha.one]
        have hrl := own_len cI_len (by omega) ow
        have hfq := hf q hq
        have hqb := hb q
        have hul := (List.getElem?_eq_some_iff.1 hu).1
        -- the number of that list goes on by one
        have hnext : ∀ (h1 : H) (s5 : Sl), Ext h0 h1 → Lst h1 s0 cS SL → Lsts_int h1 SL LL → Owns h1 s5 3 1 ((addM R u).flatMap cI) → Mine h0 s5 → Owns h1 s4 3 1 ((atsL LL.length f).flatMap cI) → (∀ b, s5.blk = some b → s4.blk ≠ some b) → F.spateref8_Lists.j5 Q (F.spateref8_Lists.l1 Q m) s0 s5 s4 (q : Int) h1 := fun h1 s5 x1 l01 ll1 ow5 mi5 o41 hne5 => by
          unfold F.spateref8_Lists.j5
          refine o41.lst.get cI_len (atsL_get hq) rfl fun a ha => ?_
          rw [ldI_iff ha.one]
          obtain ⟨b, a1, a2⟩ := own_at cI_len (by omega) o41 (atsL_get (f := f) hq)
          have h4l := own_len cI_len (by omega) o41
          refine idxA_of (i := q) a1 (by rw [h4l]; simp; omega) rfl ?_
          rw [show IntKind.wrap .i64 ((f q : Int) + 1) = ((f q + 1 : Nat) : Int) from by rw [w64 (by omega) (by omega)]; omega]
          refine own_setAt (f := cI) (k := 1) (x := ((f q + 1 : Nat) : Int)) cI_len o41 a1 (by simp; omega) fun h2 q1 q2 q3 => ?_
          rw [atsL_set] at q1
          have hmono : ∀ z ∈ addM R u, z ≤ u := fun z hz => by
            rcases addM_mem.1 hz with h | h
            · exact hle z h q u hq hu
            · omega
          refine ref_outer hs0 hll0 hn hb hup k m (fun i => if i = q then f q + 1 else f i) h2 s5 s4 (addM R u) (x1.mine m4 q2) (l01.only q2 fun b hb e => by have := hs0 b hb; have := m4 b e; omega) ⟨ll1.1, fun i s A g1 g2 => ⟨(ll1.2 i s A g1 g2).1.only q2 fun b hb e => by have := hll0 i s g1 b hb; have := m4 b e; omega, fun b hb => by have := (ll1.2 i s A g1 g2).2 b hb; have := q2.size; omega⟩⟩ (ow5.only q2 fun b hb e => hne5 b hb e) mi5 q1 m4 hne5 (fun i hi => ?_) ?_ (fun z => ?_) (fun z hz i w hi hw => ?_) ?_ ?_
          · show (if i = q then f q + 1 else f i) ≤ _
            split
            · rename_i e; subst e; omega
            · exact hf i hi
          · exact addM_sup hR fun z hz => hle z hz q u hq hu
          · rw [addM_mem, hmem]
            constructor
            · rintro (⟨i, t, hi, ht, hz⟩ | h)
              · refine ⟨i, t, hi, ?_, hz⟩
                show t < (if i = q then f q + 1 else f i)
                split
                · rename_i e; subst e; omega
                · exact ht
              · subst h; exact ⟨q, f q, hq, by simp, hu⟩
            · rintro ⟨i, t, hi, ht, hz⟩
              have ht : t < (if i = q then f q + 1 else f i) := ht
              split at ht
              · rename_i e; subst e
                by_cases htf : t = f i
                · subst htf; rw [hu] at hz; cases hz; exact .inr rfl
                · exact .inl ⟨i, t, hi, by omega, hz⟩
              · exact .inl ⟨i, t, hi, ht, hz⟩
          · have hzu := hmono z hz
            have hw : (li LL i)[if i = q then f q + 1 else f i]? = some w := hw
            split at hw
            · rename_i e; subst e
              have hs := hup i
              obtain ⟨g1, g2⟩ := List.getElem?_eq_some_iff.1 hu
              obtain ⟨g3, g4⟩ := List.getElem?_eq_some_iff.1 hw
              have := List.pairwise_iff_getElem.1 hs (f i) (f i + 1) g1 g3 (by omega)
              omega
            · have := hmin i w hi hw; omega
          · have h1 := addM_len R u
            have h2 : leftN LL (fun i => if i = q then f q + 1 else f i) < leftN LL f := sum_less hq (by show (li LL q).length - (if q = q then f q + 1 else f q) < (li LL q).length - f q; rw [if_pos rfl]; omega) fun i hi => by simp [hi]
            omega
          · have h2 : leftN LL (fun i => if i = q then f q + 1 else f i) < leftN LL f := sum_less hq (by show (li LL q).length - (if q = q then f q + 1 else f q) < (li LL q).length - f q; rw [if_pos rfl]; omega) fun i hi => by simp [hi]
            omega
        have hlay : R.getLast? ≠ some u → F.spateref8_Lists.j6 Q (F.spateref8_Lists.l1 Q m) s0 s3 s4 (q : Int) u true h := fun hl => by
          unfold F.spateref8_Lists.j6
          refine ⟨fun _ => ?_, fun h => by cases h⟩
          refine push_mine (f := cI) u e0 mi cI_len (by omega) elI ow (fun x => one1 rfl) (by omega) fun r h1 q1 q2 q3 q4 q5 => ?_
          have hadd : addM R u = R ++ [u] := by unfold addM; rw [if_neg hl]
          refine hnext h1 r q2 (l0.only q4 fun b hb e => by have := hs0 b hb; have := mi b e; omega) ⟨ll.1, fun i s A g1 g2 => ⟨(ll.2 i s A g1 g2).1.only q4 fun b hb e => by have := hll0 i s g1 b hb; have := mi b e; omega, fun b hb => by have := (ll.2 i s A g1 g2).2 b hb; have := q4.size; omega⟩⟩ (by rw [hadd]; exact q1) q3 (o4.only q4 fun b hb e => hne b e hb) fun b hb e => ?_
          rcases q5 with q5 | ⟨b', q5, q6⟩
          · exact hne b (by rw [← q5]; exact hb) e
          · rw [q5] at hb; cases hb; have := o4.blk_lt e; omega
        have hskip : R.getLast? = some u → F.spateref8_Lists.j6 Q (F.spateref8_Lists.l1 Q m) s0 s3 s4 (q : Int) u false h := fun hl => by
          unfold F.spateref8_Lists.j6
          refine ⟨(fun h => by cases h), fun _ => ?_⟩
          have hadd : addM R u = R := by unfold addM; rw [if_pos hl]
          exact hnext h s3 e0 l0 ll (by rw [hadd]; exact ow) mi o4 hne
        rw [hrl, beq_iff_eq, beq_eq_false_iff_ne]
        refine ⟨fun g => hlay fun e => ?_, fun g => ?_⟩
        · have : R = [] := List.eq_nil_of_length_eq_zero (by omega)
          subst this; simp at e
        · have hRn : R ≠ [] := fun e => by subst e; simp at g
          have hpos : 0 < R.length := List.length_pos_iff.2 hRn
          have hlast := List.getLast?_eq_some_getLast hRn
          obtain ⟨b, a1, a2⟩ := own_at cI_len (by omega) ow (i := R.length - 1) (x := R.getLast hRn) (by rw [← List.getLast?_eq_getElem?, hlast])
          refine idxA_of (i := R.length - 1) a1 (by omega) (by rw [w64 (by omega) (by omega)]; omega) ?_
          rw [ldI_iff a2.one]
          by_cases he : R.getLast hRn = u
          · rw [show (R.getLast hRn != u) = false from by simp [he]]
            exact hskip (by rw [hlast, he])
          · rw [show (R.getLast hRn != u) = true from by simp [he]]
            exact hlay fun e => he (by rw [hlast] at e; simpa using e)
end Go.Proofs.Ytidpbnbjpglhfaa.V
namespace Go.Proofs.Ytidpbnbjpglhfaa.V
open Go
set_option linter.unusedVariables false
set_option linter.unusedSimpArgs false
theorem refLists_spec {h : H} {s0 : Sl} {SL : List Sl} {LL : List (List Int)} {Q : Sl → H → Prop} (l0 : Lst h s0 cS SL) (ll : Lsts_int h SL LL) (hs0 : ∀ b, s0.blk = some b → b < h.size) (hn : LL.length < 1000) (hb : ∀ i, (li LL i).length < 100000) (hup : ∀ i, Up (li LL i))
    (k : ∀ r h' R, SUp R → (∀ z, z ∈ R ↔ ∃ A ∈ LL, z ∈ A) → Owns h' r 3 1 (R.flatMap cI) → Ext h h' → Mine h r → Q r h') : F.spateref8_Lists s0 h Q := by
  unfold F.spateref8_Lists
  rw [l0.len cS_len, ll.1]
  refine make_of elI (by omega) (by simp [maxLen]; omega) fun b h1 n1 n2 n3 => ?_
  rw [show (Value.int .i64 0).cells = #[.int .i64 0] from rfl, Nat.mul_one, made_one, ← flat_replicate cI 0 (.int .i64 0) rfl] at n2
  have e1 : List.replicate LL.length (0 : Int) = atsL LL.length fun _ => 0 := by
    apply List.ext_getElem?
    intro i
    by_cases hi : i < LL.length <;> simp [atsL, hi, List.getElem?_replicate]
  rw [e1] at n2
  have hsum : leftN LL (fun _ => 0) ≤ 100000000 := by
    unfold leftN
    have : ∀ n, n ≤ LL.length → ((List.range n).map fun i => (li LL i).length - 0).sum ≤ n * 100000 := fun n => by
      induction n with
      | zero => simp
      | succ n ih =>
        intro hn
        rw [List.range_succ, List.map_append, List.sum_append]
        have := ih (by omega)
        have := hb n
        simp only [List.map_cons, List.map_nil, List.sum_cons, List.sum_nil]; omega
    have := this LL.length (Nat.le_refl _)
    show ((List.range LL.length).map fun i => (li LL i).length - 0).sum ≤ _
    omega
  refine ⟨leftN LL (fun _ => 0) + 1, ref_outer (h0 := h) hs0 (fun i s hi b hb => ?_) hn hb hup k _ (fun _ => 0) h1 _ _ [] n3 (l0.ext n3) (ll.ext n3) (Owns.nil _ _ _) (Mine.nil _ _ _) n2 (fun b hb => by simp [Sl.blk] at hb; omega) (fun b hb => by simp [Sl.blk] at hb) (fun i hi => by omega) List.Pairwise.nil (fun z => ⟨(fun h => by cases h), (fun ⟨i, t, _, ht, _⟩ => absurd ht (Nat.not_lt_zero _))⟩) (fun z hz => by cases hz) (by simp; omega) (by omega)⟩
  have hil : i < LL.length := by rw [← ll.1]; exact (List.getElem?_eq_some_iff.1 hi).1
  exact (ll.2 i s _ hi (li_of hil)).2 b hb
theorem getD_up {LL : List (List Int)} (h : ∀ A ∈ LL, Up A) (i : Nat) : Up (li LL i) := by
  unfold li
  rcases Nat.lt_or_ge i LL.length with hi | hi
  · rw [List.getD_eq_getElem?_getD, List.getElem?_eq_getElem hi]; exact h _ (List.getElem_mem hi)
  · rw [List.getD_eq_getElem?_getD, List.getElem?_eq_none hi]; simp
theorem getD_len {LL : List (List Int)} {n : Nat} (h : ∀ A ∈ LL, A.length < n) (hn : 0 < n) (i : Nat) : (li LL i).length < n := by
  unfold li
  rcases Nat.lt_or_ge i LL.length with hi | hi
  · rw [List.getD_eq_getElem?_getD, List.getElem?_eq_getElem hi]; exact h _ (List.getElem_mem hi)
  · rw [List.getD_eq_getElem?_getD, List.getElem?_eq_none hi]; exact hn
end Go.Proofs.Ytidpbnbjpglhfaa.V
namespace Go.Proofs.Ytidpbnbjpglhfaa.V
open Go
set_option linter.unusedVariables false
set_option linter.unusedSimpArgs false
theorem push8 {α : Type} {f : α → List Value} {kk : Nat} {t e : TypeId} {bytes : Nat} {z : Value} {h0 h : H} {s : Sl} {D : List α} {x : α} {K : Sl → H → Prop} (el : El PP t e kk bytes z) (hf : ∀ x, (f x).length = kk) (hk : 0 < kk) (one : ∀ x, ∀ v ∈ f x, v.oneCell' = true)
    (e0 : Ext h0 h) (w : Owns h s e kk (D.flatMap f)) (m : Mine h0 s) (hl : (D.length + 1 + (D.length + 1) / 4 + 256) * bytes ≤ 281474976710656)
    (k : ∀ s' h', Owns h' s' e kk ((D ++ [x]).flatMap f) → Mine h0 s' → Ext h0 h' → Only (fun b => s.blk = some b) h h' → K s' h') :
    newL h (f x).toArray e 1 fun s7 h6 => runL PP (Builtin.append_ #[t, t] t #[s.enc, s7.enc]) h6 fun s9 h8 => K s9 h8 := by
  refine newL_of fun n6 h6 hn6 b6 e6 sz6 => ?_
  have r6 : Reads h6 ⟨some ⟨n6, 0, none⟩, 1, 1⟩ kk ([x].flatMap f) := blk_reads (by simpa using b6) (by simp [hf])
  refine app_list (L := D) (M := [x]) hf hk el (w.ext e6) r6 one (by simpa using hl) fun r7 h7 q1 q2 q3 => ?_
  refine k r7 h7 q1 (fun b hb => ?_) ((e0.trans e6).mine m q2) ((e6.only (S := fun b => s.blk = some b)).trans q2 fun _ _ e => e)
  rcases q3 with q3 | ⟨b', q3, q4⟩
  · exact m b (by rw [← q3]; exact hb)
  · rw [q3] at hb; cases hb
    have := e0.size; have := e6.size; omega
theorem own_typ {h h' : H} {s r : Sl} {e e' : TypeId} {k k' : Nat} {cs ds : List Value} (w : Owns h r e k cs) (o : Only (fun b => s.blk = some b) h h') (ws : Owns h s e' k' ds) (he : e ≠ e') : Owns h' r e k cs := w.only o fun y hy hb => by
  obtain ⟨_, ⟨q1, q2, q3⟩ | ⟨b', c', q1, q2, _⟩⟩ := w
  · simp [Sl.blk, q1] at hy
  · simp [Sl.blk, q1] at hy
    subst hy
    exact own_ne ws q2 (fun e => he e.symm) hb
theorem flat_le {n : Nat} : ∀ {LL : List (List Int)}, (∀ A ∈ LL, A.length ≤ n) → LL.flatten.length ≤ LL.length * n
  | [], _ => by simp
  | A :: LL, h => by
    have h1 := h A (by simp)
    have h2 := flat_le (LL := LL) fun B hB => h B (by simp [hB])
    rw [List.flatten_cons, List.length_append, List.length_cons, Nat.add_mul]; omega
theorem cap_of {h : H} {s : Sl} {e : TypeId} {k : Nat} {cs : List Value} (w : Owns h s e k cs) : s.len ≤ s.cap := by
  obtain ⟨_, ⟨q1, q2, q3⟩ | ⟨b', c', q1, q2, q3, q4, _⟩⟩ := w
  · omega
  · exact q4
end Go.Proofs.Ytidpbnbjpglhfaa.V
namespace Go.Proofs.Ytidpbnbjpglhfaa.V
open Go
set_option linter.unusedVariables false
set_option linter.unusedSimpArgs false
/-- Each row's cell is ahead of those behind it. -/
def SC (l : List Rw8) : Prop := l.Pairwise fun a b => cmpC a.Cell b.Cell = -1
def ordI (out : List Rw8) (x : Rw8) : List Rw8 :=
  match out.dropWhile (fun y => decide (cmpC y.Cell x.Cell < 0)) with
  | y :: r => if cmpC y.Cell x.Cell = 0 then out else out.takeWhile (fun y => decide (cmpC y.Cell x.Cell < 0)) ++ x :: y :: r
  | [] => out ++ [x]
def ordL (A : List Rw8) : List Rw8 := (A.take 200).foldl ordI []
theorem ordI_sc {out : List Rw8} {x : Rw8} (s : SC out) : SC (ordI out x) ∧ (ordI out x).length ≤ out.length + 1 ∧ ∀ z, z ∈ ordI out x → z ∈ out ∨ z = x := by
  unfold ordI
  have htd := List.takeWhile_append_dropWhile (p := fun y : Rw8 => decide (cmpC y.Cell x.Cell < 0)) (l := out)
  have htk : ∀ y ∈ out.takeWhile (fun y => decide (cmpC y.Cell x.Cell < 0)), cmpC y.Cell x.Cell < 0 := fun y hy => by
    have hall := List.all_takeWhile (p := fun y : Rw8 => decide (cmpC y.Cell x.Cell < 0)) (l := out)
    rw [List.all_eq_true] at hall
    simpa using hall y hy
  generalize hA : out.takeWhile (fun y => decide (cmpC y.Cell x.Cell < 0)) = A at htd htk ⊢
  generalize hB : out.dropWhile (fun y => decide (cmpC y.Cell x.Cell < 0)) = B at htd ⊢
  cases B with
  | nil =>
    rw [List.append_nil] at htd
    subst htd
    refine ⟨?_, by simp, fun z hz => by simpa using hz⟩
    unfold SC
    rw [List.pairwise_append]
    refine ⟨s, by simp, fun a ha b hb => ?_⟩
    simp at hb; subst hb
    have := htk a ha; have := cC_range a.Cell b.Cell; omega
  | cons y r =>
    simp only
    split
    · exact ⟨s, by omega, fun z hz => .inl hz⟩
    · rename_i hne
      have hy : ¬ cmpC y.Cell x.Cell < 0 := by
        have := List.head?_dropWhile_not (p := fun y : Rw8 => decide (cmpC y.Cell x.Cell < 0)) (l := out)
        rw [hB] at this
        simpa using this
      have hry := cC_range y.Cell x.Cell
      have hxy : cmpC x.Cell y.Cell = -1 := by have := cC_anti x.Cell y.Cell; omega
      subst htd
      unfold SC at s ⊢
      rw [List.pairwise_append] at s ⊢
      obtain ⟨s1, s2, s3⟩ := s
      have s2' := List.pairwise_cons.1 s2
      refine ⟨⟨s1, List.pairwise_cons.2 ⟨fun b hb => ?_, s2⟩, fun a ha b hb => ?_⟩, by simp; omega, fun z hz => ?_⟩
      · rcases List.mem_cons.1 hb with rfl | hb
        · exact hxy
        · exact cC_trans hxy (s2'.1 b hb)
      · rcases List.mem_cons.1 hb with rfl | hb
        · have := htk a ha; have := cC_range a.Cell b.Cell; omega
        · exact s3 a ha b hb
      · simp only [List.mem_append, List.mem_cons] at hz ⊢
        rcases hz with hz | rfl | hz
        · exact .inl (.inl hz)
        · exact .inr rfl
        · exact .inl (.inr hz)
theorem ord_fold : ∀ (A out : List Rw8), SC out → SC (A.foldl ordI out) ∧ (A.foldl ordI out).length ≤ out.length + A.length
  | [], out, s => ⟨s, by simp⟩
  | x :: A, out, s => by
    obtain ⟨h1, h2, _⟩ := ordI_sc (x := x) s
    obtain ⟨h3, h4⟩ := ord_fold A (ordI out x) h1
    exact ⟨h3, by simp only [List.foldl_cons, List.length_cons]; omega⟩
theorem ordL_sc (A : List Rw8) : SC (ordL A) ∧ (ordL A).length ≤ 200 := by
  obtain ⟨h1, h2⟩ := ord_fold (A.take 200) [] .nil
  refine ⟨h1, ?_⟩
  unfold ordL
  simp at h2 ⊢; omega
abbrev mg (a b : List Rw8) : List Rw8 := List.merge a b leC
end Go.Proofs.Ytidpbnbjpglhfaa.V
namespace Go.Proofs.Ytidpbnbjpglhfaa.V
open Go
set_option linter.unusedVariables false
set_option linter.unusedSimpArgs false
theorem twr_get {p : Rw8 → Bool} : ∀ {out : List Rw8} {i : Nat}, i < (out.takeWhile p).length → ∃ v, out[i]? = some v ∧ p v = true
  | [], i, h => by simp at h
  | a :: r, i, h => by
    rw [List.takeWhile_cons] at h
    split at h
    · rename_i hp
      cases i with
      | zero => exact ⟨a, rfl, hp⟩
      | succ i =>
        simp at h
        obtain ⟨v, h1, h2⟩ := twr_get (out := r) (i := i) h
        exact ⟨v, by simpa using h1, h2⟩
    · simp at h
theorem twr_parts (p : Rw8 → Bool) (out : List Rw8) : out.take (out.takeWhile p).length = out.takeWhile p ∧ out.drop (out.takeWhile p).length = out.dropWhile p := by
  have h := List.takeWhile_append_dropWhile (p := p) (l := out)
  constructor
  · conv => lhs; arg 2; rw [← h]
    exact List.take_left' rfl
  · conv => lhs; arg 2; rw [← h]
    exact List.drop_left' rfl
theorem rowAt8 {h : H} {s : Sl} {A : List Rw8} (rd : Reads h s 7 (A.flatMap cW)) {i : Nat} {x : Rw8} (hx : A[i]? = some x) {K : Addr → Prop} (k : ∀ a, Cells h a (cW x) → K a) : idxA s (i : Int) 7 K := by
  obtain ⟨p, q1, q2, q3⟩ := rd_at cW_len (by omega) rd hx
  have hl := rd_len cW_len (by omega) rd
  exact idxR_of (i := i) q1 (by have := (List.getElem?_eq_some_iff.1 hx).1; omega) rfl (k _ q3)
theorem ldC8 {h : H} {a : Addr} {x : Rw8} {K : Cel → Prop} (c : Cells h a (cW x)) (k : K x.Cell) : ld_S_api_Cell h (a.add 0) K := by
  rw [add0]; exact ⟨x.Cell, Cells.pre c, k⟩
theorem cel_eq {x y : Cel} : ((x.View == y.View) && ((x.Key.toList == y.Key.toList) && ((x.Start == y.Start) && true))) = decide (cmpC x y = 0) := by
  rw [Bool.eq_iff_iff, decide_eq_true_eq, cC_zero]
  obtain ⟨a1, ⟨⟨a2⟩⟩, a3⟩ := x
  obtain ⟨b1, ⟨⟨b2⟩⟩, b3⟩ := y
  simp [toList_data]
theorem ordered_spec {h : H} {s : Sl} {A : List Rw8} {Q : Sl → H → Prop} (rd : Reads h s 7 (A.flatMap cW)) (hA : A.length < 10000000000000000000) (k : ∀ r h', Owns h' r tn_api_Row 7 ((ordL A).flatMap cW) → Mine h r → Ext h h' → Q r h') : F.spatelaw8_ordered s h Q := by
  unfold F.spatelaw8_ordered
  have hl := rd_len cW_len (by omega) rd
  refine ⟨201, ?_⟩
  have key : ∀ (d i : Nat) (h' : H) (so : Sl) (out : List Rw8), i ≤ A.length → i ≤ 200 → 200 - i < d → out = (A.take i).foldl ordI [] → out.length ≤ i → Owns h' so tn_api_Row 7 (out.flatMap cW) → Mine h so → Ext h h' → F.spatelaw8_ordered.l1 Q d s so (i : Int) h' := by
    intro d
    induction d with
    | zero => intro i h' so out _ _ hd; omega
    | succ d ih =>
      intro i h' so out hiA hi2 hd ho hol w m e
      have hlo := own_len cW_len (by omega) w
      unfold F.spatelaw8_ordered.l1
      simp only [decide_eq_true_eq, decide_eq_false_iff_not]
      rw [hl]
      have fin : (A.take 200).foldl ordI [] = out → ∀ b, b = false → F.spatelaw8_ordered.j9 Q (F.spatelaw8_ordered.l1 Q d) s so (i : Int) b h' := fun he b hb => by
        unfold F.spatelaw8_ordered.j9
        refine ⟨fun g => (by rw [hb] at g; cases g), fun _ => k so h' ?_ m e⟩
        unfold ordL; rw [he]; exact w
      refine ⟨fun gg => ?_, fun gg => fin ?_ _ rfl⟩
      · by_cases h200 : i < 200
        · rw [decide_eq_true (show (i : Int) < 200 by omega)]
          unfold F.spatelaw8_ordered.j9
          refine ⟨fun _ => ?_, fun g => (by cases g)⟩
          unfold F.spatelaw8_ordered.j2
          obtain ⟨x, hx⟩ : ∃ x, A[i]? = some x := ⟨_, List.getElem?_eq_getElem (by omega)⟩
          have hfold : (A.take (i + 1)).foldl ordI [] = ordI out x := by rw [tk_snoc hx, List.foldl_append, ← ho]; rfl
          have hol2 : (ordI out x).length ≤ i + 1 := by
            have hsc : SC out := by rw [ho]; exact (ord_fold (A.take i) [] .nil).1
            have := (ordI_sc (x := x) hsc).2.1; omega
          have j3 : ∀ (h2 : H) (so2 : Sl), Owns h2 so2 tn_api_Row 7 ((ordI out x).flatMap cW) → Mine h so2 → Ext h h2 → F.spatelaw8_ordered.j3 Q (F.spatelaw8_ordered.l1 Q d) s so2 (i : Int) h2 := fun h2 so2 w2 m2 e2 => by
            unfold F.spatelaw8_ordered.j3
            rw [w64s (by omega)]
            exact ih (i + 1) h2 so2 _ (by omega) (by omega) (by omega) hfold.symm hol2 w2 m2 e2
          obtain ⟨tp1, tp2⟩ := twr_parts (fun y : Rw8 => decide (cmpC y.Cell x.Cell < 0)) out
          have hget := fun j => twr_get (p := fun y : Rw8 => decide (cmpC y.Cell x.Cell < 0)) (out := out) (i := j)
          have htl : (out.takeWhile (fun y : Rw8 => decide (cmpC y.Cell x.Cell < 0))).length ≤ out.length := (List.takeWhile_prefix _).length_le
          generalize hat : (out.takeWhile (fun y : Rw8 => decide (cmpC y.Cell x.Cell < 0))).length = at_ at tp1 tp2 hget htl
          -- it is laid in
          have j7 : ∀ (h2 : H), Ext h' h2 → ordI out x = out.take at_ ++ x :: out.drop at_ → F.spatelaw8_ordered.j7 Q (F.spatelaw8_ordered.l1 Q d) s so (i : Int) (at_ : Int) h2 := fun h2 e2 hins => by
            have w2 := w.ext e2
            have hcap := cap_of w2
            unfold F.spatelaw8_ordered.j7
            refine cutL_of (lo := 0) (hi := at_) rfl rfl (by omega) (by omega) ?_
            have r1 := cut_reads (lo := 0) (hi := at_) cW_len (by omega) w2.reads (by omega) htl hcap
            simp only [List.drop_zero, Nat.sub_zero] at r1
            refine app_list (L := []) (M := out.take at_) cW_len (by omega) el_Slapi_Row (by simpa using Owns.nil h2 tn_api_Row 7) r1 (fun x => ones_S_api_Row x) (by simp only [List.length_nil, List.length_take]; omega) fun r5 h4 w5 o5 n5 => ?_
            have m5 : Mine h r5 := fun y hy => by
              rcases n5 with n5 | ⟨b', n5, n6⟩
              · rw [n5] at hy; simp [Sl.blk] at hy
              · rw [n5] at hy; cases hy; have := e.size; have := e2.size; omega
            have e4 : Ext h h4 := (e.trans e2).step o5 fun y hy hb => by simp [Sl.blk] at hb
            have w4 : Owns h4 so tn_api_Row 7 (out.flatMap cW) := w2.only o5 fun y hy hb => by simp [Sl.blk] at hb
            refine rowAt8 (rd.only e4 fun _ _ f => f) hx fun a ca => ⟨x, ca, ?_⟩
            refine push8 (f := cW) (x := x) el_Slapi_Row cW_len (by omega) (fun x => ones_S_api_Row x) e4 w5 m5 (by simp only [List.length_append, List.length_nil, List.length_take]; omega) fun s6 h6 w6 m6 e6 o6 => ?_
            have hso : Owns h6 so tn_api_Row 7 (out.flatMap cW) := w4.only o6 fun y hy hb => by
              rcases n5 with n5 | ⟨b', n5, n6⟩
              · rw [n5] at hb; simp [Sl.blk] at hb
              · rw [n5] at hb; cases hb; have := w2.blk_lt hy; omega
            refine cutL_of (lo := at_) (hi := out.length) rfl (by rw [hlo]) htl (by omega) ?_
            have r6 := cut_reads (lo := at_) (hi := out.length) cW_len (by omega) hso.reads htl (Nat.le_refl _) hcap
            rw [List.take_of_length_le (by rw [List.length_drop]; omega)] at r6
            refine app_list (L := [] ++ out.take at_ ++ [x]) (M := out.drop at_) cW_len (by omega) el_Slapi_Row w6 r6 (fun x => ones_S_api_Row x) (by simp only [List.length_append, List.length_nil, List.length_take, List.length_singleton, List.length_drop]; omega) fun r7 h7 w7 o7 n7 => ?_
            have m7 : Mine h r7 := fun y hy => by
              rcases n7 with n7 | ⟨b', n7, n8⟩
              · exact m6 y (by rw [← n7]; exact hy)
              · rw [n7] at hy; cases hy; have := e6.size; omega
            refine j3 h7 r7 ?_ m7 (e6.mine m6 o7)
            rw [hins]
            simpa using w7
          refine ⟨out.length + 1, ?_⟩
          have find : ∀ (d2 j : Nat) (h2 : H), j ≤ at_ → at_ - j < d2 → Ext h' h2 → F.spatelaw8_ordered.l4 Q (F.spatelaw8_ordered.l1 Q d) d2 s so (i : Int) (j : Int) h2 := by
            intro d2
            induction d2 with
            | zero => intro j h2 _ hd2; omega
            | succ d2 ih2 =>
              intro j h2 hj hd2 e2
              have w2 := w.ext e2
              have rd2 := rd.only (e.trans e2) fun _ _ f => f
              unfold F.spatelaw8_ordered.l4
              simp only [decide_eq_true_eq, decide_eq_false_iff_not]
              rw [hlo]
              refine ⟨fun g2 => ?_, fun g2 => ?_⟩
              · obtain ⟨v, hv⟩ : ∃ v, out[j]? = some v := ⟨_, List.getElem?_eq_getElem (by omega)⟩
                refine rowAt8 w2.reads hv fun a1 c1 => ldC8 c1 (rowAt8 rd2 hx fun a2 c2 => ldC8 c2 ?_)
                refine CompareR_spec fun h3 e3 => ?_
                unfold F.spatelaw8_ordered.j6
                by_cases hja : j < at_
                · obtain ⟨v', hv', hp⟩ := hget j hja
                  rw [hv] at hv'; cases hv'
                  rw [hp]
                  refine ⟨fun _ => ?_, fun g => (by cases g)⟩
                  unfold F.spatelaw8_ordered.j5
                  rw [w64s (by omega)]
                  exact ih2 (j + 1) h3 (by omega) (by omega) (e2.trans e3)
                · have hje : j = at_ := by omega
                  subst hje
                  have hdr : out.dropWhile (fun y : Rw8 => decide (cmpC y.Cell x.Cell < 0)) = v :: out.drop (j + 1) := by rw [← tp2]; exact drop_cons hv
                  have hvp : decide (cmpC v.Cell x.Cell < 0) = false := by
                    have := List.head?_dropWhile_not (p := fun y : Rw8 => decide (cmpC y.Cell x.Cell < 0)) (l := out)
                    rw [hdr] at this
                    simpa using this
                  rw [hvp]
                  refine ⟨fun g => (by cases g), fun _ => ⟨fun _ => ?_, fun g => absurd g2 (by simpa [hlo] using g)⟩⟩
                  have w3 := w2.ext e3
                  have rd3 := rd2.only e3 fun _ _ f => f
                  refine rowAt8 w3.reads hv fun a1 c1 => ldC8 c1 (rowAt8 rd3 hx fun a2 c2 => ldC8 c2 ?_)
                  rw [cel_eq]
                  unfold F.spatelaw8_ordered.j8
                  refine ⟨fun g => ?_, fun g => ?_⟩
                  · have hz := of_decide_eq_true g
                    refine j3 h3 so ?_ m ((e.trans e2).trans e3)
                    have : ordI out x = out := by unfold ordI; rw [hdr]; simp only [if_pos hz]
                    rw [this]; exact w3
                  · have hz := of_decide_eq_false g
                    refine j7 h3 (e2.trans e3) ?_
                    unfold ordI; rw [hdr]; simp only [if_neg hz]
                    rw [tp1, drop_cons hv]
              · have hje : j = at_ ∧ at_ = out.length := by omega
                unfold F.spatelaw8_ordered.j6
                refine ⟨fun g => (by cases g), fun _ => ⟨fun g => absurd (by simpa [hlo] using g) g2, fun _ => ?_⟩⟩
                unfold F.spatelaw8_ordered.j8
                refine ⟨fun g => (by cases g), fun _ => ?_⟩
                rw [hje.1]
                refine j7 h2 e2 ?_
                have hdr : out.dropWhile (fun y : Rw8 => decide (cmpC y.Cell x.Cell < 0)) = [] := by rw [← tp2, hje.2]; simp
                unfold ordI; rw [hdr, hje.2]; simp
          exact find _ 0 h' (by omega) (by omega) (.refl _)
        · rw [decide_eq_false (show ¬ (i : Int) < 200 by omega)]
          have : i = 200 := by omega
          exact fin (by rw [ho, this]) _ rfl
      · have : i = A.length := by omega
        rw [ho, this, List.take_length, List.take_of_length_le (by omega)]
  exact key _ 0 h _ [] (by omega) (by omega) (by omega) rfl (by simp) (by simpa using Owns.nil h tn_api_Row 7) (.nil _ _ _) (.refl _)
end Go.Proofs.Ytidpbnbjpglhfaa.V
namespace Go.Proofs.Ytidpbnbjpglhfaa.V
open Go
set_option linter.unusedVariables false
set_option linter.unusedSimpArgs false
section
variable {T : Type} {P : Program} {enc : TypeId × Value → T} {w : World} {base : Nat} {spare : Nat → Bool} {held : Bool} {fuel : Nat}
theorem cells_of {a : Addr} {n : Nat} {cs : List Value} (h : w.cells? base a n = some cs) : cs.length = n ∧ ∀ j v, cs[j]? = some v → w.cell? (a.add j) = some v := by
  obtain ⟨h1, h2, h3⟩ := World.cells?_some h
  refine ⟨h2, fun j v hv => ?_⟩
  have hj : j < n := by rw [← h2]; exact (List.getElem?_eq_some_iff.1 hv).1
  rw [h3 j hj, hv]
/-- A slice that came in, each of whose things is asL G says. -/
theorem open_slice {t e : TypeId} {k : Nat} {v : Value} {x : DataW T × List MemPlace} (G : List Value → Prop) (ht : P.underlying t = some (.slice e)) (hk : P.cellsOf e = k) (hk0 : 0 < k) (h : DataW.trod enc P w base spare held fuel t [v] = some x)
    (hG : ∀ n cs y, DataW.trod enc P w base spare held n e cs = some y → cs.length = k → G cs) :
    ∃ s : Sl, v = s.enc ∧ s.len ≤ s.cap ∧ s.cap ≤ maxLen ∧ ∃ CS : List (List Value), CS.length = s.len ∧ (∀ c ∈ CS, c.length = k ∧ G c) ∧ Reads w.heap s k CS.flatten ∧ (CS ≠ [] → ∀ b, s.blk = some b → b < w.heap.size) := by
  rcases DataW.trod_slice ht h with ⟨h0, _⟩ | ⟨a, len, cap, elems, rest, n, _, h0, _, hb, hl, hm, hlen, hel, _, _⟩
  · simp at h0; subst h0
    exact ⟨⟨none, 0, 0⟩, rfl, Nat.le_refl _, Nat.zero_le _, [], rfl, (fun c hc => by cases hc), ⟨by simp, fun _ => ⟨rfl, rfl⟩, fun i v hv => by simp at hv⟩, fun h => absurd rfl h⟩
  · simp at h0; subst h0
    rw [hk] at hel
    have each : ∀ i, i < len → ∃ cs, w.cells? base (a.add (i * k)) k = some cs ∧ G cs := fun i hi => by
      have hx := hel i hi
      rw [List.getElem?_eq_getElem (by omega), Option.bind_eq_some_iff] at hx
      obtain ⟨cs, hc, ht'⟩ := hx
      exact ⟨cs, hc, hG _ _ _ ht' (cells_of hc).1⟩
    obtain ⟨CS, hCS, hall⟩ : ∃ CS : List (List Value), CS.length = len ∧ ∀ i c, CS[i]? = some c → w.cells? base (a.add (i * k)) k = some c ∧ G c := by
      clear hel h
      have : ∀ m, m ≤ len → ∃ CS : List (List Value), CS.length = m ∧ ∀ i c, CS[i]? = some c → w.cells? base (a.add (i * k)) k = some c ∧ G c := fun m => by
        induction m with
        | zero => intro _; exact ⟨[], rfl, fun i c hc => by simp at hc⟩
        | succ m ih =>
          intro hm2
          obtain ⟨CS, h1, h2⟩ := ih (by omega)
          obtain ⟨c, h3, h4⟩ := each m (by omega)
          refine ⟨CS ++ [c], by simp [h1], fun i d hd => ?_⟩
          by_cases hi : i < CS.length
          · rw [List.getElem?_append_left hi] at hd; exact h2 i d hd
          · rw [List.getElem?_append_right (by omega)] at hd
            have hi2 : i - CS.length = 0 := by
              have := (List.getElem?_eq_some_iff.1 hd).1
              simp at this; omega
            rw [hi2] at hd; simp at hd; subst hd
            have : i = m := by omega
            subst this; exact ⟨h3, h4⟩
      exact this len (Nat.le_refl _)
    have hlen' : ∀ c ∈ CS, c.length = k ∧ G c := fun c hc => by
      obtain ⟨i, hi⟩ := List.mem_iff_getElem?.1 hc
      exact ⟨(cells_of (hall i c hi).1).1, (hall i c hi).2⟩
    have hspot : 0 < len → a.spot = none ∧ a.block < w.heap.size := fun h0 => by
      obtain ⟨c, hc⟩ : ∃ c, CS[0]? = some c := ⟨_, List.getElem?_eq_getElem (by omega)⟩
      obtain ⟨h1, h2⟩ := cells_of (hall 0 c hc).1
      obtain ⟨v, hv⟩ : ∃ v, c[0]? = some v := ⟨_, List.getElem?_eq_getElem (by omega)⟩
      have hcell : cellH w.heap ((a.add (0 * k)).add 0) = some v := h2 0 v hv
      have e0 : ∀ p : Addr, p.add 0 = p := fun p => by unfold Addr.add; split <;> simp_all
      rw [Nat.zero_mul, e0, e0] at hcell
      unfold cellH at hcell
      split at hcell
      · rename_i hh
        refine ⟨?_, (Array.getElem?_eq_some_iff.1 hh).1⟩
        cases hs : a.spot with
        | none => rfl
        | some s => rw [hs] at hcell; simp at hcell
      · cases hcell
    refine ⟨⟨some a, len, cap⟩, rfl, hl, hm, CS, hCS, hlen', ⟨?_, (fun h => by cases h), fun i v hv => ?_⟩, fun hne b hb => ?_⟩
    · rw [← hCS]
      have : ∀ (L : List (List Value)), (∀ c ∈ L, c.length = k) → L.flatten.length = L.length * k := fun L => by
        induction L with
        | nil => intro _; simp
        | cons c r ih => intro hL; simp [hL c (by simp), ih fun c hc => hL c (List.mem_cons_of_mem _ hc), Nat.add_mul]; omega
      exact this CS fun c hc => (hlen' c hc).1
    · have : ∀ (L : List (List Value)) (m : Nat), (∀ c ∈ L, c.length = k) → (∀ i c, L[i]? = some c → ∀ j v, c[j]? = some v → w.cell? (a.add ((m + i) * k + j)) = some v) → ∀ i v, L.flatten[i]? = some v → w.cell? (a.add (m * k + i)) = some v := fun L => by
        induction L with
        | nil => intro m _ _ i v hv; simp at hv
        | cons c r ih =>
          intro m hL hc i v hv
          have hcl := hL c (by simp)
          rw [List.flatten_cons] at hv
          by_cases hi : i < c.length
          · rw [List.getElem?_append_left hi] at hv
            exact hc 0 c rfl i v hv
          · rw [List.getElem?_append_right (by omega)] at hv
            have := ih (m + 1) (fun c hc => hL c (List.mem_cons_of_mem _ hc)) (fun i d hd j v hj => by
              have := hc (i + 1) d (by simpa using hd) j v hj
              rwa [show m + (i + 1) = m + 1 + i from by omega] at this) _ v hv
            rwa [show (m + 1) * k + (i - c.length) = m * k + i from by rw [Nat.add_mul]; omega] at this
      have hlt : 0 < len := by
        rcases Nat.eq_zero_or_pos len with h0 | h0
        · have : CS = [] := List.eq_nil_of_length_eq_zero (by omega)
          subst this; simp at hv
        · exact h0
      obtain ⟨hsp, _⟩ := hspot hlt
      refine ⟨a, rfl, hsp, ?_⟩
      have := this CS 0 (fun c hc => (hlen' c hc).1) (fun i c hc j v hj => by
        have h1 := (cells_of (hall i c hc).1).2 j v hj
        obtain ⟨ab, ao, asp⟩ := a
        simp only at hsp; subst hsp
        rw [add_lit, add_lit] at h1
        rw [add_lit, Nat.zero_add, ← Nat.add_assoc]; exact h1) i v hv
      rw [Nat.zero_mul, Nat.zero_add] at this
      exact this
    · simp [Sl.blk] at hb
      subst hb
      have : 0 < len := by
        rw [← hCS]; exact List.length_pos_iff.2 hne
      exact (hspot this).2
end
end Go.Proofs.Ytidpbnbjpglhfaa.V
namespace Go.Proofs.Ytidpbnbjpglhfaa.V
open Go
set_option linter.unusedVariables false
section
variable {T : Type} {enc : TypeId × Value → T} {w : World} {base : Nat} {spare : Nat → Bool} {held : Bool} {fuel : Nat}
theorem list3 {β : Type} : ∀ {l : List β}, l.length = 3 → ∃ a b c, l = [a, b, c]
  | [a, b, c], _ => ⟨a, b, c, rfl⟩
theorem cell_open {cs : List Value} {y : DataW T × List MemPlace} (h : DataW.trod enc PP w base spare held fuel 34 cs = some y) (hl : cs.length = 3) :
    ∃ c : Cel, cs = c.cells ∧ (-9223372036854775808 ≤ c.View ∧ c.View < 9223372036854775808) ∧ (-9223372036854775808 ≤ c.Start ∧ c.Start < 9223372036854775808) ∧ c.Key.size ≤ maxLen := by
  obtain ⟨xs, n, _, _, _, hlen, hf⟩ := DataW.trod_struct Try.underlying34 h
  have hlen3 : xs.length = 3 := hlen
  have k3 : PP.cellsOf 3 = 1 := by kernel_rfl
  have k9 : PP.cellsOf 9 = 1 := by kernel_rfl
  have k2 : PP.cellsOf 2 = 1 := by kernel_rfl
  obtain ⟨c0, c1, c2, rfl⟩ := list3 hl
  obtain ⟨y0, y1, y2, rfl⟩ := list3 hlen3
  have f0 : DataW.trod enc PP w base spare held n 3 (([c0, c1, c2].drop 0).take (PP.cellsOf 3)) = some y0 := hf 0 _ rfl
  have f1 : DataW.trod enc PP w base spare held n 9 (([c0, c1, c2].drop 1).take (PP.cellsOf 9)) = some y1 := hf 1 _ rfl
  have f2 : DataW.trod enc PP w base spare held n 2 (([c0, c1, c2].drop 2).take (PP.cellsOf 2)) = some y2 := hf 2 _ rfl
  rw [k3] at f0
  rw [k9] at f1
  rw [k2] at f2
  simp only [List.drop_zero, List.drop_succ_cons, List.take_succ_cons, List.take_zero] at f0 f1 f2
  obtain ⟨m0, e0, _, w0⟩ := DataW.trod_int Try.underlying3 f0
  obtain ⟨s1, e1, _, w1⟩ := DataW.trod_string Try.underlying9 f1
  obtain ⟨m2, e2, _, w2⟩ := DataW.trod_int Try.underlying2 f2
  simp only [List.cons.injEq, and_true] at e0 e1 e2
  subst e0; subst e1; subst e2
  exact ⟨⟨m0, s1, m2⟩, rfl, i64_of w0, i64_of w2, w1⟩
end
end Go.Proofs.Ytidpbnbjpglhfaa.V
namespace Go.Proofs.Ytidpbnbjpglhfaa.V
open Go
set_option linter.unusedVariables false
set_option linter.unusedSimpArgs false
section
variable {T : Type} {enc : TypeId × Value → T} {w : World} {base : Nat} {spare : Nat → Bool} {held : Bool} {fuel : Nat}
theorem gen_open {α : Type} (f : α → List Value) (ok : α → Prop) {t e : TypeId} {k : Nat} {v : Value} {y : DataW T × List MemPlace} (hf : ∀ x, (f x).length = k) (ht : PP.underlying t = some (.slice e)) (hk : PP.cellsOf e = k) (hk0 : 0 < k) (h : DataW.trod enc PP w base spare held fuel t [v] = some y)
    (hG : ∀ n cs y, DataW.trod enc PP w base spare held n e cs = some y → cs.length = k → ∃ x, cs = f x ∧ ok x) :
    ∃ (s : Sl) (L : List α), v = s.enc ∧ Reads w.heap s k (L.flatMap f) ∧ s.len ≤ s.cap ∧ (L ≠ [] → ∀ b, s.blk = some b → b < w.heap.size) ∧ (∀ x ∈ L, ok x) ∧ L.length ≤ 9223372036854775807 := by
  obtain ⟨s, h1, h2, h3, CS, h4, h5, h6, h7⟩ := open_slice (fun cs => ∃ x : α, cs = f x ∧ ok x) ht hk hk0 h fun n cs y hy hl => hG n cs y hy hl
  have : ∀ (L : List (List Value)), (∀ c ∈ L, c.length = k ∧ ∃ x : α, c = f x ∧ ok x) → ∃ S : List α, L = S.map f ∧ ∀ x ∈ S, ok x := fun L => by
    induction L with
    | nil => intro _; exact ⟨[], rfl, fun n hn => by cases hn⟩
    | cons c r ih =>
      intro hL
      obtain ⟨E, h1, h2⟩ := ih fun c hc => hL c (List.mem_cons_of_mem _ hc)
      obtain ⟨_, n, rfl, hn⟩ := hL c (by simp)
      refine ⟨n :: E, by rw [h1]; rfl, fun m hm => ?_⟩
      rcases List.mem_cons.1 hm with e | e
      · subst e; exact hn
      · exact h2 m e
  obtain ⟨S, rfl, hS⟩ := this CS h5
  have hr : Reads w.heap s k (S.flatMap f) := by rw [List.flatMap_def]; exact h6
  refine ⟨s, S, h1, hr, h2, fun hn b hb => h7 (by simpa using hn) b hb, hS, ?_⟩
  have := rd_len hf hk0 hr
  simp only [maxLen] at h3; omega
theorem list4 {β : Type} : ∀ {l : List β}, l.length = 4 → ∃ a b c d, l = [a, b, c, d]
  | [a, b, c, d], _ => ⟨a, b, c, d, rfl⟩
theorem list2 {β : Type} : ∀ {l : List β}, l.length = 2 → ∃ a b, l = [a, b]
  | [a, b], _ => ⟨a, b, rfl⟩
theorem agg_open {cs : List Value} {y : DataW T × List MemPlace} (h : DataW.trod enc PP w base spare held fuel tn_api_Agg cs = some y) (hl : cs.length = 4) : ∃ x : S_api_Agg, cs = x.cells := by
  obtain ⟨xs, n, _, _, _, hlen, hf⟩ := DataW.trod_struct ut_api_Agg h
  have hlen4 : xs.length = 4 := hlen
  have k2 : PP.cellsOf 2 = 1 := by kernel_rfl
  obtain ⟨c0, c1, c2, c3, rfl⟩ := list4 hl
  obtain ⟨y0, y1, y2, y3, rfl⟩ := list4 hlen4
  have f0 : DataW.trod enc PP w base spare held n 2 (([c0, c1, c2, c3].drop 0).take (PP.cellsOf 2)) = some y0 := hf 0 _ rfl
  have f1 : DataW.trod enc PP w base spare held n 2 (([c0, c1, c2, c3].drop 1).take (PP.cellsOf 2)) = some y1 := hf 1 _ rfl
  have f2 : DataW.trod enc PP w base spare held n 2 (([c0, c1, c2, c3].drop 2).take (PP.cellsOf 2)) = some y2 := hf 2 _ rfl
  have f3 : DataW.trod enc PP w base spare held n 2 (([c0, c1, c2, c3].drop 3).take (PP.cellsOf 2)) = some y3 := hf 3 _ rfl
  rw [k2] at f0 f1 f2 f3
  simp only [List.drop_zero, List.drop_succ_cons, List.take_succ_cons, List.take_zero] at f0 f1 f2 f3
  obtain ⟨m0, e0, _, w0⟩ := DataW.trod_int Try.underlying2 f0
  obtain ⟨m1, e1, _, w1⟩ := DataW.trod_int Try.underlying2 f1
  obtain ⟨m2, e2, _, w2⟩ := DataW.trod_int Try.underlying2 f2
  obtain ⟨m3, e3, _, w3⟩ := DataW.trod_int Try.underlying2 f3
  simp only [List.cons.injEq, and_true] at e0 e1 e2 e3
  subst e0; subst e1; subst e2; subst e3
  exact ⟨⟨m0, m1, m2, m3⟩, rfl⟩
theorem row_open {cs : List Value} {y : DataW T × List MemPlace} (h : DataW.trod enc PP w base spare held fuel tn_api_Row cs = some y) (hl : cs.length = 7) : ∃ x : Rw8, cs = cW x ∧ True := by
  obtain ⟨xs, n, _, _, _, hlen, hf⟩ := DataW.trod_struct ut_api_Row h
  have hlen2 : xs.length = 2 := hlen
  have k3 : PP.cellsOf tn_api_Cell = 3 := by kernel_rfl
  have k4 : PP.cellsOf tn_api_Agg = 4 := by kernel_rfl
  obtain ⟨y0, y1, rfl⟩ := list2 hlen2
  have f0 : DataW.trod enc PP w base spare held n tn_api_Cell ((cs.drop 0).take (PP.cellsOf tn_api_Cell)) = some y0 := hf 0 _ rfl
  have f1 : DataW.trod enc PP w base spare held n tn_api_Agg ((cs.drop 3).take (PP.cellsOf tn_api_Agg)) = some y1 := hf 1 _ rfl
  rw [k3] at f0
  rw [k4] at f1
  obtain ⟨c, hc, _⟩ := cell_open f0 (by simp; omega)
  obtain ⟨a, ha⟩ := agg_open f1 (by simp; omega)
  refine ⟨⟨c, a⟩, ?_, trivial⟩
  have h1 : cs = cs.take 3 ++ (cs.drop 3).take 4 := by
    conv => lhs; rw [← List.take_append_drop 3 cs]
    rw [List.take_of_length_le (l := cs.drop 3) (by simp; omega)]
  rw [h1]
  rw [List.drop_zero] at hc
  rw [hc, ha]; rfl
theorem rows_open {v : Value} {y : DataW T × List MemPlace} (h : DataW.trod enc PP w base spare held fuel tn_Slapi_Row [v] = some y) :
    ∃ (s : Sl) (L : List Rw8), v = s.enc ∧ Reads w.heap s 7 (L.flatMap cW) ∧ s.len ≤ s.cap ∧ (L ≠ [] → ∀ b, s.blk = some b → b < w.heap.size) ∧ (∀ x ∈ L, True) ∧ L.length ≤ 9223372036854775807 :=
  gen_open cW (fun _ => True) cW_len ut_Slapi_Row (show PP.cellsOf tn_api_Row = 7 from by kernel_rfl) (by omega) h fun n cs y hy hl => row_open hy hl
end
end Go.Proofs.Ytidpbnbjpglhfaa.V
namespace Go.Proofs.Ytidpbnbjpglhfaa.V
open Go
set_option linter.unusedVariables false
set_option linter.unusedSimpArgs false
theorem mR2 (a b : List Rw8) : mR [a, b] = mg a b := by
  show List.merge a (List.merge b [] leC) leC = _
  rw [merge_nil']
end Go.Proofs.Ytidpbnbjpglhfaa.V
namespace Go.Proofs.Ytidpbnbjpglhfaa.V
open Go
set_option linter.unusedVariables false
set_option linter.unusedSimpArgs false
/-- A slice that was made between two heaps. -/
def Btw (a b : H) (s : Sl) : Prop := ∀ x, s.blk = some x → a.size ≤ x ∧ x < b.size
theorem Btw.of {a b : H} {s : Sl} {e : TypeId} {k : Nat} {cs : List Value} (m : Mine a s) (w : Owns b s e k cs) : Btw a b s := fun x hx => ⟨m x hx, w.blk_lt hx⟩
theorem Btw.ne {a b c d : H} {s t : Sl} (u : Btw a b s) (v : Btw c d t) (h : b.size ≤ c.size) {x : Nat} (hx : s.blk = some x) : t.blk ≠ some x := fun hy => by
  have := u x hx; have := v x hy; omega
end Go.Proofs.Ytidpbnbjpglhfaa.V
namespace Go.Proofs.Ytidpbnbjpglhfaa.V
open Go
set_option linter.unusedVariables false
set_option linter.unusedSimpArgs false
/-- Element i of an owned list is written: the list is asL long, of the same block. -/
theorem put_at {α : Type} {f : α → List Value} {kk : Nat} {e : TypeId} {h : H} {s : Sl} {D : List α} {i : Nat} {x : α} {K : H → Prop} (hf : ∀ x, (f x).length = kk) (hk : 0 < kk) (w : Owns h s e kk (D.flatMap f)) (hi : i < D.length)
    (k : ∀ h', Owns h' s e kk ((D.set i x).flatMap f) → Only (fun b => s.blk = some b) h h' → K h') : idxA s (i : Int) kk fun a => stH h a (f x) K := by
  obtain ⟨b, p1, p2⟩ := own_at hf hk w (i := i) (x := D[i]) (List.getElem?_eq_getElem hi)
  have hl := own_len hf hk w
  refine idxA_of (i := i) p1 (by rw [hl]; exact hi) rfl ?_
  exact own_setAt (i := i) (x := x) hf w p1 hi fun h' w' o _ => k h' w' o
/-- append(nothing of one's own, list...) : a copy. -/
theorem copy8 {α : Type} {f : α → List Value} {kk : Nat} {t e : TypeId} {bytes : Nat} {z : Value} {h0 h : H} {s : Sl} {D : List α} {K : Sl → H → Prop} (el : El PP t e kk bytes z) (hf : ∀ x, (f x).length = kk) (hk : 0 < kk) (one : ∀ x, ∀ v ∈ f x, v.oneCell' = true)
    (e0 : Ext h0 h) (w : Reads h s kk (D.flatMap f)) (hl : (0 + D.length + (0 + D.length) / 4 + 256) * bytes ≤ 281474976710656)
    (k : ∀ s' h', Owns h' s' e kk (D.flatMap f) → Mine h s' → Ext h h' → K s' h') :
    newL h #[] e 0 fun s7 h6 => runL PP (Builtin.append_ #[t, t] t #[s7.enc, s.enc]) h6 fun s9 h8 => K s9 h8 := by
  refine newL_of fun n6 h6 hn6 b6 e6 sz6 => ?_
  have w6 : Owns h6 ⟨some ⟨n6, 0, none⟩, 0, 0⟩ e kk (([] : List α).flatMap f) := blk_owns (cs := []) b6 (by simp) (by simp [maxLen])
  refine app_list (L := []) (M := D) hf hk el w6 (w.only e6 fun _ _ f => f) one (by simpa using hl) fun r7 h7 q1 q2 q3 => ?_
  refine k r7 h7 (by simpa using q1) (fun b hb => ?_) (e6.mine (fun b hb => by simp [Sl.blk] at hb; omega) q2)
  rcases q3 with q3 | ⟨b', q3, q4⟩
  · rw [q3] at hb; simp [Sl.blk] at hb; omega
  · rw [q3] at hb; cases hb; have := e6.size; omega
end Go.Proofs.Ytidpbnbjpglhfaa.V
namespace Go.Proofs.Ytidpbnbjpglhfaa.V
open Go
set_option linter.unusedVariables false
set_option linter.unusedSimpArgs false
theorem lists_le {LL : List (List Int)} {n : Nat} (h : ∀ A ∈ LL, A.length ≤ n) (m : Nat) : (listsM leI m LL).length ≤ LL.length * n := Nat.le_trans (listsM_int_len leI m LL) (flat_le h)
section
variable {RR : List (Sl × List Rw8)} {II : List (Sl × List Int)}
/-- Slices of ints, merged. -/
theorem call_lists {h : H} {ss : List Sl} {LL : List (List Int)} {Q : Sl → H → Prop} (len : ss.length = LL.length) (hs : ss.length < 1000) (row : ∀ (i : Nat) s A, ss[i]? = some s → LL[i]? = some A → Owns h s 3 1 (A.flatMap cI)) (hb : ∀ A ∈ LL, A.length ≤ 1000)
    (k : ∀ r h', Owns h' r 3 1 ((listsM leI (LL.length + 1) LL).flatMap cI) → Mine h r → Ext h h' → Q r h') : newL h (ss.flatMap cS8).toArray tn_Slint ss.length fun s h2 => F.merge_Lists_int s h2 Q := by
  refine newL_of fun n h2 hn2 b2 e2 s2 => ?_
  have w2 : Owns h2 ⟨some ⟨n, 0, none⟩, ss.length, ss.length⟩ tn_Slint 1 (ss.flatMap cS8) := blk_owns b2 (by rw [flat_len _ 1 cS8_len]) (by simp only [maxLen]; omega)
  refine Lists_int_spec (SL := ss) (LL := LL) ⟨w2.reads, cap_of w2⟩ ⟨len, fun i s A h1 h3 => ?_⟩ ?_ (by omega) (fun b hb => w2.blk_lt hb) fun r h3 w e m => k r h3 w (m.older e2) (e2.trans e)
  · have := (row i s A h1 h3).ext e2
    exact ⟨⟨this.reads, cap_of this⟩, fun b hb => this.blk_lt hb⟩
  · have := flat_le (n := 1000) hb
    have : LL.length * 1000 ≤ 1000 * 1000 := Nat.mul_le_mul (by omega) (Nat.le_refl _)
    omega
theorem call_rowsM {h : H} {most : Int} {ss : List Sl} {Ls : List (List Rw8)} {Q : Sl → H → Prop} (len : ss.length = Ls.length) (hs : ss.length < 1000) (row : ∀ (i : Nat) s R, ss[i]? = some s → Ls[i]? = some R → Owns h s tn_api_Row 7 (R.flatMap cW)) (hn : (mR Ls).length < 100000)
    (k : ∀ r h', Owns h' r tn_api_Row 7 (((mR Ls).take most.toNat).flatMap cW) → Mine h r → Ext h h' → Q r h') : newL h (ss.flatMap cS8).toArray tn_Slapi_Row ss.length fun s h2 => F.merge_Rows most s h2 Q := by
  refine newL_of fun n h2 hn2 b2 e2 s2 => ?_
  refine Rows_spec (ss := ss) (Ls := Ls) ⟨blk_reads b2 (by rw [flat_len _ 1 cS8_len]), len, fun i s R h1 h3 => ?_⟩ (by omega) hn fun r h3 w m e => k r h3 w (m.older e2) (e2.trans e)
  have := (row i s R h1 h3).ext e2
  exact ⟨this.reads, cap_of this⟩
end
end Go.Proofs.Ytidpbnbjpglhfaa.V
namespace Go.Proofs.Ytidpbnbjpglhfaa.V
open Go
set_option linter.unusedVariables false
set_option linter.unusedSimpArgs false
/-- Some cells of thing i of an owned list are written. -/
theorem put_in {α : Type} {f : α → List Value} {kk : Nat} {e : TypeId} {h : H} {s : Sl} {D : List α} {i o : Nat} {x y : α} {vs : List Value} {K : H → Prop} (hf : ∀ x, (f x).length = kk) (hk : 0 < kk) (w : Owns h s e kk (D.flatMap f)) (hi : D[i]? = some y)
    (hx : f x = (f y).take o ++ vs ++ (f y).drop (o + vs.length)) (ho : o + vs.length ≤ kk) (k : ∀ h', Owns h' s e kk ((D.set i x).flatMap f) → Only (fun b => s.blk = some b) h h' → K h') : idxA s (i : Int) kk fun a => stH h (a.add o) vs K := by
  obtain ⟨b, p1, p2⟩ := own_at hf hk w hi
  have hl := own_len hf hk w
  obtain ⟨hlt, hg⟩ := List.getElem?_eq_some_iff.1 hi
  refine idxA_of (i := i) p1 (by rw [hl]; exact hlt) rfl ?_
  rw [add_lit]
  have hm : i * kk + kk ≤ D.length * kk := by rw [← Nat.succ_mul]; exact Nat.mul_le_mul_right _ hlt
  have hfl := flat_len f kk hf D
  refine own_set w p1 (by rw [hfl]; omega) fun h' w' o' _ => k h' ?_ o'
  have h1 : D = D.take i ++ y :: D.drop (i + 1) := by rw [← hg, ← List.drop_eq_getElem_cons hlt, List.take_append_drop]
  have h2 : D.set i x = D.take i ++ x :: D.drop (i + 1) := List.set_eq_take_append_cons_drop.trans (by rw [if_pos hlt])
  have h3 : ((D.take i).flatMap f).length = i * kk := by rw [flat_len f kk hf, List.length_take, Nat.min_eq_left (by omega)]
  have h4 : D.flatMap f = (D.take i).flatMap f ++ (f y ++ (D.drop (i + 1)).flatMap f) := by
    conv => lhs; rw [h1]
    rw [List.flatMap_append, List.flatMap_cons]
  have h5 : (D.set i x).flatMap f = (D.take i).flatMap f ++ (f x ++ (D.drop (i + 1)).flatMap f) := by rw [h2, List.flatMap_append, List.flatMap_cons]
  have hy := hf y
  rw [h5, hx]
  rw [h4] at w'
  have t1 : ((D.take i).flatMap f ++ (f y ++ (D.drop (i + 1)).flatMap f)).take (i * kk + o) = (D.take i).flatMap f ++ (f y).take o := by
    rw [← h3, List.take_length_add_append, List.take_append_of_le_length (by omega)]
  have t2 : ((D.take i).flatMap f ++ (f y ++ (D.drop (i + 1)).flatMap f)).drop (i * kk + o + vs.length) = (f y).drop (o + vs.length) ++ (D.drop (i + 1)).flatMap f := by
    rw [← h3, Nat.add_assoc, List.drop_length_add_append, List.drop_append_of_le_length (by omega)]
  rw [t1, t2] at w'
  simpa only [List.append_assoc] using w'
theorem Blk.cells {h : H} {n : Nat} {cs : List Value} {e : TypeId} (b : Blk h n cs.toArray e) : Cells h ⟨n, 0, none⟩ cs := fun i v hv => by
  rw [add_lit, Nat.zero_add]
  exact b.cell (by simpa using hv)
section
variable {P : Program} {h : H}
/-- append: in place, or in a new row: then nothing that was there turns. -/
theorem app_of2 {t e ty : TypeId} {s x : Sl} {size bytes : Nat} {cs ys : List Value} {z : Value} {K : Sl → H → Prop} (el : El P t e size bytes z)
    (hs : Owns h s e size cs) (hx : Reads h x size ys) (ho : ∀ v ∈ ys, v.oneCell' = true) (hlim : (s.len + x.len + (s.len + x.len) / 4 + 256) * bytes ≤ 281474976710656)
    (k : ∀ r h', Owns h' r e size (cs ++ ys) → r.len = s.len + x.len → ((r.ptr = s.ptr ∧ r.cap = s.cap ∧ Only (fun b => s.blk = some b) h h') ∨ (∃ b, r.ptr = some ⟨b, 0, none⟩ ∧ h.size ≤ b ∧ Ext h h')) → K r h') :
    runL P (Builtin.append_ #[t, t] ty #[s.enc, x.enc]) h K := by
  obtain ⟨i, hi, hz, hsz, hby⟩ := el.info
  have hpos := el.pos
  have hlx : ys.length = x.len * size := hx.1
  have hlc : cs.length = s.len * size := hs.1
  have hbp := el.bpos
  have hsum : s.len + x.len ≤ 9223372036854775807 := by
    have : s.len + x.len ≤ (s.len + x.len + (s.len + x.len) / 4 + 256) * bytes := Nat.le_trans (by omega) (Nat.le_mul_of_pos_right _ hbp)
    omega
  intro w hw
  subst hw
  suffices hsuf : ∃ (r : Sl) (w' : World), (Builtin.append_ #[t, t] ty #[s.enc, x.enc]).run P w = .ok r.enc w' ∧ Like w w' ∧ Owns w'.heap r e size (cs ++ ys) ∧ r.len = s.len + x.len ∧ ((r.ptr = s.ptr ∧ r.cap = s.cap ∧ Only (fun b => s.blk = some b) w.heap w'.heap) ∨ (∃ b, r.ptr = some ⟨b, 0, none⟩ ∧ w.heap.size ≤ b ∧ Ext w.heap w'.heap)) by
    obtain ⟨r, w', h1, h2, h3, h4, h5⟩ := hsuf
    exact ⟨r.enc, w', h1, h2, r, rfl, k r _ h3 h4 h5⟩
  obtain ⟨xp, xl, xc⟩ := x
  obtain ⟨sp, sl, sc⟩ := s
  simp only at *
  -- what is owned, in the kit's words
  have hown : w.ownsRow 0 e size (.slice sp sl sc) sl cs := by
    refine ⟨hlc, ?_⟩
    obtain ⟨_, ⟨h1, h2, h3⟩ | ⟨b, c, h1, h2, h3, h4, hcap, h5⟩⟩ := hs
    · simp only at h1 h2 h3; subst h1; subst h2; subst h3; exact .inl ⟨rfl, rfl⟩
    · simp only at h1 h3 h4 hcap; subst h1
      exact .inr ⟨b, sc, c, rfl, Nat.zero_le _, h2, h4, hcap, h3, by rw [← hlc]; exact h5⟩
  cases xp with
  | none =>
    obtain ⟨e1, e2⟩ := hx.2.1 rfl
    simp only at e1 e2; subst e1; subst e2
    have hy : ys = [] := List.eq_nil_of_length_eq_zero (by simpa using hlx)
    subst hy
    refine ⟨⟨sp, sl, sc⟩, w, run_append_owned_none w 0 t ty e i size el.slice hi (.slice sp sl sc) sl cs hown, Like.refl w, by simpa using hs, rfl, .inl ⟨rfl, rfl, .refl _⟩⟩
  | some a =>
    have hc : ∀ j u, ys[j]? = some u → w.cell? (a.add j) = some u := fun j u hu => by
      obtain ⟨p, hp, _, h2⟩ := hx.2.2 j u hu
      cases hp; exact h2
    obtain ⟨_, ⟨h1, h2, h3⟩ | ⟨b, c, h1, h2, h3, h4, hcap, h5⟩⟩ := hs
    · simp only at h1 h2 h3; subst h1; subst h2; subst h3
      have hcs : cs = [] := List.eq_nil_of_length_eq_zero (by simpa using hlc)
      subst hcs
      by_cases h0 : xl = 0
      · subst h0
        have hy : ys = [] := List.eq_nil_of_length_eq_zero (by simpa using hlx)
        subst hy
        obtain ⟨v', w', r1, r2, r3, r4⟩ := run_append_own (P := P) w 0 t ty e i z size bytes el.slice hi hz hsz hby el.zero hpos (.slice none 0 0) 0 [] hown a 0 xc [] (by simp) (by simp) (by simp) (by simp [maxLen]) (by simp) (Nat.zero_le _)
        have : v' = .slice none 0 0 := r4.2 ⟨rfl, rfl⟩
        subst this
        refine ⟨⟨none, 0, 0⟩, w', r1, ⟨r3.os, r3.tape, r3.output⟩, Owns.nil _ _ _, rfl, .inl ⟨rfl, rfl, (heap_ext r3).mono (fun b _ e => by simp [Value.ownBlock] at e)⟩⟩
      · have hr := run_append_nil (P := P) w t ty e i z el.slice hi hz a xl xc ys (by rw [hlx, hsz]) hc (by omega) (by simp only [Nat.zero_add] at hsum; omega) (by
          rw [hby]; have : xl * bytes ≤ (0 + xl + (0 + xl) / 4 + 256) * bytes := Nat.mul_le_mul_right _ (by omega)
          omega)
        refine ⟨⟨some ⟨w.heap.size, 0, none⟩, xl, grownCap w xl 0 e⟩, w.drew.alloc (.cells (ys.toArray ++ Builtin.zeroCells z.cells (grownCap w xl 0 e - xl)) e), hr, ⟨rfl, rfl, rfl⟩, ⟨by simp [hlx], .inr ⟨w.heap.size, _, rfl, Blk.new _ _ _, ?_, grownCap_ge w xl 0 e, grownCap_le_maxLen w xl 0 e (by simp only [maxLen, Nat.zero_add] at *; omega), ?_⟩⟩, by simp, .inr ⟨_, rfl, Nat.le_refl _, .push _ _⟩⟩
        · have := grownCap_ge w xl 0 e
          simp only [Array.size_append, List.size_toArray, hlx, Builtin.zeroCells, Array.size_map, Array.size_range, el.zero]
          rw [← Nat.add_mul]; congr 1; omega
        · simp
    · simp only at h1 h3 h4 hcap; subst h1
      by_cases hfit : sl + xl ≤ sc
      · obtain ⟨w', r1, r2, r3⟩ := run_append_fits (P := P) w 0 t ty e i size el.slice hi hsz b sl sc cs hown a xl xc ys hlx hc ho hfit
        refine ⟨⟨some ⟨b, 0, none⟩, sl + xl, sc⟩, w', r1, ⟨r3.os, r3.tape, r3.output⟩, ?_, rfl, .inl ⟨rfl, rfl, (heap_ext r3).mono (fun n _ e => by simpa [Sl.blk] using e)⟩⟩
        obtain ⟨q1, ⟨q2, _⟩ | ⟨g, cap, cur, q2, _, q3, q4, q7, q5, q6⟩⟩ := r2
        · cases q2
        · cases q2
          exact ⟨q1, .inr ⟨b, cur, rfl, q3, q5, q4, q7, by rw [q1]; exact q6⟩⟩
      · have hnc := nextcap_le (n := sl + xl) (c := sc) (by omega)
        have hold : ∀ j v, cs[j]? = some v → w.cell? ((⟨b, 0, none⟩ : Addr).add j) = some v := fun j v hv => by
          have hlt : j < cs.length := (List.getElem?_eq_some_iff.1 hv).1
          have hc2 : c[j]? = some v := by
            have h6 : (c.toList.take cs.length)[j]? = some v := by rw [h5]; exact hv
            rw [List.getElem?_take_of_lt hlt] at h6
            simpa using h6
          rw [add_lit, Nat.zero_add]
          exact Blk.cell (h := w.heap) h2 hc2
        have hr := run_append_grow (P := P) w t ty e i z el.slice hi hz ⟨b, 0, none⟩ sl sc cs (by rw [hlc, hsz]) hold a xl xc ys (by rw [hlx, hsz]) hc (by omega) (by omega) (by
          rw [hby]; have : Builtin.nextslicecap (sl + xl) sc * bytes ≤ (sl + xl + (sl + xl) / 4 + 256) * bytes := Nat.mul_le_mul_right _ hnc
          omega)
        refine ⟨⟨some ⟨w.heap.size, 0, none⟩, sl + xl, grownCap w (sl + xl) sc e⟩, w.drew.alloc (.cells (cs.toArray ++ ys.toArray ++ Builtin.zeroCells z.cells (grownCap w (sl + xl) sc e - (sl + xl))) e), hr, ⟨rfl, rfl, rfl⟩, ⟨by simp [hlx, hlc, Nat.add_mul], .inr ⟨w.heap.size, _, rfl, Blk.new _ _ _, ?_, grownCap_ge w (sl + xl) sc e, grownCap_le_maxLen w (sl + xl) sc e (by simp only [maxLen]; omega), ?_⟩⟩, rfl, .inr ⟨_, rfl, Nat.le_refl _, .push _ _⟩⟩
        · have := grownCap_ge w (sl + xl) sc e
          simp only [Array.size_append, List.size_toArray, hlx, hlc, Builtin.zeroCells, Array.size_map, Array.size_range, el.zero]
          rw [← Nat.add_mul, ← Nat.add_mul]; congr 1; omega
        · simp only [Array.toList_append, List.length_append]
          rw [← List.length_append, List.take_left]
end
end Go.Proofs.Ytidpbnbjpglhfaa.V
namespace Go.Proofs.Ytidpbnbjpglhfaa.V
open Go
set_option linter.unusedVariables false
set_option linter.unusedSimpArgs false
theorem row_of {h : H} {l : List (Sl × List Rw8)} (hl : ∀ p ∈ l, Owns h p.1 tn_api_Row 7 (p.2.flatMap cW)) : ∀ (i : Nat) s R, (l.map (·.1))[i]? = some s → (l.map (·.2))[i]? = some R → Owns h s tn_api_Row 7 (R.flatMap cW) := by
  intro i s R h1 h2
  rw [List.getElem?_map] at h1 h2
  cases hx : l[i]? with
  | none => rw [hx] at h1; cases h1
  | some p =>
    rw [hx] at h1 h2
    cases h1; cases h2
    exact hl p (List.mem_of_getElem? hx)
theorem tab_at {hh : H} {s : Sl} {ss : List Sl} (w : Reads hh s 1 (ss.flatMap cS8)) {i : Nat} {x : Sl} (hs : ss[i]? = some x) {K : Sl → Prop} (k : K x) : idxA s (i : Int) 1 fun a => ldL hh a K := by
  obtain ⟨q, r1, r2, r3⟩ := rd_at cS8_len (by omega) w hs
  have hl := rd_len cS8_len (by omega) w
  exact idxR_of (i := i) r1 (by have := (List.getElem?_eq_some_iff.1 hs).1; omega) rfl ((ldL_iff r3.one).2 k)
end Go.Proofs.Ytidpbnbjpglhfaa.V
namespace Go.Proofs.Ytidpbnbjpglhfaa.V
open Go
set_option linter.unusedVariables false
set_option linter.unusedSimpArgs false
section
variable {T : Type} {enc : TypeId × Value → T} {w : World} {base : Nat} {spare : Nat → Bool} {held : Bool} {fuel : Nat}
theorem ints_open8 {v : Value} {y : DataW T × List MemPlace} (h : DataW.trod enc PP w base spare held fuel tn_Slint [v] = some y) :
    ∃ (s : Sl) (L : List Int), v = s.enc ∧ Reads w.heap s 1 (L.flatMap cI) ∧ s.len ≤ s.cap ∧ (L ≠ [] → ∀ b, s.blk = some b → b < w.heap.size) ∧ (∀ n ∈ L, -9223372036854775808 ≤ n ∧ n < 9223372036854775808) ∧ L.length ≤ 9223372036854775807 :=
  gen_open cI (fun n => -9223372036854775808 ≤ n ∧ n < 9223372036854775808) cI_len ut_Slint (show PP.cellsOf tn_int = 1 from by kernel_rfl) (by omega) h fun n cs y hy _ => by
    obtain ⟨m, e1, _, e2⟩ := DataW.trod_int Try.underlying3 hy
    exact ⟨m, e1, i64_of e2⟩
end
end Go.Proofs.Ytidpbnbjpglhfaa.V
namespace Go.Proofs.Ytidpbnbjpglhfaa.V
open Go
set_option linter.unusedVariables false
set_option linter.unusedSimpArgs false
theorem int_of {h : H} {l : List (Sl × List Int)} (hl : ∀ p ∈ l, Owns h p.1 3 1 (p.2.flatMap cI)) : Lsts_int h (l.map (·.1)) (l.map (·.2)) := by
  refine ⟨by simp, fun i s R h1 h2 => ?_⟩
  rw [List.getElem?_map] at h1 h2
  cases hx : l[i]? with
  | none => rw [hx] at h1; cases h1
  | some p =>
    rw [hx] at h1 h2
    cases h1; cases h2
    have := hl p (List.mem_of_getElem? hx)
    exact ⟨⟨this.reads, cap_of this⟩, fun b hb => this.blk_lt hb⟩
section
variable {T : Type} {enc : TypeId × Value → T} {w : World} {base : Nat} {spare : Nat → Bool} {held : Bool} {fuel : Nat}
end
end Go.Proofs.Ytidpbnbjpglhfaa.V
namespace Go.Proofs.Ytidpbnbjpglhfaa.V
open Go
set_option linter.unusedVariables false
set_option linter.unusedSimpArgs false
def updF {α : Type} (f : Nat → α) (i : Nat) (v : α) : Nat → α := fun j => if j = i then v else f j
theorem updF_same {α : Type} (f : Nat → α) (i : Nat) (v : α) : updF f i v i = v := by simp [updF]
theorem updF_ne {α : Type} (f : Nat → α) {i j : Nat} (v : α) (h : j ≠ i) : updF f i v j = f j := by simp [updF, h]
theorem map_upd {α : Type} (f : Nat → α) {n i : Nat} (v : α) (hi : i < n) : ((List.range n).map f).set i v = (List.range n).map (updF f i v) := by
  apply List.ext_getElem?
  intro j
  by_cases hj : j = i
  · subst hj
    rw [List.getElem?_set_self (by simpa using hi)]
    simp [hi, updF_same]
  · rw [List.getElem?_set_ne (fun h => hj h.symm)]
    by_cases hn : j < n
    · simp [hn, updF_ne f v hj]
    · rw [List.getElem?_eq_none (by simp; omega), List.getElem?_eq_none (by simp; omega)]
theorem range_at {α : Type} (f : Nat → α) {n i : Nat} (hi : i < n) : ((List.range n).map f)[i]? = some (f i) := by simp [hi]
/-- A slice over the beginning of what another one owns. -/
theorem own_pre {α : Type} {f : α → List Value} {kk : Nat} {e : TypeId} {h : H} {r a : Sl} {L : List α} {n : Nat} (hf : ∀ x, (f x).length = kk) (hk : 0 < kk) (w : Owns h r e kk (L.flatMap f)) (hp : a.ptr = r.ptr) (hc : a.cap = r.cap) (ha : a.len = n) (hn : n ≤ L.length) : Owns h a e kk ((L.take n).flatMap f) := by
  have hl := own_len hf hk w
  obtain ⟨q0, ⟨q1, q2, q3⟩ | ⟨b', c', q1, q2, q3, q4, q5, q6⟩⟩ := w
  · have : n = 0 := by omega
    subst this
    exact ⟨by simp [ha], .inl ⟨hp.trans q1, ha, hc.trans q3⟩⟩
  · refine ⟨by rw [flat_len f kk hf, List.length_take, Nat.min_eq_left hn, ha], .inr ⟨b', c', hp.trans q1, q2, by rw [hc]; exact q3, by rw [ha, hc]; omega, by rw [hc]; exact q5, ?_⟩⟩
    have h1 : L.flatMap f = (L.take n).flatMap f ++ (L.drop n).flatMap f := by rw [← List.flatMap_append, List.take_append_drop]
    have h2 := congrArg (List.take ((L.take n).flatMap f).length) q6
    rw [List.take_take, Nat.min_eq_left (by rw [h1, List.length_append]; omega)] at h2
    rw [h2, h1, List.take_left]
theorem own_neG {h : H} {s : Sl} {n : Nat} {cs : List Value} {k : Nat} {c : Array Value} {e e' : TypeId} (w : Owns h s e k cs) (b : Blk h n c e') (he : e ≠ e') : s.blk ≠ some n := fun hb => by
  obtain ⟨_, ⟨q1, _, _⟩ | ⟨b', c', q1, q2, _⟩⟩ := w
  · simp [Sl.blk, q1] at hb
  · simp [Sl.blk, q1] at hb
    subst hb
    have := q2.symm.trans b
    simp at this
    exact he this.2
/-- Lists of their own, apart from one another. -/
structure PA {α : Type} (f : α → List Value) (kk : Nat) (e : TypeId) (n : Nat) (h0 h : H) (A : Nat → Sl) (D : Nat → List α) : Prop where
  own : ∀ i, i < n → Owns h (A i) e kk ((D i).flatMap f)
  ap : ∀ i j, i < n → j < n → i ≠ j → ∀ b, (A i).blk = some b → (A j).blk ≠ some b
  only : Only (fun b => ∃ i, i < n ∧ (A i).blk = some b) h0 h
section
variable {α : Type} {f : α → List Value} {kk : Nat} {e : TypeId} {n : Nat} {h0 h h' : H} {A M : Nat → Sl} {D T : Nat → List α}
theorem PA.put (p : PA f kk e n h0 h A D) {i : Nat} {L : List α} (hi : i < n) (w : Owns h' (A i) e kk (L.flatMap f)) (o : Only (fun b => (A i).blk = some b) h h') : PA f kk e n h0 h' A (updF D i L) := by
  refine ⟨fun j hj => ?_, p.ap, p.only.trans o fun m hm hb => ⟨i, hi, hb⟩⟩
  by_cases hji : j = i
  · subst hji; rw [updF_same]; exact w
  · rw [updF_ne D L hji]
    exact (p.own j hj).only o fun x hx hb => p.ap i j hi hj (fun h => hji h.symm) x hb hx
theorem PA.ext (p : PA f kk e n h0 h A D) (x : Ext h h') : PA f kk e n h0 h' A D := ⟨fun i hi => (p.own i hi).ext x, p.ap, p.only.ext x⟩
/-- Blocks of other things. -/
theorem PA.other (p : PA f kk e n h0 h A D) (o : Only (fun b => ∃ i, i < n ∧ (A i).blk = some b) h h') {s : Sl} {e' : TypeId} {k' : Nat} {cs : List Value} (w : Owns h s e' k' cs) (he : e' ≠ e) : Owns h' s e' k' cs :=
  w.only o fun x hx ⟨i, hi, hb⟩ => by
    obtain ⟨_, ⟨q1, _, _⟩ | ⟨b', c', q1, q2, _⟩⟩ := w
    · simp [Sl.blk, q1] at hx
    · simp [Sl.blk, q1] at hx
      subst hx
      exact own_neG (p.own i hi) q2 (fun h => he h.symm) hb
/-- Lists, and what has grown of each. -/
structure GW {α : Type} (f : α → List Value) (kk : Nat) (e : TypeId) (n : Nat) (h0 h : H) (A M : Nat → Sl) (T D : Nat → List α) : Prop where
  oa : ∀ i, i < n → Owns h (A i) e kk ((T i).flatMap f)
  om : ∀ i, i < n → Owns h (M i) e kk ((D i).flatMap f)
  pre : ∀ i, i < n → (D i).take (T i).length = T i
  rel : ∀ i, i < n → ((A i).ptr = (M i).ptr ∧ (A i).cap = (M i).cap) ∨ ∀ b, (M i).blk = some b → (A i).blk ≠ some b
  mm : ∀ i j, i < n → j < n → i ≠ j → ∀ b, (M i).blk = some b → (M j).blk ≠ some b ∧ (A j).blk ≠ some b
  new : ∀ i, i < n → ∀ b, (M i).blk = some b → (A i).blk = some b ∨ h0.size ≤ b
  only : Only (fun b => ∃ i, i < n ∧ (A i).blk = some b) h0 h
theorem GW.of (p : PA f kk e n h0 h A T) : GW f kk e n h0 h A A T T :=
  ⟨p.own, p.own, fun i hi => List.take_length, fun i hi => .inl ⟨rfl, rfl⟩, fun i j hi hj hij b hb => ⟨p.ap i j hi hj hij b hb, p.ap i j hi hj hij b hb⟩, fun i hi b hb => .inl hb, p.only⟩
theorem GW.ext (g : GW f kk e n h0 h A M T D) (x : Ext h h') : GW f kk e n h0 h' A M T D :=
  ⟨fun i hi => (g.oa i hi).ext x, fun i hi => (g.om i hi).ext x, g.pre, g.rel, g.mm, g.new, g.only.ext x⟩
/-- Other blocks are written: new ones, of other things. -/
theorem GW.oth (g : GW f kk e n h0 h A M T D) {s : Sl} {e' : TypeId} {k' : Nat} {cs : List Value} (o : Only (fun b => s.blk = some b) h h') (w : Owns h s e' k' cs) (he : e ≠ e') (hm : Mine h0 s) : GW f kk e n h0 h' A M T D := by
  have kp : ∀ {t : Sl} {ds : List Value}, Owns h t e kk ds → Owns h' t e kk ds := fun {t ds} wt => wt.only o fun x hx hb => by
    obtain ⟨_, ⟨q1, _, _⟩ | ⟨b', c', q1, q2, _⟩⟩ := wt
    · simp [Sl.blk, q1] at hx
    · simp [Sl.blk, q1] at hx
      subst hx
      exact own_neG w q2 (fun h => he h.symm) hb
  exact ⟨fun i hi => kp (g.oa i hi), fun i hi => kp (g.om i hi), g.pre, g.rel, g.mm, g.new, g.only.trans o fun m hm' hb => absurd (hm m hb) (by omega)⟩
/-- One of them grows. -/
theorem GW.app (hf : ∀ x, (f x).length = kk) (hk : 0 < kk) (g : GW f kk e n h0 h A M T D) {i : Nat} {r : Sl} {L : List α} (hi : i < n) (w : Owns h' r e kk ((D i ++ L).flatMap f))
    (o : (r.ptr = (M i).ptr ∧ r.cap = (M i).cap ∧ Only (fun b => (M i).blk = some b) h h') ∨ (∃ b, r.ptr = some ⟨b, 0, none⟩ ∧ h.size ≤ b ∧ Ext h h')) :
    GW f kk e n h0 h' A (updF M i r) T (updF D i (D i ++ L)) := by
  have hpre : ∀ j, j < n → (updF D i (D i ++ L) j).take (T j).length = T j := fun j hj => by
    by_cases hji : j = i
    · subst hji
      rw [updF_same]
      have := g.pre j hj
      have hle : (T j).length ≤ (D j).length := by rw [← this, List.length_take]; omega
      rw [List.take_append_of_le_length hle]; exact this
    · rw [updF_ne D _ hji]; exact g.pre j hj
  have hle : (T i).length ≤ (D i).length := by
    have := congrArg List.length (g.pre i hi)
    rw [List.length_take] at this; omega
  have hla := own_len hf hk (g.oa i hi)
  rcases o with ⟨o1, o2, o3⟩ | ⟨b, o1, o2, o3⟩
  · have hbl : r.blk = (M i).blk := by simp [Sl.blk, o1]
    refine ⟨fun j hj => ?_, fun j hj => ?_, hpre, fun j hj => ?_, fun j l hj hl hjl b hb => ?_, fun j hj b hb => ?_, g.only.trans o3 fun m hm hb => ?_⟩
    · by_cases hji : j = i
      · subst hji
        rcases g.rel j hj with ⟨r1, r2⟩ | r1
        · have := own_pre (a := A j) (n := (T j).length) hf hk w (r1.trans o1.symm) (r2.trans o2.symm) hla (by rw [List.length_append]; omega)
          rw [List.take_append_of_le_length hle, g.pre j hj] at this
          exact this
        · exact (g.oa j hj).only o3 fun x hx hb => r1 x hb hx
      · exact (g.oa j hj).only o3 fun x hx hb => (g.mm i j hi hj (fun h => hji h.symm) x hb).2 hx
    · by_cases hji : j = i
      · subst hji; rw [updF_same, updF_same]; exact w
      · rw [updF_ne M r hji, updF_ne D _ hji]
        exact (g.om j hj).only o3 fun x hx hb => (g.mm i j hi hj (fun h => hji h.symm) x hb).1 hx
    · by_cases hji : j = i
      · subst hji
        rw [updF_same, o1, o2, hbl]; exact g.rel j hj
      · rw [updF_ne M r hji]; exact g.rel j hj
    · have hb' : (M j).blk = some b := by
        by_cases hji : j = i
        · subst hji; rw [updF_same, hbl] at hb; exact hb
        · rw [updF_ne M r hji] at hb; exact hb
      refine ⟨?_, (g.mm j l hj hl hjl b hb').2⟩
      by_cases hli : l = i
      · subst hli; rw [updF_same, hbl]; exact (g.mm j l hj hl hjl b hb').1
      · rw [updF_ne M r hli]; exact (g.mm j l hj hl hjl b hb').1
    · by_cases hji : j = i
      · subst hji; rw [updF_same, hbl] at hb; exact g.new j hj b hb
      · rw [updF_ne M r hji] at hb; exact g.new j hj b hb
    · rcases g.new i hi m hb with h1 | h1
      · exact ⟨i, hi, h1⟩
      · omega
  · have hbl : r.blk = some b := by simp [Sl.blk, o1]
    have ha : ∀ j, j < n → (A j).blk ≠ some b := fun j hj hb => by have := (g.oa j hj).blk_lt hb; omega
    have hm : ∀ j, j < n → (M j).blk ≠ some b := fun j hj hb => by have := (g.om j hj).blk_lt hb; omega
    have hs := g.only.size
    refine ⟨fun j hj => (g.oa j hj).ext o3, fun j hj => ?_, hpre, fun j hj => ?_, fun j l hj hl hjl x hx => ?_, fun j hj x hx => ?_, g.only.ext o3⟩
    · by_cases hji : j = i
      · subst hji; rw [updF_same, updF_same]; exact w
      · rw [updF_ne M r hji, updF_ne D _ hji]; exact (g.om j hj).ext o3
    · by_cases hji : j = i
      · subst hji
        rw [updF_same]
        exact .inr fun x hx => by rw [hbl] at hx; cases hx; exact ha j hj
      · rw [updF_ne M r hji]; exact g.rel j hj
    · by_cases hji : j = i
      · subst hji
        rw [updF_same, hbl] at hx; cases hx
        exact ⟨by rw [updF_ne M r (fun h => hjl h.symm)]; exact hm l hl, ha l hl⟩
      · rw [updF_ne M r hji] at hx
        refine ⟨?_, (g.mm j l hj hl hjl x hx).2⟩
        by_cases hli : l = i
        · subst hli; rw [updF_same, hbl]; intro h; cases h; exact hm j hj hx
        · rw [updF_ne M r hli]; exact (g.mm j l hj hl hjl x hx).1
    · by_cases hji : j = i
      · subst hji; rw [updF_same, hbl] at hx; cases hx; exact .inr (by omega)
      · rw [updF_ne M r hji] at hx; exact g.new j hj x hx
end
end Go.Proofs.Ytidpbnbjpglhfaa.V
namespace Go.Proofs.Ytidpbnbjpglhfaa.V
open Go
set_option linter.unusedVariables false
set_option linter.unusedSimpArgs false
abbrev toldR (i k : Nat) : Rw8 := ⟨⟨(i : Int), ⟨#[116, 111, 108, 100]⟩, (k : Int)⟩, ⟨0, 0, 0, 0⟩⟩
abbrev moreR (i k : Nat) : Rw8 := ⟨⟨(i : Int), ⟨#[109, 111, 114, 101]⟩, (k : Int)⟩, ⟨0, 0, 0, 0⟩⟩
abbrev toldI (i k : Nat) : Int := 1000 * (i : Int) + k
abbrev moreI (i k : Nat) : Int := 0 - 1000 * (i : Int) - k - 1
theorem wtold {i k : Nat} (hi : i ≤ 100) (hk : k ≤ 200000) : IntKind.wrap .i64 (IntKind.wrap .i64 (1000 * (i : Int)) + (k : Int)) = toldI i k := by
  rw [w64 (n := 1000 * (i : Int)) (by omega) (by omega), w64 (by omega) (by omega)]
theorem wmore {i k : Nat} (hi : i ≤ 100) (hk : k ≤ 200000) : IntKind.wrap .i64 (IntKind.wrap .i64 (IntKind.wrap .i64 (0 - IntKind.wrap .i64 (1000 * (i : Int))) - (k : Int)) - 1) = moreI i k := by
  rw [w64 (n := 1000 * (i : Int)) (by omega) (by omega), w64 (n := 0 - 1000 * (i : Int)) (by omega) (by omega), w64 (n := 0 - 1000 * (i : Int) - (k : Int)) (by omega) (by omega), w64 (by omega) (by omega)]
theorem intAt8 {h : H} {s : Sl} {A : List Int} (rd : Reads h s 1 (A.flatMap cI)) {i : Nat} {x : Int} (hx : A[i]? = some x) {K : Addr → Prop} (k : ∀ a, Cells h a (cI x) → K a) : idxA s (i : Int) 1 K := by
  obtain ⟨p, p1, p2, p3⟩ := rd_at cI_len (by omega) rd hx
  have hl := rd_len cI_len (by omega) rd
  exact idxR_of (i := i) p1 (by have := (List.getElem?_eq_some_iff.1 hx).1; omega) rfl (k _ p3)
theorem one_cS {L : List Sl} : ∀ v ∈ L.flatMap cS8, v.oneCell' = true := fun v hv => by
  obtain ⟨x, _, hx⟩ := List.mem_flatMap.1 hv
  rw [List.mem_singleton.1 hx]; rfl
theorem GrownRows_spec {h : H} {s : Sl} {n : Nat} {A : Nat → Sl} {T : Nat → List Rw8} {Q : Bool → H → Prop} (tb : Owns h s tn_Slapi_Row 1 (((List.range n).map A).flatMap cS8)) (hn : n ≤ 100) (pa : PA cW 7 tn_api_Row n h h A T) (hT : ∀ i, i < n → (T i).length ≤ 100000)
    (k : ∀ h', Only (fun b => ∃ i, i < n ∧ (A i).blk = some b) h h' → Q true h') : F.spatelaw2_GrownRows s h Q := by
  unfold F.spatelaw2_GrownRows
  have hl : s.len = n := by have := own_len cS8_len (by omega) tb; simpa using this
  have lt_of : ∀ {i : Nat}, (i : Int) < (n : Int) → i < n := fun h => by omega
  -- what has grown is looked at
  have p4 : ∀ (h5 : H) (M : Nat → Sl) (c : Sl), Owns h5 c tn_Slapi_Row 1 (((List.range n).map M).flatMap cS8) → Owns h5 s tn_Slapi_Row 1 (((List.range n).map A).flatMap cS8) →
      GW cW 7 tn_api_Row n h h5 A M (fun i => (List.range (T i).length).map (toldR i)) (fun i => (List.range (T i).length).map (toldR i) ++ (List.range 40).map (moreR i)) → ∃ m, F.spatelaw2_GrownRows.l5 Q m s c 0 h5 := by
    intro h5 M c tc ts g
    have key : ∀ (d i : Nat) (h6 : H), i ≤ n → n - i < d → Ext h5 h6 → F.spatelaw2_GrownRows.l5 Q d s c (i : Int) h6 := by
      intro d
      induction d with
      | zero => intro i h6 _ hd; omega
      | succ d ih =>
        intro i h6 hi hd e6
        unfold F.spatelaw2_GrownRows.l5
        simp only [decide_eq_true_eq, decide_eq_false_iff_not]
        rw [hl]
        refine ⟨fun gg => ?_, fun gg => k h6 (g.only.ext e6)⟩
        have hin := lt_of gg
        refine tab_at (ts.ext e6).reads (range_at A hin) ?_
        have la := own_len cW_len (by omega) (g.oa i hin)
        simp only [List.length_map, List.length_range] at la
        have hTi := hT i hin
        rw [la]
        refine ⟨(T i).length + 41, ?_⟩
        have key2 : ∀ (d2 j : Nat) (h7 : H), j ≤ (T i).length + 40 → (T i).length + 40 - j < d2 → Ext h5 h7 → F.spatelaw2_GrownRows.l6 Q (F.spatelaw2_GrownRows.l5 Q d) d2 s c (i : Int) ((T i).length : Int) (j : Int) h7 := by
          intro d2
          induction d2 with
          | zero => intro j h7 _ hd2; omega
          | succ d2 ih2 =>
            intro j h7 hj hd2 e7
            unfold F.spatelaw2_GrownRows.l6
            rw [w64 (n := ((T i).length : Int) + 40) (by omega) (by omega)]
            refine ⟨fun g7 => ?_, fun g7 => by rw [w64s (by omega)]; exact ih (i + 1) h7 (by omega) (by omega) e7⟩
            have g7 := of_decide_eq_true g7
            have gi : ∀ {x : Rw8}, ((List.range (T i).length).map (toldR i) ++ (List.range 40).map (moreR i))[j]? = some x → ∀ {hh : H}, Ext h5 hh → idxA (M i) (j : Int) 7 fun a => Cells hh a (cW x) := fun hx hh eh => rowAt8 ((g.om i hin).ext eh).reads hx fun a ca => ca
            have ga : ∀ {x : Rw8}, ((List.range (T i).length).map (toldR i))[j]? = some x → ∀ {hh : H}, Ext h5 hh → idxA (A i) (j : Int) 7 fun a => Cells hh a (cW x) := fun hx hh eh => rowAt8 ((g.oa i hin).ext eh).reads hx fun a ca => ca
            have x1 : j < (T i).length → ((List.range (T i).length).map (toldR i) ++ (List.range 40).map (moreR i))[j]? = some (toldR i j) := fun hj => by
              rw [List.getElem?_append_left (by simpa using hj)]; exact range_at (toldR i) hj
            have x2 : ¬ j < (T i).length → ((List.range (T i).length).map (toldR i) ++ (List.range 40).map (moreR i))[j]? = some (moreR i (j - (T i).length)) := fun hj => by
              rw [List.getElem?_append_right (by simpa using hj), List.length_map, List.length_range]; exact range_at (moreR i) (by omega)
            have x3 : j < (T i).length → ((List.range (T i).length).map (toldR i))[j]? = some (toldR i j) := fun hj => range_at (toldR i) hj
            have j9 : ∀ h8, Ext h5 h8 → F.spatelaw2_GrownRows.j9 Q (F.spatelaw2_GrownRows.l5 Q d) (F.spatelaw2_GrownRows.l6 Q (F.spatelaw2_GrownRows.l5 Q d) d2) s c (i : Int) ((T i).length : Int) (j : Int) false h8 := fun h8 e8 => by
              unfold F.spatelaw2_GrownRows.j9 F.spatelaw2_GrownRows.j7
              refine ⟨fun g => (by cases g), fun _ => ?_⟩
              rw [w64s (by omega)]
              exact ih2 (j + 1) h8 (by omega) (by omega) e8
            have j8 : ∀ (h8 : H) (m : Nat) (x : Rw8), Ext h5 h8 → Blk h8 m x.cells.toArray tn_api_Row → (j < (T i).length → x = toldR i j) → (¬ j < (T i).length → x = moreR i (j - (T i).length)) → F.spatelaw2_GrownRows.j8 Q (F.spatelaw2_GrownRows.l5 Q d) (F.spatelaw2_GrownRows.l6 Q (F.spatelaw2_GrownRows.l5 Q d) d2) s c (i : Int) ((T i).length : Int) (j : Int) ⟨m, 0, none⟩ h8 := fun h8 m x e8 b8 q1 q2 => by
              unfold F.spatelaw2_GrownRows.j8
              refine tab_at (tc.ext e8).reads (range_at M hin) ?_
              obtain ⟨a, ha, ca⟩ := gi (x := x) (by by_cases h : j < (T i).length
                                                    · rw [q1 h]; exact x1 h
                                                    · rw [q2 h]; exact x2 h) e8
              refine ⟨a, ha, x, ca, x, b8.cells, ?_⟩
              dsimp only
              rw [row_eq.2 rfl]
              refine ⟨fun g => (by cases g), fun _ => ⟨fun g => ?_, fun g => j9 h8 e8⟩⟩
              have hjT : j < (T i).length := by have := of_decide_eq_true g; omega
              refine tab_at (ts.ext e8).reads (range_at A hin) ?_
              obtain ⟨a', ha', ca'⟩ := ga (x := x) (by rw [q1 hjT]; exact x3 hjT) e8
              refine ⟨a', ha', x, ca', x, b8.cells, ?_⟩
              dsimp only
              rw [row_eq.2 rfl]
              exact j9 h8 e8
            refine new_of fun n38 h8 hn8 b8 e8 s8 => ?_
            have z7 : n38 < h8.size := block_lt b8
            refine stH_of b8 (Nat.le_refl 7) fun h9 b9 o9 s9 => ?_
            rw [writeA_all (by rfl)] at b9
            have z5 := (e7.trans e8).size
            have z57 := e7.size
            have o9' : Ext h5 h9 := (e7.trans e8).step o9 fun m hm hb => by omega
            refine ⟨fun g => ?_, fun g => ?_⟩
            · have g := of_decide_eq_true g
              refine stH_of b9 (Nat.le_refl 7) fun h10 b10 o10 s10 => ?_
              rw [writeA_all (by rfl), w64 (n := (j : Int) - ((T i).length : Int)) (by omega) (by omega), show (j : Int) - ((T i).length : Int) = ((j - (T i).length : Nat) : Int) from by omega] at b10
              exact j8 h10 n38 (moreR i (j - (T i).length)) (o9'.step o10 fun m hm hb => by omega) b10 (fun h => by omega) fun _ => rfl
            · have g := of_decide_eq_false g
              exact j8 h9 n38 (toldR i j) o9' b9 (fun _ => rfl) fun h => by omega
        exact key2 _ 0 h6 (by omega) (by omega) e6
    exact ⟨n + 1, key _ 0 h5 (by omega) (by omega) (.refl _)⟩
  -- each is grown, by turns
  have p3 : ∀ (h3 : H) (c : Sl), Owns h3 c tn_Slapi_Row 1 (((List.range n).map A).flatMap cS8) → Owns h3 s tn_Slapi_Row 1 (((List.range n).map A).flatMap cS8) → Mine h c → PA cW 7 tn_api_Row n h h3 A (fun i => (List.range (T i).length).map (toldR i)) → ∃ m, F.spatelaw2_GrownRows.l3 Q m s c 0 h3 := by
    intro h3 c tc ts mc pa3
    have key : ∀ (d q : Nat) (h4 : H) (M : Nat → Sl), q ≤ 40 → 40 - q < d → Owns h4 c tn_Slapi_Row 1 (((List.range n).map M).flatMap cS8) → Owns h4 s tn_Slapi_Row 1 (((List.range n).map A).flatMap cS8) →
        GW cW 7 tn_api_Row n h h4 A M (fun i => (List.range (T i).length).map (toldR i)) (fun i => (List.range (T i).length).map (toldR i) ++ (List.range q).map (moreR i)) → F.spatelaw2_GrownRows.l3 Q d s c (q : Int) h4 := by
      intro d
      induction d with
      | zero => intro q h4 M _ hd; omega
      | succ d ih =>
        intro q h4 M hq hd tc4 ts4 g4
        unfold F.spatelaw2_GrownRows.l3
        refine ⟨fun gq => ⟨n + 1, ?_⟩, fun gq => ?_⟩
        · have gq := of_decide_eq_true gq
          have key2 : ∀ (d2 i : Nat) (h5 : H) (M : Nat → Sl), i ≤ n → n - i < d2 → Owns h5 c tn_Slapi_Row 1 (((List.range n).map M).flatMap cS8) → Owns h5 s tn_Slapi_Row 1 (((List.range n).map A).flatMap cS8) →
              GW cW 7 tn_api_Row n h h5 A M (fun i => (List.range (T i).length).map (toldR i)) (fun j => (List.range (T j).length).map (toldR j) ++ (List.range (if j < i then q + 1 else q)).map (moreR j)) → F.spatelaw2_GrownRows.l4 Q (F.spatelaw2_GrownRows.l3 Q d) d2 s c (q : Int) (i : Int) h5 := by
            intro d2
            induction d2 with
            | zero => intro i h5 M _ hd2; omega
            | succ d2 ih2 =>
              intro i h5 M hi hd2 tc5 ts5 g5
              unfold F.spatelaw2_GrownRows.l4
              simp only [decide_eq_true_eq, decide_eq_false_iff_not]
              rw [hl]
              refine ⟨fun gg => ?_, fun gg => ?_⟩
              · have hin := lt_of gg
                have hTi := hT i hin
                refine tab_at tc5.reads (range_at M hin) ?_
                refine newL_of fun n6 h6 hn6 b6 e6 s6 => ?_
                have r6 : Reads h6 ⟨some ⟨n6, 0, none⟩, 1, 1⟩ 7 ([moreR i q].flatMap cW) := blk_reads (by simpa using b6) (by simp [cW_len])
                have g6 := g5.ext e6
                have om := g6.om i hin
                have lm := own_len cW_len (by omega) om
                simp only [if_neg (Nat.lt_irrefl i)] at om lm
                refine app_of2 el_Slapi_Row om r6 (fun v hv => by simp only [List.flatMap_cons, List.flatMap_nil, List.append_nil] at hv; exact ones_S_api_Row _ v hv) (by rw [lm]; simp only [List.length_append, List.length_map, List.length_range]; omega) fun r h7 w7 l7 o7 => ?_
                have g7 := g6.app cW_len (by omega) (L := [moreR i q]) hin (by simp only [if_neg (Nat.lt_irrefl i)]; rw [List.flatMap_append]; exact w7) o7
                have tc7 : Owns h7 c tn_Slapi_Row 1 (((List.range n).map M).flatMap cS8) := by
                  rcases o7 with ⟨_, _, o⟩ | ⟨_, _, _, o⟩
                  · exact own_typ (tc5.ext e6) o om (by decide)
                  · exact (tc5.ext e6).ext o
                have ts7 : Owns h7 s tn_Slapi_Row 1 (((List.range n).map A).flatMap cS8) := by
                  rcases o7 with ⟨_, _, o⟩ | ⟨_, _, _, o⟩
                  · exact own_typ (ts5.ext e6) o om (by decide)
                  · exact (ts5.ext e6).ext o
                refine put_at (f := cS8) (x := r) cS8_len (by omega) tc7 (by simpa using hin) fun h8 w8 o8 => ?_
                rw [map_upd M r hin] at w8
                rw [w64s (by omega)]
                refine ih2 (i + 1) h8 (updF M i r) (by omega) (by omega) w8 (ts7.only o8 fun x hx hb => ?_) ?_
                · have h1 := mc x hb
                  have h2 := tb.blk_lt hx
                  omega
                · have g8 := g7.oth o8 tc7 (by decide) mc
                  have : (fun j => (List.range (T j).length).map (toldR j) ++ (List.range (if j < i + 1 then q + 1 else q)).map (moreR j)) = updF (fun j => (List.range (T j).length).map (toldR j) ++ (List.range (if j < i then q + 1 else q)).map (moreR j)) i ((fun j => (List.range (T j).length).map (toldR j) ++ (List.range (if j < i then q + 1 else q)).map (moreR j)) i ++ [moreR i q]) := by
                    funext j
                    by_cases hji : j = i
                    · subst hji
                      rw [updF_same, if_pos (by omega)]
                      simp only [if_neg (Nat.lt_irrefl j)]
                      rw [List.range_succ, List.map_append, List.append_assoc]; rfl
                    · rw [updF_ne _ _ hji]
                      by_cases hlt : j < i
                      · rw [if_pos hlt, if_pos (by omega)]
                      · rw [if_neg hlt, if_neg (by omega)]
                  rw [this]; exact g8
              · have hin : i = n := by omega
                rw [w64s (by omega)]
                refine ih (q + 1) h5 M (by omega) (by omega) tc5 ts5 ?_
                refine ⟨g5.oa, fun j hj => ?_, fun j hj => ?_, g5.rel, g5.mm, g5.new, g5.only⟩
                · have := g5.om j hj
                  simp only [if_pos (show j < i by omega)] at this
                  exact this
                · rw [List.take_append_of_le_length (Nat.le_refl _), List.take_length]
          refine key2 _ 0 h4 M (by omega) (by omega) tc4 ts4 ?_
          simpa only [Nat.not_lt_zero, if_false] using g4
        · have gq := of_decide_eq_false gq
          have : q = 40 := by omega
          subst this
          exact p4 h4 M c tc4 ts4 g4
    refine ⟨41, key _ 0 h3 A (by omega) (by omega) tc ts ?_⟩
    have := GW.of pa3
    simpa using this
  -- all are written over
  have key : ∀ (d i : Nat) (h2 : H) (D : Nat → List Rw8), i ≤ n → n - i < d → PA cW 7 tn_api_Row n h h2 A D → (∀ j, j < n → (D j).length = (T j).length) → (∀ j, j < i → D j = (List.range (T j).length).map (toldR j)) → F.spatelaw2_GrownRows.l1 Q d s (i : Int) h2 := by
    intro d
    induction d with
    | zero => intro i h2 D _ hd; omega
    | succ d ih =>
      intro i h2 D hi hd p2 hlen hdone
      have ts2 : Owns h2 s tn_Slapi_Row 1 (((List.range n).map A).flatMap cS8) := pa.other p2.only tb (by decide)
      unfold F.spatelaw2_GrownRows.l1
      simp only [decide_eq_true_eq, decide_eq_false_iff_not]
      rw [hl]
      refine ⟨fun gg => ⟨(T i).length + 1, ?_⟩, fun gg => ?_⟩
      · have hin := lt_of gg
        have hTi := hT i hin
        have key2 : ∀ (d2 j : Nat) (h3 : H) (L : List Rw8), j ≤ (T i).length → (T i).length - j < d2 → PA cW 7 tn_api_Row n h h3 A (updF D i L) → L.length = (T i).length → (∀ z, z < j → L[z]? = some (toldR i z)) → F.spatelaw2_GrownRows.l2 Q (F.spatelaw2_GrownRows.l1 Q d) d2 s (i : Int) (j : Int) h3 := by
          intro d2
          induction d2 with
          | zero => intro j h3 L _ hd2; omega
          | succ d2 ih2 =>
            intro j h3 L hj hd2 p3' hL hz
            have ts3 : Owns h3 s tn_Slapi_Row 1 (((List.range n).map A).flatMap cS8) := pa.other p3'.only tb (by decide)
            have w3 := p3'.own i hin
            rw [updF_same] at w3
            have la := own_len cW_len (by omega) w3
            unfold F.spatelaw2_GrownRows.l2
            refine tab_at ts3.reads (range_at A hin) ?_
            simp only [decide_eq_true_eq, decide_eq_false_iff_not]
            rw [la, hL]
            refine ⟨fun g3 => tab_at ts3.reads (range_at A hin) ?_, fun g3 => ?_⟩
            · refine put_at (f := cW) (x := toldR i j) cW_len (by omega) w3 (by omega) fun h4 w4 o4 => ?_
              rw [w64s (by omega)]
              refine ih2 (j + 1) h4 (L.set j (toldR i j)) (by omega) (by omega) ?_ (by simpa using hL) fun z hz2 => ?_
              · have := p3'.put hin w4 o4
                have e : updF (updF D i L) i (L.set j (toldR i j)) = updF D i (L.set j (toldR i j)) := by
                  funext z
                  by_cases hzi : z = i
                  · subst hzi; rw [updF_same, updF_same]
                  · rw [updF_ne _ _ hzi, updF_ne _ _ hzi, updF_ne _ _ hzi]
                rw [e] at this; exact this
              · by_cases hzj : z = j
                · subst hzj; rw [List.getElem?_set_self (by omega)]
                · rw [List.getElem?_set_ne (fun h => hzj h.symm)]; exact hz z (by omega)
            · rw [w64s (by omega)]
              refine ih (i + 1) h3 (updF D i L) (by omega) (by omega) p3' (fun z hz2 => ?_) fun z hz2 => ?_
              · by_cases hzi : z = i
                · subst hzi; rw [updF_same]; exact hL
                · rw [updF_ne _ _ hzi]; exact hlen z hz2
              · by_cases hzi : z = i
                · subst hzi
                  rw [updF_same]
                  apply List.ext_getElem?
                  intro y
                  by_cases hy : y < (T z).length
                  · rw [hz y (by omega), range_at (toldR z) hy]
                  · rw [List.getElem?_eq_none (by omega), List.getElem?_eq_none (by simp; omega)]
                · rw [updF_ne _ _ hzi]; exact hdone z (by omega)
        refine key2 _ 0 h2 (D i) (by omega) (by omega) ?_ (hlen i hin) (fun z hz => by omega)
        have e : updF D i (D i) = D := by
          funext z
          by_cases hzi : z = i
          · subst hzi; rw [updF_same]
          · rw [updF_ne _ _ hzi]
        rw [e]; exact p2
      · have hin : i = n := by omega
        have p2' : PA cW 7 tn_api_Row n h h2 A (fun i => (List.range (T i).length).map (toldR i)) := ⟨fun j hj => by have := p2.own j hj; rw [hdone j (by omega)] at this; exact this, p2.ap, p2.only⟩
        have nl : Owns h2 (⟨none, 0, 0⟩ : Sl) tn_Slapi_Row 1 (([] : List Sl).flatMap cS8) := by simpa using Owns.nil h2 tn_Slapi_Row 1
        refine app_of2 el_SlSlapi_Row nl ts2.reads (fun v hv => one_cS v hv) (by rw [hl]; show (0 + n + (0 + n) / 4 + 256) * 24 ≤ _; omega) fun c h3 w3 l3 o3 => ?_
        rcases o3 with ⟨o1, o2, o3⟩ | ⟨b, o1, o2, o3⟩
        · have e3 : Ext h2 h3 := o3.mono fun x hx hb => by simp [Sl.blk] at hb
          exact p3 h3 c (by simpa using w3) (ts2.ext e3) (fun x hx => by simp [Sl.blk, o1] at hx) (p2'.ext e3)
        · refine p3 h3 c (by simpa using w3) (ts2.ext o3) (fun x hx => ?_) (p2'.ext o3)
          have := p2.only.size
          simp [Sl.blk, o1] at hx; omega
  exact ⟨n + 1, key _ 0 h T (by omega) (by omega) pa (fun j hj => rfl) fun j hj => by omega⟩
theorem GrownInts_spec {h : H} {s : Sl} {n : Nat} {A : Nat → Sl} {T : Nat → List Int} {Q : Bool → H → Prop} (tb : Owns h s tn_Slint 1 (((List.range n).map A).flatMap cS8)) (hn : n ≤ 100) (pa : PA cI 1 3 n h h A T) (hT : ∀ i, i < n → (T i).length ≤ 100000)
    (k : ∀ h', Only (fun b => ∃ i, i < n ∧ (A i).blk = some b) h h' → Q true h') : F.spatelaw2_GrownInts s h Q := by
  unfold F.spatelaw2_GrownInts
  have hl : s.len = n := by have := own_len cS8_len (by omega) tb; simpa using this
  have lt_of : ∀ {i : Nat}, (i : Int) < (n : Int) → i < n := fun h => by omega
  -- what has grown is looked at
  have p4 : ∀ (h5 : H) (M : Nat → Sl) (c : Sl), Owns h5 c tn_Slint 1 (((List.range n).map M).flatMap cS8) → Owns h5 s tn_Slint 1 (((List.range n).map A).flatMap cS8) →
      GW cI 1 3 n h h5 A M (fun i => (List.range (T i).length).map (toldI i)) (fun i => (List.range (T i).length).map (toldI i) ++ (List.range 40).map (moreI i)) → ∃ m, F.spatelaw2_GrownInts.l5 Q m s c 0 h5 := by
    intro h5 M c tc ts g
    have key : ∀ (d i : Nat) (h6 : H), i ≤ n → n - i < d → Ext h5 h6 → F.spatelaw2_GrownInts.l5 Q d s c (i : Int) h6 := by
      intro d
      induction d with
      | zero => intro i h6 _ hd; omega
      | succ d ih =>
        intro i h6 hi hd e6
        unfold F.spatelaw2_GrownInts.l5
        simp only [decide_eq_true_eq, decide_eq_false_iff_not]
        rw [hl]
        refine ⟨fun gg => ?_, fun gg => k h6 (g.only.ext e6)⟩
        have hin := lt_of gg
        refine tab_at (ts.ext e6).reads (range_at A hin) ?_
        have la := own_len cI_len (by omega) (g.oa i hin)
        simp only [List.length_map, List.length_range] at la
        have hTi := hT i hin
        rw [la]
        refine ⟨(T i).length + 41, ?_⟩
        have key2 : ∀ (d2 j : Nat) (h7 : H), j ≤ (T i).length + 40 → (T i).length + 40 - j < d2 → Ext h5 h7 → F.spatelaw2_GrownInts.l6 Q (F.spatelaw2_GrownInts.l5 Q d) d2 s c (i : Int) ((T i).length : Int) (j : Int) h7 := by
          intro d2
          induction d2 with
          | zero => intro j h7 _ hd2; omega
          | succ d2 ih2 =>
            intro j h7 hj hd2 e7
            unfold F.spatelaw2_GrownInts.l6
            rw [w64 (n := ((T i).length : Int) + 40) (by omega) (by omega)]
            refine ⟨fun g7 => ?_, fun g7 => by rw [w64s (by omega)]; exact ih (i + 1) h7 (by omega) (by omega) e7⟩
            have g7 := of_decide_eq_true g7
            have gi : ∀ {x : Int}, ((List.range (T i).length).map (toldI i) ++ (List.range 40).map (moreI i))[j]? = some x → ∀ {hh : H}, Ext h5 hh → idxA (M i) (j : Int) 1 fun a => Cells hh a (cI x) := fun hx hh eh => intAt8 ((g.om i hin).ext eh).reads hx fun a ca => ca
            have ga : ∀ {x : Int}, ((List.range (T i).length).map (toldI i))[j]? = some x → ∀ {hh : H}, Ext h5 hh → idxA (A i) (j : Int) 1 fun a => Cells hh a (cI x) := fun hx hh eh => intAt8 ((g.oa i hin).ext eh).reads hx fun a ca => ca
            have x1 : j < (T i).length → ((List.range (T i).length).map (toldI i) ++ (List.range 40).map (moreI i))[j]? = some (toldI i j) := fun hj => by
              rw [List.getElem?_append_left (by simpa using hj)]; exact range_at (toldI i) hj
            have x2 : ¬ j < (T i).length → ((List.range (T i).length).map (toldI i) ++ (List.range 40).map (moreI i))[j]? = some (moreI i (j - (T i).length)) := fun hj => by
              rw [List.getElem?_append_right (by simpa using hj), List.length_map, List.length_range]; exact range_at (moreI i) (by omega)
            have x3 : j < (T i).length → ((List.range (T i).length).map (toldI i))[j]? = some (toldI i j) := fun hj => range_at (toldI i) hj
            have j8 : F.spatelaw2_GrownInts.j8 Q (F.spatelaw2_GrownInts.l5 Q d) (F.spatelaw2_GrownInts.l6 Q (F.spatelaw2_GrownInts.l5 Q d) d2) s c (i : Int) ((T i).length : Int) (j : Int) false h7 := by
              unfold F.spatelaw2_GrownInts.j8 F.spatelaw2_GrownInts.j7
              refine ⟨fun g => (by cases g), fun _ => ?_⟩
              rw [w64s (by omega)]
              exact ih2 (j + 1) h7 (by omega) (by omega) e7
            have ne0 : ∀ x : Int, (x != x) = false := fun x => by simp
            refine ⟨fun g => ?_, fun g => ?_⟩
            · have hjT : j < (T i).length := by have := of_decide_eq_true g; omega
              rw [wtold (by omega) (by omega)]
              refine tab_at (ts.ext e7).reads (range_at A hin) ?_
              obtain ⟨a, ha, ca⟩ := ga (x3 hjT) e7
              refine ⟨a, ha, ldI_of ca.one ?_⟩
              rw [ne0]
              refine ⟨fun g => (by cases g), fun _ => ?_⟩
              refine tab_at (tc.ext e7).reads (range_at M hin) ?_
              obtain ⟨a', ha', ca'⟩ := gi (x1 hjT) e7
              refine ⟨a', ha', ldI_of ca'.one ?_⟩
              rw [ne0]
              exact ⟨fun g => (by cases g), fun _ => ⟨fun g => absurd (of_decide_eq_true g) (by omega), fun _ => j8⟩⟩
            · have hjT : ¬ j < (T i).length := by have := of_decide_eq_false g; omega
              rw [w64 (n := (j : Int) - ((T i).length : Int)) (by omega) (by omega), show (j : Int) - ((T i).length : Int) = ((j - (T i).length : Nat) : Int) from by omega, wmore (by omega) (by omega)]
              refine ⟨fun _ => ?_, fun g => absurd (of_decide_eq_false g) (by omega)⟩
              refine tab_at (tc.ext e7).reads (range_at M hin) ?_
              obtain ⟨a', ha', ca'⟩ := gi (x2 hjT) e7
              refine ⟨a', ha', ldI_of ca'.one ?_⟩
              rw [ne0]
              exact j8
        exact key2 _ 0 h6 (by omega) (by omega) e6
    exact ⟨n + 1, key _ 0 h5 (by omega) (by omega) (.refl _)⟩
  -- each is grown, by turns
  have p3 : ∀ (h3 : H) (c : Sl), Owns h3 c tn_Slint 1 (((List.range n).map A).flatMap cS8) → Owns h3 s tn_Slint 1 (((List.range n).map A).flatMap cS8) → Mine h c → PA cI 1 3 n h h3 A (fun i => (List.range (T i).length).map (toldI i)) → ∃ m, F.spatelaw2_GrownInts.l3 Q m s c 0 h3 := by
    intro h3 c tc ts mc pa3
    have key : ∀ (d q : Nat) (h4 : H) (M : Nat → Sl), q ≤ 40 → 40 - q < d → Owns h4 c tn_Slint 1 (((List.range n).map M).flatMap cS8) → Owns h4 s tn_Slint 1 (((List.range n).map A).flatMap cS8) →
        GW cI 1 3 n h h4 A M (fun i => (List.range (T i).length).map (toldI i)) (fun i => (List.range (T i).length).map (toldI i) ++ (List.range q).map (moreI i)) → F.spatelaw2_GrownInts.l3 Q d s c (q : Int) h4 := by
      intro d
      induction d with
      | zero => intro q h4 M _ hd; omega
      | succ d ih =>
        intro q h4 M hq hd tc4 ts4 g4
        unfold F.spatelaw2_GrownInts.l3
        refine ⟨fun gq => ⟨n + 1, ?_⟩, fun gq => ?_⟩
        · have gq := of_decide_eq_true gq
          have key2 : ∀ (d2 i : Nat) (h5 : H) (M : Nat → Sl), i ≤ n → n - i < d2 → Owns h5 c tn_Slint 1 (((List.range n).map M).flatMap cS8) → Owns h5 s tn_Slint 1 (((List.range n).map A).flatMap cS8) →
              GW cI 1 3 n h h5 A M (fun i => (List.range (T i).length).map (toldI i)) (fun j => (List.range (T j).length).map (toldI j) ++ (List.range (if j < i then q + 1 else q)).map (moreI j)) → F.spatelaw2_GrownInts.l4 Q (F.spatelaw2_GrownInts.l3 Q d) d2 s c (q : Int) (i : Int) h5 := by
            intro d2
            induction d2 with
            | zero => intro i h5 M _ hd2; omega
            | succ d2 ih2 =>
              intro i h5 M hi hd2 tc5 ts5 g5
              unfold F.spatelaw2_GrownInts.l4
              simp only [decide_eq_true_eq, decide_eq_false_iff_not]
              rw [hl]
              refine ⟨fun gg => ?_, fun gg => ?_⟩
              · have hin := lt_of gg
                have hTi := hT i hin
                refine tab_at tc5.reads (range_at M hin) ?_
                rw [wmore (by omega) (by omega)]
                refine newL_of fun n6 h6 hn6 b6 e6 s6 => ?_
                have r6 : Reads h6 ⟨some ⟨n6, 0, none⟩, 1, 1⟩ 1 ([moreI i q].flatMap cI) := blk_reads (by simpa using b6) (by simp [cI_len])
                have g6 := g5.ext e6
                have om := g6.om i hin
                have lm := own_len cI_len (by omega) om
                simp only [if_neg (Nat.lt_irrefl i)] at om lm
                refine app_of2 el_Slint om r6 (fun v hv => one1 rfl v hv) (by rw [lm]; simp only [List.length_append, List.length_map, List.length_range]; omega) fun r h7 w7 l7 o7 => ?_
                have g7 := g6.app cI_len (by omega) (L := [moreI i q]) hin (by simp only [if_neg (Nat.lt_irrefl i)]; rw [List.flatMap_append]; exact w7) o7
                have tc7 : Owns h7 c tn_Slint 1 (((List.range n).map M).flatMap cS8) := by
                  rcases o7 with ⟨_, _, o⟩ | ⟨_, _, _, o⟩
                  · exact own_typ (tc5.ext e6) o om (by decide)
                  · exact (tc5.ext e6).ext o
                have ts7 : Owns h7 s tn_Slint 1 (((List.range n).map A).flatMap cS8) := by
                  rcases o7 with ⟨_, _, o⟩ | ⟨_, _, _, o⟩
                  · exact own_typ (ts5.ext e6) o om (by decide)
                  · exact (ts5.ext e6).ext o
                refine put_at (f := cS8) (x := r) cS8_len (by omega) tc7 (by simpa using hin) fun h8 w8 o8 => ?_
                rw [map_upd M r hin] at w8
                rw [w64s (by omega)]
                refine ih2 (i + 1) h8 (updF M i r) (by omega) (by omega) w8 (ts7.only o8 fun x hx hb => ?_) ?_
                · have h1 := mc x hb
                  have h2 := tb.blk_lt hx
                  omega
                · have g8 := g7.oth o8 tc7 (by decide) mc
                  have : (fun j => (List.range (T j).length).map (toldI j) ++ (List.range (if j < i + 1 then q + 1 else q)).map (moreI j)) = updF (fun j => (List.range (T j).length).map (toldI j) ++ (List.range (if j < i then q + 1 else q)).map (moreI j)) i ((fun j => (List.range (T j).length).map (toldI j) ++ (List.range (if j < i then q + 1 else q)).map (moreI j)) i ++ [moreI i q]) := by
                    funext j
                    by_cases hji : j = i
                    · subst hji
                      rw [updF_same, if_pos (by omega)]
                      simp only [if_neg (Nat.lt_irrefl j)]
                      rw [List.range_succ, List.map_append, List.append_assoc]; rfl
                    · rw [updF_ne _ _ hji]
                      by_cases hlt : j < i
                      · rw [if_pos hlt, if_pos (by omega)]
                      · rw [if_neg hlt, if_neg (by omega)]
                  rw [this]; exact g8
              · have hin : i = n := by omega
                rw [w64s (by omega)]
                refine ih (q + 1) h5 M (by omega) (by omega) tc5 ts5 ?_
                refine ⟨g5.oa, fun j hj => ?_, fun j hj => ?_, g5.rel, g5.mm, g5.new, g5.only⟩
                · have := g5.om j hj
                  simp only [if_pos (show j < i by omega)] at this
                  exact this
                · rw [List.take_append_of_le_length (Nat.le_refl _), List.take_length]
          refine key2 _ 0 h4 M (by omega) (by omega) tc4 ts4 ?_
          simpa only [Nat.not_lt_zero, if_false] using g4
        · have gq := of_decide_eq_false gq
          have : q = 40 := by omega
          subst this
          exact p4 h4 M c tc4 ts4 g4
    refine ⟨41, key _ 0 h3 A (by omega) (by omega) tc ts ?_⟩
    have := GW.of pa3
    simpa using this
  -- all are written over
  have key : ∀ (d i : Nat) (h2 : H) (D : Nat → List Int), i ≤ n → n - i < d → PA cI 1 3 n h h2 A D → (∀ j, j < n → (D j).length = (T j).length) → (∀ j, j < i → D j = (List.range (T j).length).map (toldI j)) → F.spatelaw2_GrownInts.l1 Q d s (i : Int) h2 := by
    intro d
    induction d with
    | zero => intro i h2 D _ hd; omega
    | succ d ih =>
      intro i h2 D hi hd p2 hlen hdone
      have ts2 : Owns h2 s tn_Slint 1 (((List.range n).map A).flatMap cS8) := pa.other p2.only tb (by decide)
      unfold F.spatelaw2_GrownInts.l1
      simp only [decide_eq_true_eq, decide_eq_false_iff_not]
      rw [hl]
      refine ⟨fun gg => ⟨(T i).length + 1, ?_⟩, fun gg => ?_⟩
      · have hin := lt_of gg
        have hTi := hT i hin
        have key2 : ∀ (d2 j : Nat) (h3 : H) (L : List Int), j ≤ (T i).length → (T i).length - j < d2 → PA cI 1 3 n h h3 A (updF D i L) → L.length = (T i).length → (∀ z, z < j → L[z]? = some (toldI i z)) → F.spatelaw2_GrownInts.l2 Q (F.spatelaw2_GrownInts.l1 Q d) d2 s (i : Int) (j : Int) h3 := by
          intro d2
          induction d2 with
          | zero => intro j h3 L _ hd2; omega
          | succ d2 ih2 =>
            intro j h3 L hj hd2 p3' hL hz
            have ts3 : Owns h3 s tn_Slint 1 (((List.range n).map A).flatMap cS8) := pa.other p3'.only tb (by decide)
            have w3 := p3'.own i hin
            rw [updF_same] at w3
            have la := own_len cI_len (by omega) w3
            unfold F.spatelaw2_GrownInts.l2
            refine tab_at ts3.reads (range_at A hin) ?_
            simp only [decide_eq_true_eq, decide_eq_false_iff_not]
            rw [la, hL]
            refine ⟨fun g3 => tab_at ts3.reads (range_at A hin) ?_, fun g3 => ?_⟩
            · rw [wtold (by omega) (by omega)]
              refine put_at (f := cI) (x := toldI i j) cI_len (by omega) w3 (by omega) fun h4 w4 o4 => ?_
              rw [w64s (by omega)]
              refine ih2 (j + 1) h4 (L.set j (toldI i j)) (by omega) (by omega) ?_ (by simpa using hL) fun z hz2 => ?_
              · have := p3'.put hin w4 o4
                have e : updF (updF D i L) i (L.set j (toldI i j)) = updF D i (L.set j (toldI i j)) := by
                  funext z
                  by_cases hzi : z = i
                  · subst hzi; rw [updF_same, updF_same]
                  · rw [updF_ne _ _ hzi, updF_ne _ _ hzi, updF_ne _ _ hzi]
                rw [e] at this; exact this
              · by_cases hzj : z = j
                · subst hzj; rw [List.getElem?_set_self (by omega)]
                · rw [List.getElem?_set_ne (fun h => hzj h.symm)]; exact hz z (by omega)
            · rw [w64s (by omega)]
              refine ih (i + 1) h3 (updF D i L) (by omega) (by omega) p3' (fun z hz2 => ?_) fun z hz2 => ?_
              · by_cases hzi : z = i
                · subst hzi; rw [updF_same]; exact hL
                · rw [updF_ne _ _ hzi]; exact hlen z hz2
              · by_cases hzi : z = i
                · subst hzi
                  rw [updF_same]
                  apply List.ext_getElem?
                  intro y
                  by_cases hy : y < (T z).length
                  · rw [hz y (by omega), range_at (toldI z) hy]
                  · rw [List.getElem?_eq_none (by omega), List.getElem?_eq_none (by simp; omega)]
                · rw [updF_ne _ _ hzi]; exact hdone z (by omega)
        refine key2 _ 0 h2 (D i) (by omega) (by omega) ?_ (hlen i hin) (fun z hz => by omega)
        have e : updF D i (D i) = D := by
          funext z
          by_cases hzi : z = i
          · subst hzi; rw [updF_same]
          · rw [updF_ne _ _ hzi]
        rw [e]; exact p2
      · have hin : i = n := by omega
        have p2' : PA cI 1 3 n h h2 A (fun i => (List.range (T i).length).map (toldI i)) := ⟨fun j hj => by have := p2.own j hj; rw [hdone j (by omega)] at this; exact this, p2.ap, p2.only⟩
        have nl : Owns h2 (⟨none, 0, 0⟩ : Sl) tn_Slint 1 (([] : List Sl).flatMap cS8) := by simpa using Owns.nil h2 tn_Slint 1
        refine app_of2 el_SlSlint nl ts2.reads (fun v hv => one_cS v hv) (by rw [hl]; show (0 + n + (0 + n) / 4 + 256) * 24 ≤ _; omega) fun c h3 w3 l3 o3 => ?_
        rcases o3 with ⟨o1, o2, o3⟩ | ⟨b, o1, o2, o3⟩
        · have e3 : Ext h2 h3 := o3.mono fun x hx hb => by simp [Sl.blk] at hb
          exact p3 h3 c (by simpa using w3) (ts2.ext e3) (fun x hx => by simp [Sl.blk, o1] at hx) (p2'.ext e3)
        · refine p3 h3 c (by simpa using w3) (ts2.ext o3) (fun x hx => ?_) (p2'.ext o3)
          have := p2.only.size
          simp [Sl.blk, o1] at hx; omega
  exact ⟨n + 1, key _ 0 h T (by omega) (by omega) pa (fun j hj => rfl) fun j hj => by omega⟩
end Go.Proofs.Ytidpbnbjpglhfaa.V
namespace Go.Proofs.Ytidpbnbjpglhfaa.V
open Go
set_option linter.unusedVariables false
set_option linter.unusedSimpArgs false
/-- Lists that were told, each in memory of its own, newer than a heap. -/
structure LB {α : Type} (f : α → List Value) (kk : Nat) (e : TypeId) (base h : H) (Z : List (Sl × List α)) : Prop where
  own : ∀ p ∈ Z, Owns h p.1 e kk (p.2.flatMap f)
  ap : Z.Pairwise fun p q => ∀ b, p.1.blk = some b → q.1.blk ≠ some b
  mine : ∀ p ∈ Z, Mine base p.1
section
variable {α : Type} {f : α → List Value} {kk : Nat} {e : TypeId} {base h h' : H} {Z : List (Sl × List α)}
theorem LB.nil : LB f kk e base h [] := ⟨(fun p hp => by cases hp), List.Pairwise.nil, (fun p hp => by cases hp)⟩
theorem LB.ext (v : LB f kk e base h Z) (x : Ext h h') : LB f kk e base h' Z := ⟨fun p hp => (v.own p hp).ext x, v.ap, v.mine⟩
theorem LB.typ (v : LB f kk e base h Z) {s : Sl} {e' : TypeId} {k' : Nat} {ds : List Value} (o : Only (fun b => s.blk = some b) h h') (ws : Owns h s e' k' ds) (he : e ≠ e') : LB f kk e base h' Z := ⟨fun p hp => own_typ (v.own p hp) o ws he, v.ap, v.mine⟩
theorem LB.add (v : LB f kk e base h Z) (eb : Ext base h) (x : Ext h h') {s : Sl} {R : List α} (w : Owns h' s e kk (R.flatMap f)) (m : Mine h s) : LB f kk e base h' (Z ++ [(s, R)]) := by
  refine ⟨fun p hp => ?_, List.pairwise_append.2 ⟨v.ap, List.pairwise_singleton _ _, fun p hp q hq b hb hb2 => ?_⟩, fun p hp => ?_⟩
  · rcases List.mem_append.1 hp with hp | hp
    · exact (v.own p hp).ext x
    · obtain rfl := List.mem_singleton.1 hp; exact w
  · obtain rfl := List.mem_singleton.1 hq
    have h1 := (v.own p hp).blk_lt hb
    have h2 := m b hb2
    omega
  · rcases List.mem_append.1 hp with hp | hp
    · exact v.mine p hp
    · obtain rfl := List.mem_singleton.1 hp; exact m.older eb
theorem getD_map {β : Type} (Z : List (Sl × List α)) (g : Sl × List α → β) (d : Sl × List α) : (List.range Z.length).map (fun j => g (Z.getD j d)) = Z.map g := by
  apply List.ext_getElem?
  intro j
  by_cases hj : j < Z.length
  · simp [hj]
  · rw [List.getElem?_eq_none (by simpa using hj), List.getElem?_eq_none (by simpa using hj)]
theorem LB.pa (v : LB f kk e base h Z) (d : Sl × List α) : PA f kk e Z.length h h (fun j => (Z.getD j d).1) (fun j => (Z.getD j d).2) := by
  have g : ∀ i, i < Z.length → Z.getD i d ∈ Z := fun i hi => by simp [hi]
  have hp := List.pairwise_iff_getElem.1 v.ap
  refine ⟨fun i hi => v.own _ (g i hi), fun i j hi hj hij b hb => ?_, .refl _⟩
  have gi : Z.getD i d = Z[i] := by simp [hi]
  have gj : Z.getD j d = Z[j] := by simp [hj]
  rcases Nat.lt_or_gt_of_ne hij with h | h
  · have := hp i j hi hj h b
    rw [gi] at hb; rw [gj]; exact this hb
  · have := hp j i hj hi h b
    rw [gi] at hb; rw [gj]; exact fun h2 => this h2 hb
/-- The blocks of lists that were told are written: what is of another kind stays. -/
theorem LB.oth (v : LB f kk e base h Z) (d : Sl × List α) (o : Only (fun b => ∃ i, i < Z.length ∧ (Z.getD i d).1.blk = some b) h h') {s : Sl} {e' : TypeId} {k' : Nat} {cs : List Value} (w : Owns h s e' k' cs) (he : e' ≠ e) : Owns h' s e' k' cs :=
  (v.pa d).other o w he
theorem LB.still (v : LB f kk e base h Z) (d : Sl × List α) (eb : Ext base h) (o : Only (fun b => ∃ i, i < Z.length ∧ (Z.getD i d).1.blk = some b) h h') : Ext base h' :=
  eb.step o fun n hn ⟨i, hi, hb⟩ => by
    have := v.mine (Z.getD i d) (by simp [hi]) n hb
    omega
end
theorem app3 {t e : TypeId} {bytes : Nat} {z : Value} {base h : H} {s a b c : Sl} {D : List Sl} {K : Sl → H → Prop} (el : El PP t e 1 bytes z) (eb : Ext base h) (m : Mine base s) (w : Owns h s e 1 (D.flatMap cS8)) (hl : (D.length + 3 + (D.length + 3) / 4 + 256) * bytes ≤ 281474976710656)
    (k : ∀ s' h1 h', Ext h h1 → Owns h1 s e 1 (D.flatMap cS8) → Owns h' s' e 1 ((D ++ [a, b, c]).flatMap cS8) → Mine base s' → Ext base h' → Only (fun b => s.blk = some b) h1 h' → K s' h') :
    newL h #[a.enc, b.enc, c.enc] e 3 fun s7 h6 => runL PP (Builtin.append_ #[t, t] t #[s.enc, s7.enc]) h6 fun s9 h8 => K s9 h8 := by
  refine newL_of fun n6 h6 hn6 b6 e6 sz6 => ?_
  refine app_mine (h0 := base) (L := D) (M := [a, b, c]) (eb.trans e6) m cS8_len (by omega) el (w.ext e6) (blk_reads b6 rfl) (fun x => one1 rfl) hl fun r h' q1 q2 q3 q4 q5 => k r h6 h' e6 (w.ext e6) q1 q3 q2 q4
theorem mR_nil1 (X : List Rw8) : mR [[], X] = X := by
  show List.merge [] (List.merge X [] leC) leC = X
  rw [merge_nil', List.nil_merge]
theorem sup_lists {LL : List (List Int)} {R : List Int} (hup : ∀ A ∈ LL, Up A) (hR : SUp R) (hm : ∀ z, z ∈ R ↔ ∃ A ∈ LL, z ∈ A) : listsM leI (LL.length + 1) LL = R := by
  have hf := lists_facts (LL.length + 1) LL (Nat.lt_succ_self _) hup
  exact sup_unique _ _ hf.1 hR fun z => by rw [hf.2, hm]
/-- Both ways to merge two lists of numbers tell the same. -/
theorem up_first {a : Int} {l : List Int} (h : Up (a :: l)) : Up ((a - 1) :: l) := by
  have h1 := List.pairwise_cons.1 h
  exact List.pairwise_cons.2 ⟨fun z hz => by have := h1.1 z hz; omega, h1.2⟩
theorem book_end {h0 h : H} {most : Int} {r7 r11 s31 s35 : Sl} {X Y : List Rw8} {J1 J2 : List Int} {Q : Bool → H → Prop} (e0 : Ext h0 h) (w7 : Owns h r7 tn_api_Row 7 (Y.flatMap cW)) (w31 : Owns h s31 tn_api_Row 7 (X.flatMap cW)) (w11 : Owns h r11 3 1 (J2.flatMap cI)) (w35 : Owns h s35 3 1 (J1.flatMap cI))
    (hX : X.length ≤ 200) (hY : Y.length ≤ 200) (h1 : J1.length ≤ 200) (h2 : J2.length ≤ 200) (u1 : Up J1) (u2 : Up J2) (k : ∀ h', Ext h0 h' → Q true h') : F.spatelaw8_MergeBook.j8 Q most r7 r11 s31 s35 h := by
  unfold F.spatelaw8_MergeBook.j8
  have rows : ∀ {hh : H}, Ext h hh → ∀ p ∈ [(s31, X), (r7, Y)], Owns hh p.1 tn_api_Row 7 (p.2.flatMap cW) := fun e p hp => by
    simp only [List.mem_cons, List.not_mem_nil, or_false] at hp
    rcases hp with rfl | rfl
    · exact w31.ext e
    · exact w7.ext e
  have ints : ∀ {hh : H}, Ext h hh → ∀ p ∈ [(s35, J1), (r11, J2)], Owns hh p.1 3 1 (p.2.flatMap cI) := fun e p hp => by
    simp only [List.mem_cons, List.not_mem_nil, or_false] at hp
    rcases hp with rfl | rfl
    · exact w35.ext e
    · exact w11.ext e
  have lg : (mR [X, Y]).length ≤ 400 := by rw [mR2]; simp [mg, List.length_merge]; omega
  refine call_rowsM (ss := [s31, r7]) (Ls := [X, Y]) rfl (by simp) (row_of (l := [(s31, X), (r7, Y)]) (rows (.refl _))) (by omega) fun r128 h127 w128 m128 e128 => ?_
  refine newL_of fun n130 h129 hn130 b130 e130 z130 => ?_
  have e129 := e128.trans e130
  refine RRows_spec (ss := [s31, r7]) (Ls := [X, Y]) ⟨blk_reads b130 (by rfl), rfl, fun i s R g1 g2 => by
    have := row_of (rows e129) i s R g1 g2
    exact ⟨this.reads, cap_of this⟩⟩ (by simp) (by omega) fun r132 h131 w132 m132 e132 => ?_
  refine SameRows_spec ((w128.ext e130).ext e132).reads w132.reads (by rw [List.length_take]; omega) (fun _ => ⟨fun _ => ?_, fun g => by cases g⟩) fun hne => absurd rfl hne
  have e131 := e129.trans e132
  have hup : ∀ A ∈ [J1, J2], Up A := fun A hA => by
    simp only [List.mem_cons, List.not_mem_nil, or_false] at hA
    rcases hA with rfl | rfl
    · exact u1
    · exact u2
  have hle : ∀ A ∈ [J1, J2], A.length ≤ 200 := fun A hA => by
    simp only [List.mem_cons, List.not_mem_nil, or_false] at hA
    rcases hA with rfl | rfl <;> omega
  refine call_lists (ss := [s35, r11]) (LL := [J1, J2]) rfl (by simp) (fun i s A g1 g2 => ?_) (fun A hA => by have := hle A hA; omega) fun r139 h138 w139 m139 e139 => ?_
  · have := (int_of (ints e131)).2 i s A g1 g2
    match i, g1, g2 with
    | 0, g1, g2 => cases g1; cases g2; exact w35.ext e131
    | 1, g1, g2 => cases g1; cases g2; exact w11.ext e131
    | n + 2, g1, g2 => cases g1
  refine newL_of fun n141 h140 hn141 b141 e141 z141 => ?_
  have e140 := (e131.trans e139).trans e141
  refine refLists_spec (SL := [s35, r11]) (LL := [J1, J2]) ⟨blk_reads b141 rfl, Nat.le_refl _⟩ (int_of (ints e140)) (fun b hb => by simp [Sl.blk] at hb; omega) (by simp) (getD_len (fun A hA => by have := hle A hA; omega) (by omega)) (getD_up hup) fun r143 h142 R hR hmR w143 e143 m143 => ?_
  have heq := sup_lists hup hR hmR
  have hlen := lists_le hle ([J1, J2].length + 1)
  rw [heq] at w139 hlen
  have w139' := (w139.ext e141).ext e143
  simp only [List.length_cons, List.length_nil] at hlen
  exact same_spec (A := R) ⟨w139'.reads, cap_of w139'⟩ ⟨w143.reads, cap_of w143⟩ (by omega) (k h142 (e0.trans (e140.trans e143)))
end Go.Proofs.Ytidpbnbjpglhfaa.V
namespace Go.Proofs.Ytidpbnbjpglhfaa.V
open Go
set_option linter.unusedVariables false
set_option linter.unusedSimpArgs false
theorem call_refrows {h : H} {most : Int} {l : List (Sl × List Rw8)} {ss : List Sl} {Q : Sl → H → Prop} (hs : ss = l.map (·.1)) (hn : l.length < 1000) (rows : ∀ p ∈ l, Owns h p.1 tn_api_Row 7 (p.2.flatMap cW)) (hm : (mR (l.map (·.2))).length < 100000)
    (k : ∀ r h', Owns h' r tn_api_Row 7 (((mR (l.map (·.2))).take most.toNat).flatMap cW) → Mine h r → Ext h h' → Q r h') : newL h (ss.flatMap cS8).toArray tn_Slapi_Row ss.length fun s h2 => F.spateref8_Rows most s h2 Q := by
  subst hs
  refine newL_of fun n h2 hn2 b2 e2 s2 => ?_
  refine RRows_spec (ss := l.map (·.1)) (Ls := l.map (·.2)) ⟨blk_reads b2 (by rw [flat_len _ 1 cS8_len]), by simp, fun i s R h1 h3 => ?_⟩ (by rw [List.length_map]; omega) hm fun r h3 w m e => k r h3 w (m.older e2) (e2.trans e)
  have := (row_of rows i s R h1 h3).ext e2
  exact ⟨this.reads, cap_of this⟩
theorem call_reflists {h : H} {l : List (Sl × List Int)} {ss : List Sl} {Q : Sl → H → Prop} (hs : ss = l.map (·.1)) (hn : l.length < 1000) (ints : ∀ p ∈ l, Owns h p.1 3 1 (p.2.flatMap cI)) (hb : ∀ p ∈ l, p.2.length ≤ 1000) (hup : ∀ p ∈ l, Up p.2)
    (k : ∀ r h' R, R = listsM leI ((l.map (·.2)).length + 1) (l.map (·.2)) → Owns h' r 3 1 (R.flatMap cI) → Mine h r → Ext h h' → Q r h') : newL h (ss.flatMap cS8).toArray tn_Slint ss.length fun s h2 => F.spateref8_Lists s h2 Q := by
  subst hs
  have hup' : ∀ A ∈ l.map (·.2), Up A := fun A hA => by obtain ⟨p, hp, rfl⟩ := List.mem_map.1 hA; exact hup p hp
  have hle : ∀ A ∈ l.map (·.2), A.length ≤ 1000 := fun A hA => by obtain ⟨p, hp, rfl⟩ := List.mem_map.1 hA; exact hb p hp
  refine newL_of fun n h2 hn2 b2 e2 s2 => ?_
  refine refLists_spec (SL := l.map (·.1)) (LL := l.map (·.2)) ⟨blk_reads b2 (by rw [flat_len _ 1 cS8_len]), Nat.le_refl _⟩ (int_of fun p hp => (ints p hp).ext e2) (fun b hb => by simp [Sl.blk] at hb; omega) (by rw [List.length_map]; omega) (getD_len (fun A hA => by have := hle A hA; omega) (by omega)) (getD_up hup') fun r h3 R hR hmR w e m => ?_
  exact k r h3 R (sup_lists hup' hR hmR).symm w (m.older e2) (e2.trans e)
theorem call_rowsL {h : H} {most : Int} {l : List (Sl × List Rw8)} {ss : List Sl} {Q : Sl → H → Prop} (hs : ss = l.map (·.1)) (hn : l.length < 1000) (rows : ∀ p ∈ l, Owns h p.1 tn_api_Row 7 (p.2.flatMap cW)) (hm : (mR (l.map (·.2))).length < 100000)
    (k : ∀ r h', Owns h' r tn_api_Row 7 (((mR (l.map (·.2))).take most.toNat).flatMap cW) → Mine h r → Ext h h' → Q r h') : newL h (ss.flatMap cS8).toArray tn_Slapi_Row ss.length fun s h2 => F.merge_Rows most s h2 Q := by
  subst hs
  exact call_rowsM (Ls := l.map (·.2)) (by simp) (by rw [List.length_map]; omega) (row_of rows) hm k
theorem call_listsL {h : H} {l : List (Sl × List Int)} {ss : List Sl} {Q : Sl → H → Prop} (hs : ss = l.map (·.1)) (hn : l.length < 1000) (ints : ∀ p ∈ l, Owns h p.1 3 1 (p.2.flatMap cI)) (hb : ∀ p ∈ l, p.2.length ≤ 1000)
    (k : ∀ r h', Owns h' r 3 1 ((listsM leI ((l.map (·.2)).length + 1) (l.map (·.2))).flatMap cI) → Mine h r → Ext h h' → Q r h') : newL h (ss.flatMap cS8).toArray tn_Slint ss.length fun s h2 => F.merge_Lists_int s h2 Q := by
  subst hs
  refine call_lists (LL := l.map (·.2)) (by simp) (by rw [List.length_map]; omega) (fun i s A g1 g2 => ?_) (fun A hA => by obtain ⟨p, hp, rfl⟩ := List.mem_map.1 hA; exact hb p hp) k
  rw [List.getElem?_map] at g1 g2
  cases hx : l[i]? with
  | none => rw [hx] at g1; cases g1
  | some p => rw [hx] at g1 g2; cases g1; cases g2; exact ints p (List.mem_of_getElem? hx)
theorem lists_nil1 {J : List Int} (h : Up J) : listsM leI ([[], J].length + 1) [[], J] = listsM leI ([J].length + 1) [J] := by
  have h1 : ∀ A ∈ [[], J], Up A := fun A hA => by
    simp only [List.mem_cons, List.not_mem_nil, or_false] at hA
    rcases hA with rfl | rfl
    · exact List.Pairwise.nil
    · exact h
  have h2 : ∀ A ∈ [J], Up A := fun A hA => by obtain rfl := List.mem_singleton.1 hA; exact h
  have f1 := lists_facts ([[], J].length + 1) [[], J] (Nat.lt_succ_self _) h1
  have f2 := lists_facts ([J].length + 1) [J] (Nat.lt_succ_self _) h2
  exact sup_unique _ _ f1.1 f2.1 fun z => by rw [f1.2, f2.2]; simp
structure BK (h : H) (r5 r7 r9 r11 r15 r19 r23 r27 s31 s35 : Sl) (X Y W V : List Rw8) (J1 J2 R S : List Int) : Prop where
  w5 : Owns h r5 tn_api_Row 7 (X.flatMap cW)
  w7 : Owns h r7 tn_api_Row 7 (Y.flatMap cW)
  w9 : Owns h r9 3 1 (J1.flatMap cI)
  w11 : Owns h r11 3 1 (J2.flatMap cI)
  w15 : Owns h r15 tn_api_Row 7 (W.flatMap cW)
  w19 : Owns h r19 tn_api_Row 7 (V.flatMap cW)
  w23 : Owns h r23 3 1 (R.flatMap cI)
  w27 : Owns h r27 3 1 (S.flatMap cI)
  w31 : Owns h s31 tn_api_Row 7 (X.flatMap cW)
  w35 : Owns h s35 3 1 (J1.flatMap cI)
theorem BK.ext {h h' : H} {r5 r7 r9 r11 r15 r19 r23 r27 s31 s35 : Sl} {X Y W V : List Rw8} {J1 J2 R S : List Int} (b : BK h r5 r7 r9 r11 r15 r19 r23 r27 s31 s35 X Y W V J1 J2 R S) (e : Ext h h') : BK h' r5 r7 r9 r11 r15 r19 r23 r27 s31 s35 X Y W V J1 J2 R S :=
  ⟨b.w5.ext e, b.w7.ext e, b.w9.ext e, b.w11.ext e, b.w15.ext e, b.w19.ext e, b.w23.ext e, b.w27.ext e, b.w31.ext e, b.w35.ext e⟩
theorem one_mem {α β : Type} {P : α → β → Prop} {a : α} {b : β} (h : P a b) : ∀ p ∈ [(a, b)], P p.1 p.2 := fun p hp => by obtain rfl := List.mem_singleton.1 hp; exact h
theorem two_mem {α β : Type} {P : α → β → Prop} {a c : α} {b d : β} (h : P a b) (h2 : P c d) : ∀ p ∈ [(a, b), (c, d)], P p.1 p.2 := fun p hp => by
  simp only [List.mem_cons, List.not_mem_nil, or_false] at hp
  rcases hp with rfl | rfl
  · exact h
  · exact h2
section
variable {base : H} {most : Int} {r5 r7 r9 r11 r15 r19 r23 r27 s31 s35 : Sl} {X Y W V : List Rw8} {J1 J2 R S : List Int} {Q : Bool → H → Prop}
abbrev rP (h : H) : Sl → List Rw8 → Prop := fun s L => Owns h s tn_api_Row 7 (L.flatMap cW)
abbrev iP (h : H) : Sl → List Int → Prop := fun s L => Owns h s 3 1 (L.flatMap cI)
/-- One pass. -/
theorem book_pass (bk : BK base r5 r7 r9 r11 r15 r19 r23 r27 s31 s35 X Y W V J1 J2 R S) (hW : W = (mR [X, Y]).take most.toNat) (hV : V = (mR [X]).take most.toNat) (hR : R = listsM leI ([J1, J2].length + 1) [J1, J2]) (hS : S = listsM leI ([J1].length + 1) [J1])
    (lX : X.length ≤ 200) (lY : Y.length ≤ 200) (lJ : J1.length ≤ 200) (lJ2 : J2.length ≤ 200) (uJ : Up J1) {C1 : Int → Sl → Sl → Sl → Sl → Sl → Sl → Sl → Sl → Sl → Sl → Int → H → Prop} {x21 : Int}
    (k : ∀ h', Ext base h' → C1 most r5 r7 r9 r11 r15 r19 r23 r27 s31 s35 (IntKind.wrap .i64 (x21 + 1)) h') :
    ∀ (d i : Nat) (h : H) (a c : Sl) (Z : List (Sl × List Rw8)) (Y' : List (Sl × List Int)), i ≤ 3 → 3 - i < d → Z.length = 3 * i → Y'.length = 3 * i → Ext base h → LB cW 7 tn_api_Row base h Z → LB cI 1 3 base h Y' → (∀ p ∈ Z, p.2.length ≤ 400) → (∀ p ∈ Y', p.2.length ≤ 400) →
      Owns h a tn_Slapi_Row 1 ((Z.map (·.1)).flatMap cS8) → Owns h c tn_Slint 1 ((Y'.map (·.1)).flatMap cS8) → Mine base a → Mine base c → F.spatelaw8_MergeBook.l3 Q C1 d most r5 r7 r9 r11 r15 r19 r23 r27 s31 s35 x21 a c (i : Int) h := by
  have lg : (mR [X, Y]).length ≤ 400 := by rw [mR2]; simp [mg, List.length_merge]; omega
  have lg1 : (mR [X]).length ≤ 200 := by rw [show mR [X] = X from merge_nil' X]; exact lX
  have lg2 : (mR [[], X]).length ≤ 200 := by rw [mR_nil1]; exact lX
  have lW : W.length ≤ 400 := by rw [hW, List.length_take]; omega
  have lV : V.length ≤ 400 := by rw [hV, List.length_take]; omega
  have lR : R.length ≤ 400 := by
    rw [hR]
    have := lists_le (LL := [J1, J2]) (n := 200) (fun A hA => by
      simp only [List.mem_cons, List.not_mem_nil, or_false] at hA
      rcases hA with rfl | rfl <;> omega) ([J1, J2].length + 1)
    simpa using this
  have lS : S.length ≤ 400 := by
    rw [hS]
    have := lists_le (LL := [J1]) (n := 200) (fun A hA => by obtain rfl := List.mem_singleton.1 hA; omega) ([J1].length + 1)
    simp only [List.length_cons, List.length_nil] at this ⊢
    omega
  intro d
  induction d with
  | zero => intro i h a c Z Y' _ hd; omega
  | succ d ih =>
    intro i h a c Z Y' hi hd hZ hY' eb lz ly bz by' ta tc ma mc
    unfold F.spatelaw8_MergeBook.l3
    refine ⟨fun g => ?_, fun g => ?_⟩
    · have g := of_decide_eq_true g
      have b0 := bk.ext eb
      refine call_rowsL (l := [(s31, X), (r7, Y)]) rfl (by simp) (two_mem (P := rP h) b0.w31 b0.w7) (by show (mR [X, Y]).length < _; omega) fun r41 h40 w41 m41 e40 => ?_
      have b1 := b0.ext e40
      refine call_rowsL (l := [(s31, X)]) rfl (by simp) (one_mem (P := rP h40) b1.w31) (by show (mR [X]).length < _; omega) fun r45 h44 w45 m45 e44 => ?_
      have b2 := b1.ext e44
      refine call_rowsL (l := [(⟨none, 0, 0⟩, []), (s31, X)]) rfl (by simp) (two_mem (P := rP h44) (Owns.nil h44 tn_api_Row 7) b2.w31) (by show (mR [[], X]).length < _; omega) fun r49 h48 w49 m49 e48 => ?_
      have w41' : Owns h40 r41 tn_api_Row 7 (W.flatMap cW) := by rw [hW]; exact w41
      have w45' : Owns h44 r45 tn_api_Row 7 (V.flatMap cW) := by rw [hV]; exact w45
      have w49' : Owns h48 r49 tn_api_Row 7 (V.flatMap cW) := by
        rw [hV, show mR [X] = X from merge_nil' X]
        have := w49
        simp only [List.map_cons, List.map_nil, mR_nil1] at this
        exact this
      have e148 := (e40.trans e44).trans e48
      have lz1 := ((lz.add eb e40 w41' m41).add (eb.trans e40) e44 w45' m45).add (eb.trans (e40.trans e44)) e48 w49' m49
      refine app3 (a := r41) (b := r45) (c := r49) el_SlSlapi_Row (eb.trans e148) ma (ta.ext e148) (by rw [List.length_map]; omega) fun s53 h50 h52 e50 ta50 w53 m53 eb52 o52 => ?_
      have lz2 := (lz1.ext e50).typ o52 ta50 (by decide)
      have e150 := e148.trans e50
      have ly2 := (ly.ext e150).typ o52 ta50 (by decide)
      have tc2 := own_typ (tc.ext e150) o52 ta50 (by decide)
      have b3 := bk.ext eb52
      refine call_listsL (l := [(s35, J1), (r11, J2)]) rfl (by simp) (two_mem (P := iP h52) b3.w35 b3.w11) (two_mem (P := fun (_ : Sl) (A : List Int) => A.length ≤ 1000) (by omega) (by omega)) fun r57 h56 w57 m57 e56 => ?_
      have b4 := b3.ext e56
      refine call_listsL (l := [(s35, J1)]) rfl (by simp) (one_mem (P := iP h56) b4.w35) (one_mem (P := fun (_ : Sl) (A : List Int) => A.length ≤ 1000) (by omega)) fun r61 h60 w61 m61 e60 => ?_
      have b5 := b4.ext e60
      refine call_listsL (l := [(⟨none, 0, 0⟩, []), (s35, J1)]) rfl (by simp) (two_mem (P := iP h60) (Owns.nil h60 3 1) b5.w35) (two_mem (P := fun (_ : Sl) (A : List Int) => A.length ≤ 1000) (by simp) (by omega)) fun r65 h64 w65 m65 e64 => ?_
      have w57' : Owns h56 r57 3 1 (R.flatMap cI) := by rw [hR]; exact w57
      have w61' : Owns h60 r61 3 1 (S.flatMap cI) := by rw [hS]; exact w61
      have w65' : Owns h64 r65 3 1 (S.flatMap cI) := by
        rw [hS, ← lists_nil1 uJ]; exact w65
      have e164 := (e56.trans e60).trans e64
      have ly3 := ((ly2.add eb52 e56 w57' m57).add (eb52.trans e56) e60 w61' m61).add (eb52.trans (e56.trans e60)) e64 w65' m65
      refine app3 (a := r57) (b := r61) (c := r65) el_SlSlint (eb52.trans e164) mc (tc2.ext e164) (by rw [List.length_map]; omega) fun s69 h66 h68 e66 tc66 w69 m69 eb68 o68 => ?_
      have e166 := e164.trans e66
      have ly4 := (ly3.ext e66).typ o68 tc66 (by decide)
      have lz4 := (lz2.ext e166).typ o68 tc66 (by decide)
      have w53' := own_typ (w53.ext e166) o68 tc66 (by decide)
      have b6 := bk.ext eb68
      have x41 := lz4.own (r41, W) (by simp)
      have x45 := lz4.own (r45, V) (by simp)
      have x49 := lz4.own (r49, V) (by simp)
      have x57 := ly4.own (r57, R) (by simp)
      have x61 := ly4.own (r61, S) (by simp)
      have x65 := ly4.own (r65, S) (by simp)
      have q0 : IntKind.wrap .i64 (3 * (i : Int)) = ((3 * i : Nat) : Int) := by rw [w64 (by omega) (by omega)]; omega
      have q1 : IntKind.wrap .i64 (((3 * i : Nat) : Int) + 1) = ((3 * i + 1 : Nat) : Int) := w64s (by omega)
      have q2 : IntKind.wrap .i64 (((3 * i : Nat) : Int) + 2) = ((3 * i + 2 : Nat) : Int) := by rw [w64 (by omega) (by omega)]; omega
      rw [q0, q1, q2]
      have at_ : ∀ (L : List Sl) (x y z : Sl), L.length = 3 * i → (L ++ [x, y, z])[3 * i]? = some x ∧ (L ++ [x, y, z])[3 * i + 1]? = some y ∧ (L ++ [x, y, z])[3 * i + 2]? = some z := fun L x y z hL => by
        refine ⟨?_, ?_, ?_⟩ <;> rw [List.getElem?_append_right (by omega)] <;> rw [hL]
        · rw [Nat.sub_self]; rfl
        · rw [Nat.add_sub_cancel_left]; rfl
        · rw [Nat.add_sub_cancel_left]; rfl
      obtain ⟨g1, g2, g3⟩ := at_ (Z.map (·.1)) r41 r45 r49 (by simpa using hZ)
      obtain ⟨g4, g5, g6⟩ := at_ (Y'.map (·.1)) r57 r61 r65 (by simpa using hY')
      refine tab_at w53'.reads g1 ?_
      refine SameRows_spec (A := W) (C := W) x41.reads b6.w15.reads (by omega) (fun _ => ⟨fun g => (by cases g), fun _ => ?_⟩) fun hne => absurd rfl hne
      refine tab_at w53'.reads g2 ?_
      refine SameRows_spec (A := V) (C := V) x45.reads b6.w19.reads (by omega) (fun _ => ⟨fun g => (by cases g), fun _ => ?_⟩) fun hne => absurd rfl hne
      refine tab_at w53'.reads g3 ?_
      refine SameRows_spec (A := V) (C := V) x49.reads b6.w19.reads (by omega) (fun _ => ⟨fun g => (by cases g), fun _ => ?_⟩) fun hne => absurd rfl hne
      refine tab_at w69.reads g4 ?_
      refine same_spec (A := R) ⟨x57.reads, cap_of x57⟩ ⟨b6.w23.reads, cap_of b6.w23⟩ (by omega) ⟨fun g => (by cases g), fun _ => ?_⟩
      refine tab_at w69.reads g5 ?_
      refine same_spec (A := S) ⟨x61.reads, cap_of x61⟩ ⟨b6.w27.reads, cap_of b6.w27⟩ (by omega) ⟨fun g => (by cases g), fun _ => ?_⟩
      refine tab_at w69.reads g6 ?_
      refine same_spec (A := S) ⟨x65.reads, cap_of x65⟩ ⟨b6.w27.reads, cap_of b6.w27⟩ (by omega) ?_
      unfold F.spatelaw8_MergeBook.j5 F.spatelaw8_MergeBook.j4
      refine ⟨fun g => (by cases g), fun _ => ?_⟩
      rw [w64s (by omega)]
      have bz' : ∀ p ∈ Z ++ [(r41, W)] ++ [(r45, V)] ++ [(r49, V)], p.2.length ≤ 400 := fun p hp => by
        simp only [List.mem_append, List.mem_singleton] at hp
        rcases hp with ((hp | rfl) | rfl) | rfl
        · exact bz p hp
        · exact lW
        · exact lV
        · exact lV
      have by'' : ∀ p ∈ Y' ++ [(r57, R)] ++ [(r61, S)] ++ [(r65, S)], p.2.length ≤ 400 := fun p hp => by
        simp only [List.mem_append, List.mem_singleton] at hp
        rcases hp with ((hp | rfl) | rfl) | rfl
        · exact by' p hp
        · exact lR
        · exact lS
        · exact lS
      exact ih (i + 1) h68 s53 s69 _ _ (by omega) (by omega) (by simp; omega) (by simp; omega) eb68 lz4 ly4 bz' by'' (by simpa using w53') (by simpa using w69) m53 m69
    · have hi3 : i = 3 := by have := of_decide_eq_false g; omega
      subst hi3
      have dZ : Sl × List Rw8 := (⟨none, 0, 0⟩, [])
      have dY : Sl × List Int := (⟨none, 0, 0⟩, [])
      have hb : ∀ {α : Type} (L : List (Sl × List α)) (dd : Sl × List α), (∀ p ∈ L, p.2.length ≤ 400) → ∀ j, j < L.length → (L.getD j dd).2.length ≤ 100000 := fun L dd hL j hj => by
        have := hL (L.getD j dd) (by simp [hj]); omega
      refine GrownRows_spec (n := Z.length) (A := fun j => (Z.getD j dZ).1) (T := fun j => (Z.getD j dZ).2) (by rw [getD_map Z (·.1) dZ]; exact ta) (by omega) (lz.pa dZ) (hb Z dZ bz) fun h113 o113 => ⟨fun g => (by cases g), fun _ => ?_⟩
      have eb1 := lz.still dZ eb o113
      have tc1 := lz.oth dZ o113 tc (by decide)
      have ly1 : LB cI 1 3 base h113 Y' := ⟨fun p hp => lz.oth dZ o113 (ly.own p hp) (by decide), ly.ap, ly.mine⟩
      refine GrownInts_spec (n := Y'.length) (A := fun j => (Y'.getD j dY).1) (T := fun j => (Y'.getD j dY).2) (by rw [getD_map Y' (·.1) dY]; exact tc1) (by omega) (ly1.pa dY) (hb Y' dY by') fun h116 o116 => ⟨fun g => (by cases g), fun _ => ?_⟩
      have eb2 := ly1.still dY eb1 o116
      have b0 := bk.ext eb2
      refine SameRows_spec b0.w31.reads b0.w5.reads (by omega) (fun _ => ⟨fun g => (by cases g), fun _ => ?_⟩) fun hne => absurd rfl hne
      refine same_spec (A := J1) ⟨b0.w35.reads, cap_of b0.w35⟩ ⟨b0.w9.reads, cap_of b0.w9⟩ (by omega) ?_
      unfold F.spatelaw8_MergeBook.j6 F.spatelaw8_MergeBook.j2
      exact ⟨fun g => (by cases g), fun _ => k h116 eb2⟩
end
end Go.Proofs.Ytidpbnbjpglhfaa.V
namespace Go.Proofs.Ytidpbnbjpglhfaa.V
open Go
set_option linter.unusedVariables false
set_option linter.unusedSimpArgs false
theorem MergeBook_spec {h : H} {p0 : Int} {s1 s2 s3 s4 : Sl} {A1 A2 : List Rw8} {I1 I2 : List Int} {Q : Bool → H → Prop} (t1 : Reads h s1 7 (A1.flatMap cW)) (t2 : Reads h s2 7 (A2.flatMap cW)) (t3 : Lst h s3 cI I1) (t4 : Lst h s4 cI I2)
    (b1 : A1.length ≤ 9223372036854775807) (b2 : A2.length ≤ 9223372036854775807) (b3 : I1.length ≤ 9223372036854775807) (b4 : I2.length ≤ 9223372036854775807) (q3 : I1 ≠ [] → ∀ b, s3.blk = some b → b < h.size) (q4 : I2 ≠ [] → ∀ b, s4.blk = some b → b < h.size)
    (i64 : ∀ n ∈ I1, -9223372036854775808 ≤ n ∧ n < 9223372036854775808) (k : ∀ h', Ext h h' → Q true h') : F.spatelaw8_MergeBook p0 s1 s2 s3 s4 h Q := by
  unfold F.spatelaw8_MergeBook
  refine known8_spec fun h1 e1 => ⟨fun g => by simp at g, fun _ => ?_⟩
  refine ordered_spec (t1.only e1 fun _ _ f => f) (by omega) fun r5 h4 w5 m5 e4 => ?_
  have e14 := e1.trans e4
  refine ordered_spec (t2.only e14 fun _ _ f => f) (by omega) fun r7 h6 w7 m7 e6 => ?_
  have e16 := e14.trans e6
  refine rising_spec (t3.ext e16) (fun hn b hb => Nat.lt_of_lt_of_le (q3 hn b hb) e16.size) (by omega) fun r9 h8 w9 e8 m9 => ?_
  have e18 := e16.trans e8
  refine rising_spec (t4.ext e18) (fun hn b hb => Nat.lt_of_lt_of_le (q4 hn b hb) e18.size) (by omega) fun r11 h10 w11 e10 m11 => ?_
  have e110 := e18.trans e10
  obtain ⟨sX, lX⟩ := ordL_sc A1
  obtain ⟨sY, lY⟩ := ordL_sc A2
  have lI1 := risL_len I1
  have lI2 := risL_len I2
  have uI1 := risL_up I1
  have uI2 := risL_up I2
  have iI1 : ∀ n ∈ risL I1, n < 9223372036854775808 := fun n hn => (i64 n (risL_mem hn)).2
  generalize ordL A1 = X at w5 sX lX
  generalize ordL A2 = Y at w7 sY lY
  generalize risL I1 = J1 at w9 lI1 uI1 iI1
  generalize risL I2 = J2 at w11 lI2 uI2
  have w5a := ((w5.ext e6).ext e8).ext e10
  have w7a := (w7.ext e8).ext e10
  have w9a := w9.ext e10
  have lg : (mR [X, Y]).length ≤ 400 := by rw [mR2]; simp [mg, List.length_merge]; omega
  have lg1 : (mR [X]).length ≤ 200 := by rw [show mR [X] = X from merge_nil' X]; exact lX
  refine call_refrows (ss := [r5, r7]) (l := [(r5, X), (r7, Y)]) rfl (by simp) (two_mem (P := rP h10) w5a w7a) (by show (mR [X, Y]).length < _; omega) fun r15 h14 w15 m15 e15 => ?_
  refine call_refrows (ss := [r5]) (l := [(r5, X)]) rfl (by simp) (one_mem (P := rP h14) (w5a.ext e15)) (by show (mR [X]).length < _; omega) fun r19 h18 w19 m19 e19 => ?_
  have e118 := e15.trans e19
  refine call_reflists (ss := [r9, r11]) (l := [(r9, J1), (r11, J2)]) rfl (by simp) (two_mem (P := iP h18) (w9a.ext e118) (w11.ext e118)) (two_mem (P := fun (_ : Sl) (A : List Int) => A.length ≤ 1000) (by omega) (by omega)) (two_mem (P := fun (_ : Sl) (A : List Int) => Up A) uI1 uI2) fun r23 h22 R hR w23 m23 e23 => ?_
  have e122 := e118.trans e23
  refine call_reflists (ss := [r9]) (l := [(r9, J1)]) rfl (by simp) (one_mem (P := iP h22) (w9a.ext e122)) (one_mem (P := fun (_ : Sl) (A : List Int) => A.length ≤ 1000) (by omega)) (one_mem (P := fun (_ : Sl) (A : List Int) => Up A) uI1) fun r27 h26 S hS w27 m27 e27 => ?_
  have e126 := e122.trans e27
  refine copy8 (D := X) (h0 := h26) el_Slapi_Row cW_len (by omega) (fun x => ones_S_api_Row x) (.refl _) (w5a.ext e126).reads (by omega) fun s31 h30 w31 m31 e31 => ?_
  have u31 := Btw.of m31 w31
  have e130 := e126.trans e31
  refine copy8 (D := J1) (h0 := h30) el_Slint cI_len (by omega) (fun x => one1 rfl) (.refl _) (w9a.ext e130).reads (by omega) fun s35 h34 w35 m35 e35 => ?_
  have u35 := Btw.of m35 w35
  have e134 := e130.trans e35
  have eall : Ext h h34 := e110.trans e134
  have bk : BK h34 r5 r7 r9 r11 r15 r19 r23 r27 s31 s35 X Y ((mR [X, Y]).take p0.toNat) ((mR [X]).take p0.toNat) J1 J2 R S :=
    ⟨w5a.ext e134, w7a.ext e134, w9a.ext e134, w11.ext e134, (((w15.ext e19).ext e23).ext e27).ext (e31.trans e35), ((w19.ext e23).ext e27).ext (e31.trans e35), (w23.ext e27).ext (e31.trans e35), w27.ext (e31.trans e35), w31.ext e35, w35⟩
  have zs1 := e110.size
  have zs2 := e126.size
  have zs3 := e31.size
  -- behind the passes: what came in is written over
  have last : ∀ h', Ext h34 h' → ((decide ((s31.len : Int) > 0)) = true → idxA s31 0 7 fun a160 => stH h' (a160.add 3) ((⟨77, 7, 7, 7⟩ : S_api_Agg).cells) fun h162 => F.spatelaw8_MergeBook.j7 Q p0 r7 r11 s31 s35 h162) ∧ ((decide ((s31.len : Int) > 0)) = false → F.spatelaw8_MergeBook.j7 Q p0 r7 r11 s31 s35 h') := by
    intro h' e'
    have b := bk.ext e'
    have ee : Ext h h' := eall.trans e'
    have j8 : ∀ (h2 : H) (X2 : List Rw8) (J : List Int), Ext h h2 → Owns h2 r7 tn_api_Row 7 (Y.flatMap cW) → Owns h2 s31 tn_api_Row 7 (X2.flatMap cW) → Owns h2 r11 3 1 (J2.flatMap cI) → Owns h2 s35 3 1 (J.flatMap cI) → X2.length = X.length → J.length = J1.length → Up J → F.spatelaw8_MergeBook.j8 Q p0 r7 r11 s31 s35 h2 :=
      fun h2 X2 J e2 v7 v31 v11 v35 hl hlJ hu => book_end e2 v7 v31 v11 v35 (by omega) lY (by omega) (by omega) hu uI2 k
    have j7 : ∀ (h2 : H) (X2 : List Rw8), Ext h h2 → Owns h2 r7 tn_api_Row 7 (Y.flatMap cW) → Owns h2 s31 tn_api_Row 7 (X2.flatMap cW) → Owns h2 r11 3 1 (J2.flatMap cI) → Owns h2 s35 3 1 (J1.flatMap cI) → X2.length = X.length → F.spatelaw8_MergeBook.j7 Q p0 r7 r11 s31 s35 h2 := by
      intro h2 X2 e2 v7 v31 v11 v35 hl
      unfold F.spatelaw8_MergeBook.j7
      have l35 := own_len cI_len (by omega) v35
      rw [l35]
      refine ⟨fun g => ?_, fun g => ?_⟩
      · have g := of_decide_eq_true g
        obtain ⟨x, J', rfl⟩ : ∃ x J', J1 = x :: J' := by
          cases J1 with
          | nil => simp at g
          | cons x J' => exact ⟨x, J', rfl⟩
        refine intAt8 (i := 0) v35.reads rfl fun a ca => ?_
        refine ldI_of ca.one ?_
        unfold F.spatelaw8_MergeBook.j9
        refine ⟨fun g2 => ?_, fun g2 => j8 h2 X2 _ e2 v7 v31 v11 v35 hl rfl uI1⟩
        have g2 := of_decide_eq_true g2
        refine intAt8 (i := 0) v35.reads rfl fun a ca => ?_
        refine ldI_of ca.one ?_
        have hx := iI1 x (by simp)
        refine put_at (f := cI) (x := IntKind.wrap .i64 (x - 1)) (i := 0) cI_len (by omega) v35 (by simp) fun h3 w3 o3 => ?_
        rw [w64 (by omega) (by omega)] at w3
        refine j8 h3 X2 ((x - 1) :: J') (e2.step o3 fun n hn hb => by have := u35 n hb; omega) (own_typ v7 o3 v35 (by decide)) (own_typ v31 o3 v35 (by decide)) (v11.only o3 fun y hy hb => ?_) w3 hl rfl (up_first uI1)
        have h1 := w11.blk_lt hy
        have h2 := u35 y hb
        have := e130.size
        omega
      · unfold F.spatelaw8_MergeBook.j9
        exact ⟨fun g => (by cases g), fun _ => j8 h2 X2 _ e2 v7 v31 v11 v35 hl rfl uI1⟩
    refine ⟨fun g => ?_, fun g => j7 h' X ee b.w7 b.w31 b.w11 b.w35 rfl⟩
    have l31 := own_len cW_len (by omega) b.w31
    have g := of_decide_eq_true g
    rw [l31] at g
    obtain ⟨x, hx⟩ : ∃ x, X[0]? = some x := ⟨_, List.getElem?_eq_getElem (by omega)⟩
    refine put_in (o := 3) (x := ⟨x.Cell, ⟨77, 7, 7, 7⟩⟩) (i := 0) cW_len (by omega) b.w31 hx rfl (by simp [S_api_Agg.cells]) fun h2 w2 o2 => ?_
    refine j7 h2 _ (ee.step o2 fun n hn hb => by have := u31 n hb; omega) (b.w7.only o2 fun y hy hb => ?_) w2 (own_typ b.w11 o2 b.w31 (by decide)) (own_typ b.w35 o2 b.w31 (by decide)) (by simp)
    have h1 := w7a.blk_lt hy
    have h2 := u31 y hb
    have := e126.size
    omega
  refine ⟨3, ?_⟩
  have key : ∀ (d i : Nat) (h' : H), i ≤ 2 → 2 - i < d → Ext h34 h' → F.spatelaw8_MergeBook.l1 Q d p0 r5 r7 r9 r11 r15 r19 r23 r27 s31 s35 (i : Int) h' := by
    intro d
    induction d with
    | zero => intro i h' _ hd; omega
    | succ d ih =>
      intro i h' hi hd e'
      unfold F.spatelaw8_MergeBook.l1
      refine ⟨fun g => ⟨4, ?_⟩, fun _ => last h' e'⟩
      have g := of_decide_eq_true g
      refine book_pass (bk.ext e') rfl rfl hR hS lX lY lI1 lI2 uI1 (fun h2 e2 => ?_) 4 0 h' _ _ [] [] (by omega) (by omega) rfl rfl (.refl _) .nil .nil (fun p hp => by cases hp) (fun p hp => by cases hp) (Owns.nil _ _ _) (Owns.nil _ _ _) (.nil _ _ _) (.nil _ _ _)
      rw [w64s (by omega)]
      exact ih (i + 1) h2 (by omega) (by omega) (e'.trans e2)
  exact key 3 0 h34 (by omega) (by omega) (.refl _)
end Go.Proofs.Ytidpbnbjpglhfaa.V
