/- The law TableWalks answers true; no condition. -/
import Derived.Test.YtkedkajdiclmjaaTs
namespace Go.Proofs.Ytkedkajdiclmjaa.V
open Go
set_option linter.unusedVariables false
set_option linter.unusedSimpArgs false

section
variable {c : WC} {Q : Bool → H → Prop}
/-- The turns. -/
theorem walk_turns (k : ∀ h', Ext c.h0 h' → Q true h') (hk : ∀ y ∈ c.L, y.1.size < 4611686018427387904) (hL : c.L.length ≤ 120) :
    ∀ (m tn : Nat) (h : H) (ds : List Nat) (rs es : Sl) (T : Tb Int) (x12 : Nat), WI c ds [x12] rs es T h → Blk h x12 #[.int .i64 (tn : Int)] 3 → Bd (200 + 1000 * tn) T → tn ≤ 3 → 3 - tn < m →
      F.spatelaw6_TableWalks.l4 Q m ds ⟨c.c2, 0, none⟩ ⟨c.c4, 0, none⟩ ⟨c.c5, 0, none⟩ ⟨c.c7, 0, none⟩ ⟨c.c8, 0, none⟩ ⟨c.c9, 0, none⟩ ⟨x12, 0, none⟩ h
  | 0, tn, h, ds, rs, es, T, x12, w, b12, bd, ht, hm => by omega
  | m + 1, tn, h, ds, rs, es, T, x12, w, b12, bd, ht, hm => by
    unfold F.spatelaw6_TableWalks.l4
    rw [ldI_iff (b12.cell (i := 0) rfl)]
    simp only [decide_eq_true_eq, decide_eq_false_iff_not]
    refine ⟨fun g => ?_, fun g => w.answer k⟩
    have h12l := block_lt b12
    refine new_of fun x13 h1 h13 b13 e1 z1 => ?_
    refine stH_of b13 (by simp) fun h2 b13' e2 z2 => ?_
    rw [writeA_all (by simp)] at b13'
    have x2 : Ext h h2 := e1.step e2 fun j hj e => by omega
    have w2 : WI c ds [x13, x12] rs es T h2 := w.newz x2 (by omega) (block_lt b13')
    rw [ldV_iff (w2.b9.cell (i := 0) rfl)]
    have s2 := x2.size
    have h13l := block_lt b13'
    -- the record's place: nothing of what is told of lies there
    have nl0 : ¬ c.pz (h2.size + 1) ∧ h2.size + 1 ≠ c.c4 ∧ h2.size + 1 ∉ ds := ⟨fun hp => by have := w2.plt _ hp; omega, fun e => by have := w2.c4lt; omega, fun hd => by have := w2.dk.lt _ hd; omega⟩
    have hk0 := w2.kp.ext.size
    -- behind the range
    have after : ∀ (h' : H) (ds' : List Nat) (rs' es' : Sl) (T' : Tb Int) (j : Nat), ds' = h2.size :: ds → WI c ds [h2.size, x13, x12] rs' es' T' h' → h'[h2.size]? = some (.deferred (some [])) → Blk h' x12 #[.int .i64 (tn : Int)] 3 → Blk h' x13 #[.int .i64 (j : Int)] 3 → Bd (200 + 1000 * tn + 2 * j) T' → j ≤ 120 → (tn = 0 ∨ j = c.L.length) →
        F.spatelaw6_TableWalks.j6 Q (F.spatelaw6_TableWalks.l4 Q m) ds' ⟨c.c2, 0, none⟩ ⟨c.c4, 0, none⟩ ⟨c.c5, 0, none⟩ ⟨c.c7, 0, none⟩ ⟨c.c8, 0, none⟩ ⟨c.c9, 0, none⟩ ⟨x12, 0, none⟩ ⟨x13, 0, none⟩ h' := fun h' ds' rs' es' T' j hds w' hd b12' b13' bd' hj hor => by
      subst hds
      have zd := w'.zz h2.size (by simp)
      have w3 : WI c (h2.size :: ds) [x12] rs' es' T' h' := ⟨w'.kp, w'.t, w'.ok, w'.b2, w'.b4, w'.b5, w'.b7, w'.b8, w'.b9, w'.bk, w'.bv, w'.sq, fun q hq => by
          obtain ⟨p1, p2, p3, p4⟩ := w'.pd q hq
          refine ⟨p1, p2, fun hin => ?_, fun hin => p4 (by simp at hin; subst hin; simp)⟩
          rcases List.mem_cons.1 hin with rfl | hin
          · exact p4 (by simp)
          · exact p3 hin, w'.p0, w'.l4, w'.p4, ⟨List.nodup_cons.2 ⟨zd.2.2.2.2, w'.dk.1⟩, fun q hq => by
          rcases List.mem_cons.1 hq with rfl | hq
          · exact ⟨zd.1, hd⟩
          · exact w'.dk.2 q hq⟩, fun q hq => by
          rcases List.mem_cons.1 hq with rfl | hq
          · exact ⟨zd.2.2.1, zd.2.2.2.1⟩
          · exact w'.dd q hq, fun q hq => by
          simp at hq; subst hq
          obtain ⟨y1, y2, y3, y4, y5⟩ := w'.zz q (by simp)
          exact ⟨y1, y2, y3, y4, fun hin => by
            rcases List.mem_cons.1 hin with hin | hin
            · omega
            · exact y5 hin⟩⟩
      unfold F.spatelaw6_TableWalks.j6
      rw [ldI_iff (b12'.cell (i := 0) rfl)]
      have go : F.spatelaw6_TableWalks.j7 Q (F.spatelaw6_TableWalks.l4 Q m) (h2.size :: ds) ⟨c.c2, 0, none⟩ ⟨c.c4, 0, none⟩ ⟨c.c5, 0, none⟩ ⟨c.c7, 0, none⟩ ⟨c.c8, 0, none⟩ ⟨c.c9, 0, none⟩ ⟨x12, 0, none⟩ false h' := by
        unfold F.spatelaw6_TableWalks.j7
        refine ⟨fun g => (by cases g), fun _ => ?_⟩
        unfold F.spatelaw6_TableWalks.j5
        rw [ldI_iff (b12'.cell (i := 0) rfl)]
        refine new_of fun y h4 hy by4 e4 z4 => ?_
        refine stH_of by4 (by simp) fun h5 b5 e5 z5 => ?_
        rw [writeA_all (by simp)] at b5
        rw [ldI_iff (b5.cell (i := 0) rfl), w64 (by omega) (by omega), show (tn : Int) + 1 = ((tn + 1 : Nat) : Int) from by omega]
        refine stH_of b5 (by simp) fun h6 b6 e6 z6 => ?_
        rw [writeA_all (by simp)] at b6
        have x6 : Ext h' h6 := (e4.step e5 fun j hj e => by omega).step e6 fun j hj e => by omega
        have w6 : WI c (h2.size :: ds) [y, x12] rs' es' T' h6 := w3.newz x6 (by omega) (block_lt b6)
        exact walk_turns k hk hL m (tn + 1) h6 _ rs' es' T' y (w6.sub (by simp)) b6 ⟨by have := bd'.1; omega, by have := bd'.2; omega⟩ (by omega) (by omega)
      simp only [decide_eq_true_eq, decide_eq_false_iff_not]
      refine ⟨fun g2 => ?_, fun g2 => go⟩
      rw [ldI_iff (b13'.cell (i := 0) rfl), ldL_iff (w'.b7.cell (i := 0) rfl)]
      have hkl := own_len cT_len (by omega) w'.bk
      simp only [List.length_map] at hkl
      have : j = c.L.length := by
        rcases hor with h | h
        · omega
        · exact h
      rw [hkl, this]
      simp only [bne_self_eq_false]
      exact go
    refine range_seq (fun i h' => ∃ (rs' es' : Sl) (T' : Tb Int), (WI c ds [h2.size, x13, x12] rs' es' T' h' ∧ ∀ m, FT c.n rs' es' m → m ≠ h2.size + 1) ∧ h'[h2.size]? = some (.deferred (some [])) ∧ Blk h' x12 #[.int .i64 (tn : Int)] 3 ∧ Blk h' x13 #[.int .i64 (i : Int)] 3 ∧ Bd (200 + 1000 * tn + 2 * i) T' ∧ i ≤ 120)
      (fun j h' => j = 1 ∧ tn = 0 ∧ ∃ (i : Nat) (rs' es' : Sl) (T' : Tb Int), (WI c ds [h2.size, x13, x12] rs' es' T' h' ∧ ∀ m, FT c.n rs' es' m → m ≠ h2.size + 1) ∧ h'[h2.size]? = some (.deferred (some [])) ∧ Blk h' x12 #[.int .i64 (tn : Int)] 3 ∧ Blk h' x13 #[.int .i64 (i : Int)] 3 ∧ Bd (200 + 1000 * tn + 2 * i) T' ∧ i ≤ 120)
      (fun i h' h'' t o => ?_) (fun j h' h'' t o => ?_) (fun i h' t => by obtain ⟨_, _, _, ⟨t, _⟩, _⟩ := t; exact t.sq) ?_ (fun X i x hh K J hX hI hll hx kK kJ => ?_) (fun h' t => ?_) (fun j h' t => ?_)
    · obtain ⟨r, e, T', ⟨t1, n1⟩, t2, t3, t4, t5, t6⟩ := t
      exact ⟨r, e, T', ⟨t1.only o fun m hm => by subst hm; exact ⟨by omega, nl0.1, nl0.2.1, fun hf => n1 _ hf rfl, nl0.2.2⟩, n1⟩, o.block t2 (by omega), o.block t3 (by omega), o.block t4 (by omega), t5, t6⟩
    · obtain ⟨t0, t00, i, r, e, T', ⟨t1, n1⟩, t2, t3, t4, t5, t6⟩ := t
      exact ⟨t0, t00, i, r, e, T', ⟨t1.only o fun m hm => by subst hm; exact ⟨by omega, nl0.1, nl0.2.1, fun hf => n1 _ hf rfl, nl0.2.2⟩, n1⟩, o.block t2 (by omega), o.block t3 (by omega), o.block t4 (by omega), t5, t6⟩
    · have d1 : Ext h2 (h2.push (.deferred (some []))) := .push _ _
      exact ⟨rs, es, T, ⟨w2.newz d1 (Nat.le_refl _) (by simp), fun m hm => by have := w2.t.lt m hm; omega⟩, by simp, d1.block (x2.block b12 (fun f => f)) (fun f => f), d1.block b13' (fun f => f), ⟨by have := bd.1; omega, by have := bd.2; omega⟩, by omega⟩
    · obtain ⟨r, e, T', ⟨t1, n1⟩, t2, t3, t4, t5, t6⟩ := hI
      have hlt := (Array.getElem?_eq_some_iff.1 hll).1
      have t1l : WI c ds [h2.size + 1, h2.size, x13, x12] r e T' hh := t1.addz (by omega) hlt ⟨nl0.1, nl0.2.1, nl0.2.2, fun hf => n1 _ hf rfl⟩
      have hi := (List.getElem?_eq_some_iff.1 hx).1
      have hkl := own_len cT_len (by omega) t1.bk
      have hvl := own_len cI_len (by omega) t1.bv
      simp only [List.length_map] at hkl hvl
      rw [ldI_iff (t4.cell (i := 0) rfl), ldL_iff (t1.b7.cell (i := 0) rfl), hkl]
      simp only [ge_iff_le, decide_eq_true_eq, decide_eq_false_iff_not]
      refine ⟨fun g => by omega, fun _ => ?_⟩
      rw [ldL_iff (t1.b7.cell (i := 0) rfl), ldI_iff (t4.cell (i := 0) rfl)]
      obtain ⟨b1, a1, a2⟩ := own_at cT_len (by omega) t1.bk (i := i) (x := x.1) (by rw [List.getElem?_map, hx]; rfl)
      refine idxA_of (i := i) a1 (by omega) rfl ?_
      rw [ldS_iff (by have := a2.one; rwa [Nat.mul_one] at this ⊢)]
      simp only [beq_self_eq_true, Bool.not_true]
      refine ⟨fun g => (by cases g), fun _ => ?_⟩
      rw [ldL_iff (t1.b8.cell (i := 0) rfl), ldI_iff (t4.cell (i := 0) rfl)]
      obtain ⟨b2, a3, a4⟩ := own_at cI_len (by omega) t1.bv (i := i) (x := x.2) (by rw [List.getElem?_map, hx]; rfl)
      refine idxA_of (i := i) a3 (by omega) rfl ?_
      rw [ldI_iff (by have := a4.one; rwa [Nat.mul_one] at this ⊢)]
      simp only [bne_self_eq_false]
      unfold F.spatelaw6_TableWalks.j13
      refine ⟨fun g => (by cases g), fun _ => ?_⟩
      refine walk_j8 (ds := ds) (z := [h2.size + 1, h2.size, x13, x12]) (N := 200 + 1000 * tn + 2 * i) (i := i) (tn := tn) hX t1l (by simp) (by simp) (by simp) (by omega) (by omega) t3 t4 hll hx hk t5 (by omega) (fun h4 r4 s4 T4 w4 bd4 z4 b4 => ?_) (fun h4 r4 s4 T4 w4 bd4 z4 b4 ht0 => ?_)
      · refine kK h4 ⟨r4, s4, T4, ⟨w4.sub (by simp), fun m hm e => (w4.pd m hm).2.2.2 (by rw [e]; simp)⟩, (z4 _ (by simp) (by omega)).trans t2, (z4 x12 (by simp) (by omega)).trans t3, b4, ⟨by have := bd4.1; omega, by have := bd4.2; omega⟩, by omega⟩ ((z4 _ (by simp) (by omega)).trans hll)
      · refine kJ 1 h4 ⟨rfl, ht0, i + 1, r4, s4, T4, ⟨w4.sub (by simp), fun m hm e => (w4.pd m hm).2.2.2 (by rw [e]; simp)⟩, (z4 _ (by simp) (by omega)).trans t2, (z4 x12 (by simp) (by omega)).trans t3, b4, ⟨by have := bd4.1; omega, by have := bd4.2; omega⟩, by omega⟩ ((z4 _ (by simp) (by omega)).trans hll)
    · obtain ⟨r, e, T', ⟨t1, _⟩, t2, t3, t4, t5, t6⟩ := t
      exact after h' _ r e T' c.L.length rfl t1 t2 t3 t4 t5 t6 (.inr rfl)
    · obtain ⟨rfl, t0, i, r, e, T', ⟨t1, _⟩, t2, t3, t4, t5, t6⟩ := t
      exact ⟨_, rfl, (fun e => by cases e), fun _ => after h' _ r e T' i rfl t1 t2 t3 t4 t5 t6 (.inl t0)⟩
end
end Go.Proofs.Ytkedkajdiclmjaa.V
