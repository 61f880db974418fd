/- Chains of wide values, continued: At, Prune; no condition. -/
import Derived.Test.YtapomjhjpejimaaWa
namespace Go.Proofs.Ytapomjhjpejimaa.V
open Go
set_option linter.unusedVariables false
set_option linter.unusedSimpArgs false

theorem cmpW_spec {h : H} {x : Ver} {e : Int} {K : Value → H → Prop} (k : ∀ h', Ext h h' → K (.int .i64 (if x.epoch ≤ e then -1 else 1)) h') : CV PP (.func (.func 76) #[] #[]) [.agg (verW x).cells.toArray, .int .i64 e] h K := by
  refine CV_func (fun a w => Try.call76 a w) ?_
  have : F.chain_Chain_spatelaw5_Wide_place_1 (verW x) e h fun r h' => K (.int .i64 r) h' := by
    unfold F.chain_Chain_spatelaw5_Wide_place_1
    refine new_of fun n h1 e1 e2 e3 e4 => ?_
    simp only [add_lit, Nat.add_zero]
    rw [ldI_iff (e2.cell (v := .int .i64 x.epoch) rfl)]
    simp only [decide_eq_true_eq, decide_eq_false_iff_not]
    refine ⟨fun g => ?_, fun g => ?_⟩
    · have := k h1 e3; rw [if_pos g] at this; exact this
    · have := k h1 e3; rw [if_neg g] at this; exact this
  have := F.chain_Chain_spatelaw5_Wide_place_1_ok this
  simp only [List.append_toArray, Array.empty_append, Array.append_empty]
  exact this.mono fun r h' ⟨r0, e, q⟩ => by subst e; exact q
theorem bsW_loop {s : Sl} {e : Int} {L : List Ver} {Q : Int → Bool → H → Prop} (hr : Rise L) (hL : L.length < 1073741824) : ∀ (m i j : Nat) (h : H), Owns h s 103 4 (L.flatMap wc) → i ≤ j → j ≤ L.length →
    (∀ t x, t < i → L[t]? = some x → x.epoch ≤ e) → (∀ t x, j ≤ t → L[t]? = some x → e < x.epoch) → j - i < m → (∀ r h', Ext h h' → Q (cntM L e) r h') →
    F.slices_BinarySearchFunc_Slchain_version_spatelaw5_Wide_chain_version_spatelaw5_Wide_int.l1 Q m s e (.func (.func 76) #[] #[]) (L.length : Int) (i : Int) (j : Int) h
  | 0, i, j, h, _, _, _, _, _, hm, _ => by omega
  | m + 1, i, j, h, ho, hij, hj, hlo, hhi, hm, k => by
    unfold F.slices_BinarySearchFunc_Slchain_version_spatelaw5_Wide_chain_version_spatelaw5_Wide_int.l1
    simp only [decide_eq_true_eq, decide_eq_false_iff_not]
    refine ⟨fun g => ⟨by omega, ?_⟩, fun g => ?_⟩
    · rw [mid_eq (by omega)]
      have hm1 : (i + j) / 2 < L.length := by omega
      obtain ⟨x, hx⟩ : ∃ x, L[(i + j) / 2]? = some x := ⟨_, List.getElem?_eq_getElem hm1⟩
      obtain ⟨b, a1, a2, a3, a4, a5⟩ := CW.at ho hx
      have hl := CW.len ho
      refine idxA_of (i := (i + j) / 2) a1 (by omega) rfl ?_
      refine ⟨verW x, a5, cmpW_spec fun h' e1 => ⟨_, rfl, fun g2 => ?_, fun g2 => ?_⟩⟩
      · have hxe : x.epoch ≤ e := by
          by_cases hh : x.epoch ≤ e
          · exact hh
          · rw [if_neg hh] at g2; omega
        rw [w64 (by omega) (by omega), show (((i + j) / 2 : Nat) : Int) + 1 = (((i + j) / 2 + 1 : Nat) : Int) from by omega]
        refine bsW_loop hr hL m _ j h' (ho.only e1 fun _ _ f => f) (by omega) hj (fun t y ht hy => ?_) hhi (by omega) fun r h2 e2 => k r h2 (e1.trans e2)
        by_cases ht2 : t = (i + j) / 2
        · subst ht2; rw [hx] at hy; cases hy; exact hxe
        · have := hr.lt (by omega) hy hx; omega
      · have hxe : ¬ x.epoch ≤ e := fun hh => by rw [if_pos hh] at g2; omega
        refine bsW_loop hr hL m i _ h' (ho.only e1 fun _ _ f => f) (by omega) (by omega) hlo (fun t y ht hy => ?_) (by omega) fun r h2 e2 => k r h2 (e1.trans e2)
        by_cases ht2 : t = (i + j) / 2
        · subst ht2; rw [hx] at hy; cases hy; omega
        · have := hr.lt (show (i + j) / 2 < t by omega) hx hy; omega
    · have hij2 : i = j := by omega
      subst hij2
      have hc : cntM L e = i := cnt_eq _ L i hj (fun t x ht hx => by simpa using hlo t x ht hx) fun t x ht hx => by simpa using hhi t x ht hx
      rw [hc] at k
      refine ⟨fun g2 => ?_, fun g2 => k _ h (.refl _)⟩
      obtain ⟨x, hx⟩ : ∃ x, L[i]? = some x := ⟨_, List.getElem?_eq_getElem (by omega)⟩
      obtain ⟨b, a1, a2, a3, a4, a5⟩ := CW.at ho hx
      have hl := CW.len ho
      refine idxA_of (i := i) a1 (by omega) rfl ?_
      exact ⟨verW x, a5, cmpW_spec fun h' e1 => ⟨_, rfl, k _ h' e1⟩⟩
theorem placeW_spec {h : H} {p : Nat} {L : List Ver} {B : Option Nat} {e : Int} {Q : Int → H → Prop} (c : CW h p L B) (hr : Rise L) (hL : L.length < 1073741824)
    (k : ∀ h', Ext h h' → Q ((cntM L e : Int) - 1) h') : F.chain_Chain_spatelaw5_Wide_place (some ⟨p, 0, none⟩) e h Q := by
  obtain ⟨s, hb, ho, hB, hne⟩ := c
  have hl := CW.len ho
  have hc0 : cellH h ⟨p, 0, none⟩ = some s.enc := hb.cell rfl
  have hcl : cntM L e ≤ L.length := List.countP_le_length
  simp only [F.chain_Chain_spatelaw5_Wide_place, nn_some, add_lit, Nat.add_zero, ldL_iff hc0]
  unfold F.slices_BinarySearchFunc_Slchain_version_spatelaw5_Wide_chain_version_spatelaw5_Wide_int
  refine ⟨L.length + 1, ?_⟩
  rw [hl]
  refine bsW_loop hr hL _ 0 L.length h ho (by omega) (by omega) (fun t x ht => by omega) (fun t x ht hx => ?_) (by omega) fun r h' e1 => ?_
  · rw [List.getElem?_eq_none (by omega)] at hx; cases hx
  · rw [w64 (by omega) (by omega)]
    exact k h' e1
def atW (L : List Ver) (e : Int) : Wd × Bool := match (L.filter fun x => decide (x.epoch ≤ e)).getLast? with | some x => if x.dead then (wide0, false) else (wideV x.value, true) | none => (wide0, false)
theorem AtW_spec {h : H} {p : Nat} {L : List Ver} {B : Option Nat} {e : Int} {Q : Wd → Bool → H → Prop} (c : CW h p L B) (hr : Rise L) (hL : L.length < 1073741824)
    (k : ∀ h', Ext h h' → Q (atW L e).1 (atW L e).2 h') : F.chain_Chain_spatelaw5_Wide_At (some ⟨p, 0, none⟩) e h Q := by
  unfold F.chain_Chain_spatelaw5_Wide_At
  refine new_of fun n h0 f1 f2 f3 f4 => ?_
  have f2' : Blk h0 n (wide0.cells).toArray 60 := f2
  refine placeW_spec (c.ext f3) hr hL fun h1 e1 => ?_
  have b1 : Blk h1 n (wide0.cells).toArray 60 := e1.block f2' (fun f => f)
  have x1 : Ext h h1 := f3.trans e1
  unfold atW at k
  rw [at_last hr e] at k
  obtain ⟨s, hb, ho, hB, hne⟩ := (c.ext f3).ext e1
  have hl := CW.len ho
  have hc0 : cellH h1 ⟨p, 0, none⟩ = some s.enc := hb.cell rfl
  have hcl : cntM L e ≤ L.length := List.countP_le_length
  have none_ : Q wide0 false = Q wide0 false → (∀ h', Ext h h' → Q wide0 false h') → F.chain_Chain_spatelaw5_Wide_At.j1 Q ⟨n, 0, none⟩ h1 := fun _ kk => by
    unfold F.chain_Chain_spatelaw5_Wide_At.j1
    refine ⟨wide0, cells_blk b1, ?_⟩
    refine stH_of b1 (by simp [wcell_len]) fun h2 g1 g2 g3 => ?_
    rw [writeA_all (by simp)] at g1
    exact ⟨wide0, cells_blk g1, kk h2 (x1.step g2 fun m hm e => by have := f3.size; omega)⟩
  simp only [F.chain_Chain_spatelaw5_Wide_At.j2, nn_some, add_lit, Nat.add_zero, ldL_iff hc0, decide_eq_true_eq, decide_eq_false_iff_not]
  refine ⟨fun g => ?_, fun g => ⟨(fun h => by cases h), fun _ => ?_⟩⟩
  · rw [if_neg (by omega)] at k
    obtain ⟨x, hx⟩ : ∃ x, L[cntM L e - 1]? = some x := ⟨_, List.getElem?_eq_getElem (by omega)⟩
    rw [hx] at k
    obtain ⟨b, a1, a2, a3, a4, a5⟩ := CW.at ho hx
    refine idxA_of (i := cntM L e - 1) a1 (by omega) (by omega) ?_
    simp only [add_lit, Nat.add_zero]
    rw [ldB_iff a4]
    cases hd : x.dead with
    | true => simp only [hd] at k; exact ⟨(fun h => by cases h), fun _ => none_ rfl k⟩
    | false =>
      simp only [hd] at k
      refine ⟨fun _ => ?_, (fun h => by cases h)⟩
      refine idxA_of (i := cntM L e - 1) a1 (by omega) (by omega) ?_
      rw [add_lit]
      refine ⟨(verW x).value, a3, ?_⟩
      refine stH_of b1 (by simp [wcell_len]) fun h2 g1 g2 g3 => ?_
      rw [writeA_all (by simp [wcell_len])] at g1
      refine ⟨_, cells_blk g1, ?_⟩
      have hv : (verW x).value = wideV x.value := by unfold verW; rw [hd]; rfl
      rw [hv]
      exact k h2 (x1.step g2 fun m hm e => by have := f3.size; omega)
  · rw [if_pos (by omega)] at k; exact none_ rfl k
theorem markW_loop {p : Nat} {L : List Ver} {B : Option Nat} {held : Sl} {s6 : Sl} {sb : Nat} {E0 : List Int} {Q : Int → H → Prop} (hr : Rise L) (hL : L.length < 1073741824) (hE0 : E0.length < 1073741824) (hp6 : s6.ptr = some ⟨sb, 0, none⟩) (hpb : p ≠ sb) (hBb : B ≠ some sb) (hh : E0 ≠ [] → held.blk ≠ some sb) :
    ∀ (m i : Nat) (h : H) (S : List Bool), CW h p L B → Owns h s6 4 1 (S.flatMap cB) → S.length = L.length → Reads h held 1 (E0.flatMap cI) → i ≤ E0.length → E0.length - i < m →
    (∀ h' S', S' = (E0.drop i).foldl (markM L) S → CW h' p L B → Owns h' s6 4 1 (S'.flatMap cB) → Only (· = sb) h h' → (nn (some ⟨p, 0, none⟩) fun a22 => ldL h' (a22.add 0) fun y24 => ∃ m, F.chain_Chain_spatelaw5_Wide_Prune.l2 Q m (some ⟨p, 0, none⟩) (L.length : Int) s6 ⟨none, 0, 0⟩ y24 (y24.len : Int) 0 h')) →
    F.chain_Chain_spatelaw5_Wide_Prune.l1 Q m (some ⟨p, 0, none⟩) (L.length : Int) s6 held (E0.length : Int) (i : Int) h
  | 0, i, h, S, _, _, _, _, _, hm, _ => by omega
  | m + 1, i, h, S, c, o, hS, rd, hi, hm, k => by
    have hp := c.lt
    unfold F.chain_Chain_spatelaw5_Wide_Prune.l1
    simp only [decide_eq_true_eq, decide_eq_false_iff_not]
    refine ⟨fun g => ?_, fun g => ?_⟩
    · have hi2 : i < E0.length := by omega
      obtain ⟨e, he⟩ : ∃ e, E0[i]? = some e := ⟨_, List.getElem?_eq_getElem hi2⟩
      obtain ⟨q, r1, r2, r3⟩ := rd_at cI_len (by omega) rd he
      have hel := rd_len cI_len (by omega) rd
      refine idxR_of (i := i) r1 (by omega) rfl ?_
      rw [ldI_iff r3.one]
      refine placeW_spec c hr hL fun h1 e1 => ?_
      have hd : E0.drop i = e :: E0.drop (i + 1) := by
        rw [List.drop_eq_getElem_cons hi2]
        congr 1
        obtain ⟨_, h⟩ := List.getElem?_eq_some_iff.1 he; exact h
      rw [hd, List.foldl_cons] at k
      have hw : IntKind.wrap .i64 ((i : Int) + 1) = ((i + 1 : Nat) : Int) := by rw [w64 (by omega) (by omega)]; omega
      rw [hw]
      have hcl : cntM L e ≤ L.length := List.countP_le_length
      refine ⟨fun g2 => ?_, fun g2 => ?_⟩
      · refine idxA_of (i := cntM L e - 1) hp6 (by rw [own_len cB_len (by omega) o]; omega) (by omega) ?_
        refine own_setAt (f := cB) (k := 1) (x := true) cB_len (o.only e1 fun _ _ f => f) hp6 (by omega) fun h2 f1 f2 f3 => ?_
        have hm2 : markM L S e = S.set (cntM L e - 1) true := by unfold markM; rw [if_neg (by omega)]
        rw [← hm2] at f1
        have f2' : Only (· = sb) h h2 := (e1.only (S := (· = sb))).trans f2 fun n _ e => by simp [Sl.blk, hp6] at e; exact e.symm
        exact markW_loop hr hL hE0 hp6 hpb hBb hh m (i + 1) h2 _ (c.only f2' hpb fun b hb e => hBb (by rw [hb, e])) f1 (by rw [markM_len]; exact hS) (rd.keep f2' fun hne b hb e => hh hne (by rw [hb, e])) (by omega) (by omega)
          fun h' S' q1 q2 q3 q4 => k h' S' q1 q2 q3 (f2'.trans q4 fun _ _ e => e)
      · have hm2 : markM L S e = S := by unfold markM; rw [if_pos (by omega)]
        rw [hm2] at k
        exact markW_loop hr hL hE0 hp6 hpb hBb hh m (i + 1) h1 _ (c.ext e1) (o.only e1 fun _ _ f => f) hS (rd.only e1 fun _ _ f => f) (by omega) (by omega)
          fun h' S' q1 q2 q3 q4 => k h' S' q1 q2 q3 ((e1.only (S := (· = sb))).trans q4 fun _ _ e => e)
    · have hd : E0.drop i = [] := List.drop_eq_nil_of_le (by omega)
      rw [hd] at k
      exact k h S rfl c o (.refl _)
theorem keepW_loop {p : Nat} {L : List Ver} {s s6 : Sl} {sb n0 : Nat} {S : List Bool} {Q : Int → H → Prop} (hL : L.length < 1073741824) (hS : S.length = L.length) (hp6 : s6.ptr = some ⟨sb, 0, none⟩) (hs : s.blk ≠ some p) :
    ∀ (m i : Nat) (h : H) (x : Sl), Blk h p #[s.enc] 86 → Owns h s 103 4 (L.flatMap wc) → Owns h s6 4 1 (S.flatMap cB) → Owns h x 103 4 ((keepM (L.take i) (S.take i)).flatMap wc) →
    (∀ b, x.blk = some b → n0 ≤ b) → n0 ≤ h.size → p < n0 → (∀ b, s.blk = some b → b < n0) → sb < n0 → i ≤ L.length → L.length - i < m →
    (∀ h' B', CW h' p (oneM (keepM L S)) B' → Only (fun b => b = p ∨ n0 ≤ b) h h' → (B' = none ∨ ∃ b, B' = some b ∧ n0 ≤ b) → Q ((L.length : Int) - ((oneM (keepM L S)).length : Int)) h') →
    F.chain_Chain_spatelaw5_Wide_Prune.l2 Q m (some ⟨p, 0, none⟩) (L.length : Int) s6 x s (L.length : Int) (i : Int) h
  | 0, i, h, x, _, _, _, _, _, _, _, _, _, _, hm, _ => by omega
  | m + 1, i, h, x, hb, ho, o6, ox, hx, hn0, hp, hs0, hsb, hi, hm, k => by
    unfold F.chain_Chain_spatelaw5_Wide_Prune.l2
    have hl := own_len wc_len (by omega) ho
    have hl6 := own_len cB_len (by omega) o6
    simp only [decide_eq_true_eq, decide_eq_false_iff_not]
    refine ⟨fun g => ?_, fun g => ?_⟩
    · have hi2 : i < L.length := by omega
      obtain ⟨y, hy⟩ : ∃ y, L[i]? = some y := ⟨_, List.getElem?_eq_getElem hi2⟩
      obtain ⟨b, hSb⟩ : ∃ b, S[i]? = some b := ⟨_, List.getElem?_eq_getElem (by omega)⟩
      obtain ⟨bb, a1, a2⟩ := own_at wc_len (by omega) ho hy
      refine idxA_of (i := i) a1 (by omega) rfl ⟨verW y, a2, ?_⟩
      refine new_of fun n h1 e1 e2 e3 e4 => ?_
      refine stH_of e2 (by show _ ≤ _; simp [S_chain_version_spatelaw5_Wide.cells, S_spatelaw5_Wide.cells]) fun h2 f1 f2 f3 => ?_
      rw [writeA_all (by simp [S_chain_version_spatelaw5_Wide.cells, S_spatelaw5_Wide.cells])] at f1
      have f4 : Ext h h2 := (e3.only (S := fun _ => False)).trans f2 fun m hm e => by omega
      obtain ⟨b6, c1, c2⟩ := own_at cB_len (by omega) (o6.only f4 fun _ _ f => f) hSb
      refine idxA_of (i := i) c1 (by omega) rfl ?_
      rw [ldB_iff c2.one]
      have hw : IntKind.wrap .i64 ((i : Int) + 1) = ((i + 1 : Nat) : Int) := by rw [w64 (by omega) (by omega)]; omega
      rw [hw]
      have hkt := keep_take hS hy hSb
      refine ⟨fun g2 => ?_, fun g2 => ?_⟩
      · subst g2
        refine ⟨verW y, cells_blk f1, ?_⟩
        refine newL_of fun n3 h3 g1 g2 g3 g4 => ?_
        have f5 := f4.trans g3
        have hkl : (keepM (L.take i) (S.take i)).length ≤ L.length := Nat.le_trans (keep_le _ _) (by rw [List.length_take]; omega)
        have hxl := own_len wc_len (by omega) ox
        refine app_of (ys := (verW y).cells) elW (ox.only f5 (fun _ _ f => f)) (blk_reads (by simpa using g2) rfl) (ones_wc y) (by simp only; omega) fun r h4 r1 r2 r3 r4 => ?_
        have r3' : Only (fun b => n0 ≤ b) h h4 := (f5.only (S := fun b => n0 ≤ b)).trans r3 fun b _ e => hx b e
        have hge : h.size ≤ h4.size := r3'.size
        refine keepW_loop (n0 := n0) hL hS hp6 hs m (i + 1) h4 r (r3'.block hb (by omega)) (ho.only r3' fun b hb e => by have := hs0 b hb; omega) (o6.only r3' fun b hb e => by simp [Sl.blk, hp6] at hb; omega) ?_ ?_ (by omega) hp hs0 hsb (by omega) (by omega) ?_
        · rw [hkt]; simpa [wc] using r1
        · intro b hb
          rcases r4 with r4 | ⟨b', r4, r5⟩
          · exact hx b (by rw [← r4]; exact hb)
          · rw [r4] at hb; cases hb
            have := f5.size; omega
        · intro h' B' q1 q2 q3
          exact k h' B' q1 ((r3'.mono fun b _ e => .inr e).trans q2 fun _ _ e => e) q3
      · subst g2
        refine keepW_loop (n0 := n0) hL hS hp6 hs m (i + 1) h2 x (f4.block hb (fun f => f)) (ho.only f4 fun _ _ f => f) (o6.only f4 fun _ _ f => f) ?_ hx (by have := f4.size; omega) hp hs0 hsb (by omega) (by omega) ?_
        · rw [hkt]; simpa using ox.only f4 fun _ _ f => f
        · intro h' B' q1 q2 q3
          exact k h' B' q1 ((f4.only (S := fun b => b = p ∨ n0 ≤ b)).trans q2 fun _ _ e => e) q3
    · have hii : i = L.length := by omega
      subst hii
      rw [List.take_length, show L.length = S.length from hS.symm, List.take_length] at ox
      have hxl := own_len wc_len (by omega) ox
      have hkl := keep_le L S
      -- the end: what is laid
      have hend : ∀ (y : Sl) (R : List Ver), Owns h y 103 4 (R.flatMap wc) → (∀ b, y.blk = some b → n0 ≤ b) → R = (oneM (keepM L S)) → R.length ≤ L.length → F.chain_Chain_spatelaw5_Wide_Prune.j3 Q (some ⟨p, 0, none⟩) (L.length : Int) y h := fun y R hy hyb hR hRl => by
        unfold F.chain_Chain_spatelaw5_Wide_Prune.j3
        simp only [nn_some, add_lit, Nat.add_zero]
        have hyl := own_len wc_len (by omega) hy
        refine stH_of hb (by simp) fun h4 g1 g2 g3 => ?_
        rw [writeA_all (by simp)] at g1
        rw [hyl, w64 (by omega) (by omega)]
        have hne : y.blk ≠ some p := fun e => by have := hyb p e; omega
        rw [← hR] at k
        refine k h4 y.blk ⟨y, g1, hy.only g2 fun b hb e => hne (by rw [hb, e]), rfl, hne⟩ (g2.mono fun _ _ e => .inl e) ?_
        cases hyy : y.blk with
        | none => exact .inl rfl
        | some b => exact .inr ⟨b, rfl, hyb b hyy⟩
      rw [beq_iff_eq, beq_eq_false_iff_ne]
      unfold F.chain_Chain_spatelaw5_Wide_Prune.j4
      refine ⟨fun g2 => ?_, fun g2 => ⟨(fun h => by cases h), fun _ => hend x _ ox hx ?_ hkl⟩⟩
      · have h1 : (keepM L S).length = 1 := by omega
        obtain ⟨y, hy⟩ := List.length_eq_one_iff.1 h1
        obtain ⟨bb, a1, a2⟩ := own_at (i := 0) (x := y) wc_len (by omega) ox (by rw [hy]; rfl)
        refine idxA_of (i := 0) a1 (by omega) rfl ?_
        have hd : cellH h ((⟨bb, 0 * 4, none⟩ : Addr).add 3) = some (.bool y.dead) := a2 3 (.bool y.dead) rfl
        rw [ldB_iff hd]
        refine ⟨fun g3 => hend _ [] (Owns.nil _ _ _) (fun b hb => by simp [Sl.blk] at hb) (by rw [hy]; simp [oneM, g3]) (by simp), fun g3 => hend x _ ox hx (by rw [hy]; simp [oneM, g3]) hkl⟩
      · unfold oneM
        split
        · rename_i y hy; rw [hy] at hxl; simp at hxl; omega
        · rfl
theorem PruneW_spec {h : H} {p : Nat} {L : List Ver} {B : Option Nat} {held : Sl} {E : List Int} {Q : Int → H → Prop} (c : CW h p L B) (hr : Rise L) (hL : L.length < 1073741824) (hE : E.length < 1073741824) (rd : Reads h held 1 (E.flatMap cI))
    (hlt : E ≠ [] → ∀ b, held.blk = some b → b < h.size)
    (k : ∀ h' B', CW h' p (pruneM L E) B' → Only (· = p) h h' → Kin h.size B B' → Q ((L.length : Int) - ((pruneM L E).length : Int)) h') : F.chain_Chain_spatelaw5_Wide_Prune (some ⟨p, 0, none⟩) held h Q := by
  have hp := c.lt
  obtain ⟨s, hb, ho, hB, hne⟩ := id c
  have hl := own_len wc_len (by omega) ho
  have hel := rd_len cI_len (by omega) rd
  have hc0 : cellH h ⟨p, 0, none⟩ = some s.enc := hb.cell rfl
  simp only [F.chain_Chain_spatelaw5_Wide_Prune, nn_some, add_lit, Nat.add_zero, ldL_iff hc0, hl, hel]
  rw [beq_iff_eq, beq_eq_false_iff_ne]
  refine ⟨fun g => ?_, fun g => ?_⟩
  · have hn : L = [] := List.eq_nil_of_length_eq_zero (by omega)
    subst hn
    have hpr : pruneM [] E = [] := by simp [pruneM, keepM, oneM]
    rw [hpr] at k
    exact k h B c (.refl _) (.inl rfl)
  · have hpos : 0 < L.length := by omega
    refine make_of elB (by omega) (by simp only [maxLen]; omega) fun nb h1 n1 n2 n3 => ?_
    have hblt := c.ltB
    have hg1 := n3.size
    rw [show (Value.bool false).cells = #[.bool false] from rfl, Nat.mul_one, made_one, ← flat_replicate cB false (.bool false) rfl] at n2
    refine idxA_of (i := L.length - 1) rfl (by simp only; omega) (by rw [w64 (by omega) (by omega)]; omega) ?_
    refine own_setAt (f := cB) (k := 1) (x := true) cB_len n2 rfl (by simp; omega) fun h2 f1 f2 f3 => ?_
    have f2' : Ext h h2 := (n3.only (S := fun _ => False)).trans f2 fun n hn e => by simp [Sl.blk] at e; omega
    refine ⟨E.length + 1, ?_⟩
    refine markW_loop hr hL hE rfl (by omega) (fun e => by have := hblt _ e; omega) (fun hne e => by have := hlt hne _ e; omega) _ 0 h2 _ (c.ext f2') f1 (by simp) (rd.only f2' fun _ _ f => f) (by omega) (by omega) fun h3 S' q1 q2 q3 q4 => ?_
    have q5 : Ext h h3 := (f2'.only (S := fun _ => False)).trans q4 fun n hn e => by omega
    have hb3 : Blk h3 p #[s.enc] 86 := q5.block hb (fun f => f)
    simp only [nn_some, add_lit, Nat.add_zero]
    rw [ldL_iff (hb3.cell (i := 0) rfl)]
    refine ⟨L.length + 1, ?_⟩
    rw [hl]
    have hS' : S' = stayM L E := q1
    have hsl : (stayM L E).length = L.length := by unfold stayM; rw [stay_len]; simp
    rw [hS'] at q3
    have hg3 := q5.size
    have hsb3 : nb < h3.size := q3.blk_lt (b := nb) rfl
    refine keepW_loop (n0 := h3.size) hL hsl rfl (by rw [hB]; exact hne) _ 0 h3 _ hb3 (ho.only q5 fun _ _ f => f) q3 (by simpa [keepM] using Owns.nil h3 103 4) (fun b hb => by simp [Sl.blk] at hb) (Nat.le_refl _) (by omega) (fun b hb => by have := hblt b (by rw [← hB]; exact hb); omega) hsb3 (by omega) (by omega) ?_
    intro h' B' t1 t2 t3
    refine k h' B' t1 ((q5.only (S := (· = p))).trans t2 fun n hn e => by omega) ?_
    rcases t3 with t3 | ⟨b, t3, t4⟩
    · exact .inr (.inl t3)
    · exact .inr (.inr ⟨b, t3, by omega⟩)
end Go.Proofs.Ytapomjhjpejimaa.V
