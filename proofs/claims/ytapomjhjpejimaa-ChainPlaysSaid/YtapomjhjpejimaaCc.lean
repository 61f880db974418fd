/- A chain's Put, Kill, Newest, Len, place and At: what they tell and what they do to the list of versions; no condition. -/
import Derived.Test.YtapomjhjpejimaaCb
namespace Go.Proofs.Ytapomjhjpejimaa.V
open Go
set_option linter.unusedVariables false
set_option linter.unusedSimpArgs false

theorem Put_spec {h : H} {p : Nat} {L : List Ver} {B : Option Nat} {e v : Int} {Q : Int → Int → H → Prop} (c : Ch h p L B) (hL : L.length < 4294967296)
    (k0 : mayM L e ≠ 0 → Q 0 (mayM L e) h)
    (k1 : mayM L e = 0 → ∀ h' B', Ch h' p (layM L ⟨e, v, false⟩) B' → Only (FP p B) h h' → Kin h.size B B' → Q (layN L ⟨e, v, false⟩) 0 h') : F.chain_Chain_int_Put (some ⟨p, 0, none⟩) e v h Q := by
  unfold F.chain_Chain_int_Put
  exact may_spec c hL ⟨fun g => k0 (by simpa using g), fun g => lay_spec c hL (k1 (by simpa using g))⟩
theorem Len_spec {h : H} {p : Nat} {L : List Ver} {B : Option Nat} {Q : Int → H → Prop} (c : Ch h p L B) (k : Q (L.length : Int) h) : F.chain_Chain_int_Len (some ⟨p, 0, none⟩) h Q := by
  obtain ⟨s, hb, ho, hB, hne⟩ := c
  have hl := Ch.len ho
  have hc0 : cellH h ⟨p, 0, none⟩ = some s.enc := hb.cell rfl
  simp only [F.chain_Chain_int_Len, nn_some, add_lit, Nat.add_zero, ldL_iff hc0, hl]
  exact k
def newestM (L : List Ver) : Int × Int × Bool := match L.getLast? with | some x => (x.value, x.epoch, !x.dead) | none => (0, 0, false)
theorem Newest_spec {h : H} {p : Nat} {L : List Ver} {B : Option Nat} {Q : Int → Int → Bool → H → Prop} (c : Ch h p L B) (hL : L.length < 4294967296)
    (k : ∀ h', Ext h h' → Q (newestM L).1 (newestM L).2.1 (newestM L).2.2 h') : F.chain_Chain_int_Newest (some ⟨p, 0, none⟩) h Q := by
  obtain ⟨s, hb, ho, hB, hne⟩ := c
  have hl := Ch.len ho
  have hc0 : cellH h ⟨p, 0, none⟩ = some s.enc := hb.cell rfl
  simp only [F.chain_Chain_int_Newest, nn_some, add_lit, Nat.add_zero, ldL_iff hc0, hl]
  by_cases hn : L = []
  · subst hn; exact ⟨fun _ => k h (.refl _), fun g => by simp at g⟩
  · have hpos : 0 < L.length := List.length_pos_iff.2 hn
    refine ⟨fun g => by rw [beq_iff_eq] at g; omega, fun _ => ?_⟩
    obtain ⟨b, a1, a2, a3, a4, a5⟩ := Ch.at ho (last_get hn)
    refine idxA_of (i := L.length - 1) a1 (by omega) (by rw [w64 (by omega) (by omega)]; omega) ?_
    refine ⟨_, a5, ?_⟩
    refine new_of fun n h1 e1 e2 e3 e4 => ?_
    refine ⟨a5.ext e3, e3.cell hc0 (fun f => f), e3.cell hc0 (fun f => f), ?_⟩
    refine stH_of e2 (by simp [S_chain_version_int.cells]) fun h2 f1 f2 f3 => ?_
    rw [writeA_all (by simp [S_chain_version_int.cells])] at f1
    simp only [add_lit, Nat.zero_add, Nat.add_zero]
    rw [ldI_iff (f1.cell (i := 1) (v := .int .i64 (L.getLast hn).value) rfl), ldI_iff (f1.cell (i := 0) (v := .int .i64 (L.getLast hn).epoch) rfl), ldB_iff (f1.cell (i := 2) (v := .bool (L.getLast hn).dead) rfl)]
    have hle : newestM L = ((L.getLast hn).value, (L.getLast hn).epoch, !(L.getLast hn).dead) := by unfold newestM; rw [List.getLast?_eq_some_getLast hn]
    have := k h2 ((e3.only (S := fun _ => False)).trans f2 fun m hm e => by omega)
    rw [hle] at this
    exact this
theorem Kill_spec {h : H} {p : Nat} {L : List Ver} {B : Option Nat} {e : Int} {Q : Int → Int → H → Prop} (c : Ch h p L B) (hL : L.length < 4294967296)
    (k0 : mayM L e ≠ 0 → Q 0 (mayM L e) h)
    (k2 : mayM L e = 0 → (newestM L).2.2 = false → ∀ h', Ext h h' → Q 0 44 h')
    (k1 : mayM L e = 0 → (newestM L).2.2 = true → ∀ h' B', Ch h' p (layM L ⟨e, 0, true⟩) B' → Only (FP p B) h h' → Kin h.size B B' → Q (layN L ⟨e, 0, true⟩) 0 h') : F.chain_Chain_int_Kill (some ⟨p, 0, none⟩) e h Q := by
  unfold F.chain_Chain_int_Kill
  refine may_spec c hL ⟨fun g => k0 (by simpa using g), fun g => Newest_spec c hL fun h1 e1 => ⟨fun g2 => k2 (by simpa using g) (by simpa using g2) h1 e1, fun g2 => ?_⟩⟩
  refine lay_spec (c.ext e1) hL fun h' B' q1 q2 q3 => k1 (by simpa using g) (by simpa using g2) h' B' q1 ((e1.only (S := FP p B)).trans q2 fun m _ e => e) ?_
  rcases q3 with q3 | q3 | ⟨b, q3, q4⟩
  · exact .inl q3
  · exact .inr (.inl q3)
  · have := e1.1
    exact .inr (.inr ⟨b, q3, by omega⟩)

/-! ### Where an epoch's version lies -/
abbrev Rise (L : List Ver) : Prop := L.Pairwise fun x y => x.epoch < y.epoch
def cntM (L : List Ver) (e : Int) : Nat := L.countP fun x => decide (x.epoch ≤ e)
theorem Rise.lt {L : List Ver} (r : Rise L) {i j : Nat} {x y : Ver} (hij : i < j) (hx : L[i]? = some x) (hy : L[j]? = some y) : x.epoch < y.epoch := by
  obtain ⟨hi, rfl⟩ := List.getElem?_eq_some_iff.1 hx
  obtain ⟨hj, rfl⟩ := List.getElem?_eq_some_iff.1 hy
  exact List.pairwise_iff_getElem.1 r i j hi hj hij
theorem cnt_eq {α : Type} (q : α → Bool) : ∀ (L : List α) (i : Nat), i ≤ L.length → (∀ t x, t < i → L[t]? = some x → q x = true) → (∀ t x, i ≤ t → L[t]? = some x → q x = false) → L.countP q = i
  | [], i, hi, _, _ => by simp at hi; simp [hi]
  | y :: r, 0, hi, h1, h2 => by
    rw [List.countP_cons, h2 0 y (by omega) rfl, cnt_eq q r 0 (by omega) (fun t x ht => by omega) (fun t x ht hx => h2 (t + 1) x (by omega) (by simpa using hx))]
    rfl
  | y :: r, i + 1, hi, h1, h2 => by
    simp at hi
    rw [List.countP_cons, h1 0 y (by omega) rfl, cnt_eq q r i hi (fun t x ht hx => h1 (t + 1) x (by omega) (by simpa using hx)) (fun t x ht hx => h2 (t + 1) x (by omega) (by simpa using hx))]
    rfl
theorem mid_eq {i j : Nat} (h : i + j < 4294967296) : IntKind.wrap .i64 (Int.fdiv (IntKind.wrap .u64 (IntKind.wrap .i64 ((i : Int) + j))) (2 ^ (min (1 : Int).toNat (IntKind.bits .u64)) : Int)) = ((i + j) / 2 : Nat) := by
  rw [w64 (n := (i : Int) + j) (by omega) (by omega)]
  have e1 : IntKind.wrap .u64 ((i : Int) + j) = ((i + j : Nat) : Int) := by
    unfold IntKind.wrap
    simp [IntKind.bits, IntKind.signed]
    omega
  rw [e1, show (2 ^ (min (1 : Int).toNat (IntKind.bits .u64)) : Int) = 2 from by simp [IntKind.bits], Int.fdiv_eq_ediv_of_nonneg _ (by omega), show (((i + j : Nat) : Int) / 2) = (((i + j) / 2 : Nat) : Int) from by omega, w64 (by omega) (by omega)]
theorem cmp_spec {h : H} {x : Ver} {e : Int} {K : Value → H → Prop} (k : ∀ h', Ext h h' → K (.int .i64 (if x.epoch ≤ e then -1 else 1)) h') : CV PP (.func (.func 60) #[] #[]) [.agg x.cells.toArray, .int .i64 e] h K := by
  refine CV_func (fun a w => Try.call60 a w) ?_
  have : F.chain_Chain_int_place_1 x e h fun r h' => K (.int .i64 r) h' := by
    unfold F.chain_Chain_int_place_1
    refine new_of fun n h1 e1 e2 e3 e4 => ?_
    simp only [add_lit, Nat.add_zero]
    rw [ldI_iff (e2.cell (v := .int .i64 x.epoch) rfl)]
    simp only [decide_eq_true_eq, decide_eq_false_iff_not]
    refine ⟨fun g => ?_, fun g => ?_⟩
    · have := k h1 e3; rw [if_pos g] at this; exact this
    · have := k h1 e3; rw [if_neg g] at this; exact this
  have := F.chain_Chain_int_place_1_ok this
  simp only [List.append_toArray, Array.empty_append, Array.append_empty]
  exact this.mono fun r h' ⟨r0, e, q⟩ => by subst e; exact q
theorem bs_loop {s : Sl} {e : Int} {L : List Ver} {Q : Int → Bool → H → Prop} (hr : Rise L) (hL : L.length < 1073741824) : ∀ (m i j : Nat) (h : H), Owns h s 76 3 (L.flatMap (·.cells)) → i ≤ j → j ≤ L.length →
    (∀ t x, t < i → L[t]? = some x → x.epoch ≤ e) → (∀ t x, j ≤ t → L[t]? = some x → e < x.epoch) → j - i < m → (∀ r h', Ext h h' → Q (cntM L e) r h') →
    F.slices_BinarySearchFunc_Slchain_version_int_chain_version_int_int.l1 Q m s e (.func (.func 60) #[] #[]) (L.length : Int) (i : Int) (j : Int) h
  | 0, i, j, h, _, _, _, _, _, hm, _ => by omega
  | m + 1, i, j, h, ho, hij, hj, hlo, hhi, hm, k => by
    unfold F.slices_BinarySearchFunc_Slchain_version_int_chain_version_int_int.l1
    simp only [decide_eq_true_eq, decide_eq_false_iff_not]
    refine ⟨fun g => ⟨by omega, ?_⟩, fun g => ?_⟩
    · rw [mid_eq (by omega)]
      have hm1 : (i + j) / 2 < L.length := by omega
      obtain ⟨x, hx⟩ : ∃ x, L[(i + j) / 2]? = some x := ⟨_, List.getElem?_eq_getElem hm1⟩
      obtain ⟨b, a1, a2, a3, a4, a5⟩ := Ch.at ho hx
      have hl := Ch.len ho
      refine idxA_of (i := (i + j) / 2) a1 (by omega) rfl ?_
      refine ⟨x, a5, cmp_spec fun h' e1 => ⟨_, rfl, fun g2 => ?_, fun g2 => ?_⟩⟩
      · have hxe : x.epoch ≤ e := by
          by_cases hh : x.epoch ≤ e
          · exact hh
          · rw [if_neg hh] at g2; omega
        rw [w64 (by omega) (by omega), show (((i + j) / 2 : Nat) : Int) + 1 = (((i + j) / 2 + 1 : Nat) : Int) from by omega]
        refine bs_loop hr hL m _ j h' (ho.only e1 fun _ _ f => f) (by omega) hj (fun t y ht hy => ?_) hhi (by omega) fun r h2 e2 => k r h2 (e1.trans e2)
        by_cases ht2 : t = (i + j) / 2
        · subst ht2; rw [hx] at hy; cases hy; exact hxe
        · have := hr.lt (by omega) hy hx; omega
      · have hxe : ¬ x.epoch ≤ e := fun hh => by rw [if_pos hh] at g2; omega
        refine bs_loop hr hL m i _ h' (ho.only e1 fun _ _ f => f) (by omega) (by omega) hlo (fun t y ht hy => ?_) (by omega) fun r h2 e2 => k r h2 (e1.trans e2)
        by_cases ht2 : t = (i + j) / 2
        · subst ht2; rw [hx] at hy; cases hy; omega
        · have := hr.lt (show (i + j) / 2 < t by omega) hx hy; omega
    · have hij2 : i = j := by omega
      subst hij2
      have hc : cntM L e = i := cnt_eq _ L i hj (fun t x ht hx => by simpa using hlo t x ht hx) fun t x ht hx => by simpa using hhi t x ht hx
      rw [hc] at k
      refine ⟨fun g2 => ?_, fun g2 => k _ h (.refl _)⟩
      obtain ⟨x, hx⟩ : ∃ x, L[i]? = some x := ⟨_, List.getElem?_eq_getElem (by omega)⟩
      obtain ⟨b, a1, a2, a3, a4, a5⟩ := Ch.at ho hx
      have hl := Ch.len ho
      refine idxA_of (i := i) a1 (by omega) rfl ?_
      exact ⟨x, a5, cmp_spec fun h' e1 => ⟨_, rfl, k _ h' e1⟩⟩
theorem place_spec {h : H} {p : Nat} {L : List Ver} {B : Option Nat} {e : Int} {Q : Int → H → Prop} (c : Ch h p L B) (hr : Rise L) (hL : L.length < 1073741824)
    (k : ∀ h', Ext h h' → Q ((cntM L e : Int) - 1) h') : F.chain_Chain_int_place (some ⟨p, 0, none⟩) e h Q := by
  obtain ⟨s, hb, ho, hB, hne⟩ := c
  have hl := Ch.len ho
  have hc0 : cellH h ⟨p, 0, none⟩ = some s.enc := hb.cell rfl
  have hcl : cntM L e ≤ L.length := List.countP_le_length
  simp only [F.chain_Chain_int_place, nn_some, add_lit, Nat.add_zero, ldL_iff hc0]
  unfold F.slices_BinarySearchFunc_Slchain_version_int_chain_version_int_int
  refine ⟨L.length + 1, ?_⟩
  rw [hl]
  refine bs_loop hr hL _ 0 L.length h ho (by omega) (by omega) (fun t x ht => by omega) (fun t x ht hx => ?_) (by omega) fun r h' e1 => ?_
  · rw [List.getElem?_eq_none (by omega)] at hx; cases hx
  · rw [w64 (by omega) (by omega)]
    exact k h' e1
def atM (L : List Ver) (e : Int) : Int × Bool := match (L.filter fun x => decide (x.epoch ≤ e)).getLast? with | some x => if x.dead then (0, false) else (x.value, true) | none => (0, false)
theorem rise_filter {L : List Ver} (hr : Rise L) (e : Int) : L.filter (fun x => decide (x.epoch ≤ e)) = L.take (cntM L e) := by
  unfold cntM
  induction L with
  | nil => rfl
  | cons y r ih =>
    have hr' := List.pairwise_cons.1 hr
    by_cases hy : y.epoch ≤ e
    · simp [hy, ih hr'.2]
    · have hno : ∀ x ∈ r, ¬ x.epoch ≤ e := fun x hx => by have := hr'.1 x hx; omega
      have h1 : r.filter (fun x => decide (x.epoch ≤ e)) = [] := by simp; intro x hx; have := hno x hx; omega
      have h2 : r.countP (fun x => decide (x.epoch ≤ e)) = 0 := by rw [List.countP_eq_length_filter, h1]; rfl
      simp [hy, h1, h2]
theorem at_last {L : List Ver} (hr : Rise L) (e : Int) : (L.filter fun x => decide (x.epoch ≤ e)).getLast? = if cntM L e = 0 then none else L[cntM L e - 1]? := by
  have hcl : cntM L e ≤ L.length := List.countP_le_length
  rw [rise_filter hr, List.getLast?_eq_getElem?, List.length_take, Nat.min_eq_left hcl]
  split
  · rename_i h0; rw [h0]; simp
  · rw [List.getElem?_take_of_lt (by omega)]
theorem At_spec {h : H} {p : Nat} {L : List Ver} {B : Option Nat} {e : Int} {Q : Int → Bool → H → Prop} (c : Ch h p L B) (hr : Rise L) (hL : L.length < 1073741824)
    (k : ∀ h', Ext h h' → Q (atM L e).1 (atM L e).2 h') : F.chain_Chain_int_At (some ⟨p, 0, none⟩) e h Q := by
  unfold F.chain_Chain_int_At
  refine place_spec c hr hL fun h1 e1 => ?_
  have k := k h1 e1
  unfold atM at k
  rw [at_last hr e] at k
  obtain ⟨s, hb, ho, hB, hne⟩ := c.ext e1
  have hl := Ch.len ho
  have hc0 : cellH h1 ⟨p, 0, none⟩ = some s.enc := hb.cell rfl
  have hcl : cntM L e ≤ L.length := List.countP_le_length
  simp only [F.chain_Chain_int_At.j1, F.chain_Chain_int_At.j2, nn_some, add_lit, Nat.add_zero, ldL_iff hc0, decide_eq_true_eq, decide_eq_false_iff_not]
  refine ⟨fun g => ?_, fun g => ⟨(fun h => by cases h), fun _ => ?_⟩⟩
  · rw [if_neg (by omega)] at k
    obtain ⟨x, hx⟩ : ∃ x, L[cntM L e - 1]? = some x := ⟨_, List.getElem?_eq_getElem (by omega)⟩
    rw [hx] at k
    obtain ⟨b, a1, a2, a3, a4, a5⟩ := Ch.at ho hx
    refine idxA_of (i := cntM L e - 1) a1 (by omega) (by omega) ?_
    simp only [add_lit, Nat.add_zero]
    rw [ldB_iff a4]
    cases hd : x.dead with
    | true => simp only [hd] at k; exact ⟨(fun h => by cases h), fun _ => k⟩
    | false =>
      simp only [hd] at k
      refine ⟨fun _ => ?_, (fun h => by cases h)⟩
      refine idxA_of (i := cntM L e - 1) a1 (by omega) (by omega) ?_
      rw [add_lit, ldI_iff a3]; exact k
  · rw [if_pos (by omega)] at k; exact k
end Go.Proofs.Ytapomjhjpejimaa.V
