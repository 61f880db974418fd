/- Parts of the proof of ShardTogether; no condition. -/
import Derived.Shelf.SlLaysM
import Derived.Shelf.SortM.Plain
import Derived.Shelf.SortM.SortNone
import Derived.Sort.KeysCollected
import Derived.Sort.OwnSorted
import Derived.Test.YtoccbnhahaoeiaaGreatProg
import Derived.Test.YtoccbnhahaoeiaaGreatQShardTogether2
namespace Go.Proofs.YtoccbnhahaoeiaaGreat.V.C
open Go Go.Proofs.YtoccbnhahaoeiaaGreat.V
set_option linter.unusedVariables false
set_option linter.unusedSimpArgs false
set_option maxRecDepth 20000
abbrev zA : S_api_Agg := ⟨0, 0, 0, 0⟩
theorem st_agg {h : H} {n : Nat} {c d : S_api_Agg} {e : TypeId} {K : H → Prop} (b : Blk h n c.cells.toArray e) (k : ∀ h', Blk h' n d.cells.toArray e → Only (· = n) h h' → h'.size = h.size → K h') : stH h ⟨n, 0, none⟩ d.cells K := by
  refine stH_of b (Nat.le_refl 4) fun h' q1 q2 q3 => k h' ?_ q2 q3
  rw [writeA_all (by rfl)] at q1
  exact q1
theorem Kin.ge {n n' : Nat} {B B' : Option Nat} (k : Kin n' B B') (h : n ≤ n') : Kin n B B' := by
  rcases k with k | k | ⟨b, k, k2⟩
  · exact .inl k
  · exact .inr (.inl k)
  · exact .inr (.inr ⟨b, k, by omega⟩)
theorem Put_spec {h : H} {p : Nat} {L : List Ver} {B : Option Nat} {e : Int} {v : S_api_Agg} {Q : Int → Int → H → Prop} (c : Ch h p L B) (hL : L.length < 4294967296)
    (k0 : mayM L e ≠ 0 → ∀ h', Ext h h' → Q 0 (mayM L e) h')
    (k1 : mayM L e = 0 → ∀ h' B', Ch h' p (layM L ⟨e, v, false⟩) B' → Only (FP p B) h h' → Kin h.size B B' → Q (layN L ⟨e, v, false⟩) 0 h') : F.chain_Chain_api_Agg_Put (some ⟨p, 0, none⟩) e v h Q := by
  unfold F.chain_Chain_api_Agg_Put
  refine new_of fun n h1 hn b1 e1 s1 => ?_
  refine may_spec (c.ext e1) hL ⟨fun g => k0 (by simpa using g) h1 e1, fun g => ⟨v, Blk.cells b1, ?_⟩⟩
  exact lay_spec (c.ext e1) hL fun h' B' q1 q2 q3 => k1 (by simpa using g) h' B' q1 ((e1.only (S := FP p B)).trans q2 fun m _ e => e) (q3.ge e1.size)
theorem Len_spec {h : H} {p : Nat} {L : List Ver} {B : Option Nat} {Q : Int → H → Prop} (c : Ch h p L B) (k : Q (L.length : Int) h) : F.chain_Chain_api_Agg_Len (some ⟨p, 0, none⟩) h Q := by
  obtain ⟨s, hb, ho, hB, hne⟩ := c
  have hl := Ch.len ho
  have hc0 : cellH h ⟨p, 0, none⟩ = some s.enc := hb.cell rfl
  simp only [F.chain_Chain_api_Agg_Len, nn_some, add_lit, Nat.add_zero, ldL_iff hc0, hl]
  exact k
def newestM (L : List Ver) : S_api_Agg × Int × Bool := match L.getLast? with | some x => (x.value, x.epoch, !x.dead) | none => (zA, 0, false)
theorem Newest_spec {h : H} {p : Nat} {L : List Ver} {B : Option Nat} {Q : S_api_Agg → Int → Bool → H → Prop} (c : Ch h p L B) (hL : L.length < 4294967296)
    (k : ∀ h', Ext h h' → Q (newestM L).1 (newestM L).2.1 (newestM L).2.2 h') : F.chain_Chain_api_Agg_Newest (some ⟨p, 0, none⟩) h Q := by
  unfold F.chain_Chain_api_Agg_Newest
  refine new_of fun n0 h0 hn0 b0 e0 s0 => ?_
  obtain ⟨s, hb, ho, hB, hne⟩ := c.ext e0
  have hl := Ch.len ho
  have hc0 : cellH h0 ⟨p, 0, none⟩ = some s.enc := hb.cell rfl
  simp only [nn_some, add_lit, Nat.add_zero, ldL_iff hc0, hl]
  have b0' : Blk h0 n0 zA.cells.toArray tn_api_Agg := b0
  by_cases hn : L = []
  · subst hn
    refine ⟨fun _ => ⟨zA, b0'.cells, st_agg b0' fun h1 b1 o1 s1 => ⟨zA, b1.cells, ?_⟩⟩, fun g => by simp at g⟩
    exact k h1 (e0.step o1 fun m hm hb => by omega)
  · have hpos : 0 < L.length := List.length_pos_iff.2 hn
    refine ⟨fun g => by rw [beq_iff_eq] at g; omega, fun _ => ?_⟩
    obtain ⟨b, a1, a2, a3, a4, a5⟩ := Ch.at ho (last_get hn)
    refine idxA_of (i := L.length - 1) a1 (by omega) (by rw [w64 (by omega) (by omega)]; omega) ?_
    refine ⟨_, a5, ?_⟩
    refine new_of fun n h1 hn1 e2 e3 e4 => ?_
    refine ⟨a5.ext e3, e3.cell hc0 (fun f => f), e3.cell hc0 (fun f => f), ?_⟩
    refine stH_of e2 (Nat.le_refl 6) fun h2 f1 f2 f3 => ?_
    rw [writeA_all (by rfl)] at f1
    have f1c := Blk.cells f1
    simp only [add_lit, Nat.zero_add, Nat.add_zero]
    have v4 : Cells h2 ⟨n, 1, none⟩ (L.getLast hn).value.cells := fun j v hv => by
      rw [add_lit]
      have q : ∀ i, i < 4 → ((L.getLast hn).cells)[1 + i]? = ((L.getLast hn).value.cells)[i]? := fun i hi => by
        match i, hi with
        | 0, _ => rfl
        | 1, _ => rfl
        | 2, _ => rfl
        | 3, _ => rfl
      have hj : j < 4 := (List.getElem?_eq_some_iff.1 hv).1
      have := f1c (1 + j) v (by rw [q j hj]; exact hv)
      rwa [add_lit, Nat.zero_add] at this
    have c0 : cellH h2 ⟨n, 0, none⟩ = some (.int .i64 (L.getLast hn).epoch) := f1c 0 _ rfl
    have c5 : cellH h2 ⟨n, 5, none⟩ = some (.bool (L.getLast hn).dead) := f1c 5 _ rfl
    refine ⟨_, v4, ldI_of c0 (ldB_of c5 ?_)⟩
    have n0n : n0 ≠ n := by omega
    have b2 : Blk h2 n0 zA.cells.toArray tn_api_Agg := f2.block (e3.block b0' fun f => f) n0n
    refine st_agg b2 fun h3 b3 o3 s3 => ?_
    have z : Only (· = n0) h2 h3 := o3
    refine ⟨z.cell c5 (fun h => n0n h.symm), z.cell c0 (fun h => n0n h.symm), _, b3.cells, ?_⟩
    have hle : newestM L = ((L.getLast hn).value, (L.getLast hn).epoch, !(L.getLast hn).dead) := by unfold newestM; rw [List.getLast?_eq_some_getLast hn]
    have := k h3 (((e0.trans e3).step f2 fun m hm hb => by omega).step o3 fun m hm hb => by omega)
    rw [hle] at this
    exact this
theorem Kill_spec {h : H} {p : Nat} {L : List Ver} {B : Option Nat} {e : Int} {Q : Int → Int → H → Prop} (c : Ch h p L B) (hL : L.length < 4294967296)
    (k0 : mayM L e ≠ 0 → Q 0 (mayM L e) h)
    (k2 : mayM L e = 0 → (newestM L).2.2 = false → ∀ h', Ext h h' → Q 0 44 h')
    (k1 : mayM L e = 0 → (newestM L).2.2 = true → ∀ h' B', Ch h' p (layM L ⟨e, zA, true⟩) B' → Only (FP p B) h h' → Kin h.size B B' → Q (layN L ⟨e, zA, true⟩) 0 h') : F.chain_Chain_api_Agg_Kill (some ⟨p, 0, none⟩) e h Q := by
  unfold F.chain_Chain_api_Agg_Kill
  refine may_spec c hL ⟨fun g => k0 (by simpa using g), fun g => Newest_spec c hL fun h1 e1 => ?_⟩
  refine new_of fun n h2 hn b2 e2 s2 => ?_
  have b2' : Blk h2 n zA.cells.toArray tn_api_Agg := b2
  refine st_agg b2' fun h3 b3 o3 s3 => ?_
  have e13 : Ext h h3 := (e1.trans e2).step o3 fun m hm hb => by have := e1.size; omega
  refine ⟨fun g2 => k2 (by simpa using g) (by simpa using g2) h3 e13, fun g2 => ?_⟩
  exact lay_spec (c.ext e13) hL fun h' B' q1 q2 q3 => k1 (by simpa using g) (by simpa using g2) h' B' q1 ((e13.only (S := FP p B)).trans q2 fun m _ e => e) (q3.ge e13.size)
abbrev Rise (L : List Ver) : Prop := L.Pairwise fun x y => x.epoch < y.epoch
def cntM (L : List Ver) (e : Int) : Nat := L.countP fun x => decide (x.epoch ≤ e)
theorem Rise.lt {L : List Ver} (r : Rise L) {i j : Nat} {x y : Ver} (hij : i < j) (hx : L[i]? = some x) (hy : L[j]? = some y) : x.epoch < y.epoch := by
  obtain ⟨hi, rfl⟩ := List.getElem?_eq_some_iff.1 hx
  obtain ⟨hj, rfl⟩ := List.getElem?_eq_some_iff.1 hy
  exact List.pairwise_iff_getElem.1 r i j hi hj hij
theorem cnt_eq {α : Type} (q : α → Bool) : ∀ (L : List α) (i : Nat), i ≤ L.length → (∀ t x, t < i → L[t]? = some x → q x = true) → (∀ t x, i ≤ t → L[t]? = some x → q x = false) → L.countP q = i
  | [], i, hi, _, _ => by simp at hi; simp [hi]
  | y :: r, 0, hi, h1, h2 => by
    rw [List.countP_cons, h2 0 y (by omega) rfl, cnt_eq q r 0 (by omega) (fun t x ht => by omega) (fun t x ht hx => h2 (t + 1) x (by omega) (by simpa using hx))]
    rfl
  | y :: r, i + 1, hi, h1, h2 => by
    simp at hi
    rw [List.countP_cons, h1 0 y (by omega) rfl, cnt_eq q r i hi (fun t x ht hx => h1 (t + 1) x (by omega) (by simpa using hx)) (fun t x ht hx => h2 (t + 1) x (by omega) (by simpa using hx))]
    rfl
theorem mid_eq {i j : Nat} (h : i + j < 4294967296) : IntKind.wrap .i64 (Int.fdiv (IntKind.wrap .u64 (IntKind.wrap .i64 ((i : Int) + j))) (2 ^ (min (1 : Int).toNat (IntKind.bits .u64)) : Int)) = ((i + j) / 2 : Nat) := by
  rw [w64 (n := (i : Int) + j) (by omega) (by omega)]
  have e1 : IntKind.wrap .u64 ((i : Int) + j) = ((i + j : Nat) : Int) := by
    unfold IntKind.wrap
    simp [IntKind.bits, IntKind.signed]
    omega
  rw [e1, show (2 ^ (min (1 : Int).toNat (IntKind.bits .u64)) : Int) = 2 from by simp [IntKind.bits], Int.fdiv_eq_ediv_of_nonneg _ (by omega), show (((i + j : Nat) : Int) / 2) = (((i + j) / 2 : Nat) : Int) from by omega, w64 (by omega) (by omega)]
theorem cmp_spec {h : H} {x : Ver} {e : Int} {K : Value → H → Prop} (k : ∀ h', Ext h h' → K (.int .i64 (if x.epoch ≤ e then -1 else 1)) h') : CV PP (.func (.func no_chain_Chain_api_Agg_place_1) #[] #[]) [.agg x.cells.toArray, .int .i64 e] h K := by
  refine CV_func (fun a w => no_chain_Chain_api_Agg_place_1_call a w) ?_
  have : F.chain_Chain_api_Agg_place_1 x e h fun r h' => K (.int .i64 r) h' := by
    unfold F.chain_Chain_api_Agg_place_1
    refine new_of fun n h1 e1 e2 e3 e4 => ?_
    simp only [add_lit, Nat.add_zero]
    rw [ldI_iff (e2.cell (v := .int .i64 x.epoch) rfl)]
    simp only [decide_eq_true_eq, decide_eq_false_iff_not]
    refine ⟨fun g => ?_, fun g => ?_⟩
    · have := k h1 e3; rw [if_pos g] at this; exact this
    · have := k h1 e3; rw [if_neg g] at this; exact this
  have := F.chain_Chain_api_Agg_place_1_ok this
  simp only [List.append_toArray, Array.empty_append, Array.append_empty]
  exact this.mono fun r h' ⟨r0, e, q⟩ => by subst e; exact q
theorem bs_loop {s : Sl} {e : Int} {L : List Ver} {Q : Int → Bool → H → Prop} (hr : Rise L) (hL : L.length < 1073741824) : ∀ (m i j : Nat) (h : H), Owns h s tn_chain_version_api_Agg 6 (L.flatMap (·.cells)) → i ≤ j → j ≤ L.length →
    (∀ t x, t < i → L[t]? = some x → x.epoch ≤ e) → (∀ t x, j ≤ t → L[t]? = some x → e < x.epoch) → j - i < m → (∀ r h', Ext h h' → Q (cntM L e) r h') →
    F.slices_BinarySearchFunc_Slchain_version_api_Agg_chain_version_api_Agg_int.l1 Q m s e (.func (.func no_chain_Chain_api_Agg_place_1) #[] #[]) (L.length : Int) (i : Int) (j : Int) h
  | 0, i, j, h, _, _, _, _, _, hm, _ => by omega
  | m + 1, i, j, h, ho, hij, hj, hlo, hhi, hm, k => by
    unfold F.slices_BinarySearchFunc_Slchain_version_api_Agg_chain_version_api_Agg_int.l1
    simp only [decide_eq_true_eq, decide_eq_false_iff_not]
    refine ⟨fun g => ⟨by omega, ?_⟩, fun g => ?_⟩
    · rw [mid_eq (by omega)]
      have hm1 : (i + j) / 2 < L.length := by omega
      obtain ⟨x, hx⟩ : ∃ x, L[(i + j) / 2]? = some x := ⟨_, List.getElem?_eq_getElem hm1⟩
      obtain ⟨b, a1, a2, a3, a4, a5⟩ := Ch.at ho hx
      have hl := Ch.len ho
      refine idxA_of (i := (i + j) / 2) a1 (by omega) rfl ?_
      refine ⟨x, a5, cmp_spec fun h' e1 => ⟨_, rfl, fun g2 => ?_, fun g2 => ?_⟩⟩
      · have hxe : x.epoch ≤ e := by
          by_cases hh : x.epoch ≤ e
          · exact hh
          · rw [if_neg hh] at g2; omega
        rw [w64 (by omega) (by omega), show (((i + j) / 2 : Nat) : Int) + 1 = (((i + j) / 2 + 1 : Nat) : Int) from by omega]
        refine bs_loop hr hL m _ j h' (ho.only e1 fun _ _ f => f) (by omega) hj (fun t y ht hy => ?_) hhi (by omega) fun r h2 e2 => k r h2 (e1.trans e2)
        by_cases ht2 : t = (i + j) / 2
        · subst ht2; rw [hx] at hy; cases hy; exact hxe
        · have := hr.lt (by omega) hy hx; omega
      · have hxe : ¬ x.epoch ≤ e := fun hh => by rw [if_pos hh] at g2; omega
        refine bs_loop hr hL m i _ h' (ho.only e1 fun _ _ f => f) (by omega) (by omega) hlo (fun t y ht hy => ?_) (by omega) fun r h2 e2 => k r h2 (e1.trans e2)
        by_cases ht2 : t = (i + j) / 2
        · subst ht2; rw [hx] at hy; cases hy; omega
        · have := hr.lt (show (i + j) / 2 < t by omega) hx hy; omega
    · have hij2 : i = j := by omega
      subst hij2
      have hc : cntM L e = i := cnt_eq _ L i hj (fun t x ht hx => by simpa using hlo t x ht hx) fun t x ht hx => by simpa using hhi t x ht hx
      rw [hc] at k
      refine ⟨fun g2 => ?_, fun g2 => k _ h (.refl _)⟩
      obtain ⟨x, hx⟩ : ∃ x, L[i]? = some x := ⟨_, List.getElem?_eq_getElem (by omega)⟩
      obtain ⟨b, a1, a2, a3, a4, a5⟩ := Ch.at ho hx
      have hl := Ch.len ho
      refine idxA_of (i := i) a1 (by omega) rfl ?_
      exact ⟨x, a5, cmp_spec fun h' e1 => ⟨_, rfl, k _ h' e1⟩⟩
theorem place_spec {h : H} {p : Nat} {L : List Ver} {B : Option Nat} {e : Int} {Q : Int → H → Prop} (c : Ch h p L B) (hr : Rise L) (hL : L.length < 1073741824)
    (k : ∀ h', Ext h h' → Q ((cntM L e : Int) - 1) h') : F.chain_Chain_api_Agg_place (some ⟨p, 0, none⟩) e h Q := by
  obtain ⟨s, hb, ho, hB, hne⟩ := c
  have hl := Ch.len ho
  have hc0 : cellH h ⟨p, 0, none⟩ = some s.enc := hb.cell rfl
  have hcl : cntM L e ≤ L.length := List.countP_le_length
  simp only [F.chain_Chain_api_Agg_place, nn_some, add_lit, Nat.add_zero, ldL_iff hc0]
  unfold F.slices_BinarySearchFunc_Slchain_version_api_Agg_chain_version_api_Agg_int
  refine ⟨L.length + 1, ?_⟩
  rw [hl]
  refine bs_loop hr hL _ 0 L.length h ho (by omega) (by omega) (fun t x ht => by omega) (fun t x ht hx => ?_) (by omega) fun r h' e1 => ?_
  · rw [List.getElem?_eq_none (by omega)] at hx; cases hx
  · rw [w64 (by omega) (by omega)]
    exact k h' e1
def atM (L : List Ver) (e : Int) : S_api_Agg × Bool := match (L.filter fun x => decide (x.epoch ≤ e)).getLast? with | some x => if x.dead then (zA, false) else (x.value, true) | none => (zA, false)
theorem rise_filter {L : List Ver} (hr : Rise L) (e : Int) : L.filter (fun x => decide (x.epoch ≤ e)) = L.take (cntM L e) := by
  unfold cntM
  induction L with
  | nil => rfl
  | cons y r ih =>
    have hr' := List.pairwise_cons.1 hr
    by_cases hy : y.epoch ≤ e
    · simp [hy, ih hr'.2]
    · have hno : ∀ x ∈ r, ¬ x.epoch ≤ e := fun x hx => by have := hr'.1 x hx; omega
      have h1 : r.filter (fun x => decide (x.epoch ≤ e)) = [] := by simp; intro x hx; have := hno x hx; omega
      have h2 : r.countP (fun x => decide (x.epoch ≤ e)) = 0 := by rw [List.countP_eq_length_filter, h1]; rfl
      simp [hy, h1, h2]
theorem at_last {L : List Ver} (hr : Rise L) (e : Int) : (L.filter fun x => decide (x.epoch ≤ e)).getLast? = if cntM L e = 0 then none else L[cntM L e - 1]? := by
  have hcl : cntM L e ≤ L.length := List.countP_le_length
  rw [rise_filter hr, List.getLast?_eq_getElem?, List.length_take, Nat.min_eq_left hcl]
  split
  · rename_i h0; rw [h0]; simp
  · rw [List.getElem?_take_of_lt (by omega)]
theorem At_spec {h : H} {p : Nat} {L : List Ver} {B : Option Nat} {e : Int} {Q : S_api_Agg → Bool → H → Prop} (c : Ch h p L B) (hr : Rise L) (hL : L.length < 1073741824)
    (k : ∀ h', Ext h h' → Q (atM L e).1 (atM L e).2 h') : F.chain_Chain_api_Agg_At (some ⟨p, 0, none⟩) e h Q := by
  unfold F.chain_Chain_api_Agg_At
  refine new_of fun n0 h0 hn0 b0 e0 s0 => ?_
  have b0' : Blk h0 n0 zA.cells.toArray tn_api_Agg := b0
  refine place_spec (c.ext e0) hr hL fun h1 e1 => ?_
  have e01 := e0.trans e1
  have b1 : Blk h1 n0 zA.cells.toArray tn_api_Agg := e1.block b0' fun f => f
  obtain ⟨s, hb, ho, hB, hne⟩ := c.ext e01
  have hl := Ch.len ho
  have hc0 : cellH h1 ⟨p, 0, none⟩ = some s.enc := hb.cell rfl
  have hcl : cntM L e ≤ L.length := List.countP_le_length
  have none_ : (atM L e) = (zA, false) → F.chain_Chain_api_Agg_At.j1 Q ⟨n0, 0, none⟩ h1 := fun hn => by
    unfold F.chain_Chain_api_Agg_At.j1
    refine ⟨zA, b1.cells, st_agg b1 fun h2 b2 o2 s2 => ⟨zA, b2.cells, ?_⟩⟩
    have := k h2 (e01.step o2 fun m hm hb => by omega)
    rw [hn] at this; exact this
  unfold atM at none_ k
  rw [at_last hr e] at none_ k
  simp only [F.chain_Chain_api_Agg_At.j2, nn_some, add_lit, Nat.add_zero, ldL_iff hc0, decide_eq_true_eq, decide_eq_false_iff_not]
  refine ⟨fun g => ?_, fun g => ⟨(fun h => by cases h), fun _ => none_ (by rw [if_pos (by omega)])⟩⟩
  rw [if_neg (by omega)] at none_ k
  obtain ⟨x, hx⟩ : ∃ x, L[cntM L e - 1]? = some x := ⟨_, List.getElem?_eq_getElem (by omega)⟩
  rw [hx] at none_ k
  obtain ⟨b, a1, a2, a3, a4, a5⟩ := Ch.at ho hx
  refine idxA_of (i := cntM L e - 1) a1 (by omega) (by omega) ?_
  simp only [add_lit, Nat.add_zero]
  rw [ldB_iff a4]
  cases hd : x.dead with
  | true => exact ⟨(fun h => by cases h), fun _ => none_ (by simp [hd])⟩
  | false =>
    simp only [hd] at k
    refine ⟨fun _ => ?_, (fun h => by cases h)⟩
    refine idxA_of (i := cntM L e - 1) a1 (by omega) (by omega) ?_
    rw [add_lit]
    refine ⟨x.value, a3, st_agg b1 fun h2 b2 o2 s2 => ⟨_, b2.cells, ?_⟩⟩
    exact k h2 (e01.step o2 fun m hm hb => by omega)
end Go.Proofs.YtoccbnhahaoeiaaGreat.V.C
namespace Go.Proofs.YtoccbnhahaoeiaaGreat.V
open Go
set_option linter.unusedVariables false
set_option linter.unusedSimpArgs false
theorem i64_of {n : Int} (h : (Lit.int .i64 n).wf = true) : -9223372036854775808 ≤ n ∧ n < 9223372036854775808 := by
  simp [Lit.wf, IntKind.min, IntKind.max, IntKind.bits, IntKind.signed] at h
  omega
end Go.Proofs.YtoccbnhahaoeiaaGreat.V
namespace Go.Proofs.YtoccbnhahaoeiaaGreat.V.C
open Go Go.Proofs.YtoccbnhahaoeiaaGreat.V
set_option linter.unusedVariables false
set_option linter.unusedSimpArgs false
set_option maxRecDepth 20000
def markM (L : List Ver) (S : List Bool) (e : Int) : List Bool := if cntM L e = 0 then S else S.set (cntM L e - 1) true
def keepM : List Ver → List Bool → List Ver
  | x :: r, b :: s => if b then x :: keepM r s else keepM r s
  | _, _ => []
def stayM (L : List Ver) (E : List Int) : List Bool := E.foldl (markM L) ((List.replicate L.length false).set (L.length - 1) true)
def oneM : List Ver → List Ver
  | [x] => if x.dead then [] else [x]
  | R => R
def pruneM (L : List Ver) (E : List Int) : List Ver := oneM (keepM L (stayM L E))
theorem markM_len (L : List Ver) (S : List Bool) (e : Int) : (markM L S e).length = S.length := by unfold markM; split <;> simp
theorem stay_len (L : List Ver) : ∀ (E : List Int) (S : List Bool), (E.foldl (markM L) S).length = S.length
  | [], S => rfl
  | e :: r, S => by rw [List.foldl_cons, stay_len L r, markM_len]
theorem keep_le : ∀ (L : List Ver) (S : List Bool), (keepM L S).length ≤ L.length
  | [], S => by simp [keepM]
  | x :: r, [] => by simp [keepM]
  | x :: r, b :: s => by unfold keepM; have := keep_le r s; split <;> simp <;> omega
theorem keep_snoc (x : Ver) (b : Bool) : ∀ (L : List Ver) (S : List Bool), L.length = S.length → keepM (L ++ [x]) (S ++ [b]) = keepM L S ++ (if b then [x] else [])
  | [], [], _ => by cases b <;> simp [keepM]
  | [], _ :: _, h => by simp at h
  | _ :: _, [], h => by simp at h
  | y :: r, c :: s, h => by
    have := keep_snoc x b r s (by simpa using h)
    simp only [List.cons_append, keepM, this]
    split <;> simp
theorem keep_take {L : List Ver} {S : List Bool} (hl : S.length = L.length) {i : Nat} {x : Ver} {b : Bool} (hx : L[i]? = some x) (hb : S[i]? = some b) : keepM (L.take (i + 1)) (S.take (i + 1)) = keepM (L.take i) (S.take i) ++ (if b then [x] else []) := by
  rw [List.take_add_one, List.take_add_one, hx, hb]
  exact keep_snoc x b _ _ (by simp [hl])
/-- Those asked for are marked. -/
theorem mark_loop {p : Nat} {L : List Ver} {B : Option Nat} {held : Sl} {s6 : Sl} {sb : Nat} {E0 : List Int} {Q : Int → H → Prop} (hr : Rise L) (hL : L.length < 1073741824) (hE0 : E0.length < 1073741824) (hp6 : s6.ptr = some ⟨sb, 0, none⟩) (hpb : p ≠ sb) (hBb : B ≠ some sb) (hh : E0 ≠ [] → held.blk ≠ some sb) :
    ∀ (m i : Nat) (h : H) (S : List Bool), Ch h p L B → Owns h s6 4 1 (S.flatMap cB) → S.length = L.length → Reads h held 1 (E0.flatMap cI) → i ≤ E0.length → E0.length - i < m →
    (∀ h' S', S' = (E0.drop i).foldl (markM L) S → Ch h' p L B → Owns h' s6 4 1 (S'.flatMap cB) → Only (· = sb) h h' → (nn (some ⟨p, 0, none⟩) fun a22 => ldL h' (a22.add 0) fun y24 => ∃ m, F.chain_Chain_api_Agg_Prune.l2 Q m (some ⟨p, 0, none⟩) (L.length : Int) s6 ⟨none, 0, 0⟩ y24 (y24.len : Int) 0 h')) →
    F.chain_Chain_api_Agg_Prune.l1 Q m (some ⟨p, 0, none⟩) (L.length : Int) s6 held (E0.length : Int) (i : Int) h
  | 0, i, h, S, _, _, _, _, _, hm, _ => by omega
  | m + 1, i, h, S, c, o, hS, rd, hi, hm, k => by
    have hp := c.lt
    unfold F.chain_Chain_api_Agg_Prune.l1
    simp only [decide_eq_true_eq, decide_eq_false_iff_not]
    refine ⟨fun g => ?_, fun g => ?_⟩
    · have hi2 : i < E0.length := by omega
      obtain ⟨e, he⟩ : ∃ e, E0[i]? = some e := ⟨_, List.getElem?_eq_getElem hi2⟩
      obtain ⟨q, r1, r2, r3⟩ := rd_at cI_len (by omega) rd he
      have hel := rd_len cI_len (by omega) rd
      refine idxR_of (i := i) r1 (by omega) rfl ?_
      rw [ldI_iff r3.one]
      refine place_spec c hr hL fun h1 e1 => ?_
      have hd : E0.drop i = e :: E0.drop (i + 1) := by
        rw [List.drop_eq_getElem_cons hi2]
        congr 1
        obtain ⟨_, h⟩ := List.getElem?_eq_some_iff.1 he; exact h
      rw [hd, List.foldl_cons] at k
      have hw : IntKind.wrap .i64 ((i : Int) + 1) = ((i + 1 : Nat) : Int) := by rw [w64 (by omega) (by omega)]; omega
      rw [hw]
      have hcl : cntM L e ≤ L.length := List.countP_le_length
      refine ⟨fun g2 => ?_, fun g2 => ?_⟩
      · refine idxA_of (i := cntM L e - 1) hp6 (by rw [own_len cB_len (by omega) o]; omega) (by omega) ?_
        refine own_setAt (f := cB) (k := 1) (x := true) cB_len (o.only e1 fun _ _ f => f) hp6 (by omega) fun h2 f1 f2 f3 => ?_
        have hm2 : markM L S e = S.set (cntM L e - 1) true := by unfold markM; rw [if_neg (by omega)]
        rw [← hm2] at f1
        have f2' : Only (· = sb) h h2 := (e1.only (S := (· = sb))).trans f2 fun n _ e => by simp [Sl.blk, hp6] at e; exact e.symm
        exact mark_loop hr hL hE0 hp6 hpb hBb hh m (i + 1) h2 _ (c.only f2' hpb fun b hb e => hBb (by rw [hb, e])) f1 (by rw [markM_len]; exact hS) (rd.keep f2' fun hne b hb e => hh hne (by rw [hb, e])) (by omega) (by omega)
          fun h' S' q1 q2 q3 q4 => k h' S' q1 q2 q3 (f2'.trans q4 fun _ _ e => e)
      · have hm2 : markM L S e = S := by unfold markM; rw [if_pos (by omega)]
        rw [hm2] at k
        exact mark_loop hr hL hE0 hp6 hpb hBb hh m (i + 1) h1 _ (c.ext e1) (o.only e1 fun _ _ f => f) hS (rd.only e1 fun _ _ f => f) (by omega) (by omega)
          fun h' S' q1 q2 q3 q4 => k h' S' q1 q2 q3 ((e1.only (S := (· = sb))).trans q4 fun _ _ e => e)
    · have hd : E0.drop i = [] := List.drop_eq_nil_of_le (by omega)
      rw [hd] at k
      exact k h S rfl c o (.refl _)
/-- Those marked are laid into a new row. -/
theorem keep_loop {p : Nat} {L : List Ver} {s s6 : Sl} {sb n0 : Nat} {S : List Bool} {Q : Int → H → Prop} (hL : L.length < 1073741824) (hS : S.length = L.length) (hp6 : s6.ptr = some ⟨sb, 0, none⟩) (hs : s.blk ≠ some p) :
    ∀ (m i : Nat) (h : H) (x : Sl), Blk h p #[s.enc] tn_chain_Chain_api_Agg → Owns h s tn_chain_version_api_Agg 6 (L.flatMap (·.cells)) → Owns h s6 4 1 (S.flatMap cB) → Owns h x tn_chain_version_api_Agg 6 ((keepM (L.take i) (S.take i)).flatMap (·.cells)) →
    (∀ b, x.blk = some b → n0 ≤ b) → n0 ≤ h.size → p < n0 → (∀ b, s.blk = some b → b < n0) → sb < n0 → i ≤ L.length → L.length - i < m →
    (∀ h' B', Ch h' p (oneM (keepM L S)) B' → Only (fun b => b = p ∨ n0 ≤ b) h h' → (B' = none ∨ ∃ b, B' = some b ∧ n0 ≤ b) → Q ((L.length : Int) - ((oneM (keepM L S)).length : Int)) h') →
    F.chain_Chain_api_Agg_Prune.l2 Q m (some ⟨p, 0, none⟩) (L.length : Int) s6 x s (L.length : Int) (i : Int) h
  | 0, i, h, x, _, _, _, _, _, _, _, _, _, _, hm, _ => by omega
  | m + 1, i, h, x, hb, ho, o6, ox, hx, hn0, hp, hs0, hsb, hi, hm, k => by
    unfold F.chain_Chain_api_Agg_Prune.l2
    have hl := own_len ver_len (by omega) ho
    have hl6 := own_len cB_len (by omega) o6
    simp only [decide_eq_true_eq, decide_eq_false_iff_not]
    refine ⟨fun g => ?_, fun g => ?_⟩
    · have hi2 : i < L.length := by omega
      obtain ⟨y, hy⟩ : ∃ y, L[i]? = some y := ⟨_, List.getElem?_eq_getElem hi2⟩
      obtain ⟨b, hSb⟩ : ∃ b, S[i]? = some b := ⟨_, List.getElem?_eq_getElem (by omega)⟩
      obtain ⟨bb, a1, a2⟩ := own_at ver_len (by omega) ho hy
      refine idxA_of (i := i) a1 (by omega) rfl ⟨y, a2, ?_⟩
      refine new_of fun n h1 e1 e2 e3 e4 => ?_
      refine stH_of e2 (by simp [S_chain_version_api_Agg.cells, S_api_Agg.cells]) fun h2 f1 f2 f3 => ?_
      rw [writeA_all (by simp [S_chain_version_api_Agg.cells, S_api_Agg.cells])] at f1
      have f4 : Ext h h2 := (e3.only (S := fun _ => False)).trans f2 fun m hm e => by omega
      obtain ⟨b6, c1, c2⟩ := own_at cB_len (by omega) (o6.only f4 fun _ _ f => f) hSb
      refine idxA_of (i := i) c1 (by omega) rfl ?_
      rw [ldB_iff c2.one]
      have hw : IntKind.wrap .i64 ((i : Int) + 1) = ((i + 1 : Nat) : Int) := by rw [w64 (by omega) (by omega)]; omega
      rw [hw]
      have hkt := keep_take hS hy hSb
      refine ⟨fun g2 => ?_, fun g2 => ?_⟩
      · subst g2
        refine ⟨y, fun j v hv => by rw [add_lit, Nat.zero_add]; exact f1.cell (by simpa using hv), ?_⟩
        refine newL_of fun n3 h3 g1 g2 g3 g4 => ?_
        have f5 := f4.trans g3
        have hkl : (keepM (L.take i) (S.take i)).length ≤ L.length := Nat.le_trans (keep_le _ _) (by rw [List.length_take]; omega)
        have hxl := own_len ver_len (by omega) ox
        refine app_of (ys := y.cells) el_Slchain_version_api_Agg (ox.only f5 (fun _ _ f => f)) (blk_reads (by simpa using g2) rfl) (ones_S_chain_version_api_Agg y) (by simp only; omega) fun r h4 r1 r2 r3 r4 => ?_
        have r3' : Only (fun b => n0 ≤ b) h h4 := (f5.only (S := fun b => n0 ≤ b)).trans r3 fun b _ e => hx b e
        have hge : h.size ≤ h4.size := r3'.size
        refine keep_loop (n0 := n0) hL hS hp6 hs m (i + 1) h4 r (r3'.block hb (by omega)) (ho.only r3' fun b hb e => by have := hs0 b hb; omega) (o6.only r3' fun b hb e => by simp [Sl.blk, hp6] at hb; omega) ?_ ?_ (by omega) hp hs0 hsb (by omega) (by omega) ?_
        · rw [hkt]; simpa using r1
        · intro b hb
          rcases r4 with r4 | ⟨b', r4, r5⟩
          · exact hx b (by rw [← r4]; exact hb)
          · rw [r4] at hb; cases hb
            have := f5.size; omega
        · intro h' B' q1 q2 q3
          exact k h' B' q1 ((r3'.mono fun b _ e => .inr e).trans q2 fun _ _ e => e) q3
      · subst g2
        refine keep_loop (n0 := n0) hL hS hp6 hs m (i + 1) h2 x (f4.block hb (fun f => f)) (ho.only f4 fun _ _ f => f) (o6.only f4 fun _ _ f => f) ?_ hx (by have := f4.size; omega) hp hs0 hsb (by omega) (by omega) ?_
        · rw [hkt]; simpa using ox.only f4 fun _ _ f => f
        · intro h' B' q1 q2 q3
          exact k h' B' q1 ((f4.only (S := fun b => b = p ∨ n0 ≤ b)).trans q2 fun _ _ e => e) q3
    · have hii : i = L.length := by omega
      subst hii
      rw [List.take_length, show L.length = S.length from hS.symm, List.take_length] at ox
      have hxl := own_len ver_len (by omega) ox
      have hkl := keep_le L S
      -- the end: what is laid
      have hend : ∀ (y : Sl) (R : List Ver), Owns h y tn_chain_version_api_Agg 6 (R.flatMap (·.cells)) → (∀ b, y.blk = some b → n0 ≤ b) → R = (oneM (keepM L S)) → R.length ≤ L.length → F.chain_Chain_api_Agg_Prune.j3 Q (some ⟨p, 0, none⟩) (L.length : Int) y h := fun y R hy hyb hR hRl => by
        unfold F.chain_Chain_api_Agg_Prune.j3
        simp only [nn_some, add_lit, Nat.add_zero]
        have hyl := own_len ver_len (by omega) hy
        refine stH_of hb (by simp) fun h4 g1 g2 g3 => ?_
        rw [writeA_all (by simp)] at g1
        rw [hyl, w64 (by omega) (by omega)]
        have hne : y.blk ≠ some p := fun e => by have := hyb p e; omega
        rw [← hR] at k
        refine k h4 y.blk ⟨y, g1, hy.only g2 fun b hb e => hne (by rw [hb, e]), rfl, hne⟩ (g2.mono fun _ _ e => .inl e) ?_
        cases hyy : y.blk with
        | none => exact .inl rfl
        | some b => exact .inr ⟨b, rfl, hyb b hyy⟩
      rw [beq_iff_eq, beq_eq_false_iff_ne]
      unfold F.chain_Chain_api_Agg_Prune.j4
      refine ⟨fun g2 => ?_, fun g2 => ⟨(fun h => by cases h), fun _ => hend x _ ox hx ?_ hkl⟩⟩
      · have h1 : (keepM L S).length = 1 := by omega
        obtain ⟨y, hy⟩ := List.length_eq_one_iff.1 h1
        obtain ⟨bb, a1, a2⟩ := own_at (i := 0) (x := y) ver_len (by omega) ox (by rw [hy]; rfl)
        refine idxA_of (i := 0) a1 (by omega) rfl ?_
        have hd : cellH h ((⟨bb, 0 * 6, none⟩ : Addr).add 5) = some (.bool y.dead) := a2 5 (.bool y.dead) rfl
        rw [ldB_iff hd]
        refine ⟨fun g3 => hend _ [] (Owns.nil _ _ _) (fun b hb => by simp [Sl.blk] at hb) (by rw [hy]; simp [oneM, g3]) (by simp), fun g3 => hend x _ ox hx (by rw [hy]; simp [oneM, g3]) hkl⟩
      · unfold oneM
        split
        · rename_i y hy; rw [hy] at hxl; simp at hxl; omega
        · rfl
theorem Prune_spec {h : H} {p : Nat} {L : List Ver} {B : Option Nat} {held : Sl} {E : List Int} {Q : Int → H → Prop} (c : Ch h p L B) (hr : Rise L) (hL : L.length < 1073741824) (hE : E.length < 1073741824) (rd : Reads h held 1 (E.flatMap cI))
    (hlt : E ≠ [] → ∀ b, held.blk = some b → b < h.size)
    (k : ∀ h' B', Ch h' p (pruneM L E) B' → Only (· = p) h h' → Kin h.size B B' → Q ((L.length : Int) - ((pruneM L E).length : Int)) h') : F.chain_Chain_api_Agg_Prune (some ⟨p, 0, none⟩) held h Q := by
  have hp := c.lt
  obtain ⟨s, hb, ho, hB, hne⟩ := id c
  have hl := own_len ver_len (by omega) ho
  have hel := rd_len cI_len (by omega) rd
  have hc0 : cellH h ⟨p, 0, none⟩ = some s.enc := hb.cell rfl
  simp only [F.chain_Chain_api_Agg_Prune, nn_some, add_lit, Nat.add_zero, ldL_iff hc0, hl, hel]
  rw [beq_iff_eq, beq_eq_false_iff_ne]
  refine ⟨fun g => ?_, fun g => ?_⟩
  · have hn : L = [] := List.eq_nil_of_length_eq_zero (by omega)
    subst hn
    have hpr : pruneM [] E = [] := by simp [pruneM, keepM, oneM]
    rw [hpr] at k
    exact k h B c (.refl _) (.inl rfl)
  · have hpos : 0 < L.length := by omega
    refine make_of el_Slbool (by omega) (by simp only [maxLen]; omega) fun nb h1 n1 n2 n3 => ?_
    have hblt := c.ltB
    have hg1 := n3.size
    rw [show (Value.bool false).cells = #[.bool false] from rfl, Nat.mul_one, made_one, ← flat_replicate cB false (.bool false) rfl] at n2
    refine idxA_of (i := L.length - 1) rfl (by simp only; omega) (by rw [w64 (by omega) (by omega)]; omega) ?_
    refine own_setAt (f := cB) (k := 1) (x := true) cB_len n2 rfl (by simp; omega) fun h2 f1 f2 f3 => ?_
    have f2' : Ext h h2 := (n3.only (S := fun _ => False)).trans f2 fun n hn e => by simp [Sl.blk] at e; omega
    refine ⟨E.length + 1, ?_⟩
    refine mark_loop hr hL hE rfl (by omega) (fun e => by have := hblt _ e; omega) (fun hne e => by have := hlt hne _ e; omega) _ 0 h2 _ (c.ext f2') f1 (by simp) (rd.only f2' fun _ _ f => f) (by omega) (by omega) fun h3 S' q1 q2 q3 q4 => ?_
    have q5 : Ext h h3 := (f2'.only (S := fun _ => False)).trans q4 fun n hn e => by omega
    have hb3 : Blk h3 p #[s.enc] tn_chain_Chain_api_Agg := q5.block hb (fun f => f)
    simp only [nn_some, add_lit, Nat.add_zero]
    rw [ldL_iff (hb3.cell (i := 0) rfl)]
    refine ⟨L.length + 1, ?_⟩
    rw [hl]
    have hS' : S' = stayM L E := q1
    have hsl : (stayM L E).length = L.length := by unfold stayM; rw [stay_len]; simp
    rw [hS'] at q3
    have hg3 := q5.size
    have hsb3 : nb < h3.size := q3.blk_lt (b := nb) rfl
    refine keep_loop (n0 := h3.size) hL hsl rfl (by rw [hB]; exact hne) _ 0 h3 _ hb3 (ho.only q5 fun _ _ f => f) q3 (by simpa [keepM] using Owns.nil h3 tn_chain_version_api_Agg 6) (fun b hb => by simp [Sl.blk] at hb) (Nat.le_refl _) (by omega) (fun b hb => by have := hblt b (by rw [← hB]; exact hb); omega) hsb3 (by omega) (by omega) ?_
    intro h' B' t1 t2 t3
    refine k h' B' t1 ((q5.only (S := (· = p))).trans t2 fun n hn e => by omega) ?_
    rcases t3 with t3 | ⟨b, t3, t4⟩
    · exact .inr (.inl t3)
    · exact .inr (.inr ⟨b, t3, by omega⟩)
end Go.Proofs.YtoccbnhahaoeiaaGreat.V.C
namespace Go.Proofs.YtoccbnhahaoeiaaGreat.V.C
open Go Go.Proofs.YtoccbnhahaoeiaaGreat.V
set_option linter.unusedVariables false
set_option linter.unusedSimpArgs false
set_option maxRecDepth 20000
theorem rise_sub {L R : List Ver} (hr : Rise L) (hs : R.Sublist L) : Rise R := List.Pairwise.sublist hs hr
theorem keep_sub : ∀ (L : List Ver) (S : List Bool), (keepM L S).Sublist L
  | [], S => by simp [keepM]
  | x :: r, [] => by simp [keepM]
  | x :: r, b :: s => by
    unfold keepM
    split
    · exact (keep_sub r s).cons_cons x
    · exact (keep_sub r s).cons x
theorem one_sub (R : List Ver) : (oneM R).Sublist R := by
  unfold oneM
  split
  · split <;> simp
  · simp
theorem prune_sub (L : List Ver) (E : List Int) : (pruneM L E).Sublist L := (one_sub _).trans (keep_sub _ _)
theorem mem_keep {x : Ver} : ∀ {L : List Ver} {S : List Bool} {i : Nat}, L[i]? = some x → S[i]? = some true → x ∈ keepM L S
  | [], S, i, h, _ => by simp at h
  | y :: r, [], i, _, h => by simp at h
  | y :: r, b :: s, 0, h1, h2 => by simp at h1 h2; subst h1; subst h2; simp [keepM]
  | y :: r, b :: s, i + 1, h1, h2 => by
    have := mem_keep (L := r) (S := s) (i := i) (by simpa using h1) (by simpa using h2)
    unfold keepM
    split
    · exact List.mem_cons_of_mem _ this
    · exact this
theorem mark_mono (L : List Ver) {i : Nat} : ∀ (E : List Int) (S : List Bool), S[i]? = some true → (E.foldl (markM L) S)[i]? = some true
  | [], S, h => h
  | e :: r, S, h => by
    rw [List.foldl_cons]
    refine mark_mono L r _ ?_
    unfold markM
    split
    · exact h
    · have hi := (List.getElem?_eq_some_iff.1 h).1
      rw [List.getElem?_set]
      split
      · rename_i he; subst he; rw [if_pos hi]
      · exact h
theorem prune_le (L : List Ver) (E : List Int) : (pruneM L E).length ≤ L.length := (prune_sub L E).length_le
theorem stay_last {L : List Ver} (hn : L ≠ []) (E : List Int) : (stayM L E)[L.length - 1]? = some true := by
  have hpos : 0 < L.length := List.length_pos_iff.2 hn
  exact mark_mono L E _ (by rw [List.getElem?_set, if_pos rfl, if_pos (by simp; omega)])
theorem keep_last {L : List Ver} (hr : Rise L) (hn : L ≠ []) (E : List Int) : (keepM L (stayM L E)).getLast? = some (L.getLast hn) := by
  have hmem : L.getLast hn ∈ keepM L (stayM L E) := mem_keep (last_get hn) (stay_last hn E)
  have hk := keep_sub L (stayM L E)
  have hr2 := rise_sub hr hk
  obtain ⟨y, hy⟩ : ∃ y, (keepM L (stayM L E)).getLast? = some y := ⟨_, List.getLast?_eq_some_getLast (List.ne_nil_of_mem hmem)⟩
  rw [hy]
  obtain ⟨l, hl⟩ := List.getLast?_eq_some_iff.1 hy
  congr 1
  rw [hl] at hmem hr2
  rcases List.mem_append.1 hmem with hm | hm
  · exfalso
    have h1 := (List.pairwise_append.1 hr2).2.2 _ hm y (by simp)
    have hyL : y ∈ L := hk.subset (by rw [hl]; simp)
    have hrr : ∀ z ∈ L, z.epoch ≤ (L.getLast hn).epoch := fun z hz => by
      obtain ⟨i, hi, rfl⟩ := List.mem_iff_getElem.1 hz
      by_cases he : i = L.length - 1
      · have : L.getLast hn = L[i] := by rw [List.getLast_eq_getElem]; congr 1; exact he.symm
        rw [this]; exact Int.le_refl _
      · have := hr.lt (i := i) (j := L.length - 1) (by omega) (List.getElem?_eq_getElem hi) (last_get hn); omega
    have := hrr y hyL
    omega
  · simp at hm; exact hm.symm
theorem prune_last {L : List Ver} (hr : Rise L) (hn : L ≠ []) (E : List Int) : (pruneM L E = [] ∧ (L.getLast hn).dead = true) ∨ (pruneM L E).getLast? = some (L.getLast hn) := by
  have hk := keep_last hr hn E
  unfold pruneM oneM
  split
  · rename_i x hx
    rw [hx] at hk
    simp at hk
    split
    · rename_i hd; exact .inl ⟨rfl, by rw [← hk]; exact hd⟩
    · exact .inr (by simp [hk])
  · exact .inr hk
end Go.Proofs.YtoccbnhahaoeiaaGreat.V.C
namespace Go.Proofs.YtoccbnhahaoeiaaGreat.V
set_option linter.unusedVariables false
set_option linter.unusedSimpArgs false
structure Pl (α : Type) where
  is_ : Nat
  key : ByteArray
  value : α
abbrev kL (k : ByteArray) : List UInt8 := k.data.toList
theorem kL_inj {a b : ByteArray} (h : kL a = kL b) : a = b := by
  obtain ⟨x⟩ := a
  obtain ⟨y⟩ := b
  congr 1
  exact Array.toList_inj.1 h
def hashL (l : List UInt8) : Nat := l.foldl (fun h c => ((h ^^^ c.toNat) * 1099511628211) % 18446744073709551616) 14695981039346656037
def hashM (k : ByteArray) : Nat := hashL (kL k)
section
variable {α : Type}
def probe (R : List (Pl α)) (key : ByteArray) : Nat → Nat → Option (Nat × Bool)
  | 0, _ => none
  | f + 1, i => match R[i]? with
    | none => none
    | some p => if p.is_ = 0 then some (i, false) else if p.is_ = 1 ∧ kL p.key = kL key then some (i, true) else probe R key f ((i + 1) % R.length)
def homeM (R : List (Pl α)) (key : ByteArray) : Nat := hashM key % R.length
def findM (R : List (Pl α)) (key : ByteArray) : Option (Nat × Bool) := if R.length = 0 then some (0, false) else probe R key (R.length + 1) (homeM R key)
/-- How far i lies behind h, on the ring of n. -/
def dist (n h i : Nat) : Nat := if h ≤ i then i - h else i + n - h
theorem dist_lt {n h i : Nat} (hh : h < n) (hi : i < n) : dist n h i < n := by unfold dist; split <;> omega
theorem ring_dist {n h i : Nat} (hh : h < n) (hi : i < n) : (h + dist n h i) % n = i := by
  unfold dist
  split
  · rw [show h + (i - h) = i from by omega, Nat.mod_eq_of_lt hi]
  · rw [show h + (i + n - h) = i + n from by omega, Nat.add_mod_right, Nat.mod_eq_of_lt hi]
theorem ring_val {n h k : Nat} (hh : h < n) (hk : k < n) : (h + k) % n = if h + k < n then h + k else h + k - n := by
  split
  · rename_i g; exact Nat.mod_eq_of_lt g
  · rename_i g
    rw [show h + k = (h + k - n) + n from by omega, Nat.add_mod_right, Nat.mod_eq_of_lt (by omega)]
    omega
theorem dist_ring {n h k : Nat} (hh : h < n) (hk : k < n) : dist n h ((h + k) % n) = k := by
  rw [ring_val hh hk]; unfold dist
  split <;> split <;> omega
theorem ring_lt {n h k : Nat} (hn : 0 < n) : (h + k) % n < n := Nat.mod_lt _ hn
theorem ring_succ {n h k : Nat} : ((h + k) % n + 1) % n = (h + (k + 1)) % n := by
  rw [Nat.add_mod ((h + k) % n), Nat.mod_mod, ← Nat.add_mod, Nat.add_assoc]
/-- Place i is not empty. -/
def Full (R : List (Pl α)) (i : Nat) : Prop := ∃ p, R[i]? = some p ∧ p.is_ ≠ 0
def Hit (R : List (Pl α)) (key : ByteArray) (i : Nat) : Prop := ∃ p, R[i]? = some p ∧ p.is_ = 1 ∧ kL p.key = kL key
def Empty (R : List (Pl α)) (i : Nat) : Prop := ∃ p, R[i]? = some p ∧ p.is_ = 0
theorem Full.not_empty {R : List (Pl α)} {i : Nat} (h : Full R i) : ¬ Empty R i := fun ⟨q, h1, h2⟩ => by
  obtain ⟨p, h3, h4⟩ := h
  rw [h1] at h3; cases h3; exact h4 h2
theorem full_or_empty {R : List (Pl α)} {i : Nat} (h : i < R.length) : Full R i ∨ Empty R i := by
  by_cases e : R[i].is_ = 0
  · exact .inr ⟨_, List.getElem?_eq_getElem h, e⟩
  · exact .inl ⟨_, List.getElem?_eq_getElem h, e⟩
theorem Hit.full {R : List (Pl α)} {key : ByteArray} {i : Nat} (h : Hit R key i) : Full R i := by
  obtain ⟨p, h1, h2, _⟩ := h
  exact ⟨p, h1, by omega⟩
theorem Empty.lt {R : List (Pl α)} {i : Nat} (h : Empty R i) : i < R.length := by
  obtain ⟨p, h1, _⟩ := h; exact (List.getElem?_eq_some_iff.1 h1).1
theorem Hit.lt {R : List (Pl α)} {key : ByteArray} {i : Nat} (h : Hit R key i) : i < R.length := by
  obtain ⟨p, h1, _⟩ := h; exact (List.getElem?_eq_some_iff.1 h1).1
theorem probe_go {R : List (Pl α)} {key : ByteArray} {h : Nat} (hn : h < R.length) : ∀ (K f : Nat), (∀ k, k < K → Full R ((h + k) % R.length) ∧ ¬ Hit R key ((h + k) % R.length)) → ∀ j, j ≤ K → probe R key (f + (K - j)) ((h + j) % R.length) = probe R key f ((h + K) % R.length) := by
  intro K f hk j hj
  obtain ⟨d, hd⟩ : ∃ d, K = j + d := ⟨K - j, by omega⟩
  subst hd
  induction d generalizing j with
  | zero => simp
  | succ d ih =>
    rw [show j + (d + 1) - j = d + 1 from by omega, ← Nat.add_assoc f d 1, probe]
    obtain ⟨⟨p, h1, h2⟩, h3⟩ := hk j (by omega)
    rw [h1]
    simp only [h2, if_false]
    rw [if_neg (fun hh => h3 ⟨p, h1, hh.1, hh.2⟩), ring_succ]
    have := ih (j + 1) (fun k hk2 => hk k (by omega)) (by omega)
    rw [show j + 1 + d - (j + 1) = d from by omega, show j + 1 + d = j + (d + 1) from by omega] at this
    exact this
theorem probe_hit {R : List (Pl α)} {key : ByteArray} {h K f : Nat} (hn : h < R.length) (hk : ∀ k, k < K → Full R ((h + k) % R.length) ∧ ¬ Hit R key ((h + k) % R.length)) (hh : Hit R key ((h + K) % R.length)) (hf : K < f) : probe R key f h = some ((h + K) % R.length, true) := by
  have := probe_go hn K (f - K) hk 0 (by omega)
  rw [show f - K + (K - 0) = f from by omega, Nat.add_zero, Nat.mod_eq_of_lt hn] at this
  rw [this, show f - K = (f - K - 1) + 1 from by omega, probe]
  obtain ⟨p, h1, h2, h3⟩ := hh
  rw [h1]
  simp [h2, h3]
theorem probe_miss {R : List (Pl α)} {key : ByteArray} {h K f : Nat} (hn : h < R.length) (hk : ∀ k, k < K → Full R ((h + k) % R.length) ∧ ¬ Hit R key ((h + k) % R.length)) (hh : Empty R ((h + K) % R.length)) (hf : K < f) : probe R key f h = some ((h + K) % R.length, false) := by
  have := probe_go hn K (f - K) hk 0 (by omega)
  rw [show f - K + (K - 0) = f from by omega, Nat.add_zero, Nat.mod_eq_of_lt hn] at this
  rw [this, show f - K = (f - K - 1) + 1 from by omega, probe]
  obtain ⟨p, h1, h2⟩ := hh
  rw [h1]
  simp [h2]
theorem least {P : Nat → Prop} : ∀ m, (∃ k, k < m ∧ P k) → ∃ k, k < m ∧ P k ∧ ∀ j, j < k → ¬ P j
  | 0, ⟨k, h, _⟩ => by omega
  | m + 1, ⟨k, h, hp⟩ => by
    by_cases e : ∃ k, k < m ∧ P k
    · obtain ⟨k, h1, h2, h3⟩ := least m e
      exact ⟨k, by omega, h2, h3⟩
    · exact ⟨k, h, hp, fun j hj hpj => e ⟨j, by omega, hpj⟩⟩
/-- The places from a key's home up to i (but i itself) are not empty. -/
def Chain (R : List (Pl α)) (key : ByteArray) (i : Nat) : Prop := ∀ k, k < dist R.length (homeM R key) i → Full R ((homeM R key + k) % R.length)
theorem home_lt {R : List (Pl α)} {key : ByteArray} (h : 0 < R.length) : homeM R key < R.length := Nat.mod_lt _ h
theorem find_hit {R : List (Pl α)} {key : ByteArray} {i : Nat} (hh : Hit R key i) (hc : Chain R key i) (hu : ∀ j, Hit R key j → j = i) : findM R key = some (i, true) := by
  have hlt := hh.lt
  have hn : 0 < R.length := by omega
  have hm := home_lt (R := R) (key := key) hn
  unfold findM
  rw [if_neg (by omega)]
  have hr := ring_dist hm hlt
  have hd := dist_lt hm hlt
  rw [probe_hit (K := dist R.length (homeM R key) i) hm (fun k hk => ⟨hc k hk, fun hk2 => ?_⟩) (by rw [hr]; exact hh) (by omega), hr]
  have := hu _ hk2
  have h2 := dist_ring hm (show k < R.length by omega)
  rw [this] at h2; omega
theorem find_miss {R : List (Pl α)} {key : ByteArray} (hn : ∀ j, ¬ Hit R key j) (hr : ∃ i, Empty R i) : ∃ i, findM R key = some (i, false) ∧ Empty R i ∧ Chain R key i := by
  obtain ⟨e, he⟩ := hr
  have hlt := he.lt
  have hm := home_lt (R := R) (key := key) (by omega)
  obtain ⟨K, h1, h2, h3⟩ := least (P := fun k => Empty R ((homeM R key + k) % R.length)) R.length ⟨dist R.length (homeM R key) e, dist_lt hm hlt, by rw [ring_dist hm hlt]; exact he⟩
  have full : ∀ k, k < K → Full R ((homeM R key + k) % R.length) := fun k hk => (full_or_empty (ring_lt (by omega))).resolve_right (h3 k hk)
  refine ⟨(homeM R key + K) % R.length, ?_, h2, fun k hk => ?_⟩
  · unfold findM
    rw [if_neg (by omega)]
    exact probe_miss hm (fun k hk => ⟨full k hk, hn _⟩) h2 (by omega)
  · rw [dist_ring hm h1] at hk; exact full k hk
theorem find_nil {key : ByteArray} : findM ([] : List (Pl α)) key = some (0, false) := rfl
structure RowOk (R : List (Pl α)) : Prop where
  chain : ∀ (i : Nat) (p : Pl α), R[i]? = some p → p.is_ = 1 → Chain R p.key i
  uniq : ∀ (i j : Nat) (p q : Pl α), R[i]? = some p → R[j]? = some q → p.is_ = 1 → q.is_ = 1 → kL p.key = kL q.key → i = j
theorem RowOk.hit {R : List (Pl α)} (r : RowOk R) {key : ByteArray} {i : Nat} (h : Hit R key i) : findM R key = some (i, true) := by
  obtain ⟨p, h1, h2, h3⟩ := h
  have hk := kL_inj h3
  refine find_hit ⟨p, h1, h2, h3⟩ (by rw [← hk]; exact r.chain i p h1 h2) fun j ⟨q, g1, g2, g3⟩ => r.uniq j i q p g1 h1 g2 h2 (g3.trans h3.symm)
theorem set_full {R : List (Pl α)} {i j : Nat} {p : Pl α} (h : Full R j) (hp : p.is_ ≠ 0) : Full (R.set i p) j := by
  obtain ⟨q, h1, h2⟩ := h
  by_cases e : i = j
  · subst e; exact ⟨p, by rw [List.getElem?_set, if_pos rfl, if_pos (List.getElem?_eq_some_iff.1 h1).1], hp⟩
  · exact ⟨q, by rw [List.getElem?_set, if_neg e]; exact h1, h2⟩
theorem set_chain {R : List (Pl α)} {i j : Nat} {p : Pl α} {key : ByteArray} (h : Chain R key j) (hp : p.is_ ≠ 0) : Chain (R.set i p) key j := by
  unfold Chain homeM at *
  rw [List.length_set]
  exact fun k hk => set_full (h k hk) hp
theorem set_get {R : List (Pl α)} {i j : Nat} {p q : Pl α} (h : (R.set i p)[j]? = some q) : (i = j ∧ q = p ∧ i < R.length) ∨ (i ≠ j ∧ R[j]? = some q) := by
  rw [List.getElem?_set] at h
  split at h
  · rename_i e
    split at h
    · exact .inl ⟨e, (Option.some.inj h).symm, by assumption⟩
    · cases h
  · rename_i e; exact .inr ⟨e, h⟩
/-- A new key in an empty place that its chain leads to. -/
theorem RowOk.put {R : List (Pl α)} (r : RowOk R) {p : Pl α} {i : Nat} (h1 : p.is_ = 1) (hc : Chain R p.key i) (hn : ∀ j, ¬ Hit R p.key j) : RowOk (R.set i p) := by
  refine ⟨fun j q hq hq1 => ?_, fun j k q s hq hs hq1 hs1 he => ?_⟩
  · rcases set_get hq with ⟨rfl, rfl, _⟩ | ⟨_, hq⟩
    · exact set_chain hc (by omega)
    · exact set_chain (r.chain j q hq hq1) (by omega)
  · rcases set_get hq with ⟨rfl, rfl, _⟩ | ⟨_, gq⟩
    · rcases set_get hs with ⟨rfl, _, _⟩ | ⟨_, gs⟩
      · rfl
      · exact absurd ⟨s, gs, hs1, he.symm⟩ (hn k)
    · rcases set_get hs with ⟨rfl, rfl, _⟩ | ⟨_, gs⟩
      · exact absurd ⟨q, gq, hq1, he⟩ (hn j)
      · exact r.uniq j k q s gq gs hq1 hs1 he
/-- A key's value is written anew. -/
theorem RowOk.anew {R : List (Pl α)} (r : RowOk R) {p q : Pl α} {i : Nat} (h0 : R[i]? = some p) (hp : p.is_ = 1) (h1 : q.is_ = 1) (hk : kL q.key = kL p.key) : RowOk (R.set i q) := by
  have hk' := kL_inj hk
  refine ⟨fun j s hs hs1 => ?_, fun j k s t hs ht hs1 ht1 he => ?_⟩
  · rcases set_get hs with ⟨rfl, rfl, _⟩ | ⟨_, hs⟩
    · rw [hk']; exact set_chain (r.chain i p h0 hp) (by omega)
    · exact set_chain (r.chain j s hs hs1) (by omega)
  · rcases set_get hs with ⟨rfl, rfl, _⟩ | ⟨_, gs⟩
    · rcases set_get ht with ⟨rfl, _, _⟩ | ⟨_, gt⟩
      · rfl
      · exact r.uniq i k p t h0 gt hp ht1 (hk.symm.trans he)
    · rcases set_get ht with ⟨rfl, rfl, _⟩ | ⟨_, gt⟩
      · exact r.uniq j i s p gs h0 hs1 hp (he.trans hk)
      · exact r.uniq j k s t gs gt hs1 ht1 he
/-- A place that is marked asL gone. -/
theorem RowOk.gone {R : List (Pl α)} (r : RowOk R) {q : Pl α} {i : Nat} (h1 : q.is_ ≠ 1) (h0 : q.is_ ≠ 0) : RowOk (R.set i q) := by
  refine ⟨fun j s hs hs1 => ?_, fun j k s t hs ht hs1 ht1 he => ?_⟩
  · rcases set_get hs with ⟨rfl, rfl, _⟩ | ⟨_, hs⟩
    · exact absurd hs1 h1
    · exact set_chain (r.chain j s hs hs1) h0
  · rcases set_get hs with ⟨rfl, rfl, _⟩ | ⟨_, hs⟩
    · exact absurd hs1 h1
    · rcases set_get ht with ⟨rfl, rfl, _⟩ | ⟨_, ht⟩
      · exact absurd ht1 h1
      · exact r.uniq j k s t hs ht hs1 ht1 he
def cntT (R : List (Pl α)) : Nat := R.countP fun p => decide (p.is_ = 1)
theorem cntT_set : ∀ (R : List (Pl α)) (i : Nat) (p q : Pl α), R[i]? = some q → cntT (R.set i p) + (if q.is_ = 1 then 1 else 0) = cntT R + (if p.is_ = 1 then 1 else 0)
  | [], i, p, q, h => by simp at h
  | x :: r, 0, p, q, h => by
    simp at h; subst h
    simp only [List.set_cons_zero, cntT, List.countP_cons]
    by_cases h1 : x.is_ = 1 <;> by_cases h2 : p.is_ = 1 <;> simp [h1, h2]
  | x :: r, i + 1, p, q, h => by
    have := cntT_set r i p q (by simpa using h)
    simp only [List.set_cons_succ, cntT, List.countP_cons] at *
    omega
theorem room_of {R : List (Pl α)} (h01 : ∀ p ∈ R, p.is_ ≤ 1) (h : cntT R < R.length) : ∃ i, Empty R i := by
  apply Classical.byContradiction
  intro hn
  have : cntT R = R.length := by
    unfold cntT
    rw [List.countP_eq_length]
    intro p hp
    obtain ⟨i, hi, rfl⟩ := List.mem_iff_getElem.1 hp
    have := h01 _ hp
    have : ¬ R[i].is_ = 0 := fun e => hn ⟨i, _, List.getElem?_eq_getElem hi, e⟩
    simp; omega
  omega
def valOf (R : List (Pl α)) (key : ByteArray) : Option α := (R.find? fun p => decide (p.is_ = 1 ∧ kL p.key = kL key)).map (·.value)
theorem valOf_hit {R : List (Pl α)} (r : RowOk R) {key : ByteArray} {i : Nat} {p : Pl α} (h0 : R[i]? = some p) (h1 : p.is_ = 1) (h2 : kL p.key = kL key) : valOf R key = some p.value := by
  unfold valOf
  cases hf : R.find? fun p => decide (p.is_ = 1 ∧ kL p.key = kL key) with
  | none =>
    rw [List.find?_eq_none] at hf
    have := hf p (List.mem_of_getElem? h0)
    simp [h1, h2] at this
  | some q =>
    have hq : q.is_ = 1 ∧ kL q.key = kL key := by simpa only [decide_eq_true_eq] using List.find?_some hf
    have hm := List.mem_of_find?_eq_some hf
    obtain ⟨j, hj⟩ := List.mem_iff_getElem?.1 hm
    have := r.uniq j i q p hj h0 hq.1 h1 (by rw [hq.2]; exact h2.symm)
    subst this
    rw [h0] at hj; cases hj; rfl
theorem valOf_none {R : List (Pl α)} {key : ByteArray} (h : ∀ j, ¬ Hit R key j) : valOf R key = none := by
  unfold valOf
  rw [Option.map_eq_none_iff, List.find?_eq_none]
  intro p hp
  obtain ⟨j, hj⟩ := List.mem_iff_getElem?.1 hp
  intro hh
  simp only [decide_eq_true_eq] at hh
  exact h j ⟨p, hj, hh.1, hh.2⟩
theorem valOf_some {R : List (Pl α)} {key : ByteArray} {v : α} (h : valOf R key = some v) : ∃ (i : Nat) (p : Pl α), R[i]? = some p ∧ p.is_ = 1 ∧ kL p.key = kL key ∧ p.value = v := by
  unfold valOf at h
  obtain ⟨p, hp, rfl⟩ := Option.map_eq_some_iff.1 h
  have hq : p.is_ = 1 ∧ kL p.key = kL key := by simpa only [decide_eq_true_eq] using List.find?_some hp
  obtain ⟨j, hj⟩ := List.mem_iff_getElem?.1 (List.mem_of_find?_eq_some hp)
  exact ⟨j, p, hj, hq.1, hq.2, rfl⟩
theorem hit_or (R : List (Pl α)) (key : ByteArray) : (∃ i, Hit R key i) ∨ ∀ j, ¬ Hit R key j := by
  by_cases h : ∃ i, Hit R key i
  · exact .inl h
  · exact .inr fun j hj => h ⟨j, hj⟩
/-- What lies under a key when place i is written. -/
theorem valOf_set {R : List (Pl α)} {i : Nat} {p q : Pl α} (r' : RowOk (R.set i q)) (r : RowOk R) (h0 : R[i]? = some p) (key : ByteArray) (hp : ¬ (p.is_ = 1 ∧ kL p.key = kL key)) : valOf (R.set i q) key = if q.is_ = 1 ∧ kL q.key = kL key then some q.value else valOf R key := by
  have hi := (List.getElem?_eq_some_iff.1 h0).1
  have hg : (R.set i q)[i]? = some q := by rw [List.getElem?_set, if_pos rfl, if_pos hi]
  split
  · rename_i h; exact valOf_hit r' hg h.1 h.2
  · rename_i h
    rcases hit_or R key with ⟨j, s, g1, g2, g3⟩ | hn
    · have hij : i ≠ j := fun e => by subst e; rw [h0] at g1; cases g1; exact hp ⟨g2, g3⟩
      rw [valOf_hit r g1 g2 g3, valOf_hit r' (i := j) (by rw [List.getElem?_set, if_neg hij]; exact g1) g2 g3]
    · rw [valOf_none hn, valOf_none]
      intro j ⟨s, g1, g2, g3⟩
      rcases set_get g1 with ⟨rfl, rfl, _⟩ | ⟨_, g1⟩
      · exact h ⟨g2, g3⟩
      · exact hn j ⟨s, g1, g2, g3⟩
end
end Go.Proofs.YtoccbnhahaoeiaaGreat.V
namespace Go.Proofs.YtoccbnhahaoeiaaGreat.V
set_option linter.unusedVariables false
set_option linter.unusedSimpArgs false
structure Tb (α : Type) where
  row : List (Pl α)
  elder : List (Pl α)
  moved : Nat
  count : Nat
section
variable {α : Type} (z : α)
def goneP : Pl α := ⟨2, ⟨#[]⟩, z⟩
def emptP : Pl α := ⟨0, ⟨#[]⟩, z⟩
def move1 (T : Tb α) : Option (Tb α) := match T.elder[T.moved]? with
  | none => none
  | some p => if p.is_ = 1 then (match findM T.row p.key with
    | none => none
    | some r => some ⟨T.row.set r.1 p, T.elder.set T.moved (goneP z), T.moved + 1, T.count⟩) else some ⟨T.row, T.elder, T.moved + 1, T.count⟩
def moveN : Nat → Tb α → Option (Tb α)
  | 0, T => some T
  | n + 1, T => if T.moved < T.elder.length then (match move1 z T with
    | none => none
    | some T' => moveN n T') else some T
def finT (T : Tb α) : Tb α := if T.moved = T.elder.length then ⟨T.row, [], 0, T.count⟩ else T
def moveM (T : Tb α) (n : Int) : Option (Tb α) := (moveN z n.toNat T).map finT
def leftT (T : Tb α) : Nat := T.elder.length - T.moved
def whereM (T : Tb α) (key : ByteArray) : Option (Option (Bool × Nat)) := match findM T.row key with
  | none => none
  | some (i, true) => some (some (false, i))
  | some (_, false) => match findM T.elder key with
    | none => none
    | some (i, true) => some (some (true, i))
    | some (_, false) => some none
def growT (T : Tb α) : Tb α := ⟨List.replicate (2 * T.row.length) (emptP z), T.row, 0, T.count⟩
def layP (T : Tb α) (key : ByteArray) (v : α) : Option (Tb α) := match findM T.row key with
  | none => none
  | some (i, _) => some ⟨T.row.set i ⟨1, key, v⟩, T.elder, T.moved, T.count + 1⟩
def newP (R : List (Pl α)) (i : Nat) (v : α) : List (Pl α) := match R[i]? with
  | none => R
  | some p => R.set i ⟨p.is_, p.key, v⟩
def putM' (T : Tb α) (key : ByteArray) (v : α) : Option (Tb α) := match whereM T key with
  | none => none
  | some (some (false, i)) => some ⟨newP T.row i v, T.elder, T.moved, T.count⟩
  | some (some (true, i)) => some ⟨T.row, newP T.elder i v, T.moved, T.count⟩
  | some none => if 4 * (T.count + 1) > 3 * T.row.length then (match moveM z T (T.elder.length : Int) with
      | none => none
      | some T2 => layP (growT z T2) key v) else layP T key v
def putM (T : Tb α) (key : ByteArray) (v : α) : Option (Tb α) := match moveM z T 4 with
  | none => none
  | some T1 => putM' z T1 key v
def getM (T : Tb α) (key : ByteArray) : Option α := match valOf T.row key with
  | some v => some v
  | none => valOf T.elder key
end
section
variable {α : Type} {z : α}
structure TOk (T : Tb α) : Prop where
  row : RowOk T.row
  row01 : ∀ p ∈ T.row, p.is_ ≤ 1
  pos : 2 ≤ T.row.length
  elder : RowOk T.elder
  eroom : T.elder ≠ [] → ∃ i, Empty T.elder i
  behind : ∀ (i : Nat) (p : Pl α), i < T.moved → T.elder[i]? = some p → p.is_ ≠ 1
  mle : T.moved ≤ T.elder.length
  apart : ∀ (i j : Nat) (p q : Pl α), T.row[i]? = some p → T.elder[j]? = some q → p.is_ = 1 → q.is_ = 1 → kL p.key ≠ kL q.key
  cnt : cntT T.row + cntT T.elder = T.count
  load : leftT T + 4 * T.count ≤ 3 * T.row.length
def Rest (T : Tb α) : Prop := T.elder = [] ∨ T.moved < T.elder.length
theorem TOk.cnt_elder {T : Tb α} (t : TOk T) {i : Nat} {p : Pl α} (h : T.elder[i]? = some p) (h1 : p.is_ = 1) : 1 ≤ cntT T.elder := by
  unfold cntT
  exact List.countP_pos_iff.2 ⟨p, List.mem_of_getElem? h, by simpa using h1⟩
theorem TOk.room {T : Tb α} (t : TOk T) (h : cntT T.row < T.row.length) : ∃ i, Empty T.row i := room_of t.row01 h
theorem TOk.cnt_row {T : Tb α} (t : TOk T) : cntT T.row < T.row.length := by
  have := t.cnt
  have := t.load
  have := t.pos
  omega
theorem move1_ok {T : Tb α} (t : TOk T) (hm : T.moved < T.elder.length) : ∃ T', move1 z T = some T' ∧ TOk T' ∧ T'.moved = T.moved + 1 ∧ T'.elder.length = T.elder.length ∧ T'.row.length = T.row.length ∧ T'.count = T.count ∧ ∀ key, getM T' key = getM T key := by
  obtain ⟨p, hp⟩ : ∃ p, T.elder[T.moved]? = some p := ⟨_, List.getElem?_eq_getElem hm⟩
  unfold move1
  rw [hp]
  simp only
  have hload := t.load
  by_cases h1 : p.is_ = 1
  · rw [if_pos h1]
    have hno : ∀ j, ¬ Hit T.row p.key j := fun j ⟨q, g1, g2, g3⟩ => t.apart j T.moved q p g1 hp g2 h1 g3
    obtain ⟨i, f1, f2, f3⟩ := find_miss hno (t.room t.cnt_row)
    rw [f1]
    have hi := f2.lt
    obtain ⟨e, he1, he2⟩ := f2
    have r1 := t.row.put h1 f3 hno (i := i)
    have r2 : RowOk (T.elder.set T.moved (goneP z)) := t.elder.gone (by simp [goneP]) (by simp [goneP])
    refine ⟨_, rfl, ⟨r1, fun q hq => ?_, by simpa using t.pos, r2, fun hne => ?_, fun j q hj hq => ?_, by simp; omega, fun a b q s hq hs hq1 hs1 => ?_, ?_, ?_⟩, rfl, by simp, by simp, rfl, fun key => ?_⟩
    · obtain ⟨j, hj⟩ := List.mem_iff_getElem?.1 hq
      rcases set_get hj with ⟨_, rfl, _⟩ | ⟨_, hj⟩
      · omega
      · exact t.row01 q (List.mem_of_getElem? hj)
    · obtain ⟨j, q, g1, g2⟩ := t.eroom (fun e => by rw [e] at hm; simp at hm)
      have : T.moved ≠ j := fun e => by subst e; rw [hp] at g1; cases g1; omega
      exact ⟨j, q, by rw [List.getElem?_set, if_neg this]; exact g1, g2⟩
    · rcases set_get hq with ⟨_, rfl, _⟩ | ⟨hne, hq⟩
      · simp [goneP]
      · exact t.behind j q (by simp at hj; omega) hq
    · rcases set_get hs with ⟨_, rfl, _⟩ | ⟨hne, gs⟩
      · simp [goneP] at hs1
      · rcases set_get hq with ⟨_, rfl, _⟩ | ⟨_, gq⟩
        · exact fun e => hne (t.elder.uniq T.moved b q s hp gs hq1 hs1 e)
        · exact t.apart a b q s gq gs hq1 hs1
    · have c1 := cntT_set T.row i p e he1
      have c2 := cntT_set T.elder T.moved (goneP z) p hp
      have := t.cnt
      rw [if_pos h1, if_neg (by omega)] at c1
      rw [if_pos h1, if_neg (by simp [goneP])] at c2
      show cntT (T.row.set i p) + cntT (T.elder.set T.moved (goneP z)) = T.count
      omega
    · show (T.elder.set T.moved (goneP z)).length - (T.moved + 1) + 4 * T.count ≤ 3 * (T.row.set i p).length
      unfold leftT at hload
      simp; omega
    · have v1 := valOf_set r1 t.row he1 key (by omega)
      show (match valOf (T.row.set i p) key with | some v => some v | none => valOf (T.elder.set T.moved (goneP z)) key) = getM T key
      unfold getM
      by_cases hk : kL p.key = kL key
      · have hrow : valOf T.row key = none := valOf_none (R := T.row) (fun j hj => hno j (by obtain ⟨q, g1, g2, g3⟩ := hj; exact ⟨q, g1, g2, g3.trans hk.symm⟩))
        have hel : valOf T.elder key = some p.value := valOf_hit t.elder hp h1 hk
        rw [v1, if_pos ⟨h1, hk⟩, hrow, hel]
      · rw [v1, if_neg (fun h => hk h.2), valOf_set r2 t.elder hp key (fun h => hk h.2), if_neg (by simp [goneP])]
  · rw [if_neg h1]
    refine ⟨_, rfl, ⟨t.row, t.row01, t.pos, t.elder, t.eroom, fun j q hj hq => ?_, by show T.moved + 1 ≤ T.elder.length; omega, t.apart, t.cnt, ?_⟩, rfl, rfl, rfl, rfl, fun key => rfl⟩
    · by_cases e : j = T.moved
      · subst e; rw [hp] at hq; cases hq; exact h1
      · exact t.behind j q (by simp at hj; omega) hq
    · show T.elder.length - (T.moved + 1) + 4 * T.count ≤ 3 * T.row.length
      unfold leftT at hload
      omega
theorem moveN_ok : ∀ (n : Nat) {T : Tb α}, TOk T → ∃ T', moveN z n T = some T' ∧ TOk T' ∧ leftT T' = leftT T - n ∧ T'.row.length = T.row.length ∧ T'.count = T.count ∧ ∀ key, getM T' key = getM T key
  | 0, T, t => ⟨T, rfl, t, rfl, rfl, rfl, fun _ => rfl⟩
  | n + 1, T, t => by
    unfold moveN
    by_cases hm : T.moved < T.elder.length
    · rw [if_pos hm]
      obtain ⟨T1, a1, a2, a3, a4, a5, a6, a7⟩ := move1_ok (z := z) t hm
      rw [a1]
      obtain ⟨T2, b1, b2, b3, b4, b5, b6⟩ := moveN_ok n a2
      refine ⟨T2, b1, b2, ?_, by omega, by omega, fun key => (b6 key).trans (a7 key)⟩
      unfold leftT at *; omega
    · rw [if_neg hm]
      refine ⟨T, rfl, t, ?_, rfl, rfl, fun _ => rfl⟩
      unfold leftT; omega
theorem RowOk.nil : RowOk ([] : List (Pl α)) := ⟨fun i p h => by simp at h, fun i j p q h => by simp at h⟩
theorem fin_ok {T : Tb α} (t : TOk T) : TOk (finT T) ∧ Rest (finT T) ∧ leftT (finT T) = leftT T ∧ (finT T).row = T.row ∧ (finT T).count = T.count ∧ ∀ key, getM (finT T) key = getM T key := by
  unfold finT
  by_cases h : T.moved = T.elder.length
  · rw [if_pos h]
    have hno : ∀ key j, ¬ Hit T.elder key j := fun key j ⟨q, g1, g2, g3⟩ => t.behind j q (by rw [h]; exact (List.getElem?_eq_some_iff.1 g1).1) g1 g2
    have hc : cntT T.elder = 0 := by
      unfold cntT
      rw [List.countP_eq_zero]
      intro p hp
      obtain ⟨j, hj⟩ := List.mem_iff_getElem?.1 hp
      have := t.behind j p (by rw [h]; exact (List.getElem?_eq_some_iff.1 hj).1) hj
      simpa using this
    have hload := t.load
    have hcnt := t.cnt
    refine ⟨⟨t.row, t.row01, t.pos, RowOk.nil, fun h => absurd rfl h, fun i p hi => by simp at hi, Nat.le_refl _, fun i j p q _ hq => by simp at hq, by show cntT T.row + cntT [] = _; rw [show cntT ([] : List (Pl α)) = 0 from rfl]; show _ = T.count; omega, ?_⟩, .inl rfl, ?_, rfl, rfl, fun key => ?_⟩
    · show 0 - 0 + 4 * T.count ≤ 3 * T.row.length
      omega
    · unfold leftT; simp; omega
    · unfold getM
      rw [valOf_none (hno key)]
      rw [valOf_none (R := []) (fun j ⟨q, g1, _⟩ => by simp at g1)]
  · rw [if_neg h]
    have := t.mle
    exact ⟨t, .inr (by omega), rfl, rfl, rfl, fun _ => rfl⟩
/-- Move. -/
theorem move_ok {T : Tb α} (t : TOk T) (n : Int) : ∃ T', moveM z T n = some T' ∧ TOk T' ∧ Rest T' ∧ leftT T' = leftT T - n.toNat ∧ T'.row.length = T.row.length ∧ T'.count = T.count ∧ ∀ key, getM T' key = getM T key := by
  obtain ⟨T1, a1, a2, a3, a4, a5, a6⟩ := moveN_ok (z := z) n.toNat t
  obtain ⟨b1, b2, b3, b4, b5, b6⟩ := fin_ok a2
  refine ⟨finT T1, by unfold moveM; rw [a1]; rfl, b1, b2, by omega, by rw [b4]; exact a4, by omega, fun key => (b6 key).trans (a6 key)⟩
/-- Where a key lies. -/
theorem where_ok {T : Tb α} (t : TOk T) (key : ByteArray) : (∃ i, whereM T key = some (some (false, i)) ∧ Hit T.row key i) ∨ (∃ i, whereM T key = some (some (true, i)) ∧ Hit T.elder key i ∧ ∀ j, ¬ Hit T.row key j) ∨ (whereM T key = some none ∧ (∀ j, ¬ Hit T.row key j) ∧ ∀ j, ¬ Hit T.elder key j) := by
  unfold whereM
  rcases hit_or T.row key with ⟨i, hi⟩ | hn
  · rw [t.row.hit hi]; exact .inl ⟨i, rfl, hi⟩
  · obtain ⟨i, f1, _, _⟩ := find_miss hn (t.room t.cnt_row)
    rw [f1]
    simp only
    rcases hit_or T.elder key with ⟨j, hj⟩ | hne
    · rw [t.elder.hit hj]; exact .inr (.inl ⟨j, rfl, hj, hn⟩)
    · by_cases he : T.elder = []
      · rw [he, find_nil]; exact .inr (.inr ⟨rfl, hn, fun j ⟨q, g, _⟩ => by simp at g⟩)
      · obtain ⟨j, g1, _, _⟩ := find_miss hne (t.eroom he)
        rw [g1]; exact .inr (.inr ⟨rfl, hn, hne⟩)
theorem get_row {T : Tb α} (t : TOk T) {key : ByteArray} {i : Nat} {p : Pl α} (h : T.row[i]? = some p) (h1 : p.is_ = 1) (h2 : kL p.key = kL key) : getM T key = some p.value := by
  unfold getM; rw [valOf_hit t.row h h1 h2]
theorem get_elder {T : Tb α} (t : TOk T) {key : ByteArray} {i : Nat} {p : Pl α} (hn : ∀ j, ¬ Hit T.row key j) (h : T.elder[i]? = some p) (h1 : p.is_ = 1) (h2 : kL p.key = kL key) : getM T key = some p.value := by
  unfold getM; rw [valOf_none hn, valOf_hit t.elder h h1 h2]
theorem get_none {T : Tb α} {key : ByteArray} (hn : ∀ j, ¬ Hit T.row key j) (hne : ∀ j, ¬ Hit T.elder key j) : getM T key = none := by
  unfold getM; rw [valOf_none hn, valOf_none hne]
theorem newP_eq {R : List (Pl α)} {i : Nat} {p : Pl α} {v : α} (h : R[i]? = some p) : newP R i v = R.set i ⟨p.is_, p.key, v⟩ := by unfold newP; rw [h]
theorem lay_ok {T : Tb α} (t : TOk T) (hr : Rest T) {key : ByteArray} {v : α} (hn : ∀ j, ¬ Hit T.row key j) (hne : ∀ j, ¬ Hit T.elder key j) (hl : leftT T + 4 * (T.count + 1) ≤ 3 * T.row.length) :
    ∃ T', layP T key v = some T' ∧ TOk T' ∧ Rest T' ∧ T'.row.length = T.row.length ∧ T'.count = T.count + 1 ∧ leftT T' = leftT T ∧ ∀ k, getM T' k = if kL k = kL key then some v else getM T k := by
  obtain ⟨i, f1, f2, f3⟩ := find_miss hn (t.room t.cnt_row)
  unfold layP
  rw [f1]
  obtain ⟨e, he1, he2⟩ := f2
  have hi := (List.getElem?_eq_some_iff.1 he1).1
  have r1 : RowOk (T.row.set i ⟨1, key, v⟩) := t.row.put rfl f3 hn
  refine ⟨_, rfl, ⟨r1, fun q hq => ?_, by simpa using t.pos, t.elder, t.eroom, t.behind, t.mle, fun a b q s hq hs hq1 hs1 => ?_, ?_, by simpa [leftT] using hl⟩, hr, by simp, rfl, rfl, fun k => ?_⟩
  · obtain ⟨j, hj⟩ := List.mem_iff_getElem?.1 hq
    rcases set_get hj with ⟨_, rfl, _⟩ | ⟨_, hj⟩
    · exact Nat.le_refl _
    · exact t.row01 q (List.mem_of_getElem? hj)
  · rcases set_get hq with ⟨_, rfl, _⟩ | ⟨_, gq⟩
    · exact fun h => hne b ⟨s, hs, hs1, h.symm⟩
    · exact t.apart a b q s gq hs hq1 hs1
  · have c1 := cntT_set T.row i ⟨1, key, v⟩ e he1
    have := t.cnt
    rw [if_neg (by omega), if_pos rfl] at c1
    show cntT (T.row.set i ⟨1, key, v⟩) + cntT T.elder = T.count + 1
    omega
  · have v1 := valOf_set r1 t.row he1 k (by omega)
    show (match valOf (T.row.set i ⟨1, key, v⟩) k with | some v => some v | none => valOf T.elder k) = _
    rw [v1]
    by_cases hk : kL k = kL key
    · rw [if_pos ⟨rfl, hk.symm⟩, if_pos hk]
    · rw [if_neg (fun h => hk h.2.symm), if_neg hk]; rfl
theorem repl_get {n i : Nat} {p q : Pl α} (h : (List.replicate n p)[i]? = some q) : q = p ∧ i < n := by
  rw [List.getElem?_replicate] at h
  split at h
  · exact ⟨(Option.some.inj h).symm, by assumption⟩
  · cases h
theorem grow_ok {T : Tb α} (t : TOk T) (he : T.elder = []) (hf : 3 * T.row.length < 4 * (T.count + 1)) : TOk (growT z T) ∧ (growT z T).row.length = 2 * T.row.length ∧ (growT z T).count = T.count ∧ leftT (growT z T) = T.row.length ∧ (∀ key, getM (growT z T) key = getM T key) ∧ ∀ key j, ¬ Hit (growT z T).row key j := by
  have hno : ∀ key j, ¬ Hit (growT z T).row key j := fun key j ⟨q, g1, g2, _⟩ => by
    obtain ⟨rfl, _⟩ := repl_get g1
    simp [emptP] at g2
  have hcnt := t.cnt
  have hload := t.load
  have hpos := t.pos
  have he0 : cntT T.elder = 0 := by rw [he]; rfl
  refine ⟨⟨⟨fun i p h h1 => ?_, fun i j p q h h2 h1 => ?_⟩, fun p hp => ?_, by show 2 ≤ (List.replicate _ _).length; simp; omega, t.row, fun _ => t.room t.cnt_row, fun i p hi => by simp [growT] at hi, by simp [growT], fun i j p q h h2 h1 => ?_, ?_, ?_⟩, by simp [growT], rfl, by simp [growT, leftT], fun key => ?_, hno⟩
  · obtain ⟨rfl, _⟩ := repl_get h
    simp [emptP] at h1
  · obtain ⟨rfl, _⟩ := repl_get h
    simp [emptP] at h1
  · have := List.eq_of_mem_replicate hp
    subst this; simp [emptP]
  · obtain ⟨rfl, _⟩ := repl_get h
    simp [emptP] at h1
  · have : cntT (List.replicate (2 * T.row.length) (emptP z)) = 0 := by
      unfold cntT
      rw [List.countP_eq_zero]
      intro p hp
      have := List.eq_of_mem_replicate hp
      subst this; simp [emptP]
    show cntT (List.replicate (2 * T.row.length) (emptP z)) + cntT T.row = T.count
    omega
  · show T.row.length - 0 + 4 * T.count ≤ 3 * (List.replicate (2 * T.row.length) (emptP z)).length
    simp; omega
  · unfold getM
    rw [valOf_none (hno key), he]
    show valOf T.row key = _
    rw [valOf_none (R := []) (fun j ⟨q, g1, _⟩ => by simp at g1)]
    cases valOf T.row key <;> rfl
theorem put'_ok {T : Tb α} (t : TOk T) (hr : Rest T) (key : ByteArray) (v : α) (hlow : leftT T + 4 * (T.count + 1) ≤ 3 * T.row.length ∨ (T.elder = [] ∧ 4 * (T.count + 1) > 3 * T.row.length)) :
    ∃ T', putM' z T key v = some T' ∧ TOk T' ∧ Rest T' ∧ (∀ k, getM T' k = if kL k = kL key then some v else getM T k) ∧ T'.count = T.count + (if (getM T key).isSome then 0 else 1) ∧
      ((getM T key = none ∧ 4 * (T.count + 1) > 3 * T.row.length ∧ T'.row.length = 2 * T.row.length ∧ leftT T' = T.row.length) ∨ ((getM T key).isSome = true ∨ 4 * (T.count + 1) ≤ 3 * T.row.length) ∧ T'.row.length = T.row.length ∧ leftT T' = leftT T) := by
  unfold putM'
  rcases where_ok t key with ⟨i, w, p, h1, h2, h3⟩ | ⟨i, w, ⟨p, h1, h2, h3⟩, hn⟩ | ⟨w, hn, hne⟩
  · rw [w]
    simp only
    rw [newP_eq h1]
    have r1 : RowOk (T.row.set i ⟨p.is_, p.key, v⟩) := t.row.anew h1 h2 h2 rfl
    have hg := get_row t h1 h2 h3
    refine ⟨_, rfl, ⟨r1, fun q hq => ?_, by simpa using t.pos, t.elder, t.eroom, t.behind, t.mle, fun a b q s hq hs hq1 hs1 => ?_, ?_, by simpa [leftT] using t.load⟩, hr, fun k => ?_, by rw [hg]; rfl, .inr ⟨.inl (by rw [hg]; rfl), by simp, rfl⟩⟩
    · obtain ⟨j, hj⟩ := List.mem_iff_getElem?.1 hq
      rcases set_get hj with ⟨_, rfl, _⟩ | ⟨_, hj⟩
      · show p.is_ ≤ 1; omega
      · exact t.row01 q (List.mem_of_getElem? hj)
    · rcases set_get hq with ⟨_, rfl, _⟩ | ⟨_, gq⟩
      · exact t.apart i b p s h1 hs h2 hs1
      · exact t.apart a b q s gq hs hq1 hs1
    · have c1 := cntT_set T.row i ⟨p.is_, p.key, v⟩ p h1
      have := t.cnt
      show cntT (T.row.set i ⟨p.is_, p.key, v⟩) + cntT T.elder = T.count
      simp only at c1; omega
    · show (match valOf (T.row.set i ⟨p.is_, p.key, v⟩) k with | some v => some v | none => valOf T.elder k) = _
      by_cases hk : kL k = kL key
      · rw [if_pos hk, valOf_hit r1 (i := i) (p := ⟨p.is_, p.key, v⟩) (by rw [List.getElem?_set, if_pos rfl, if_pos (List.getElem?_eq_some_iff.1 h1).1]) h2 (h3.trans hk.symm)]
      · rw [if_neg hk, valOf_set r1 t.row h1 k (fun h => hk (h.2.symm.trans h3)), if_neg (fun h => hk (h.2.symm.trans h3))]; rfl
  · rw [w]
    simp only
    rw [newP_eq h1]
    have r1 : RowOk (T.elder.set i ⟨p.is_, p.key, v⟩) := t.elder.anew h1 h2 h2 rfl
    have hg := get_elder t hn h1 h2 h3
    have hil := (List.getElem?_eq_some_iff.1 h1).1
    refine ⟨_, rfl, ⟨t.row, t.row01, t.pos, r1, fun hne => ?_, fun j q hj hq => ?_, by simpa using t.mle, fun a b q s hq hs hq1 hs1 => ?_, ?_, by simpa [leftT] using t.load⟩, ?_, fun k => ?_, by rw [hg]; rfl, .inr ⟨.inl (by rw [hg]; rfl), rfl, by simp [leftT]⟩⟩
    · obtain ⟨j, q, g1, g2⟩ := t.eroom (fun e => by rw [e] at h1; simp at h1)
      have : i ≠ j := fun e => by subst e; rw [h1] at g1; cases g1; omega
      exact ⟨j, q, by rw [List.getElem?_set, if_neg this]; exact g1, g2⟩
    · rcases set_get hq with ⟨rfl, rfl, _⟩ | ⟨_, gq⟩
      · exact t.behind i p hj h1
      · exact t.behind j q hj gq
    · rcases set_get hs with ⟨_, rfl, _⟩ | ⟨_, gs⟩
      · exact t.apart a i q p hq h1 hq1 h2
      · exact t.apart a b q s hq gs hq1 hs1
    · have c1 := cntT_set T.elder i ⟨p.is_, p.key, v⟩ p h1
      have := t.cnt
      show cntT T.row + cntT (T.elder.set i ⟨p.is_, p.key, v⟩) = T.count
      simp only at c1; omega
    · rcases hr with hr | hr
      · rw [hr] at h1; simp at h1
      · exact .inr (by simpa using hr)
    · show (match valOf T.row k with | some v => some v | none => valOf (T.elder.set i ⟨p.is_, p.key, v⟩) k) = _
      by_cases hk : kL k = kL key
      · rw [if_pos hk, valOf_none (fun j ⟨q, g1, g2, g3⟩ => hn j ⟨q, g1, g2, g3.trans hk⟩), valOf_hit r1 (i := i) (p := ⟨p.is_, p.key, v⟩) (by rw [List.getElem?_set, if_pos rfl, if_pos hil]) h2 (h3.trans hk.symm)]
      · rw [if_neg hk, valOf_set r1 t.elder h1 k (fun h => hk (h.2.symm.trans h3)), if_neg (fun h => hk (h.2.symm.trans h3))]; rfl
  · rw [w]
    have hg := get_none hn hne
    simp only
    by_cases hb : 4 * (T.count + 1) > 3 * T.row.length
    · rw [if_pos hb]
      have he : T.elder = [] := by
        rcases hlow with h | h
        · omega
        · exact h.1
      obtain ⟨T1, m1, m2, m3, m4, m5, m6, m7⟩ := move_ok (z := z) t (T.elder.length : Int)
      rw [m1]
      have he1 : T1.elder = [] := by
        rcases m3 with h | h
        · exact h
        · unfold leftT at m4
          rw [he] at m4
          simp at m4
          omega
      obtain ⟨g1, g2, g3, g4, g5, g6⟩ := grow_ok (z := z) m2 he1 (by omega)
      have hpos := t.pos
      have hld := t.load
      have hel : ∀ j, ¬ Hit (growT z T1).elder key j := fun j hj => by
        obtain ⟨q, a1, a2, a3⟩ := hj
        have : getM T1 key = some q.value := get_row m2 a1 a2 a3
        rw [m7, hg] at this; cases this
      obtain ⟨T2, l1, l2, l3, l4, l5, l6, l7⟩ := lay_ok (v := v) g1 (.inr (by show (growT z T1).moved < T1.row.length; show 0 < T1.row.length; omega)) (g6 key) hel (by rw [g2, g3, g4]; omega)
      simp only
      rw [l1]
      refine ⟨T2, rfl, l2, l3, fun k => ?_, by rw [hg, l5, g3, m6]; rfl, .inl ⟨hg, hb, by rw [l4, g2, m5], by rw [l6, g4, m5]⟩⟩
      rw [l7, g5, m7]
    · rw [if_neg hb]
      have hl : leftT T + 4 * (T.count + 1) ≤ 3 * T.row.length := by
        rcases hlow with h | h
        · exact h
        · omega
      obtain ⟨T2, l1, l2, l3, l4, l5, l6, l7⟩ := lay_ok (v := v) t hr hn hne hl
      exact ⟨T2, l1, l2, l3, l7, by rw [hg, l5]; rfl, .inr ⟨.inr (by omega), l4, l6⟩⟩
/-- Put. -/
theorem put_ok {T : Tb α} (t : TOk T) (key : ByteArray) (v : α) :
    ∃ T', putM z T key v = some T' ∧ TOk T' ∧ Rest T' ∧ (∀ k, getM T' k = if kL k = kL key then some v else getM T k) ∧ T'.count = T.count + (if (getM T key).isSome then 0 else 1) ∧
      ((getM T key = none ∧ 4 * (T.count + 1) > 3 * T.row.length ∧ T'.row.length = 2 * T.row.length ∧ leftT T' = T.row.length ∧ leftT T < 4) ∨ ((getM T key).isSome = true ∨ 4 * (T.count + 1) ≤ 3 * T.row.length) ∧ T'.row.length = T.row.length ∧ leftT T' = leftT T - 4) := by
  obtain ⟨T1, m1, m2, m3, m4, m5, m6, m7⟩ := move_ok (z := z) t 4
  have hld := t.load
  have hlow : leftT T1 + 4 * (T1.count + 1) ≤ 3 * T1.row.length ∨ (T1.elder = [] ∧ 4 * (T1.count + 1) > 3 * T1.row.length) := by
    rw [m5, m6, m4]
    by_cases hb : 4 * (T.count + 1) > 3 * T.row.length
    · refine .inr ⟨?_, hb⟩
      rcases m3 with h | h
      · exact h
      · unfold leftT at m4; unfold leftT at hld; simp at m4; omega
    · refine .inl ?_
      simp; omega
  obtain ⟨T2, p1, p2, p3, p4, p5, p6⟩ := put'_ok (z := z) m2 m3 key v hlow
  unfold putM
  rw [m1]
  refine ⟨T2, p1, p2, p3, fun k => ?_, by rw [p5, m6, m7], ?_⟩
  · rw [p4, m7]
  · rw [m7, m6, m5, m4] at p6
    rcases p6 with ⟨a, b, c, d⟩ | ⟨a, b, c⟩
    · exact .inl ⟨a, b, c, d, by omega⟩
    · exact .inr ⟨a, b, by simpa using c⟩
def newT (z : α) : Tb α := ⟨List.replicate 8 (emptP z), [], 0, 0⟩
theorem new_ok (z : α) : TOk (newT z) ∧ Rest (newT z) ∧ ∀ key, getM (newT z) key = none := by
  have hno : ∀ key j, ¬ Hit (newT z).row key j := fun key j ⟨q, g1, g2, _⟩ => by
    obtain ⟨rfl, _⟩ := repl_get g1
    simp [emptP] at g2
  refine ⟨⟨⟨fun i p h h1 => ?_, fun i j p q h h2 h1 => ?_⟩, fun p hp => ?_, by simp [newT], RowOk.nil, fun h => absurd rfl h, fun i p hi => by simp [newT] at hi, Nat.le_refl _, fun i j p q h h2 => by simp [newT] at h2, ?_, by simp [newT, leftT]⟩, .inl rfl, fun key => get_none (hno key) fun j ⟨q, g1, _⟩ => by simp [newT] at g1⟩
  · obtain ⟨rfl, _⟩ := repl_get h
    simp [emptP] at h1
  · obtain ⟨rfl, _⟩ := repl_get h
    simp [emptP] at h1
  · have := List.eq_of_mem_replicate hp
    subst this; simp [emptP]
  · show cntT (List.replicate 8 (emptP z)) + cntT [] = 0
    rfl
end
end Go.Proofs.YtoccbnhahaoeiaaGreat.V
namespace Go.Proofs.YtoccbnhahaoeiaaGreat.V
set_option linter.unusedVariables false
set_option linter.unusedSimpArgs false
section
variable {α : Type} (z : α)
def shiftM : Nat → List (Pl α) → Nat → Nat → Option (List (Pl α))
  | 0, _, _, _ => none
  | f + 1, R, at_, k => match R[k]? with
    | none => none
    | some p => if p.is_ = 0 then some (R.set at_ (emptP z)) else if dist R.length (homeM R p.key) k ≥ dist R.length at_ k then shiftM f (R.set at_ p) k ((k + 1) % R.length) else shiftM f R at_ ((k + 1) % R.length)
def dropM (T : Tb α) (key : ByteArray) : Option (Tb α × (α × Bool)) := match moveM z T 4 with
  | none => none
  | some T1 => match findM T1.elder key with
    | none => none
    | some (i, true) => (match T1.elder[i]? with
      | none => none
      | some p => some (⟨T1.row, T1.elder.set i (goneP z), T1.moved, T1.count - 1⟩, (p.value, true)))
    | some (_, false) => match findM T1.row key with
      | none => none
      | some (_, false) => some (T1, (z, false))
      | some (i, true) => match T1.row[i]? with
        | none => none
        | some p => match shiftM z (T1.row.length + 1) T1.row i ((i + 1) % T1.row.length) with
          | none => none
          | some R => some (⟨R, T1.elder, T1.moved, T1.count - 1⟩, (p.value, true))
end
section
variable {α : Type} {z : α}
theorem dist_succ {n k e : Nat} (hk : k < n) (he : e < n) (hne : k ≠ e) : dist n ((k + 1) % n) e + 1 = dist n k e := by
  rw [ring_val hk (show 1 < n by omega)]
  unfold dist
  split <;> split <;> split <;> omega
/-- Taken things away from place a. -/
def Els (R : List (Pl α)) (a : Nat) (q : Pl α) : Prop := ∃ i, i ≠ a ∧ R[i]? = some q ∧ q.is_ = 1
structure Sh (R : List (Pl α)) (a k : Nat) : Prop where
  ha : a < R.length
  hk : k < R.length
  ne : a ≠ k
  uniq : ∀ (i j : Nat) (p q : Pl α), i ≠ a → j ≠ a → R[i]? = some p → R[j]? = some q → p.is_ = 1 → q.is_ = 1 → kL p.key = kL q.key → i = j
  chain : ∀ (i : Nat) (p : Pl α), i ≠ a → R[i]? = some p → p.is_ = 1 → Chain R p.key i
  full : ∀ i, i < R.length → i ≠ a → dist R.length a i < dist R.length a k → Full R i
  off : ∀ (i : Nat) (p : Pl α), i ≠ a → R[i]? = some p → p.is_ = 1 → dist R.length a i < dist R.length a k → dist R.length (homeM R p.key) i < dist R.length a i
  stale : ∃ p, R[a]? = some p ∧ p.is_ = 1
  room : ∃ e, Empty R e
  r01 : ∀ p ∈ R, p.is_ ≤ 1
theorem home_set {R : List (Pl α)} {i : Nat} {p : Pl α} (key : ByteArray) : homeM (R.set i p) key = homeM R key := by unfold homeM; rw [List.length_set]
theorem chain_at {R : List (Pl α)} {key : ByteArray} {i j : Nat} (c : Chain R key i) (hi : i < R.length) (hj : j < R.length) (h : dist R.length (homeM R key) j < dist R.length (homeM R key) i) : Full R j := by
  have := c _ h
  rwa [ring_dist (home_lt (by omega)) hj] at this
/-- A chain to i that does not meet a place. -/
theorem dist_meets {n h a i : Nat} (hh : h < n) (ha : a < n) (hi : i < n) (hne : a ≠ i) : dist n h i ≥ dist n a i ↔ dist n h a < dist n h i := by
  unfold dist
  split <;> split <;> split <;> omega
theorem dist_between {n h a k i : Nat} (hh : h < n) (ha : a < n) (hk : k < n) (hi : i < n) (h1 : dist n h a < dist n h i) (h2 : dist n a k < dist n a i) : dist n h k < dist n h i := by
  revert h1 h2
  unfold dist
  split <;> split <;> split <;> split <;> split <;> omega
theorem dist_zero {n a i : Nat} (ha : a < n) (hi : i < n) (h : dist n a i = 0) : a = i := by
  revert h; unfold dist; split <;> omega
theorem Sh.final {R : List (Pl α)} {a k : Nat} (s : Sh R a k) (hk : Empty R k) : RowOk (R.set a (emptP z)) := by
  have ha := s.ha
  have hkl := s.hk
  refine ⟨fun i p hp h1 => ?_, fun i j p q hp hq h1 h2 he => ?_⟩
  · rcases set_get hp with ⟨_, rfl, _⟩ | ⟨hne, hp⟩
    · simp [emptP] at h1
    · have hi := (List.getElem?_eq_some_iff.1 hp).1
      have c := s.chain i p (Ne.symm hne) hp h1
      have hh := home_lt (R := R) (key := p.key) (by omega)
      unfold Chain
      rw [home_set, List.length_set]
      intro x hx
      have f := c x hx
      obtain ⟨q, q1, q2⟩ := f
      have hxl : x < R.length := by have := dist_lt hh hi; omega
      have hne2 : a ≠ (homeM R p.key + x) % R.length := fun e => by
        have hd : dist R.length (homeM R p.key) a < dist R.length (homeM R p.key) i := by rw [e, dist_ring hh hxl]; exact hx
        by_cases hb : dist R.length a i < dist R.length a k
        · have := s.off i p (Ne.symm hne) hp h1 hb
          have := (dist_meets hh ha hi hne).2 hd
          omega
        · by_cases hki : k = i
          · subst hki
            obtain ⟨q', g1, g2⟩ := hk
            rw [hp] at g1; cases g1; omega
          · have hlt : dist R.length a k < dist R.length a i := by
              rcases Nat.lt_or_ge (dist R.length a k) (dist R.length a i) with h | h
              · exact h
              · exfalso
                have : dist R.length a k = dist R.length a i := by omega
                have e1 := ring_dist ha hkl
                have e2 := ring_dist ha hi
                rw [this, e2] at e1; exact hki e1.symm
            have := dist_between hh ha hkl hi hd hlt
            exact (chain_at c hi hkl this).not_empty hk
      exact ⟨q, by rw [List.getElem?_set, if_neg hne2]; exact q1, q2⟩
  · rcases set_get hp with ⟨_, rfl, _⟩ | ⟨hn1, hp⟩
    · simp [emptP] at h1
    · rcases set_get hq with ⟨_, rfl, _⟩ | ⟨hn2, hq⟩
      · simp [emptP] at h2
      · exact s.uniq i j p q (Ne.symm hn1) (Ne.symm hn2) hp hq h1 h2 he
theorem next_ne {n k e : Nat} (hk : k < n) (h : k ≠ e) (he : e < n) : (k + 1) % n ≠ k := by
  rw [ring_val hk (show 1 < n by omega)]
  split <;> omega
theorem Sh.skip {R : List (Pl α)} {a k : Nat} {p : Pl α} (s : Sh R a k) (hp : R[k]? = some p) (h1 : p.is_ = 1) (hd : dist R.length (homeM R p.key) k < dist R.length a k) : Sh R a ((k + 1) % R.length) := by
  have ha := s.ha
  have hk := s.hk
  obtain ⟨e, he⟩ := s.room
  have hel := he.lt
  obtain ⟨q, hq1, hq2⟩ := s.stale
  have hae : a ≠ e := fun h => by
    subst h; obtain ⟨q', g1, g2⟩ := he
    rw [hq1] at g1; cases g1; omega
  have hke : k ≠ e := fun h => by
    subst h; obtain ⟨q', g1, g2⟩ := he
    rw [hp] at g1; cases g1; omega
  have hnext : (k + 1) % R.length ≠ a := fun h => by
    -- then e lies nowhere
    have hf : dist R.length a e < dist R.length a k ∨ dist R.length a k < dist R.length a e := by
      rcases Nat.lt_trichotomy (dist R.length a e) (dist R.length a k) with g | g | g
      · exact .inl g
      · exfalso
        have e1 := ring_dist ha hk
        have e2 := ring_dist ha hel
        rw [← g, e2] at e1; exact hke e1.symm
      · exact .inr g
    rcases hf with hf | hf
    · exact (s.full e hel (Ne.symm hae) hf).not_empty he
    · have := dist_lt ha hel
      rw [ring_val hk (by omega)] at h
      revert hf this
      unfold dist
      split at h <;> split <;> split <;> omega
  have hdk : ∀ i, i < R.length → i ≠ a → dist R.length a i < dist R.length a ((k + 1) % R.length) → i = k ∨ dist R.length a i < dist R.length a k := fun i hi hia hlt => by
    by_cases hik : i = k
    · exact .inl hik
    · right
      revert hlt
      rw [ring_val hk (by omega)] at hnext ⊢
      unfold dist
      split at hnext <;> split <;> split <;> split <;> omega
  refine ⟨ha, ring_lt (by omega), Ne.symm hnext, s.uniq, s.chain, fun i hi hia hlt => ?_, fun i q hia hq hq1 hlt => ?_, s.stale, s.room, s.r01⟩
  · rcases hdk i hi hia hlt with rfl | h
    · exact ⟨p, hp, by omega⟩
    · exact s.full i hi hia h
  · rcases hdk i (List.getElem?_eq_some_iff.1 hq).1 hia hlt with rfl | h
    · rw [hp] at hq; cases hq; exact hd
    · exact s.off i q hia hq hq1 h
theorem Sh.move {R : List (Pl α)} {a k : Nat} {p : Pl α} (s : Sh R a k) (hp : R[k]? = some p) (h1 : p.is_ = 1) (hd : dist R.length (homeM R p.key) k ≥ dist R.length a k) : Sh (R.set a p) k ((k + 1) % R.length) ∧ (∀ q, Els (R.set a p) k q ↔ Els R a q) ∧ cntT (R.set a p) = cntT R := by
  have ha := s.ha
  have hk := s.hk
  obtain ⟨e, he⟩ := s.room
  have hel := he.lt
  obtain ⟨q, hq1, hq2⟩ := s.stale
  have hae : a ≠ e := fun h => by
    subst h; obtain ⟨q', g1, g2⟩ := he
    rw [hq1] at g1; cases g1; omega
  have hke : k ≠ e := fun h => by
    subst h; obtain ⟨q', g1, g2⟩ := he
    rw [hp] at g1; cases g1; omega
  have hh := home_lt (R := R) (key := p.key) (by omega)
  have hat : (R.set a p)[a]? = some p := by rw [List.getElem?_set, if_pos rfl, if_pos ha]
  have hkt : (R.set a p)[k]? = some p := by rw [List.getElem?_set, if_neg s.ne]; exact hp
  refine ⟨⟨by simpa using hk, by rw [List.length_set]; exact ring_lt (by omega), Ne.symm (next_ne hk hke hel), ?_, ?_, ?_, ?_, ⟨p, hkt, h1⟩, ⟨e, ?_⟩, ?_⟩, fun x => ⟨fun ⟨i, h2, h3, h4⟩ => ?_, fun ⟨i, h2, h3, h4⟩ => ?_⟩, ?_⟩
  · intro i j x y hi hj hx hy hx1 hy1 hxy
    rcases set_get hx with ⟨gi, gx, _⟩ | ⟨gi, gx⟩
    · rcases set_get hy with ⟨gj, gy, _⟩ | ⟨gj, gy⟩
      · exact gi.symm.trans gj
      · subst gx
        exact absurd (s.uniq k j _ y (Ne.symm s.ne) (Ne.symm gj) hp gy h1 hy1 hxy).symm hj
    · rcases set_get hy with ⟨gj, gy, _⟩ | ⟨gj, gy⟩
      · subst gy
        exact absurd (s.uniq i k x _ (Ne.symm gi) (Ne.symm s.ne) gx hp hx1 h1 hxy) hi
      · exact s.uniq i j x y (Ne.symm gi) (Ne.symm gj) gx gy hx1 hy1 hxy
  · intro i x hi hx hx1
    rcases set_get hx with ⟨rfl, rfl, _⟩ | ⟨gi, hx⟩
    · refine set_chain (fun y hy => ?_) (by omega)
      have c := s.chain k x (Ne.symm s.ne) hp h1
      have := (dist_meets hh ha hk s.ne).1 hd
      exact c y (by omega)
    · exact set_chain (s.chain i x (Ne.symm gi) hx hx1) (by omega)
  · intro i hi hik hlt
    rw [List.length_set] at hi hlt
    exfalso
    revert hlt
    rw [ring_val hk (by omega)]
    unfold dist
    split <;> split <;> split <;> omega
  · intro i x hik hx hx1 hlt
    have hi := (List.getElem?_eq_some_iff.1 hx).1
    rw [List.length_set] at hi hlt
    exfalso
    revert hlt
    rw [ring_val hk (by omega)]
    unfold dist
    split <;> split <;> split <;> omega
  · obtain ⟨q', g1, g2⟩ := he
    exact ⟨q', by rw [List.getElem?_set, if_neg hae]; exact g1, g2⟩
  · intro x hx
    obtain ⟨j, hj⟩ := List.mem_iff_getElem?.1 hx
    rcases set_get hj with ⟨_, rfl, _⟩ | ⟨_, hj⟩
    · omega
    · exact s.r01 x (List.mem_of_getElem? hj)
  · rcases set_get h3 with ⟨rfl, rfl, _⟩ | ⟨gi, h3⟩
    · exact ⟨k, Ne.symm s.ne, hp, h4⟩
    · exact ⟨i, Ne.symm gi, h3, h4⟩
  · by_cases hik : i = k
    · subst hik; rw [hp] at h3; cases h3; exact ⟨a, s.ne, hat, h4⟩
    · exact ⟨i, hik, by rw [List.getElem?_set, if_neg (Ne.symm h2)]; exact h3, h4⟩
  · have := cntT_set R a p q hq1
    rw [if_pos hq2, if_pos h1] at this
    omega
theorem shift_loop : ∀ (f : Nat) (R : List (Pl α)) (a k : Nat), Sh R a k → (∃ e, Empty R e ∧ dist R.length k e < f) → ∃ R', shiftM z f R a k = some R' ∧ RowOk R' ∧ (∀ p ∈ R', p.is_ ≤ 1) ∧ R'.length = R.length ∧ cntT R' + 1 = cntT R ∧ ∀ q : Pl α, (∃ i : Nat, R'[i]? = some q ∧ q.is_ = 1) ↔ Els R a q
  | 0, R, a, k, s, ⟨e, _, h⟩ => by omega
  | f + 1, R, a, k, s, ⟨e, he, hf⟩ => by
    have hk := s.hk
    have ha := s.ha
    have hel := he.lt
    obtain ⟨p, hp⟩ : ∃ p, R[k]? = some p := ⟨_, List.getElem?_eq_getElem hk⟩
    unfold shiftM
    rw [hp]
    simp only
    by_cases h0 : p.is_ = 0
    · rw [if_pos h0]
      obtain ⟨q, hq1, hq2⟩ := s.stale
      refine ⟨_, rfl, s.final ⟨p, hp, h0⟩, fun x hx => ?_, by simp, ?_, fun x => ⟨fun ⟨i, g1, g2⟩ => ?_, fun ⟨i, g0, g1, g2⟩ => ⟨i, by rw [List.getElem?_set, if_neg (Ne.symm g0)]; exact g1, g2⟩⟩⟩
      · obtain ⟨j, hj⟩ := List.mem_iff_getElem?.1 hx
        rcases set_get hj with ⟨_, rfl, _⟩ | ⟨_, hj⟩
        · simp [emptP]
        · exact s.r01 x (List.mem_of_getElem? hj)
      · have := cntT_set R a (emptP z) q hq1
        rw [if_pos hq2, if_neg (by simp [emptP])] at this
        omega
      · rcases set_get g1 with ⟨_, rfl, _⟩ | ⟨gi, g1⟩
        · simp [emptP] at g2
        · exact ⟨i, Ne.symm gi, g1, g2⟩
    · rw [if_neg h0]
      have h1 : p.is_ = 1 := by have := s.r01 p (List.mem_of_getElem? hp); omega
      have hke : k ≠ e := fun h => by
        subst h; obtain ⟨q', g1, g2⟩ := he
        rw [hp] at g1; cases g1; omega
      have hds := dist_succ hk hel hke
      by_cases hd : dist R.length (homeM R p.key) k ≥ dist R.length a k
      · rw [if_pos hd]
        obtain ⟨s1, s2, s3⟩ := s.move hp h1 hd
        obtain ⟨q, hq1, hq2⟩ := s.stale
        have hae : a ≠ e := fun h => by
          subst h; obtain ⟨q', g1, g2⟩ := he
          rw [hq1] at g1; cases g1; omega
        obtain ⟨R', r1, r2, r3, r4, r5, r6⟩ := shift_loop f (R.set a p) k ((k + 1) % R.length) s1 ⟨e, by
          obtain ⟨q', g1, g2⟩ := he
          exact ⟨q', by rw [List.getElem?_set, if_neg hae]; exact g1, g2⟩, by rw [List.length_set]; omega⟩
        exact ⟨R', r1, r2, r3, by simpa using r4, by omega, fun x => (r6 x).trans (s2 x)⟩
      · rw [if_neg hd]
        exact shift_loop f R a _ (s.skip hp h1 (by omega)) ⟨e, he, by omega⟩
theorem shift_ok {R : List (Pl α)} {i : Nat} {d : Pl α} (r : RowOk R) (h01 : ∀ p ∈ R, p.is_ ≤ 1) (hroom : ∃ e, Empty R e) (hd : R[i]? = some d) (h1 : d.is_ = 1) :
    ∃ R', shiftM z (R.length + 1) R i ((i + 1) % R.length) = some R' ∧ RowOk R' ∧ (∀ p ∈ R', p.is_ ≤ 1) ∧ R'.length = R.length ∧ cntT R' + 1 = cntT R ∧ (∀ key, valOf R' key = if kL key = kL d.key then none else valOf R key) ∧
      ∀ q : Pl α, (∃ i : Nat, R'[i]? = some q ∧ q.is_ = 1) → ∃ i : Nat, R[i]? = some q ∧ q.is_ = 1 := by
  have hi := (List.getElem?_eq_some_iff.1 hd).1
  obtain ⟨e, he⟩ := hroom
  have hel := he.lt
  have hie : i ≠ e := fun h => by
    subst h; obtain ⟨q', g1, g2⟩ := he
    rw [hd] at g1; cases g1; omega
  have hn1 : dist R.length i ((i + 1) % R.length) = 1 := by
    rw [ring_val hi (by omega)]
    unfold dist
    split <;> split <;> omega
  have s : Sh R i ((i + 1) % R.length) := ⟨hi, ring_lt (by omega), Ne.symm (next_ne hi hie hel), fun a b p q _ _ ha hb hp hq h => r.uniq a b p q ha hb hp hq h, fun a p _ hp hp1 => r.chain a p hp hp1, fun a ha hne hlt => by
      have := dist_zero hi ha (by omega)
      exact absurd this.symm hne, fun a p hne hp hp1 hlt => by
      have := dist_zero hi (List.getElem?_eq_some_iff.1 hp).1 (by omega)
      exact absurd this.symm hne, ⟨d, hd, h1⟩, ⟨e, he⟩, h01⟩
  obtain ⟨R', r1, r2, r3, r4, r5, r6⟩ := shift_loop (z := z) (R.length + 1) R i _ s ⟨e, he, by have := dist_lt (ring_lt (h := i) (k := 1) (n := R.length) (by omega)) hel; omega⟩
  refine ⟨R', r1, r2, r3, r4, r5, fun key => ?_, fun q hq => ?_⟩
  · split
    · rename_i hk
      refine valOf_none fun j ⟨q, g1, g2, g3⟩ => ?_
      obtain ⟨a, h2, h3, h4⟩ := (r6 q).1 ⟨j, g1, g2⟩
      exact h2 (r.uniq a i q d h3 hd h4 h1 (g3.trans hk))
    · rename_i hk
      cases hv : valOf R key with
      | none =>
        refine valOf_none fun j ⟨q, g1, g2, g3⟩ => ?_
        obtain ⟨a, h2, h3, h4⟩ := (r6 q).1 ⟨j, g1, g2⟩
        rw [valOf_hit r h3 h4 g3] at hv; cases hv
      | some v =>
        obtain ⟨a, q, g1, g2, g3, g4⟩ := valOf_some hv
        have hai : a ≠ i := fun h => by subst h; rw [hd] at g1; cases g1; exact hk g3.symm
        obtain ⟨b, h2, h3⟩ := (r6 q).2 ⟨a, hai, g1, g2⟩
        rw [valOf_hit r2 h2 h3 g3, g4]
  · obtain ⟨a, _, h3, h4⟩ := (r6 q).1 hq
    exact ⟨a, h3, h4⟩
/-- Drop. -/
theorem drop_ok {T : Tb α} (t : TOk T) (key : ByteArray) :
    ∃ T', dropM z T key = some (T', ((getM T key).getD z, (getM T key).isSome)) ∧ TOk T' ∧ Rest T' ∧ (∀ k, getM T' k = if kL k = kL key then none else getM T k) ∧ T'.count = T.count - (if (getM T key).isSome then 1 else 0) ∧ T'.row.length = T.row.length ∧ leftT T' = leftT T - 4 := by
  obtain ⟨T1, m1, m2, m3, m4, m5, m6, m7⟩ := move_ok (z := z) t 4
  unfold dropM
  rw [m1, ← m7, ← m5, ← m6]
  simp only
  have m4' : leftT T1 = leftT T - 4 := by rw [m4]; rfl
  rw [← m4']
  have back : ∀ k, getM T k = getM T1 k := fun k => (m7 k).symm
  simp only [back]
  clear m1 m7 m5 m6 m4 m4' back t
  rcases hit_or T1.elder key with ⟨i, hi⟩ | hne
  · rw [m2.elder.hit hi]
    obtain ⟨p, h1, h2, h3⟩ := hi
    simp only [h1]
    have hil := (List.getElem?_eq_some_iff.1 h1).1
    have hn : ∀ k, kL k = kL key → ∀ j, ¬ Hit T1.row k j := fun k hk j ⟨q, g1, g2, g3⟩ => m2.apart j i q p g1 h1 g2 h2 (g3.trans (hk.trans h3.symm))
    have hg := get_elder m2 (hn key rfl) h1 h2 h3
    rw [hg]
    have r1 : RowOk (T1.elder.set i (goneP z)) := m2.elder.gone (by simp [goneP]) (by simp [goneP])
    have hc1 := m2.cnt_elder h1 h2
    have hcnt := m2.cnt
    refine ⟨_, rfl, ⟨m2.row, m2.row01, m2.pos, r1, fun hne => ?_, fun j q hj hq => ?_, by simpa using m2.mle, fun a b q s hq hs hq1 hs1 => ?_, ?_, ?_⟩, ?_, fun k => ?_, rfl, rfl, by simp [leftT]⟩
    · obtain ⟨j, q, g1, g2⟩ := m2.eroom (fun e => by rw [e] at h1; simp at h1)
      have : i ≠ j := fun e => by subst e; rw [h1] at g1; cases g1; omega
      exact ⟨j, q, by rw [List.getElem?_set, if_neg this]; exact g1, g2⟩
    · rcases set_get hq with ⟨_, rfl, _⟩ | ⟨_, gq⟩
      · simp [goneP]
      · exact m2.behind j q hj gq
    · rcases set_get hs with ⟨_, rfl, _⟩ | ⟨_, gs⟩
      · simp [goneP] at hs1
      · exact m2.apart a b q s hq gs hq1 hs1
    · have c1 := cntT_set T1.elder i (goneP z) p h1
      rw [if_pos h2, if_neg (by simp [goneP])] at c1
      show cntT T1.row + cntT (T1.elder.set i (goneP z)) = T1.count - 1
      omega
    · have := m2.load
      show (T1.elder.set i (goneP z)).length - T1.moved + 4 * (T1.count - 1) ≤ 3 * T1.row.length
      unfold leftT at this
      rw [List.length_set]; omega
    · rcases m3 with hr | hr
      · rw [hr] at h1; simp at h1
      · exact .inr (by simpa using hr)
    · show (match valOf T1.row k with | some v => some v | none => valOf (T1.elder.set i (goneP z)) k) = _
      by_cases hk : kL k = kL key
      · have a1 : valOf T1.row k = none := valOf_none (R := T1.row) (hn k hk)
        have a2 : valOf (T1.elder.set i (goneP z)) k = none := valOf_none (R := T1.elder.set i (goneP z)) fun j ⟨q, g1, g2, g3⟩ => by
          rcases set_get g1 with ⟨_, rfl, _⟩ | ⟨gi, g1⟩
          · simp [goneP] at g2
          · exact gi (m2.elder.uniq i j p q h1 g1 h2 g2 (h3.trans (hk.symm.trans g3.symm)))
        rw [if_pos hk, a1, a2]
      · rw [if_neg hk, valOf_set r1 m2.elder h1 k (fun h => hk (h.2.symm.trans h3)), if_neg (by simp [goneP])]; rfl
  · have hfe : ∃ i, findM T1.elder key = some (i, false) := by
      by_cases he : T1.elder = []
      · exact ⟨0, by rw [he]; rfl⟩
      · obtain ⟨j, g1, _, _⟩ := find_miss hne (m2.eroom he)
        exact ⟨j, g1⟩
    obtain ⟨j, hj⟩ := hfe
    rw [hj]
    simp only
    rcases hit_or T1.row key with ⟨i, hi⟩ | hn
    · rw [m2.row.hit hi]
      obtain ⟨p, h1, h2, h3⟩ := hi
      simp only [h1]
      obtain ⟨R', r1, r2, r3, r4, r5, r6, r7⟩ := shift_ok (z := z) m2.row m2.row01 (m2.room m2.cnt_row) h1 h2
      rw [r1]
      have hg := get_row m2 h1 h2 h3
      rw [hg]
      have hcnt := m2.cnt
      have hpos := m2.pos
      refine ⟨_, rfl, ⟨r2, r3, by show 2 ≤ R'.length; omega, m2.elder, m2.eroom, m2.behind, m2.mle, fun a b q s hq hs hq1 hs1 => ?_, ?_, ?_⟩, m3, fun k => ?_, rfl, r4, rfl⟩
      · obtain ⟨a', ha, hb⟩ := r7 q ⟨a, hq, hq1⟩
        exact m2.apart a' b q s ha hs hb hs1
      · show cntT R' + cntT T1.elder = T1.count - 1
        omega
      · have := m2.load
        show T1.elder.length - T1.moved + 4 * (T1.count - 1) ≤ 3 * R'.length
        unfold leftT at this
        omega
      · show (match valOf R' k with | some v => some v | none => valOf T1.elder k) = _
        rw [r6]
        by_cases hk : kL k = kL key
        · have a2 : valOf T1.elder k = none := valOf_none (R := T1.elder) fun j ⟨q, g1, g2, g3⟩ => hne j ⟨q, g1, g2, g3.trans hk⟩
          rw [if_pos hk, if_pos (hk.trans h3.symm), a2]
        · rw [if_neg hk, if_neg (fun h => hk (h.trans h3))]; rfl
    · obtain ⟨i, f1, _, _⟩ := find_miss hn (m2.room m2.cnt_row)
      rw [f1]
      have hg := get_none hn hne
      rw [hg]
      refine ⟨T1, rfl, m2, m3, fun k => ?_, by simp, rfl, rfl⟩
      by_cases hk : kL k = kL key
      · rw [if_pos hk]
        exact get_none (fun j ⟨q, g1, g2, g3⟩ => hn j ⟨q, g1, g2, g3.trans hk⟩) (fun j ⟨q, g1, g2, g3⟩ => hne j ⟨q, g1, g2, g3.trans hk⟩)
      · rw [if_neg hk]
end
end Go.Proofs.YtoccbnhahaoeiaaGreat.V
namespace Go.Proofs.YtoccbnhahaoeiaaGreat.V
open Go Go.Proofs
set_option maxRecDepth 100000
def srtRen : Go.Shelf.Ren := ⟨fun | 6 => 122 | 8 => 71 | 9 => 136 | 19 => 109 | 20 => 110 | 21 => 138 | 22 => 139 | 23 => 140 | 24 => 141 | 25 => 142 | 26 => 143 | 27 => 144 | 28 => 145 | 29 => 146 | 36 => 147 | 31 => 128 | 32 => 129 | 37 => 148 | 38 => 149 | 39 => 150 | 41 => 151 | n => n, fun | 27 => 114 | 29 => 9 | 3 => 3 | 32 => 117 | 26 => 114 | 0 => 0 | 44 => 169 | 46 => 121 | 4 => 4 | 36 => 163 | 35 => 162 | 41 => 137 | 5 => 5 | 9 => 9 | 53 => 187 | 57 => 191 | 63 => 196 | 64 => 197 | n => n, fun n => n⟩
theorem srt : SlLaysM.n6 Tryz.prog srtRen := { mixed := by kernel_rfl, f6 := ⟨Tryz.f122.name, by decide, Tryz.func122.trans (congrArg some (by kernel_rfl))⟩, f8 := Tryz.func71.trans (congrArg some (by kernel_rfl)), f9 := ⟨Tryz.f136.name, by decide, Tryz.func136.trans (congrArg some (by kernel_rfl))⟩, f19 := Tryz.func109.trans (congrArg some (by kernel_rfl)), f20 := Tryz.func110.trans (congrArg some (by kernel_rfl)), f21 := ⟨Tryz.f138.name, by decide, Tryz.func138.trans (congrArg some (by kernel_rfl))⟩, f22 := ⟨Tryz.f139.name, by decide, Tryz.func139.trans (congrArg some (by kernel_rfl))⟩, f23 := ⟨Tryz.f140.name, by decide, Tryz.func140.trans (congrArg some (by kernel_rfl))⟩, f24 := ⟨Tryz.f141.name, by decide, Tryz.func141.trans (congrArg some (by kernel_rfl))⟩, f25 := ⟨Tryz.f142.name, by decide, Tryz.func142.trans (congrArg some (by kernel_rfl))⟩, f26 := ⟨Tryz.f143.name, by decide, Tryz.func143.trans (congrArg some (by kernel_rfl))⟩, f27 := ⟨Tryz.f144.name, by decide, Tryz.func144.trans (congrArg some (by kernel_rfl))⟩, f28 := ⟨Tryz.f145.name, by decide, Tryz.func145.trans (congrArg some (by kernel_rfl))⟩, f29 := ⟨Tryz.f146.name, by decide, Tryz.func146.trans (congrArg some (by kernel_rfl))⟩, f31 := Tryz.func128.trans (congrArg some (by kernel_rfl)), f32 := Tryz.func129.trans (congrArg some (by kernel_rfl)), f36 := ⟨Tryz.f147.name, by decide, Tryz.func147.trans (congrArg some (by kernel_rfl))⟩, f37 := ⟨Tryz.f148.name, by decide, Tryz.func148.trans (congrArg some (by kernel_rfl))⟩, f38 := ⟨Tryz.f149.name, by decide, Tryz.func149.trans (congrArg some (by kernel_rfl))⟩, f39 := ⟨Tryz.f150.name, by decide, Tryz.func150.trans (congrArg some (by kernel_rfl))⟩, f41 := ⟨Tryz.f151.name, by decide, Tryz.func151.trans (congrArg some (by kernel_rfl))⟩, t0 := Tryz.underlying0, a0 := Tryz.isAgg0, z0 := Tryz.sizeOf0, v0 := Tryz.zeroValue0, t3 := Tryz.underlying3, a3 := Tryz.isAgg3, z3 := Tryz.sizeOf3, v3 := Tryz.zeroValue3, t4 := Tryz.underlying4, a4 := Tryz.isAgg4, z4 := Tryz.sizeOf4, v4 := Tryz.zeroValue4, t5 := Tryz.underlying5, a5 := Tryz.isAgg5, z5 := Tryz.sizeOf5, v5 := Tryz.zeroValue5, t9 := Tryz.underlying9, a9 := Tryz.isAgg9, z9 := Tryz.sizeOf9, v9 := Tryz.zeroValue9, t26 := Tryz.underlying114, a26 := Tryz.isAgg114, z26 := Tryz.sizeOf114, v26 := Tryz.zeroValue114, t27 := Tryz.underlying114, a27 := Tryz.isAgg114, z27 := Tryz.sizeOf114, v27 := Tryz.zeroValue114, t29 := Tryz.underlying9, a29 := Tryz.isAgg9, z29 := Tryz.sizeOf9, v29 := Tryz.zeroValue9, t32 := Tryz.underlying117, a32 := Tryz.isAgg117, z32 := Tryz.sizeOf117, v32 := Tryz.zeroValue117, t35 := Tryz.underlying162, a35 := Tryz.isAgg162, z35 := Tryz.sizeOf162, v35 := Tryz.zeroValue162, t36 := Tryz.underlying163, a36 := Tryz.isAgg163, z36 := Tryz.sizeOf163, v36 := Tryz.zeroValue163, t41 := Tryz.underlying137, a41 := Tryz.isAgg137, z41 := Tryz.sizeOf137, v41 := Tryz.zeroValue137, t44 := Tryz.underlying169, a44 := Tryz.isAgg169, z44 := Tryz.sizeOf169, v44 := Tryz.zeroValue169, t46 := Tryz.underlying121, a46 := Tryz.isAgg121, z46 := Tryz.sizeOf121, v46 := Tryz.zeroValue121, t53 := Tryz.underlying187, a53 := Tryz.isAgg187, z53 := Tryz.sizeOf187, v53 := Tryz.zeroValue187, t57 := Tryz.underlying191, a57 := Tryz.isAgg191, z57 := Tryz.sizeOf191, v57 := Tryz.zeroValue191, t63 := Tryz.underlying196, a63 := Tryz.isAgg196, z63 := Tryz.sizeOf196, v63 := Tryz.zeroValue196, t64 := Tryz.underlying197, a64 := Tryz.isAgg197, z64 := Tryz.sizeOf197, v64 := Tryz.zeroValue197 }
end Go.Proofs.YtoccbnhahaoeiaaGreat.V
namespace Go.Proofs.YtoccbnhahaoeiaaGreat.V
open Go Go.Sort
set_option linter.unusedVariables false
set_option linter.unusedSimpArgs false
noncomputable def sortT (ss : List ByteArray) : List ByteArray := ((ss.map fun s => s.data.toList).mergeSort fun x y => decide (x ≤ y)).map fun l => ⟨l.toArray⟩
theorem sortT_len (ss : List ByteArray) : (sortT ss).length = ss.length := by simp [sortT]
theorem enc_str (s : ByteArray) : encStr s.data.toList = .string s := by simp [encStr]
theorem flat_str (ss : List ByteArray) : ss.flatMap cT = (ss.map fun s => s.data.toList).map encStr := by
  rw [List.map_map]
  induction ss with
  | nil => rfl
  | cons a r ih => rw [List.flatMap_cons, ih]; simp [enc_str]
theorem flat_sort (ss : List ByteArray) : (sortT ss).flatMap cT = ((ss.map fun s => s.data.toList).mergeSort fun x y => decide (x ≤ y)).map encStr := by
  rw [flat_str, sortT, List.map_map, List.map_map]
  congr 1
theorem sort_fn {h : H} {s : Sl} {ss : List ByteArray} {f : Nat} {K : Value → H → Prop} (hf : srtRen.f 6 = f) (ow : Owns h s 9 1 (ss.flatMap cT)) (hl : ss.length < 4611686018427387904)
    (k : ∀ h', Owns h' s 9 1 ((sortT ss).flatMap cT) → Only (fun b => s.blk = some b) h h' → K (.tuple #[]) h') : Fn Tryz.prog f [s.enc].toArray h K := fun w hw => by
  subst hw
  subst hf
  obtain ⟨hlen, ⟨h1, h2, h3⟩ | ⟨g, c, h1, h2, h3, h4, h5, h6⟩⟩ := id ow
  · obtain ⟨sp, sl, sc⟩ := s
    simp only at h1 h2 h3
    subst h1; subst h2; subst h3
    have hs : ss = [] := by
      have := hlen
      rw [flat_len cT 1 cT_len] at this
      simp only at this
      exact List.eq_nil_of_length_eq_zero (by omega)
    subst hs
    have hc := AnyM.slices_Sort_string_none srt none 0 w
    refine callsIn_wide.2 (hc.mono fun e w' ⟨he, hn⟩ => ?_)
    subst he
    subst hn
    refine ⟨_, rfl, Like.refl _, k _ ?_ (.refl _)⟩
    have : sortT [] = [] := by simp [sortT]
    rw [this]
    exact ow
  · obtain ⟨sp, sl, sc⟩ := s
    simp only at h1 h3 h4 h5
    subst h1
    have hsl : sl = ss.length := by
      have := hlen
      rw [flat_len cT 1 cT_len] at this
      simp only at this
      omega
    subst hsl
    have htk : c.toList.take (ss.map fun s => s.data.toList).length = (ss.map fun s => s.data.toList).map encStr := by
      rw [← flat_str, List.length_map]
      rw [flat_len cT 1 cT_len, Nat.mul_one] at h6
      exact h6
    have hH := holds_of_block (w := w) (ss := ss.map fun s => s.data.toList) h2 htk
    have hc := AnyM.slices_Sort_string srt g 0 sc (ss.map fun s => s.data.toList) w hH (Array.getElem?_eq_some_iff.1 h2).1 (by simpa using hl)
    rw [List.length_map] at hc
    refine callsIn_wide.2 (hc.mono fun e w' ⟨he, n, os, hn⟩ => ?_)
    subst he
    have hg : w.grownBy w' (some g) := by rw [hn]; exact grownBy_sorted _
    have hso := heap_sorted (n := n) (os := os) ((ss.map fun s => s.data.toList).mergeSort fun x y => decide (x ≤ y)).toArray h2
    rw [← hn] at hso
    refine ⟨_, rfl, ⟨hg.os, hg.tape, hg.output, by rw [hn]; exact Nat.le_add_right _ _⟩, k _ ⟨?_, .inr ⟨g, _, rfl, hso, ?_, h4, h5, ?_⟩⟩ ((heap_ext hg).mono fun b _ e => by simpa [Sl.blk] using e)⟩
    · rw [flat_len cT 1 cT_len, sortT_len]
    · simp only [putCells]; simpa using h3
    · rw [flat_len cT 1 cT_len, Nat.mul_one, sortT_len, flat_sort]
      have hlm : ((ss.map fun s => s.data.toList).mergeSort fun x y => decide (x ≤ y)).length = ss.length := by simp
      have := take_putCells c ((ss.map fun s => s.data.toList).mergeSort fun x y => decide (x ≤ y)) (by rw [hlm]; omega)
      rw [hlm] at this
      exact this
end Go.Proofs.YtoccbnhahaoeiaaGreat.V
namespace Go.Proofs.YtoccbnhahaoeiaaGreat.V
open Go
set_option linter.unusedVariables false
set_option linter.unusedSimpArgs false
set_option maxRecDepth 20000
def hstep (h : Nat) (c : UInt8) : Nat := ((h ^^^ c.toNat) * 1099511628211) % 18446744073709551616
theorem hash_step {x : Nat} (c : UInt8) (hx : x < 18446744073709551616) : IntKind.wrap .u64 ((bitsOf .xor .u64 (x : Int) (IntKind.wrap .u64 (c.toNat : Int))) * 1099511628211) = ((hstep x c : Nat) : Int) := by
  have hb : c.toNat < 256 := c.toNat_lt
  have e2 : IntKind.wrap .u64 (c.toNat : Int) = ((c.toNat : Nat) : Int) := by rw [wrap_u64]; omega
  rw [e2]
  simp only [bitsOf]
  rw [BitVec.ofInt_natCast, BitVec.ofInt_natCast, BitVec.toNat_xor, BitVec.toNat_ofNat, BitVec.toNat_ofNat, wrap_u64, wrap_u64]
  have e3 : x % 2 ^ (IntKind.bits .u64) = x := Nat.mod_eq_of_lt (by simpa [IntKind.bits] using hx)
  have e4 : c.toNat % 2 ^ (IntKind.bits .u64) = c.toNat := Nat.mod_eq_of_lt (by simp [IntKind.bits]; omega)
  rw [e3, e4]
  have hlt : x ^^^ c.toNat < 2 ^ 64 := Nat.xor_lt_two_pow (by omega) (by omega)
  unfold hstep
  generalize x ^^^ c.toNat = y at *
  omega
theorem hstep_lt (h : Nat) (c : UInt8) : hstep h c < 18446744073709551616 := Nat.mod_lt _ (by omega)
theorem hashL_eq (l : List UInt8) : hashL l = l.foldl hstep 14695981039346656037 := rfl
theorem hash_loop {h : H} {s : Sl} {l : List UInt8} {z : Nat} {Q : Int → H → Prop} (rd : Reads h s 1 (l.flatMap cU)) (hl : l.length ≤ 9223372036854775807) (k : Q (z : Int) h) :
    ∀ (m i : Nat) (x : Nat), i ≤ l.length → l.length - i < m → x < 18446744073709551616 → (l.drop i).foldl hstep x = z → F.table_Hash.l1 Q m (x : Int) s (s.len : Int) (i : Int) h
  | 0, i, x, h1, h2, _, _ => by omega
  | m + 1, i, x, h1, h2, hlt, hx => by
    unfold F.table_Hash.l1
    have hlen := rd_len cU_len (by omega) rd
    rw [hlen]
    simp only [decide_eq_true_eq, decide_eq_false_iff_not]
    refine ⟨fun g => ?_, fun g => ?_⟩
    · obtain ⟨c, hc⟩ : ∃ c, l[i]? = some c := ⟨_, List.getElem?_eq_getElem (by omega)⟩
      obtain ⟨p, q1, q2, q3⟩ := rd_at cU_len (by omega) rd hc
      refine idxR_of q1 (by omega) rfl ?_
      rw [ldI_iff (by have := q3.one; rwa [Nat.mul_one] at this ⊢), hash_step c hlt, w64 (by omega) (by omega)]
      have := hash_loop rd hl k m (i + 1) (hstep x c) (by omega) (by omega) (hstep_lt x c) (by
        rw [← hx, List.drop_eq_getElem_cons (show i < l.length by omega), List.foldl_cons]
        have : l[i] = c := by have := (List.getElem?_eq_some_iff.1 hc).2; exact this
        rw [this])
      rw [hlen] at this
      exact this
    · have : i = l.length := by omega
      subst this
      rw [List.drop_length] at hx
      cases hx
      exact k
theorem Hash_spec {h : H} {key : ByteArray} {Q : Int → H → Prop} (hk : key.size ≤ 9223372036854775807) (k : ∀ h', Ext h h' → Q ((hashM key : Nat) : Int) h') : F.table_Hash key h Q := by
  unfold F.table_Hash
  refine cvtL_of Tryz.underlying9 el_Sluint8.slice Tryz.underlying5 fun r h' rd hc e _ => ?_
  refine ⟨key.data.toList.length + 1, ?_⟩
  have := hash_loop (Q := Q) (z := hashM key) rd (by rw [← size_data]; exact hk) (k h' e) (key.data.toList.length + 1) 0 14695981039346656037 (by omega) (by omega) (by omega) (by rw [List.drop_zero]; unfold hashM; rw [hashL_eq])
  exact this
abbrev SmallK (k : ByteArray) : Prop := k.size ≤ 9223372036854775807
abbrev BIG : Nat := 1099511627776
theorem probe_lt {α : Type} {R : List (Pl α)} {key : ByteArray} : ∀ (f i : Nat) (r : Nat × Bool), probe R key f i = some r → r.1 < R.length
  | 0, i, r, h => by cases h
  | f + 1, i, r, h => by
    unfold probe at h
    cases hp : R[i]? with
    | none => rw [hp] at h; cases h
    | some p =>
      have hi := (List.getElem?_eq_some_iff.1 hp).1
      rw [hp] at h
      simp only at h
      split at h
      · cases h; exact hi
      · split at h
        · cases h; exact hi
        · exact probe_lt f _ r h
theorem find_lt {α : Type} {R : List (Pl α)} {key : ByteArray} {r : Nat × Bool} (h0 : R ≠ []) (h : findM R key = some r) : r.1 < R.length := by
  unfold findM at h
  rw [if_neg (fun e => h0 (List.eq_nil_of_length_eq_zero e))] at h
  exact probe_lt _ _ _ h
/-- Block n is a row of things of type e. -/
def WB (h : H) (n : Nat) (e : TypeId) : Prop := ∃ c, Blk h n c e
theorem WB.ne {h : H} {a b : Nat} {e e' : TypeId} (x : WB h a e) (y : WB h b e') (n : e ≠ e') : a ≠ b := fun hab => by
  obtain ⟨c, hc⟩ := x
  obtain ⟨d, hd⟩ := y
  subst hab
  unfold Blk at hc hd
  rw [hc] at hd
  simp at hd
  exact n hd.2
theorem Owns.typ {h : H} {s : Sl} {e : TypeId} {size : Nat} {cs : List Value} (o : Owns h s e size cs) {b : Nat} (hb : s.blk = some b) : WB h b e := by
  obtain ⟨_, ⟨h1, _⟩ | ⟨b', c', h1, h2, _⟩⟩ := o
  · simp [Sl.blk, h1] at hb
  · simp [Sl.blk, h1] at hb; subst hb; exact ⟨c', h2⟩
def KB {α : Type} (R : List (Pl α)) : Prop := ∀ (i : Nat) (p : Pl α), R[i]? = some p → SmallK p.key
theorem KB.set {α : Type} {R : List (Pl α)} (k : KB R) {i : Nat} {p : Pl α} (hp : SmallK p.key) : KB (R.set i p) := fun j q hq => by
  rcases set_get hq with ⟨_, rfl, _⟩ | ⟨_, hq⟩
  · exact hp
  · exact k j q hq
/-- The blocks of a table. -/
def FT (n : Nat) (rs es : Sl) (b : Nat) : Prop := b = n ∨ rs.blk = some b ∨ es.blk = some b
structure Stp (h : H) (n : Nat) (rs es : Sl) (h' : H) (rs' es' : Sl) : Prop where
  only : Only (FT n rs es) h h'
  new : ∀ b, FT n rs' es' b → FT n rs es b ∨ h.size ≤ b
theorem Stp.refl (h : H) (n : Nat) (rs es : Sl) : Stp h n rs es h rs es := ⟨.refl _, fun b hb => .inl hb⟩
theorem Stp.trans {h h' h'' : H} {n : Nat} {rs es rs' es' rs'' es'' : Sl} (a : Stp h n rs es h' rs' es') (b : Stp h' n rs' es' h'' rs'' es'') : Stp h n rs es h'' rs'' es'' :=
  ⟨a.only.trans b.only fun m hm hf => (a.new m hf).resolve_right (by omega), fun m hm => by
    rcases b.new m hm with h1 | h1
    · exact a.new m h1
    · exact .inr (Nat.le_trans a.only.size h1)⟩
theorem Stp.ext {h h' h'' : H} {n : Nat} {rs es rs' es' : Sl} (a : Stp h n rs es h' rs' es') (e : Ext h' h'') : Stp h n rs es h'' rs' es' := ⟨a.only.ext e, a.new⟩
theorem Stp.of_ext {h h' : H} {n : Nat} {rs es : Sl} (e : Ext h h') : Stp h n rs es h' rs es := ⟨e.only, fun b hb => .inl hb⟩
theorem made3 (a b c : Value) (n : Nat) : (madeCells #[a, b, c] (n * 3)).toList = (List.replicate n [a, b, c]).flatten := by
    apply List.ext_getElem?
    intro j
    have hfl : (List.replicate n [a, b, c]).flatten = (List.replicate n ()).flatMap fun _ => [a, b, c] := by
      rw [List.flatMap, List.map_replicate]
    rw [hfl]
    by_cases hj : j < n * 3
    · have hd : j = (j / 3) * 3 + j % 3 := by omega
      have hu : (List.replicate n ())[j / 3]? = some () := by rw [List.getElem?_replicate, if_pos (by omega)]
      have := flat_get (fun _ : Unit => [a, b, c]) 3 (fun _ => rfl) (List.replicate n ()) (j / 3) () hu (j % 3) (by omega)
      rw [← hd] at this
      rw [this]
      simp only [madeCells, Array.getElem?_toList]
      have hm : j % 3 < 3 := by omega
      simp [hj]
      rcases (show j % 3 = 0 ∨ j % 3 = 1 ∨ j % 3 = 2 by omega) with h | h | h <;> simp [h]
    · rw [List.getElem?_eq_none (by simp [size_madeCells]; omega), List.getElem?_eq_none (by rw [flat_len _ 3 (fun _ => rfl)]; simp; omega)]
theorem KB.nil {α : Type} : KB ([] : List (Pl α)) := fun i p hp => by simp at hp
theorem set3 {cs : List Value} {o : Nat} {a b v : Value} (ha : cs[o]? = some a) (hb : cs[o + 1]? = some b) : cs.take (o + 2) ++ [v] ++ cs.drop (o + 2 + [v].length) = cs.take o ++ [a, b, v] ++ cs.drop (o + [a, b, v].length) := by
  rw [List.take_add_one (i := o + 1), List.take_add_one (i := o), ha, hb]
  simp
theorem tmod_dist {n a k : Nat} (ha : a < n) (hk : k < n) (hn : n ≤ BIG) : Int.tmod (IntKind.wrap .i64 (IntKind.wrap .i64 ((k : Int) - (a : Int)) + (n : Int))) (n : Int) = ((dist n a k : Nat) : Int) := by
  simp only [BIG] at hn
  rw [w64 (n := (k : Int) - (a : Int)) (by omega) (by omega), w64 (by omega) (by omega), show (k : Int) - (a : Int) + (n : Int) = ((k + n - a : Nat) : Int) from by omega, ← Int.ofNat_tmod]
  congr 1
  unfold dist
  split
  · rw [show k + n - a = k - a + n from by omega, Nat.add_mod_right, Nat.mod_eq_of_lt (by omega)]
  · rw [Nat.mod_eq_of_lt (by omega)]
theorem next_tmod {n k : Nat} (hk : k < n) (hn : n ≤ BIG) : Int.tmod (IntKind.wrap .i64 ((k : Int) + 1)) (n : Int) = (((k + 1) % n : Nat) : Int) := by
  simp only [BIG] at hn
  rw [w64 (by omega) (by omega), show (k : Int) + 1 = ((k + 1 : Nat) : Int) from by omega, ← Int.ofNat_tmod]
theorem put_only (h : H) (l : Nat) (o : Obj) : Only (· = l) h (put h l o) := ⟨by simp [put], fun b hb hn => by
  unfold put
  rw [Array.getElem?_setIfInBounds_ne (fun e => hn e.symm)]⟩
theorem putAt_ {h : H} {l : Nat} {o o' : Obj} (hl : h[l]? = some o') : (put h l o)[l]? = some o := by
  have := (Array.getElem?_eq_some_iff.1 hl).1
  unfold put
  rw [Array.getElem?_setIfInBounds_self_of_lt this]
theorem nodup_len : ∀ {E L : List Nat}, E.Nodup → (∀ e ∈ E, e ∈ L) → E.length ≤ L.length
  | [], L, _, _ => Nat.zero_le _
  | e :: E, L, h, hs => by
    rw [List.nodup_cons] at h
    have he := hs e (by simp)
    have := nodup_len (E := E) (L := L.erase e) h.2 fun x hx => (List.mem_erase_of_ne (show x ≠ e from fun hxe => h.1 (by rw [← hxe]; exact hx))).2 (hs x (by simp [hx]))
    rw [List.length_erase_of_mem he] at this
    have hpos : 0 < L.length := List.length_pos_of_mem he
    simp only [List.length_cons]; omega
/-- What holds while keys are gathered: o: the heap's size when it began. -/
structure KG (h : H) (o b : Nat) (M D : List (ByteArray × Value)) (h' : H) : Prop where
  ext : Ext h h'
  box : ∃ s : Sl, Blk h' o #[s.enc] tn_Slstring ∧ Owns h' s 9 1 ((D.map (·.1)).flatMap cT) ∧ ∀ n, s.blk = some n → o + 4 ≤ n
  dfr : h'[o + 1]? = some (.deferred (some []))
  it : ItH h' (o + 3) b M D
  size : o + 3 < h'.size
theorem KG.only {h h' h'' : H} {o b : Nat} {M D : List (ByteArray × Value)} (k : KG h o b M D h') (ho : h.size ≤ o) (hb : b < o) (e : Only (· = o + 2) h' h'') : KG h o b M D h'' := by
  obtain ⟨s, s1, s2, s3⟩ := k.box
  exact ⟨k.ext.step e fun n hn hf => by omega, ⟨s, e.block s1 (by omega), s2.only e fun n hn hf => by have := s3 n hn; omega, s3⟩, e.block k.dfr (by omega), k.it.only e (by omega) (by omega), by have := k.size; have := e.size; omega⟩
theorem put_new {M : List (ByteArray × Value)} {k : ByteArray} {v : Value} (h : k ∉ M.map (·.1)) : putK M k v = M ++ [(k, v)] := by
  unfold putK
  have : (M.findIdx? fun p => k == p.1) = none := by
    rw [List.findIdx?_eq_none_iff]
    intro p hp
    exact ba_ne fun e => h (List.mem_map.2 ⟨p, hp, e.symm⟩)
  rw [this]
theorem getK_mem {M : List (ByteArray × Value)} {k : ByteArray} {v : Value} (hn : (M.map (·.1)).Nodup) (h : (k, v) ∈ M) : getK M k = some v := by
  induction M with
  | nil => cases h
  | cons p M ih =>
    rw [List.map_cons, List.nodup_cons] at hn
    unfold getK
    rw [List.find?_cons]
    rcases List.mem_cons.1 h with rfl | h
    · simp [ba_self]
    · have : ¬ k = p.1 := fun e => hn.1 (List.mem_map.2 ⟨(k, v), h, e⟩)
      rw [ba_ne this]
      exact ih hn.2 h
theorem sortT_perm {A B : List ByteArray} (h : A.Perm B) : sortT A = sortT B := by
  unfold sortT
  rw [show ((A.map fun s => s.data.toList).mergeSort fun x y => decide (x ≤ y)) = ((B.map fun s => s.data.toList).mergeSort fun x y => decide (x ≤ y)) from mergeSort_of_perm (h.map _)]
theorem sortT_mem {A : List ByteArray} {k : ByteArray} : k ∈ sortT A ↔ k ∈ A := by
  unfold sortT
  rw [List.mem_map]
  constructor
  · rintro ⟨l, hl, rfl⟩
    have := (List.mergeSort_perm _ _).mem_iff.1 hl
    obtain ⟨s, hs, rfl⟩ := List.mem_map.1 this
    simpa using hs
  · intro h
    exact ⟨k.data.toList, (List.mergeSort_perm _ _).mem_iff.2 (List.mem_map.2 ⟨k, h, rfl⟩), by simp⟩
def SQF (ka ma b : Nat) (r : Sl) (n : Nat) : Prop := n = ka ∨ n = ma ∨ n = b ∨ r.blk = some n
end Go.Proofs.YtoccbnhahaoeiaaGreat.V
namespace Go.Proofs.YtoccbnhahaoeiaaGreat.V.P
open Go Go.Proofs.YtoccbnhahaoeiaaGreat.V
set_option linter.unusedVariables false
set_option linter.unusedSimpArgs false
set_option maxRecDepth 20000
abbrev nilA : Option Addr := none
abbrev cP (p : Pl (Option Addr)) : List Value := [.int .u8 (p.is_ : Int), .string p.key, .pointer p.value]
theorem cP_len (p : Pl (Option Addr)) : (cP p).length = 3 := rfl
theorem home_spec {h : H} {s : Sl} {α : Type} {R : List (Pl α)} {key : ByteArray} {Q : Int → H → Prop} (hs : s.len = R.length) (h0 : 0 < R.length) (hb : R.length ≤ BIG) (hk : SmallK key) (k : ∀ h', Ext h h' → Q ((homeM R key : Nat) : Int) h') : F.table_home_chain_Chain_api_Agg s key h Q := by
  unfold F.table_home_chain_Chain_api_Agg
  refine Hash_spec hk fun h1 e1 => ?_
  have hw : IntKind.wrap .u64 (s.len : Int) = ((R.length : Nat) : Int) := by rw [wrap_u64, hs]; simp only [BIG] at hb; omega
  rw [hw]
  refine ⟨by omega, ?_⟩
  rw [← Int.ofNat_tmod]
  have hl := home_lt (R := R) (key := key) h0
  unfold homeM at hl
  rw [w64 (by omega) (by simp only [BIG] at hb; omega)]
  exact k h1 e1
theorem probe_loop {h : H} {s : Sl} {R : List (Pl (Option Addr))} {key : ByteArray} {Q : Int → Bool → H → Prop} (rd : Reads h s 3 (R.flatMap cP)) (hb : R.length ≤ BIG) :
    ∀ (f i : Nat) (r : Nat × Bool), probe R key f i = some r → Q ((r.1 : Nat) : Int) r.2 h → F.table_find_chain_Chain_api_Agg.l1 Q f s key (i : Int) h
  | 0, i, r, hp, k => by cases hp
  | f + 1, i, r, hp, k => by
    unfold probe at hp
    unfold F.table_find_chain_Chain_api_Agg.l1
    have hlen := rd_len cP_len (by omega) rd
    cases hpi : R[i]? with
    | none => rw [hpi] at hp; cases hp
    | some p =>
      have hi := (List.getElem?_eq_some_iff.1 hpi).1
      rw [hpi] at hp
      simp only at hp
      obtain ⟨a, q1, q2, q3⟩ := rd_at cP_len (by omega) rd hpi
      have c0 := q3 0 _ rfl
      have c1 := q3 1 _ rfl
      refine idxR_of q1 (by omega) rfl ?_
      rw [ldI_iff c0]
      simp only [bne_iff_ne, ne_eq, bne_eq_false_iff_eq, beq_iff_eq, beq_eq_false_iff_ne]
      by_cases h0 : p.is_ = 0
      · rw [if_pos h0] at hp
        cases hp
        exact ⟨fun g => absurd (by omega) g, fun _ => k⟩
      · rw [if_neg h0] at hp
        refine ⟨fun _ => ?_, fun g => absurd g (by omega)⟩
        refine idxR_of q1 (by omega) rfl ?_
        rw [ldI_iff c0]
        have next : ∀ (x : Bool), ¬ (x = true) → ¬ (p.is_ = 1 ∧ kL p.key = kL key) → F.table_find_chain_Chain_api_Agg.j3 Q (F.table_find_chain_Chain_api_Agg.l1 Q f) s key (i : Int) x h := fun x hx hn => by
          rw [if_neg hn] at hp
          unfold F.table_find_chain_Chain_api_Agg.j3
          refine ⟨fun g => absurd g hx, fun _ => ?_⟩
          unfold F.table_find_chain_Chain_api_Agg.j2
          simp only [BIG] at hb
          refine ⟨by omega, ?_⟩
          rw [w64 (by omega) (by omega), hlen, show (i : Int) + 1 = ((i + 1 : Nat) : Int) from by omega, ← Int.ofNat_tmod]
          exact probe_loop rd hb f _ r hp k
        refine ⟨fun g => ?_, fun g => ?_⟩
        · refine idxR_of q1 (by omega) rfl ?_
          rw [ldS_iff c1, toList_data, toList_data]
          by_cases hk : kL p.key = kL key
          · rw [if_pos ⟨by omega, hk⟩] at hp
            cases hp
            rw [show (p.key.data.toList == key.data.toList) = true from by simpa using hk]
            exact ⟨fun _ => k, fun h => by cases h⟩
          · rw [show (p.key.data.toList == key.data.toList) = false from by simpa using hk]
            exact next _ (by simp) fun h => hk h.2
        · exact next _ (by simp) fun h => g (by omega)
theorem find_spec {h : H} {s : Sl} {R : List (Pl (Option Addr))} {key : ByteArray} {Q : Int → Bool → H → Prop} {r : Nat × Bool} (rd : Reads h s 3 (R.flatMap cP)) (hb : R.length ≤ BIG) (hk : SmallK key) (hf : findM R key = some r) (k : ∀ h', Ext h h' → Q ((r.1 : Nat) : Int) r.2 h') : F.table_find_chain_Chain_api_Agg s key h Q := by
  unfold F.table_find_chain_Chain_api_Agg
  unfold findM at hf
  have hlen := rd_len cP_len (by omega) rd
  simp only [beq_iff_eq, beq_eq_false_iff_ne]
  by_cases h0 : R.length = 0
  · rw [if_pos h0] at hf
    cases hf
    exact ⟨fun _ => k h (.refl _), fun g => absurd (by omega) g⟩
  · rw [if_neg h0] at hf
    refine ⟨fun g => absurd g (by omega), fun _ => ?_⟩
    refine home_spec (R := R) hlen (by omega) hb hk fun h1 e1 => ?_
    exact ⟨R.length + 1, probe_loop (rd.ext e1) hb _ _ r hf (k h1 e1)⟩
end Go.Proofs.YtoccbnhahaoeiaaGreat.V.P
namespace Go.Proofs.YtoccbnhahaoeiaaGreat.V.P
open Go Go.Proofs.YtoccbnhahaoeiaaGreat.V
set_option linter.unusedVariables false
set_option linter.unusedSimpArgs false
set_option maxRecDepth 20000
structure TH (h : H) (n : Nat) (rs es : Sl) (T : Tb (Option Addr)) : Prop where
  tb : Blk h n #[rs.enc, es.enc, .int .i64 (T.moved : Int), .int .i64 (T.count : Int)] tn_table_Table_chain_Chain_api_Agg
  row : Owns h rs tn_table_place_chain_Chain_api_Agg 3 (T.row.flatMap cP)
  el : Owns h es tn_table_place_chain_Chain_api_Agg 3 (T.elder.flatMap cP)
  ne : ∀ b, rs.blk = some b → es.blk ≠ some b
  kr : KB T.row
  ke : KB T.elder
  pos : T.row ≠ []
  br : T.row.length ≤ BIG
  be : T.elder.length ≤ BIG
  bc : T.count ≤ BIG
  bm : T.moved ≤ T.elder.length
section
variable {h h' : H} {n : Nat} {rs es : Sl} {T : Tb (Option Addr)}
theorem TH.c0 (t : TH h n rs es T) : cellH h ⟨n, 0, none⟩ = some rs.enc := t.tb.cell rfl
theorem TH.c1 (t : TH h n rs es T) : cellH h ⟨n, 1, none⟩ = some es.enc := t.tb.cell rfl
theorem TH.c2 (t : TH h n rs es T) : cellH h ⟨n, 2, none⟩ = some (.int .i64 (T.moved : Int)) := t.tb.cell rfl
theorem TH.c3 (t : TH h n rs es T) : cellH h ⟨n, 3, none⟩ = some (.int .i64 (T.count : Int)) := t.tb.cell rfl
theorem TH.nr (t : TH h n rs es T) : ∀ b, rs.blk = some b → b ≠ n := fun b hb => (t.row.typ hb).ne ⟨_, t.tb⟩ (by decide)
theorem TH.nel (t : TH h n rs es T) : ∀ b, es.blk = some b → b ≠ n := fun b hb => (t.el.typ hb).ne ⟨_, t.tb⟩ (by decide)
theorem TH.rlen (t : TH h n rs es T) : rs.len = T.row.length := own_len cP_len (by omega) t.row
theorem TH.elen (t : TH h n rs es T) : es.len = T.elder.length := own_len cP_len (by omega) t.el
theorem TH.lt (t : TH h n rs es T) : ∀ b, FT n rs es b → b < h.size := fun b hb => by
  rcases hb with rfl | hb | hb
  · exact block_lt t.tb
  · exact t.row.blk_lt hb
  · exact t.el.blk_lt hb
theorem TH.only (t : TH h n rs es T) {S : Nat → Prop} (o : Only S h h') (hn : ∀ b, FT n rs es b → ¬ S b) : TH h' n rs es T :=
  ⟨o.block t.tb (hn n (.inl rfl)), t.row.only o fun b hb => hn b (.inr (.inl hb)), t.el.only o fun b hb => hn b (.inr (.inr hb)), t.ne, t.kr, t.ke, t.pos, t.br, t.be, t.bc, t.bm⟩
theorem TH.ext (t : TH h n rs es T) (e : Ext h h') : TH h' n rs es T := t.only e fun _ _ f => f
/-- A place of the row is written. -/
theorem TH.set_row (t : TH h n rs es T) {i b : Nat} {p : Pl (Option Addr)} {K : H → Prop} (hp : rs.ptr = some ⟨b, 0, none⟩) (hi : i < T.row.length) (hk : SmallK p.key)
    (k : ∀ h', TH h' n rs es { T with row := T.row.set i p } → Stp h n rs es h' rs es → K h') : stH h ⟨b, i * 3, none⟩ (cP p) K :=
  own_setAt cP_len t.row hp hi fun h1 o1 e1 _ => k h1 ⟨e1.block t.tb fun hb => t.nr _ hb rfl, o1, t.el.only e1 fun b' hb hb' => t.ne b' hb' hb, t.ne, t.kr.set hk, t.ke, by
    have := t.pos; intro hnil; exact this (by simpa using hnil), by simpa using t.br, t.be, t.bc, t.bm⟩ ⟨e1.mono fun b' _ hb => .inr (.inl hb), fun b' hb => .inl hb⟩
theorem TH.set_el (t : TH h n rs es T) {i b : Nat} {p : Pl (Option Addr)} {K : H → Prop} (hp : es.ptr = some ⟨b, 0, none⟩) (hi : i < T.elder.length) (hk : SmallK p.key)
    (k : ∀ h', TH h' n rs es { T with elder := T.elder.set i p } → Stp h n rs es h' rs es → K h') : stH h ⟨b, i * 3, none⟩ (cP p) K :=
  own_setAt cP_len t.el hp hi fun h1 o1 e1 _ => k h1 ⟨e1.block t.tb fun hb => t.nel _ hb rfl, t.row.only e1 fun b' hb hb' => t.ne b' hb hb', o1, t.ne, t.kr, t.ke.set hk, t.pos, t.br, by simpa using t.be, t.bc, by simpa using t.bm⟩ ⟨e1.mono fun b' _ hb => .inr (.inr hb), fun b' hb => .inl hb⟩
theorem TH.row_at (t : TH h n rs es T) {i : Nat} {p : Pl (Option Addr)} (hp : T.row[i]? = some p) : ∃ b, rs.ptr = some ⟨b, 0, none⟩ ∧ Cells h ⟨b, i * 3, none⟩ (cP p) := own_at cP_len (by omega) t.row hp
theorem TH.el_at (t : TH h n rs es T) {i : Nat} {p : Pl (Option Addr)} (hp : T.elder[i]? = some p) : ∃ b, es.ptr = some ⟨b, 0, none⟩ ∧ Cells h ⟨b, i * 3, none⟩ (cP p) := own_at cP_len (by omega) t.el hp
/-- A cell of the table's own block is written. -/
theorem TH.stn (t : TH h n rs es T) {j : Nat} {v : Value} {K : H → Prop} (hj : j < 4)
    (k : ∀ h', Blk h' n ((#[rs.enc, es.enc, .int .i64 (T.moved : Int), .int .i64 (T.count : Int)] : Array Value).setIfInBounds j v) tn_table_Table_chain_Chain_api_Agg → Only (· = n) h h' → Owns h' rs tn_table_place_chain_Chain_api_Agg 3 (T.row.flatMap cP) → Owns h' es tn_table_place_chain_Chain_api_Agg 3 (T.elder.flatMap cP) → K h') : stH h ⟨n, j, none⟩ [v] K :=
  stH_of t.tb (by show j + 1 ≤ 4; omega) fun h1 b1 e1 _ => k h1 b1 e1 (t.row.only e1 fun b hb hn => t.nr b hb hn) (t.el.only e1 fun b hb hn => t.nel b hb hn)
theorem TH.st_moved (t : TH h n rs es T) {m : Nat} {x : Int} {K : H → Prop} (hx : x = (m : Int)) (hm : m ≤ T.elder.length) (k : ∀ h', TH h' n rs es { T with moved := m } → Stp h n rs es h' rs es → K h') : stH h ⟨n, 2, none⟩ [.int .i64 x] K := by
  subst hx
  exact t.stn (by omega) fun h1 b1 e1 o1 o2 => k h1 ⟨b1, o1, o2, t.ne, t.kr, t.ke, t.pos, t.br, t.be, t.bc, hm⟩ ⟨e1.mono fun b _ hb => .inl hb, fun b hb => .inl hb⟩
theorem TH.st_count (t : TH h n rs es T) {m : Nat} {x : Int} {K : H → Prop} (hx : x = (m : Int)) (hm : m ≤ BIG) (k : ∀ h', TH h' n rs es { T with count := m } → Stp h n rs es h' rs es → K h') : stH h ⟨n, 3, none⟩ [.int .i64 x] K := by
  subst hx
  exact t.stn (by omega) fun h1 b1 e1 o1 o2 => k h1 ⟨b1, o1, o2, t.ne, t.kr, t.ke, t.pos, t.br, t.be, hm, t.bm⟩ ⟨e1.mono fun b _ hb => .inl hb, fun b hb => .inl hb⟩
theorem Left_spec (t : TH h n rs es T) {Q : Int → H → Prop} (k : Q ((leftT T : Nat) : Int) h) : F.table_Table_chain_Chain_api_Agg_Left (some ⟨n, 0, none⟩) h Q := by
  unfold F.table_Table_chain_Chain_api_Agg_Left
  simp only [nn_some, add_lit, Nat.zero_add]
  rw [ldL_iff t.c1, ldI_iff t.c2, t.elen]
  have := t.bm
  have := t.be
  simp only [BIG] at this
  rw [w64 (by omega) (by omega)]
  rw [show ((leftT T : Nat) : Int) = (T.elder.length : Int) - (T.moved : Int) from by unfold leftT; omega] at k
  exact k
end
theorem Move_loop {n : Nat} {Q : Int → H → Prop} : ∀ (m : Nat) (h : H) (rs es : Sl) (T T1 : Tb (Option Addr)) (x1 : Int), TH h n rs es T → moveN nilA x1.toNat T = some T1 → x1 < 9223372036854775808 → x1.toNat < m →
    (∀ h' es', TH h' n rs es' (finT T1) → Stp h n rs es h' rs es' → Q ((leftT (finT T1) : Nat) : Int) h') → F.table_Table_chain_Chain_api_Agg_Move.l1 Q m (some ⟨n, 0, none⟩) x1 h
  | 0, h, rs, es, T, T1, x1, t, hm, hx, hf, k => by omega
  | m + 1, h, rs, es, T, T1, x1, t, hm, hx, hf, k => by
    unfold F.table_Table_chain_Chain_api_Agg_Move.l1
    simp only [nn_some, add_lit, Nat.zero_add]
    rw [ldI_iff t.c2, ldL_iff t.c1, t.elen]
    have hbe := t.be
    simp only [BIG] at hbe
    have stop : ∀ C1, T1 = T → F.table_Table_chain_Chain_api_Agg_Move.j5 Q C1 (some ⟨n, 0, none⟩) x1 false h := fun C1 e => by
      subst e
      unfold F.table_Table_chain_Chain_api_Agg_Move.j5
      refine ⟨(fun h => by cases h), fun _ => ?_⟩
      simp only [nn_some, add_lit, Nat.zero_add]
      rw [ldI_iff t.c2, ldL_iff t.c1, t.elen]
      simp only [beq_iff_eq, beq_eq_false_iff_ne]
      unfold F.table_Table_chain_Chain_api_Agg_Move.j6
      refine ⟨fun g => ?_, fun g => ?_⟩
      · refine t.stn (by omega) fun h1 b1 e1 o1 o2 => ?_
        have hfin : finT T1 = ⟨T1.row, [], 0, T1.count⟩ := by unfold finT; rw [if_pos (by omega)]
        refine stH_of b1 (by simp) fun h2 b2 e2 _ => ?_
        have t2 : TH h2 n rs ⟨none, 0, 0⟩ (finT T1) := by
          rw [hfin]
          exact ⟨b2, o1.only e2 fun b hb hn => t.nr b hb hn, Owns.nil _ _ _, fun b hb => by simp [Sl.blk], t.kr, fun i p hi => by simp at hi, t.pos, t.br, by simp, t.bc, by simp⟩
        have s2 : Stp h n rs es h2 rs ⟨none, 0, 0⟩ := ⟨(e1.mono fun b _ hb => .inl hb).trans (e2.mono fun b _ hb => .inl hb) fun _ _ hb => hb, fun b hb => by
          rcases hb with hb | hb | hb
          · exact .inl (.inl hb)
          · exact .inl (.inr (.inl hb))
          · simp [Sl.blk] at hb⟩
        exact Left_spec t2 (k h2 _ t2 s2)
      · have hfin : finT T1 = T1 := by unfold finT; rw [if_neg (by omega)]
        have t2 : TH h n rs es (finT T1) := by rw [hfin]; exact t
        exact Left_spec t2 (k h _ t2 (.refl _ _ _ _))
    by_cases hx0 : x1 > 0
    · refine ⟨fun _ => ?_, fun g => by simp at g; omega⟩
      obtain ⟨c, hc⟩ : ∃ c, x1.toNat = c + 1 := ⟨x1.toNat - 1, by omega⟩
      rw [hc] at hm
      unfold moveN at hm
      by_cases hlt : T.moved < T.elder.length
      · rw [if_pos hlt] at hm
        rw [show decide ((T.moved : Int) < (T.elder.length : Int)) = true from by simpa using hlt]
        unfold F.table_Table_chain_Chain_api_Agg_Move.j5
        refine ⟨fun _ => ?_, fun h => by cases h⟩
        unfold F.table_Table_chain_Chain_api_Agg_Move.j2
        simp only [nn_some, add_lit, Nat.zero_add]
        obtain ⟨p, hp⟩ : ∃ p, T.elder[T.moved]? = some p := ⟨_, List.getElem?_eq_getElem hlt⟩
        obtain ⟨be, q1, q2⟩ := t.el_at hp
        have step : ∀ (h1 : H) (T2 : Tb (Option Addr)), TH h1 n rs es T2 → Stp h n rs es h1 rs es → T2.moved = T.moved → T2.elder.length = T.elder.length → moveN nilA c { T2 with moved := T2.moved + 1 } = some T1 → F.table_Table_chain_Chain_api_Agg_Move.j4 Q (F.table_Table_chain_Chain_api_Agg_Move.l1 Q m) (some ⟨n, 0, none⟩) x1 h1 := fun h1 T2 t2 s2 em el hm2 => by
          unfold F.table_Table_chain_Chain_api_Agg_Move.j4
          simp only [nn_some, add_lit, Nat.zero_add]
          rw [ldI_iff t2.c2]
          refine t2.st_moved (m := T2.moved + 1) (by rw [w64 (by omega) (by omega)]; omega) (by omega) fun h2 t3 s3 => ?_
          unfold F.table_Table_chain_Chain_api_Agg_Move.j3
          rw [w64 (by omega) (by omega)]
          refine Move_loop m h2 rs es _ T1 (x1 - 1) t3 ?_ (by omega) (by omega) fun h' es' t4 s4 => k h' es' t4 ((s2.trans s3).trans s4)
          rw [show (x1 - 1).toNat = c from by omega]
          exact hm2
        rw [ldL_iff t.c1, ldI_iff t.c2]
        refine idxA_of q1 (by rw [t.elen]; exact hlt) rfl ?_
        have c0 := q2 0 _ rfl
        have c1 := q2 1 _ rfl
        rw [ldI_iff c0]
        unfold move1 at hm
        rw [hp] at hm
        simp only at hm
        simp only [beq_iff_eq, beq_eq_false_iff_ne]
        by_cases h1 : p.is_ = 1
        · rw [if_pos h1] at hm
          refine ⟨fun _ => ?_, fun g => absurd (by omega) g⟩
          cases hfr : findM T.row p.key with
          | none => rw [hfr] at hm; cases hm
          | some r =>
            rw [hfr] at hm
            simp only at hm
            rw [ldL_iff t.c0, ldS_iff c1]
            refine find_spec t.row.reads t.br (t.ke _ p hp) hfr fun h1 e1 => ?_
            have t1 := t.ext e1
            rw [ldL_iff t1.c0]
            have q3 : Cells h1 ⟨be, T.moved * 3, none⟩ (cP p) := q2.ext e1
            refine ⟨⟨(p.is_ : Int), p.key, p.value⟩, q3, ?_⟩
            have hr := find_lt t.pos hfr
            obtain ⟨br, u1, _⟩ := t1.row_at (List.getElem?_eq_getElem hr)
            refine idxA_of u1 (by rw [t.rlen]; exact hr) rfl ?_
            refine t1.set_row u1 hr (t.ke _ p hp) fun h2 t2 s2 => ?_
            refine t2.set_el (p := goneP nilA) (i := T.moved) q1 hlt (by show (0 : Nat) ≤ _; decide) fun h3 t3 s3 => ?_
            exact step h3 _ t3 ((Stp.of_ext e1).trans (s2.trans s3)) rfl (by simp) hm
        · rw [if_neg h1] at hm
          refine ⟨fun g => absurd (by omega) h1, fun _ => ?_⟩
          exact step h T t (.refl _ _ _ _) rfl rfl hm
      · rw [if_neg hlt] at hm
        rw [show decide ((T.moved : Int) < (T.elder.length : Int)) = false from by simpa using hlt]
        exact stop _ (Option.some.inj hm).symm
    · refine ⟨fun g => by simp at g; omega, fun _ => stop _ ?_⟩
      rw [show x1.toNat = 0 from by omega] at hm
      exact (Option.some.inj hm).symm
theorem Move_spec {h : H} {n : Nat} {rs es : Sl} {T T' : Tb (Option Addr)} {x : Int} {Q : Int → H → Prop} (t : TH h n rs es T) (hm : moveM nilA T x = some T') (hx : x < 9223372036854775808)
    (k : ∀ h' es', TH h' n rs es' T' → Stp h n rs es h' rs es' → Q ((leftT T' : Nat) : Int) h') : F.table_Table_chain_Chain_api_Agg_Move (some ⟨n, 0, none⟩) x h Q := by
  unfold moveM at hm
  cases h1 : moveN nilA x.toNat T with
  | none => rw [h1] at hm; cases hm
  | some T1 =>
    rw [h1] at hm
    cases hm
    exact ⟨x.toNat + 1, Move_loop _ h rs es T T1 x t h1 hx (by omega) k⟩
end Go.Proofs.YtoccbnhahaoeiaaGreat.V.P
namespace Go.Proofs.YtoccbnhahaoeiaaGreat.V.P
open Go Go.Proofs.YtoccbnhahaoeiaaGreat.V
set_option linter.unusedVariables false
set_option linter.unusedSimpArgs false
set_option maxRecDepth 20000
theorem elP : El PP tn_Sltable_place_chain_Chain_api_Agg tn_table_place_chain_Chain_api_Agg 3 32 (.agg #[.int .u8 0, .string ⟨#[]⟩, .pointer none]) := el_Sltable_place_chain_Chain_api_Agg
theorem made_rows (n : Nat) : (madeCells (Value.agg #[.int .u8 0, .string ⟨#[]⟩, .pointer none]).cells (n * 3)).toList = (List.replicate n (emptP nilA)).flatMap cP := by
  have := made3 (.int .u8 0) (.string ⟨#[]⟩) (.pointer none) n
  rw [List.flatMap, List.map_replicate]
  exact this
theorem KB.repl (n : Nat) : KB (List.replicate n (emptP nilA)) := fun i p hp => by
  obtain ⟨rfl, _⟩ := repl_get hp
  show (0 : Nat) ≤ _; omega
theorem New_spec {h : H} {Q : Option Addr → H → Prop} (k : ∀ h' n rs, TH h' n rs ⟨none, 0, 0⟩ (newT nilA) → Ext h h' → (∀ b, FT n rs ⟨none, 0, 0⟩ b → h.size ≤ b) → Q (some ⟨n, 0, none⟩) h') : F.table_New_chain_Chain_api_Agg h Q := by
  unfold F.table_New_chain_Chain_api_Agg
  refine make_of (n := 8) elP (by omega) (by simp [maxLen]) fun b h1 hb o1 e1 => ?_
  rw [made_rows] at o1
  refine new_of fun n h2 hn b2 e2 _ => ?_
  refine k h2 n _ ⟨b2, o1.ext e2, Owns.nil _ _ _, fun b hb => by simp [Sl.blk], KB.repl 8, KB.nil, by simp [newT], by simp [newT, BIG], by simp [newT], by simp [newT], by simp [newT]⟩ (e1.trans e2) fun b' hb' => ?_
  rcases hb' with h1 | h1 | h1
  · have := e1.size; omega
  · simp [Sl.blk] at h1; omega
  · simp [Sl.blk] at h1
section
variable {h : H} {n : Nat} {rs es : Sl} {T : Tb (Option Addr)} {key : ByteArray}
/-- Where a key lies: its place's address. -/
theorem where_spec {Q : Option Addr → H → Prop} (t : TH h n rs es T) (ok : TOk T) (hk : SmallK key)
    (k1 : ∀ h' i b, Ext h h' → Hit T.row key i → rs.ptr = some ⟨b, 0, none⟩ → Q (some ⟨b, i * 3, none⟩) h')
    (k2 : ∀ h' i b, Ext h h' → Hit T.elder key i → (∀ j, ¬ Hit T.row key j) → es.ptr = some ⟨b, 0, none⟩ → Q (some ⟨b, i * 3, none⟩) h')
    (k3 : ∀ h', Ext h h' → (∀ j, ¬ Hit T.row key j) → (∀ j, ¬ Hit T.elder key j) → Q none h') : F.table_Table_chain_Chain_api_Agg_where (some ⟨n, 0, none⟩) key h Q := by
  unfold F.table_Table_chain_Chain_api_Agg_where
  simp only [nn_some, add_lit, Nat.zero_add]
  rw [ldL_iff t.c0]
  have w := where_ok ok key
  unfold whereM at w
  cases hf : findM T.row key with
  | none => rw [hf] at w; rcases w with ⟨i, w, _⟩ | ⟨i, w, _⟩ | ⟨w, _⟩ <;> cases w
  | some r =>
    rw [hf] at w
    obtain ⟨i, b⟩ := r
    refine find_spec t.row.reads t.br hk hf fun h1 e1 => ?_
    have t1 := t.ext e1
    rw [ldL_iff t1.c0, ldL_iff t1.c1]
    cases b with
    | true =>
      refine ⟨fun _ => ?_, fun h => by cases h⟩
      rcases w with ⟨j, w, wh⟩ | ⟨j, w, _⟩ | ⟨w, _⟩
      · simp at w; subst w
        obtain ⟨p, hp, _⟩ := id wh
        obtain ⟨b, u1, _⟩ := t1.row_at hp
        exact idxA_of u1 (by rw [t.rlen]; exact wh.lt) rfl (k1 h1 _ b e1 wh u1)
      · cases w
      · cases w
    | false =>
      refine ⟨fun h => (by cases h), fun _ => ?_⟩
      simp only at w
      cases hg : findM T.elder key with
      | none => rw [hg] at w; rcases w with ⟨i, w, _⟩ | ⟨i, w, _⟩ | ⟨w, _⟩ <;> cases w
      | some r =>
        rw [hg] at w
        obtain ⟨i, b⟩ := r
        refine find_spec t1.el.reads t.be hk hg fun h2 e2 => ?_
        have t2 := t1.ext e2
        rw [ldL_iff t2.c1]
        cases b with
        | true =>
          refine ⟨fun _ => ?_, fun h => by cases h⟩
          rcases w with ⟨j, w, _⟩ | ⟨j, w, wh, wn⟩ | ⟨w, _⟩
          · simp at w
          · simp at w; subst w
            obtain ⟨p, hp, _⟩ := id wh
            obtain ⟨b, u1, _⟩ := t2.el_at hp
            exact idxA_of u1 (by rw [t.elen]; exact wh.lt) rfl (k2 h2 _ b (e1.trans e2) wh wn u1)
          · cases w
        | false =>
          refine ⟨fun h => (by cases h), fun _ => ?_⟩
          rcases w with ⟨j, w, _⟩ | ⟨j, w, _⟩ | ⟨w, w1, w2⟩
          · simp at w
          · simp at w
          · exact k3 h2 (e1.trans e2) w1 w2
theorem Get_spec {Q : Option Addr → Bool → H → Prop} (t : TH h n rs es T) (ok : TOk T) (hk : SmallK key) (k : ∀ h', Ext h h' → Q ((getM T key).getD nilA) (getM T key).isSome h') : F.table_Table_chain_Chain_api_Agg_Get (some ⟨n, 0, none⟩) key h Q := by
  unfold F.table_Table_chain_Chain_api_Agg_Get
  refine where_spec t ok hk (fun h1 i b e1 hh hb => ?_) (fun h1 i b e1 hh hn hb => ?_) (fun h1 e1 hn hne => ?_)
  · obtain ⟨p, g1, g2, g3⟩ := hh
    obtain ⟨b', u1, u2⟩ := (t.ext e1).row_at g1
    rw [hb] at u1; cases u1
    refine ⟨fun _ => ?_, fun h => by cases h⟩
    rw [nn_some, ldP_iff (u2 2 _ rfl)]
    have := k h1 e1
    rw [get_row ok g1 g2 g3] at this
    exact this
  · obtain ⟨p, g1, g2, g3⟩ := hh
    obtain ⟨b', u1, u2⟩ := (t.ext e1).el_at g1
    rw [hb] at u1; cases u1
    refine ⟨fun _ => ?_, fun h => by cases h⟩
    rw [nn_some, ldP_iff (u2 2 _ rfl)]
    have := k h1 e1
    rw [get_elder ok hn g1 g2 g3] at this
    exact this
  · refine ⟨fun h => (by cases h), fun _ => ?_⟩
    have := k h1 e1
    rw [get_none hn hne] at this
    exact this
/-- A place's value is written. -/
theorem st_val {f : List (Pl (Option Addr))} {s : Sl} {i b : Nat} {p : Pl (Option Addr)} {v : Option Addr} {K : H → Prop} (ow : Owns h s tn_table_place_chain_Chain_api_Agg 3 (f.flatMap cP)) (hp : s.ptr = some ⟨b, 0, none⟩) (hi : f[i]? = some p)
    (k : ∀ h', Owns h' s tn_table_place_chain_Chain_api_Agg 3 ((newP f i v).flatMap cP) → Only (fun b => s.blk = some b) h h' → K h') : stH h ⟨b, i * 3 + 2, none⟩ [.pointer v] K := by
  have hl := (List.getElem?_eq_some_iff.1 hi).1
  refine own_set ow hp (by rw [flat_len cP 3 cP_len]; simp; omega) fun h1 o1 e1 _ => k h1 ?_ e1
  have ha := flat_get cP 3 cP_len f i p hi 0 (by omega)
  have hb := flat_get cP 3 cP_len f i p hi 1 (by omega)
  rw [set3 (v := .pointer v) ha hb] at o1
  rw [newP_eq hi, flat_set cP 3 cP_len f i ⟨p.is_, p.key, v⟩ hl]
  exact o1
theorem newP_len {f : List (Pl (Option Addr))} {i : Nat} {v : Option Addr} : (newP f i v).length = f.length := by unfold newP; split <;> simp
theorem newP_kb {f : List (Pl (Option Addr))} {i : Nat} {v : Option Addr} (k : KB f) : KB (newP f i v) := by
  unfold newP
  split
  · exact k
  · rename_i p hp; exact k.set (k i p hp)
theorem lay_spec {v : Option Addr} {T' : Tb (Option Addr)} {Q : H → Prop} (t : TH h n rs es T) (hk : SmallK key) (hl : layP T key v = some T') (hc : T'.count ≤ BIG) (k : ∀ h', TH h' n rs es T' → Stp h n rs es h' rs es → Q h') : F.table_Table_chain_Chain_api_Agg_Put.j1 Q (some ⟨n, 0, none⟩) key v h := by
  unfold F.table_Table_chain_Chain_api_Agg_Put.j1
  unfold layP at hl
  simp only [nn_some, add_lit, Nat.zero_add]
  rw [ldL_iff t.c0]
  cases hf : findM T.row key with
  | none => rw [hf] at hl; cases hl
  | some r =>
    rw [hf] at hl
    cases hl
    refine find_spec t.row.reads t.br hk hf fun h1 e1 => ?_
    have t1 := t.ext e1
    rw [ldL_iff t1.c0]
    have hr := find_lt t.pos hf
    obtain ⟨br, u1, _⟩ := t1.row_at (List.getElem?_eq_getElem hr)
    refine idxA_of u1 (by rw [t.rlen]; exact hr) rfl ?_
    refine t1.set_row (p := ⟨1, key, v⟩) u1 hr hk fun h2 t2 s2 => ?_
    rw [ldI_iff t2.c3]
    have hb : T.count + 1 ≤ BIG := hc
    simp only [BIG] at hb
    refine t2.st_count (m := T.count + 1) (by show IntKind.wrap .i64 ((T.count : Int) + 1) = _; rw [w64 (by omega) (by omega)]; omega) hc fun h3 t3 s3 => ?_
    exact k h3 t3 (((Stp.of_ext e1).trans s2).trans s3)
theorem Put_spec {v : Option Addr} {T' : Tb (Option Addr)} {Q : H → Prop} (t : TH h n rs es T) (ok : TOk T) (hk : SmallK key) (hp : putM nilA T key v = some T') (hb : T'.row.length ≤ BIG) (hc : T'.count ≤ BIG)
    (k : ∀ h' rs' es', TH h' n rs' es' T' → Stp h n rs es h' rs' es' → Q h') : F.table_Table_chain_Chain_api_Agg_Put (some ⟨n, 0, none⟩) key v h Q := by
  unfold F.table_Table_chain_Chain_api_Agg_Put
  obtain ⟨T1, m1, ok1, m3, m4, m5, m6, m7⟩ := move_ok (z := nilA) ok 4
  unfold putM at hp
  rw [m1] at hp
  simp only at hp
  unfold putM' at hp
  have w := where_ok ok1 key
  refine Move_spec t m1 (by omega) fun h1 es1 t1 s1 => ?_
  refine where_spec t1 ok1 hk (fun h2 i b e2 hh hb2 => ?_) (fun h2 i b e2 hh hn hb2 => ?_) (fun h2 e2 hn hne => ?_)
  · refine ⟨fun _ => ?_, fun h => by cases h⟩
    rw [nn_some]
    have hw : whereM T1 key = some (some (false, i)) := by
      unfold whereM; rw [ok1.row.hit hh]
    rw [hw] at hp
    simp only at hp
    cases hp
    obtain ⟨p, g1, g2, g3⟩ := hh
    have t2 := t1.ext e2
    refine st_val t2.row hb2 g1 fun h3 o3 e3 => ?_
    exact k h3 _ _ ⟨e3.block t2.tb fun hb => t2.nr _ hb rfl, o3, t2.el.only e3 fun b' hb hb' => t2.ne b' hb' hb, t2.ne, newP_kb t2.kr, t2.ke, by
      intro hnil
      have := congrArg List.length hnil
      rw [newP_len] at this
      exact t2.pos (List.eq_nil_of_length_eq_zero this), by rw [newP_len]; exact t2.br, t2.be, t2.bc, t2.bm⟩ ((s1.ext e2).trans ⟨e3.mono fun b' _ hb => .inr (.inl hb), fun b' hb => .inl hb⟩)
  · refine ⟨fun _ => ?_, fun h => by cases h⟩
    rw [nn_some]
    have hw : whereM T1 key = some (some (true, i)) := by
      rcases w with ⟨j, w, wh⟩ | ⟨j, w, wh, _⟩ | ⟨w, _, wn⟩
      · exact absurd wh (hn j)
      · obtain ⟨p, a1, a2, a3⟩ := hh
        obtain ⟨q, b1, b2, b3⟩ := wh
        rw [w, ok1.elder.uniq i j p q a1 b1 a2 b2 (a3.trans b3.symm)]
      · exact absurd hh (wn i)
    rw [hw] at hp
    simp only at hp
    cases hp
    obtain ⟨p, g1, g2, g3⟩ := hh
    have t2 := t1.ext e2
    refine st_val t2.el hb2 g1 fun h3 o3 e3 => ?_
    exact k h3 _ _ ⟨e3.block t2.tb fun hb => t2.nel _ hb rfl, t2.row.only e3 fun b' hb hb' => t2.ne b' hb hb', o3, t2.ne, t2.kr, newP_kb t2.ke, t2.pos, t2.br, by rw [newP_len]; exact t2.be, t2.bc, by rw [newP_len]; exact t2.bm⟩ ((s1.ext e2).trans ⟨e3.mono fun b' _ hb => .inr (.inr hb), fun b' hb => .inl hb⟩)
  · refine ⟨fun h => (by cases h), fun _ => ?_⟩
    have hw : whereM T1 key = some none := by
      rcases w with ⟨j, w, wh⟩ | ⟨j, w, wh, _⟩ | ⟨w, _, _⟩
      · exact absurd wh (hn j)
      · exact absurd wh (hne j)
      · exact w
    rw [hw] at hp
    simp only at hp
    have t2 := t1.ext e2
    have s2 := s1.ext e2
    simp only [nn_some, add_lit, Nat.zero_add]
    rw [ldI_iff t2.c3, ldL_iff t2.c0, t2.rlen]
    have hbc := t1.bc
    have hbr := t1.br
    simp only [BIG] at hbc hbr
    rw [w64 (n := (T1.count : Int) + 1) (by omega) (by omega), w64 (by omega) (by omega), w64 (by omega) (by omega)]
    simp only [decide_eq_true_eq, decide_eq_false_iff_not]
    by_cases hgr : 4 * (T1.count + 1) > 3 * T1.row.length
    · rw [if_pos hgr] at hp
      refine ⟨fun _ => ?_, fun g => absurd (by omega) g⟩
      rw [ldL_iff t2.c1, t2.elen]
      obtain ⟨T2, n1, ok2, n3, n4, n5, n6, n7⟩ := move_ok (z := nilA) ok1 (T1.elder.length : Int)
      rw [n1] at hp
      simp only at hp
      have hbe := t1.be
      simp only [BIG] at hbe
      refine Move_spec t2 n1 (by omega) fun h3 es3 t3 s3 => ?_
      rw [ldL_iff t3.c0, t3.rlen]
      have hlen2 : T'.row.length = 2 * T2.row.length := by
        unfold layP at hp
        cases hf : findM (growT nilA T2).row key with
        | none => rw [hf] at hp; cases hp
        | some r => rw [hf] at hp; cases hp; simp [growT]
      have hb2 : 2 * T2.row.length ≤ BIG := by omega
      simp only [BIG] at hb2
      rw [w64 (by omega) (by omega), show 2 * (T2.row.length : Int) = ((2 * T2.row.length : Nat) : Int) from by omega, ldL_iff t3.c0]
      refine make_of (n := 2 * T2.row.length) elP (by omega) (by simp only [maxLen]; omega) fun b h4 hb4 o4 e4 => ?_
      rw [made_rows] at o4
      have t4 := t3.ext e4
      refine ⟨t4.c0, ?_⟩
      have hr3 := fun b' hb => t3.lt b' (.inr (.inl hb))
      refine t4.stn (by omega) fun h5 b5 e5 p5 q5 => ?_
      have o5 : Owns h5 ⟨some ⟨b, 0, none⟩, 2 * T2.row.length, 2 * T2.row.length⟩ tn_table_place_chain_Chain_api_Agg 3 ((List.replicate (2 * T2.row.length) (emptP nilA)).flatMap cP) := o4.only e5 fun b' hb' hn' => by
        simp [Sl.blk] at hb'
        have := t3.lt n (.inl rfl)
        omega
      refine stH_of b5 (by simp) fun h6 b6 e6 _ => ?_
      have o6 := o5.only e6 fun b' hb' hn' => by
        simp [Sl.blk] at hb'
        have := t3.lt n (.inl rfl)
        omega
      have p6 := p5.only e6 fun b' hb' hn' => t4.nr b' hb' hn'
      refine stH_of b6 (by rw [writeA_size]; simp) fun h7 b7 e7 _ => ?_
      have o7 := o6.only e7 fun b' hb' hn' => by
        simp [Sl.blk] at hb'
        have := t3.lt n (.inl rfl)
        omega
      have p7 := p6.only e7 fun b' hb' hn' => t4.nr b' hb' hn'
      have t7 : TH h7 n ⟨some ⟨b, 0, none⟩, 2 * T2.row.length, 2 * T2.row.length⟩ rs (growT nilA T2) :=
        ⟨b7, o7, p7, fun b' hb' hb2 => by
          have := hr3 b' hb2
          simp [Sl.blk] at hb'
          omega, KB.repl _, t3.kr, by
          have := t3.pos
          intro hnil
          have h0 := congrArg List.length hnil
          have hl0 : T2.row.length ≠ 0 := fun e => this (List.eq_nil_of_length_eq_zero e)
          simp only [growT, List.length_replicate, List.length_nil] at h0
          omega, by simp [growT]; omega, t3.br, t3.bc, by simp [growT]⟩
      have s7 : Stp h3 n rs es3 h7 ⟨some ⟨b, 0, none⟩, 2 * T2.row.length, 2 * T2.row.length⟩ rs :=
        ⟨(((e4.only (S := FT n rs es3)).trans (e5.mono fun b' _ hb => .inl hb) fun _ _ hb => hb).trans (e6.mono fun b' _ hb => .inl hb) fun _ _ hb => hb).trans (e7.mono fun b' _ hb => .inl hb) fun _ _ hb => hb, fun b' hb' => by
          rcases hb' with h1 | h1 | h1
          · exact .inl (.inl h1)
          · simp [Sl.blk] at h1; exact .inr (by omega)
          · exact .inl (.inr (.inl h1))⟩
      exact lay_spec t7 hk hp hc fun h8 t8 s8 => k h8 _ _ t8 (((s2.trans s3).trans s7).trans s8)
    · rw [if_neg hgr] at hp
      refine ⟨fun g => absurd g (by omega), fun _ => ?_⟩
      exact lay_spec t2 hk hp hc fun h3 t3 s3 => k h3 _ _ t3 (s2.trans s3)
end
end Go.Proofs.YtoccbnhahaoeiaaGreat.V.P
namespace Go.Proofs.YtoccbnhahaoeiaaGreat.V.P
open Go Go.Proofs.YtoccbnhahaoeiaaGreat.V
set_option linter.unusedVariables false
set_option linter.unusedSimpArgs false
set_option maxRecDepth 20000
theorem keys_int_loop {h : H} {o b : Nat} {M : List (ByteArray × Value)} {R : LoopState → Option Code → Obj} {Q : Sl → H → Prop} (ho : h.size ≤ o) (hb : b < o) (hM : M.length < 1073741824) (hv : ∀ p ∈ M, ∃ v : Option Addr, p.2 = .pointer v)
    (k : ∀ (r : Sl) (h' : H) (D : List (ByteArray × Value)), D.Perm M → Owns h' r 9 1 ((D.map (·.1)).flatMap cT) → Ext h h' → (∀ n, r.blk = some n → h.size ≤ n) → Q r h')
    (hy : yields PP R (o + 2) [] (fun bg1 l1 args h K1 J1 => ∃ (y1_7 : ByteArray), args = [(.string y1_7)] ∧
      bg1 h fun h3 => ldL h3 ⟨o, 0, none⟩ fun y4 => newL h3 #[(.string y1_7)] ty_9 1 fun s7 h6 => runL PP (Builtin.append_ #[tn_Slstring, tn_Slstring] tn_Slstring #[y4.enc, s7.enc]) h6 fun s9 h8 => stH h8 ⟨o, 0, none⟩ [s9.enc] fun h10 => K1 h10)) :
    ∀ (m : Nat) (D : List (ByteArray × Value)) (h' : H), KG h o b M D h' → h'[o + 2]? = some (R .ready none) → D.length ≤ M.length → M.length - D.length < m →
      F.maps_Keys_map_string_chain_Chain_api_Agg_string_chain_Chain_api_Agg_1.l1 (rngEnd R (o + 2) [] (fun h11 => ldL h11 ⟨o, 0, none⟩ fun y12 => shuts ((o + 1) :: ([] : List Nat)) h11 fun h14 => Q y12 h14) (fun jj h15 => True)) m (.func (.yield (o + 2)) #[] #[]) ⟨o + 3, 0, none⟩ h'
  | 0, D, h', kg, hrd, hl, hm => by omega
  | m + 1, D, h', kg, hrd, hl, hm => by
    unfold F.maps_Keys_map_string_chain_Chain_api_Agg_string_chain_Chain_api_Agg_1.l1
    refine nextM_of kg.it (fun hp => ?_) (fun h5 p it5 hpM e5 sz5 hen => ?_)
    · refine ⟨false, #[], rfl, (fun h => by cases h), fun _ => .inl ⟨hrd, ?_⟩⟩
      have kg2 := kg.only ho hb (put_only h' (o + 2) (R .exhausted none))
      obtain ⟨s, s1, s2, s3⟩ := kg2.box
      refine (ldL_iff (s1.cell (i := 0) rfl)).2 ?_
      refine ⟨kg2.dfr, ?_⟩
      have e6 := put_only (put h' (o + 2) (R .exhausted none)) (o + 1) (.deferred none)
      exact k s _ D hp (s2.only e6 fun n hn hf => by have := s3 n hn; omega) (kg2.ext.step e6 fun n hn hf => by omega) fun n hn => by have := s3 n hn; omega
    · refine ⟨true, #[.string p.1, p.2], rfl, fun _ => ?_, fun h => by cases h⟩
      obtain ⟨v, hpv⟩ := hv p hpM
      refine hen _ ⟨p.1, v, by rw [hpv], ?_⟩
      have hrd5 : h5[o + 2]? = some (R .ready none) := e5.block hrd (by omega)
      refine hy h5 _ _ hrd5 ⟨p.1, rfl, hrd5, ?_⟩
      obtain ⟨s, s1, s2, s3⟩ := kg.box
      have ep := put_only h5 (o + 2) (R .busy none)
      have s1' : Blk (put h5 (o + 2) (R .busy none)) o #[s.enc] tn_Slstring := ep.block (e5.block s1 (by omega)) (by omega)
      have s2' := (s2.only e5 fun n hn hf => by have := s3 n hn; omega).only ep fun n hn hf => by have := s3 n hn; omega
      rw [ldL_iff (s1'.cell (i := 0) rfl)]
      refine newL_of fun n6 h6 hn6 b6 e6 _ => ?_
      have sz := kg.size
      have szp : (put h5 (o + 2) (R .busy none)).size = h'.size := by simp [put]; omega
      have hDl : (D.map (·.1)).length < 1073741824 := by simp; omega
      refine app_list (f := cT) (M := [p.1]) cT_len (by omega) el_Slstring (s2'.ext e6) (blk_reads (size := 1) (m := 1) (show Blk h6 n6 (([p.1] : List ByteArray).flatMap cT).toArray 9 from b6) rfl) (fun x => one1 rfl) (by simp at hDl ⊢; omega) fun r7 h7 q1 q2 q3 => ?_
      have b7 : Blk h7 o #[s.enc] tn_Slstring := q2.block (e6.block s1' (fun f => f)) fun e => by have := s3 o e; omega
      have hr7 : ∀ n, r7.blk = some n → o + 4 ≤ n := fun n hn => by
        rcases q3 with q3 | ⟨b', q3, q4⟩
        · exact s3 n (by rw [← q3]; exact hn)
        · rw [q3] at hn; cases hn
          have := e6.size; omega
      refine stH_of b7 (by simp) fun h8 b8 e8 _ => ?_
      rw [writeA_all (by simp)] at b8
      have oall : Only (fun n => n = o ∨ n = o + 2 ∨ n = o + 3 ∨ s.blk = some n) h' h8 :=
        (((e5.mono fun n _ e => .inr (.inr (.inl e))).trans (ep.mono fun n _ e => .inr (.inl e)) fun _ _ e => e).trans ((e6.only (S := fun b => s.blk = some b)).trans q2 fun _ _ e => e |> fun x => x) fun n _ e => .inr (.inr (.inr e))).trans e8 fun n _ e => .inl e
      have oit : Only (fun n => n = o ∨ n = o + 2 ∨ s.blk = some n) h5 h8 :=
        ((ep.mono fun n _ e => .inr (.inl e)).trans ((e6.only (S := fun b => s.blk = some b)).trans q2 fun _ _ e => e |> fun x => x) fun n _ e => .inr (.inr e)).trans e8 fun n _ e => .inl e
      have hrd8 : h8[o + 2]? = some (R .busy none) := e8.block (q2.block (e6.block (putAt_ hrd5) (fun f => f)) fun e => by have := s3 _ e; omega) (by omega)
      have kg8 : KG h o b M (D ++ [p]) h8 := ⟨kg.ext.step oall fun n hn hf => by
          rcases hf with hf | hf | hf | hf
          · omega
          · omega
          · omega
          · have := s3 n hf; omega, ⟨r7, b8, by
          rw [List.map_append]
          exact q1.only e8 fun n hn hf => by have := hr7 n hn; omega, hr7⟩, oall.block kg.dfr (by
          intro hf
          rcases hf with hf | hf | hf | hf
          · omega
          · omega
          · omega
          · have := s3 _ hf; omega), it5.only oit (by
          intro hf
          rcases hf with hf | hf | hf
          · omega
          · omega
          · have := s3 _ hf; omega) (by
          intro hf
          rcases hf with hf | hf | hf
          · omega
          · omega
          · have := s3 _ hf; omega), by have := oall.size; omega⟩
      refine ⟨hrd8, true, rfl, (fun h => by cases h), fun _ => ?_⟩
      have hlen : (D ++ [p]).length ≤ M.length := by
        obtain ⟨_, es, clock, since, seen, c0, hb1, rp, hr1, _, _, _, E, w1, w2, w3, w4⟩ := it5
        have l1 : E.length = (D ++ [p]).length := by simpa using congrArg List.length w4
        have l2 := rp.len
        have hnd : E.Nodup := nodup_of w3
        have l3 : (E.map (·.born)).length ≤ (es.toList.map (·.born)).length := nodup_len w3 fun x hx => by
          obtain ⟨e, he, rfl⟩ := List.mem_map.1 hx
          exact List.mem_map.2 ⟨e, w1 e he, rfl⟩
        simp only [List.length_map, Array.length_toList] at l3
        omega
      refine keys_int_loop ho hb hM hv k hy m (D ++ [p]) _ (kg8.only ho hb (put_only h8 (o + 2) (R .ready none))) (putAt_ hrd8) hlen (by simp only [List.length_append, List.length_singleton] at hlen ⊢; omega)
set_option maxHeartbeats 400000 in
theorem keys_int_spec {h : H} {a b : Nat} {M : List (ByteArray × Value)} {Q : Sl → H → Prop} (ba : Blk h a #[.map (some b)] tn_map_string_chain_Chain_api_Agg) (mp : MapH h b M) (hM : M.length < 1073741824) (hv : ∀ p ∈ M, ∃ v : Option Addr, p.2 = .pointer v)
    (k : ∀ (r : Sl) (h' : H) (D : List (ByteArray × Value)), D.Perm M → Owns h' r 9 1 ((D.map (·.1)).flatMap cT) → Ext h h' → (∀ n, r.blk = some n → h.size ≤ n) → Q r h') : F.slices_AppendSeq_Slstring_string ⟨none, 0, 0⟩ (.func (.func no_maps_Keys_map_string_chain_Chain_api_Agg_string_chain_Chain_api_Agg_1) #[] #[.pointer (some ⟨a, 0, none⟩)]) h Q := by
  unfold F.slices_AppendSeq_Slstring_string
  refine new_of fun o h1 ho b1 e1 sz1 => ?_
  subst ho
  rw [show h1.size = h.size + 1 from sz1]
  intro R hR hy
  rw [sz1] at hy ⊢
  refine ⟨no_maps_Keys_map_string_chain_Chain_api_Agg_string_chain_Chain_api_Agg_1, #[], #[.pointer (some ⟨a, 0, none⟩)], rfl, fun args w => no_maps_Keys_map_string_chain_Chain_api_Agg_string_chain_Chain_api_Agg_1_call args w, ?_⟩
  have hblt := mp.lt
  have halt := block_lt ba
  have d1 : Ext h1 (h1.push (.deferred (some []))) := .push _ _
  have d2 : Ext (h1.push (.deferred (some []))) ((h1.push (.deferred (some []))).push (R .ready none)) := .push _ _
  have e3 : Ext h ((h1.push (.deferred (some []))).push (R .ready none)) := (e1.trans d1).trans d2
  have key : F.maps_Keys_map_string_chain_Chain_api_Agg_string_chain_Chain_api_Agg_1 (.func (.yield (h.size + 2)) #[] #[]) ⟨a, 0, none⟩ ((h1.push (.deferred (some []))).push (R .ready none)) (rngEnd R (h.size + 2) [] (fun h11 => ldL h11 ⟨h.size, 0, none⟩ fun y12 => shuts ((h.size + 1) :: ([] : List Nat)) h11 fun h14 => Q y12 h14) (fun jj h15 => True)) := by
    unfold F.maps_Keys_map_string_chain_Chain_api_Agg_string_chain_Chain_api_Agg_1
    rw [ldM_iff ((show Blk _ a #[.map (some b)] tn_map_string_chain_Chain_api_Agg from e3.block ba (fun f => f)).cell (i := 0) rfl)]
    refine rangeM_of (kt := 9) (et := _) mt_map_string_chain_Chain_api_Agg (mp.only e3 (fun f => f)) fun h4 it4 e4 sz4 => ?_
    have hsz : ((h1.push (.deferred (some []))).push (R .ready none)).size = h.size + 3 := by simp; omega
    rw [hsz] at it4 sz4 ⊢
    refine ⟨_, rfl, M.length + 1, ?_⟩
    refine keys_int_loop (Nat.le_refl _) hblt hM hv k hy (M.length + 1) [] h4 ⟨e3.trans e4, ⟨⟨none, 0, 0⟩, e4.block (d2.block (d1.block b1 (fun f => f)) (fun f => f)) (fun f => f), Owns.nil _ _ _, fun n hn => by simp [Sl.blk] at hn⟩, e4.block (d2.block (by rw [← sz1]; simp) (fun f => f)) (fun f => f), it4, by omega⟩ (e4.block (by
      have : h.size + 2 = (h1.push (.deferred (some []))).size := by simp; omega
      rw [this, Array.getElem?_push, if_pos rfl]) (fun f => f)) (by simp) (by simp)
  exact (F.maps_Keys_map_string_chain_Chain_api_Agg_string_chain_Chain_api_Agg_1_ok key).mono fun r h' ⟨_, q⟩ => q
/-- slices.Sorted of a map's keys. -/
theorem sorted_int_spec {h : H} {a b : Nat} {M : List (ByteArray × Value)} {Q : Sl → H → Prop} (ba : Blk h a #[.map (some b)] tn_map_string_chain_Chain_api_Agg) (mp : MapH h b M) (hM : M.length < 1073741824) (hv : ∀ p ∈ M, ∃ v : Option Addr, p.2 = .pointer v)
    (k : ∀ (r : Sl) (h' : H) (D : List (ByteArray × Value)), D.Perm M → Owns h' r 9 1 ((sortT (D.map (·.1))).flatMap cT) → Ext h h' → (∀ n, r.blk = some n → h.size ≤ n) → Q r h') : F.slices_Sorted_string (.func (.func no_maps_Keys_map_string_chain_Chain_api_Agg_string_chain_Chain_api_Agg_1) #[] #[.pointer (some ⟨a, 0, none⟩)]) h Q := by
  unfold F.slices_Sorted_string F.slices_Collect_string
  refine keys_int_spec ba mp hM hv fun r h1 D hp o1 e1 m1 => ?_
  refine sort_fn rfl o1 (by have := hp.length_eq; simp; omega) fun h2 o2 e2 => ⟨rfl, ?_⟩
  exact k r h2 D hp o2 (e1.step e2 fun n hn hf => by have := m1 n hf; omega) m1
end Go.Proofs.YtoccbnhahaoeiaaGreat.V.P
namespace Go.Proofs.YtoccbnhahaoeiaaGreat.V.P
open Go Go.Proofs.YtoccbnhahaoeiaaGreat.V
set_option linter.unusedVariables false
set_option linter.unusedSimpArgs false
set_option maxRecDepth 20000
def tkL (R : List (Pl (Option Addr))) : List (ByteArray × Value) := (R.filter fun p => decide (p.is_ = 1)).map fun p => (p.key, .pointer p.value)
theorem tkL_app (A B : List (Pl (Option Addr))) : tkL (A ++ B) = tkL A ++ tkL B := by simp [tkL]
theorem tkL_one {p : Pl (Option Addr)} (h : p.is_ = 1) : tkL [p] = [(p.key, .pointer p.value)] := by simp [tkL, h]
theorem tkL_no {p : Pl (Option Addr)} (h : p.is_ ≠ 1) : tkL [p] = [] := by simp [tkL, h]
def KU (W : List (Pl (Option Addr))) : Prop := ((tkL W).map (·.1)).Nodup
theorem KU_of {T : Tb (Option Addr)} (t : TOk T) : KU (T.row ++ T.elder) := by
  unfold KU tkL
  rw [List.map_map]
  unfold List.Nodup
  rw [List.pairwise_map, List.pairwise_filter, List.pairwise_append]
  have one : ∀ {R : List (Pl (Option Addr))}, RowOk R → R.Pairwise fun a b => decide (a.is_ = 1) = true → decide (b.is_ = 1) = true → ((fun x : ByteArray × Value => x.1) ∘ fun p : Pl (Option Addr) => (p.key, Value.pointer p.value)) a ≠ ((fun x : ByteArray × Value => x.1) ∘ fun p : Pl (Option Addr) => (p.key, Value.pointer p.value)) b := fun {R} r => by
    rw [List.pairwise_iff_getElem]
    intro i j hi hj hij h1 h2 he
    have := r.uniq i j R[i] R[j] (List.getElem?_eq_getElem hi) (List.getElem?_eq_getElem hj) (by simpa using h1) (by simpa using h2) (congrArg kL he)
    omega
  refine ⟨one t.row, one t.elder, fun a ha b hb h1 h2 he => ?_⟩
  obtain ⟨i, hi⟩ := List.mem_iff_getElem?.1 ha
  obtain ⟨j, hj⟩ := List.mem_iff_getElem?.1 hb
  exact t.apart i j a b hi hj (by simpa using h1) (by simpa using h2) (congrArg kL he)
noncomputable def allL (T : Tb (Option Addr)) : List (ByteArray × Option Addr) := (sortT ((tkL (T.row ++ T.elder)).map (·.1))).map fun k => (k, (getM T k).getD nilA)
theorem tk_val {T : Tb (Option Addr)} (t : TOk T) {k : ByteArray} {v : Value} (h : (k, v) ∈ tkL (T.row ++ T.elder)) : ∃ n, getM T k = some n ∧ v = .pointer n := by
  unfold tkL at h
  obtain ⟨p, hp, he⟩ := List.mem_map.1 h
  cases he
  rw [List.mem_filter] at hp
  obtain ⟨hp, h1⟩ := hp
  have h1 : p.is_ = 1 := by simpa using h1
  refine ⟨p.value, ?_, rfl⟩
  rcases List.mem_append.1 hp with hp | hp
  · obtain ⟨i, hi⟩ := List.mem_iff_getElem?.1 hp
    exact get_row t hi h1 rfl
  · obtain ⟨i, hi⟩ := List.mem_iff_getElem?.1 hp
    exact get_elder t (fun j ⟨q, g1, g2, g3⟩ => t.apart j i q p g1 hi g2 h1 g3) hi h1 rfl
theorem tk_len {T : Tb (Option Addr)} (t : TOk T) : (tkL (T.row ++ T.elder)).length = T.count := by
  unfold tkL
  rw [List.length_map, ← List.countP_eq_length_filter, List.countP_append, ← t.cnt]
  rfl
/-- A sequence: its keys' cell, its map's cell. -/
structure SeqH (h : H) (ka ma b : Nat) (r : Sl) (L : List (ByteArray × Option Addr)) : Prop where
  kb : Blk h ka #[r.enc] tn_Slstring
  ko : Owns h r 9 1 ((L.map (·.1)).flatMap cT)
  mb : Blk h ma #[.map (some b)] tn_map_string_chain_Chain_api_Agg
  mp : ∃ M, MapH h b M ∧ ∀ p ∈ L, getK M p.1 = some (.pointer p.2)
  len : L.length < 1073741824
theorem SeqH.only {S : Nat → Prop} {h h' : H} {ka ma b : Nat} {r : Sl} {L : List (ByteArray × Option Addr)} (s : SeqH h ka ma b r L) (o : Only S h h') (hn : ∀ n, SQF ka ma b r n → ¬ S n) : SeqH h' ka ma b r L := by
  obtain ⟨M, m1, m2⟩ := s.mp
  exact ⟨o.block s.kb (hn _ (.inl rfl)), s.ko.only o fun n e => hn n (.inr (.inr (.inr e))), o.block s.mb (hn _ (.inr (.inl rfl))), ⟨M, m1.only o (hn _ (.inr (.inr (.inl rfl)))), m2⟩, s.len⟩
theorem SeqH.lt {h : H} {ka ma b : Nat} {r : Sl} {L : List (ByteArray × Option Addr)} (s : SeqH h ka ma b r L) : ∀ n, SQF ka ma b r n → n < h.size := fun n hn => by
  obtain ⟨M, m1, m2⟩ := s.mp
  rcases hn with rfl | rfl | rfl | hn
  · exact block_lt s.kb
  · exact block_lt s.mb
  · exact m1.lt
  · exact s.ko.blk_lt hn
theorem all_row {h hs : H} {Q : Value → H → Prop} {s22 s28 : Sl} {x23 x24 : Int} {C1 : Addr → Sl → Int → Int → H → Prop} {ma b : Nat} {pre R : List (Pl (Option Addr))} (hm0 : h.size ≤ ma) (hb0 : h.size ≤ b) (hmb : ma ≠ b) (hR : R.length ≤ BIG) (ku : KU (pre ++ R))
    (k : ∀ h', Ext h h' → Only (· = b) hs h' → Blk h' ma #[.map (some b)] tn_map_string_chain_Chain_api_Agg → MapH h' b (tkL (pre ++ R)) → C1 ⟨ma, 0, none⟩ s22 x23 (IntKind.wrap .i64 (x24 + 1)) h') (hrd : Reads h s28 3 (R.flatMap cP)) :
    ∀ (m i : Nat) (h' : H), Ext h h' → Only (· = b) hs h' → Blk h' ma #[.map (some b)] tn_map_string_chain_Chain_api_Agg → MapH h' b (tkL (pre ++ R.take i)) → i ≤ R.length → R.length - i < m → F.table_Table_chain_Chain_api_Agg_All.l2 Q C1 m ⟨ma, 0, none⟩ s22 x23 x24 s28 (s28.len : Int) (i : Int) h'
  | 0, i, h', e, eo, bm, mp, hi, hm => by omega
  | m + 1, i, h', e, eo, bm, mp, hi, hm => by
    unfold F.table_Table_chain_Chain_api_Agg_All.l2
    have hlen := rd_len cP_len (by omega) hrd
    rw [hlen]
    simp only [decide_eq_true_eq, decide_eq_false_iff_not]
    simp only [BIG] at hR
    refine ⟨fun g => ?_, fun g => ?_⟩
    · obtain ⟨p, hp⟩ : ∃ p, R[i]? = some p := ⟨_, List.getElem?_eq_getElem (by omega)⟩
      obtain ⟨a, q1, q2, q3⟩ := rd_at cP_len (by omega) (hrd.ext e) hp
      refine idxR_of q1 (by omega) rfl ?_
      refine ⟨⟨(p.is_ : Int), p.key, p.value⟩, q3, ?_⟩
      refine new_of fun n h1 hn b1 e1 _ => ?_
      refine stH_of b1 (by simp [S_table_place_chain_Chain_api_Agg.cells]) fun h2 b2 e2 _ => ?_
      rw [writeA_all (by simp [S_table_place_chain_Chain_api_Agg.cells])] at b2
      have x2 : Ext h' h2 := e1.step e2 fun j hj hf => by omega
      simp only [add_lit, Nat.zero_add]
      rw [ldI_iff (b2.cell (i := 0) rfl)]
      have htk : R.take (i + 1) = R.take i ++ [p] := by rw [List.take_add_one, hp]; rfl
      rw [w64 (by omega) (by omega), show (i : Int) + 1 = ((i + 1 : Nat) : Int) from by omega]
      simp only [beq_iff_eq, beq_eq_false_iff_ne]
      refine ⟨fun g1 => ?_, fun g1 => ?_⟩
      · have h1 : p.is_ = 1 := by have : (p.is_ : Int) = 1 := g1; omega
        have bm2 := x2.block bm (fun f => f)
        rw [ldM_iff ((show Blk h2 ma #[.map (some b)] tn_map_string_chain_Chain_api_Agg from bm2).cell (i := 0) rfl), ldS_iff (b2.cell (i := 1) rfl), ldP_iff (b2.cell (i := 2) rfl)]
        refine updM_of (kt := 9) (et := _) mt_map_string_chain_Chain_api_Agg Tryz.underlying9 (mp.only x2 (fun f => f)) fun h3 m3 e3 _ => ?_
        have hnew : p.key ∉ (tkL (pre ++ R.take i)).map (·.1) := fun hin => by
          have hs : R = R.take i ++ p :: R.drop (i + 1) := by
            have := List.take_append_drop i R
            rw [List.drop_eq_getElem_cons (show i < R.length by omega)] at this
            have hpe : R[i] = p := (List.getElem?_eq_some_iff.1 hp).2
            rw [hpe] at this
            exact this.symm
          unfold KU at ku
          rw [hs, ← List.append_assoc, tkL_app, List.map_append, List.nodup_append] at ku
          have : p.key ∈ (tkL (p :: R.drop (i + 1))).map (·.1) := by
            rw [show p :: R.drop (i + 1) = [p] ++ R.drop (i + 1) from rfl, tkL_app, tkL_one h1]
            simp
          exact ku.2.2 _ hin _ this rfl
        rw [put_new hnew] at m3
        have hM : tkL (pre ++ R.take (i + 1)) = tkL (pre ++ R.take i) ++ [(p.key, .pointer p.value)] := by rw [htk, ← List.append_assoc, tkL_app, tkL_one h1]
        have := all_row (Q := Q) hm0 hb0 hmb (by simp only [BIG]; omega) ku k hrd m (i + 1) h3 ((e.trans x2).step e3 fun j hj hf => by omega) ((eo.ext x2).trans e3 fun _ _ e => e) (e3.block bm2 hmb) (by rw [hM]; exact m3) (by omega) (by omega)
        rw [hlen] at this
        exact this
      · have h1 : p.is_ ≠ 1 := fun h => g1 (by show (p.is_ : Int) = 1; omega)
        have hM : tkL (pre ++ R.take (i + 1)) = tkL (pre ++ R.take i) := by rw [htk, ← List.append_assoc, tkL_app, tkL_no h1, List.append_nil]
        have := all_row (Q := Q) hm0 hb0 hmb (by simp only [BIG]; omega) ku k hrd m (i + 1) h2 (e.trans x2) (eo.ext x2) (x2.block bm (fun f => f)) (by rw [hM]; exact mp.only x2 (fun f => f)) (by omega) (by omega)
        rw [hlen] at this
        exact this
    · have hi' : i = R.length := by omega
      subst hi'
      rw [List.take_length] at mp
      exact k h' e eo bm mp
theorem All_spec {h : H} {n : Nat} {rs es : Sl} {T : Tb (Option Addr)} {Q : Value → H → Prop} (t : TH h n rs es T) (ok : TOk T) (hsm : T.count < 1073741824)
    (k : ∀ h' ka ma b r, SeqH h' ka ma b r (allL T) → Ext h h' → (∀ m, SQF ka ma b r m → h.size ≤ m) → (ka ≠ ma ∧ ka ≠ b ∧ ma ≠ b ∧ r.blk ≠ some ka ∧ r.blk ≠ some ma ∧ r.blk ≠ some b) → Q (.func (.func no_table_Table_chain_Chain_api_Agg_All_1) #[] #[.pointer (some ⟨ka, 0, none⟩), .pointer (some ⟨ma, 0, none⟩)]) h') : F.table_Table_chain_Chain_api_Agg_All (some ⟨n, 0, none⟩) h Q := by
  unfold F.table_Table_chain_Chain_api_Agg_All
  simp only [nn_some, add_lit, Nat.zero_add]
  rw [ldI_iff t.c3]
  refine makeM_of (.inr ⟨⟨_, _, rfl⟩, mt_map_string_chain_Chain_api_Agg⟩) fun mp1 e1 => ?_
  generalize hb1 : h.push (.map #[] 0) = h1 at mp1 e1 ⊢
  refine ⟨_, rfl, ?_⟩
  refine new_of fun ma h2 hma b2 e2 sz2 => ?_
  have hs1 : h1.size = h.size + 1 := by rw [← hb1]; simp
  have hmb : ma ≠ h.size := by omega
  refine stH_of b2 (by simp) fun h3 b3 e3 _ => ?_
  rw [writeA_all (by simp)] at b3
  have x3 : Ext h h3 := (e1.trans e2).step e3 fun j hj hf => by omega
  have t3 := t.ext x3
  rw [ldL_iff t3.c0, ldL_iff t3.c1]
  refine newL_of fun sl h4 hsl b4 e4 _ => ?_
  have x4 := x3.trans e4
  have t4 := t.ext x4
  have mp4 : MapH h4 h.size [] := ((mp1.only e2 (fun f => f)).only e3 (fun e => hmb e.symm)).only e4 (fun f => f)
  have bm4 := e4.block b3 (fun f => f)
  have ku := KU_of ok
  refine ⟨3, ?_⟩
  have hbr := t.br
  have hbe := t.be
  have tail : ∀ h5, Only (· = h.size) h4 h5 → Blk h5 ma #[.map (some h.size)] tn_map_string_chain_Chain_api_Agg → MapH h5 h.size (tkL (T.row ++ T.elder)) → F.table_Table_chain_Chain_api_Agg_All.l1 Q 1 ⟨ma, 0, none⟩ ⟨some ⟨sl, 0, none⟩, 2, 2⟩ 2 2 h5 := fun h5 e5 b5 m5 => by
    unfold F.table_Table_chain_Chain_api_Agg_All.l1
    refine ⟨fun g => by simp at g, fun _ => ?_⟩
    rw [ldM_iff ((show Blk h5 ma #[.map (some h.size)] tn_map_string_chain_Chain_api_Agg from b5).cell (i := 0) rfl)]
    unfold F.maps_Keys_map_string_chain_Chain_api_Agg_string_chain_Chain_api_Agg
    refine new_of fun kc h6 hkc b6 e6 _ => ?_
    have hML : (tkL (T.row ++ T.elder)).length < 1073741824 := by rw [tk_len ok]; exact hsm
    refine sorted_int_spec b6 (m5.only e6 (fun f => f)) hML (fun p hp => ?_) fun r h7 D hD o7 e7 m7 => ?_
    · obtain ⟨v, _, hv⟩ := tk_val ok (k := p.1) (v := p.2) hp
      exact ⟨v, hv⟩
    · refine new_of fun ka h8 hka b8 e8 _ => ?_
      refine stH_of b8 (by simp) fun h9 b9 e9 _ => ?_
      rw [writeA_all (by simp)] at b9
      have x5 : Ext h h5 := x4.step e5 fun j hj hf => by omega
      have x7 := (x5.trans e6).trans e7
      have x9 : Ext h h9 := (x7.trans e8).step e9 fun j hj hf => by have := x7.size; omega
      have hmlt := (mp4.lt)
      have s5 := e5.size
      have s6 := e6.size
      have s7 := e7.size
      have hml : ma < h4.size := block_lt bm4
      have hks : sortT (D.map (·.1)) = sortT ((tkL (T.row ++ T.elder)).map (·.1)) := sortT_perm (hD.map _)
      have hL : (allL T).map (·.1) = sortT ((tkL (T.row ++ T.elder)).map (·.1)) := by
        unfold allL; rw [List.map_map]; simp [Function.comp_def]
      have e59 : Only (· = ka) h5 h9 := ((e6.trans e7).trans e8).only.trans e9 fun _ _ e => e
      have hr9 : ∀ j, r.blk = some j → h6.size ≤ j ∧ j < h7.size := fun j hj => ⟨m7 j hj, o7.blk_lt hj⟩
      refine k h9 ka ma h.size r ⟨b9, ?_, e59.block b5 (by omega), ⟨_, m5.only e59 (by omega), fun p hp => ?_⟩, ?_⟩ x9 (fun j hj => ?_) ⟨by omega, by omega, by omega, fun e => ?_, fun e => ?_, fun e => ?_⟩
      · rw [hL, ← hks]
        exact (o7.ext e8).only e9 fun j hj hf => by have := hr9 j hj; omega
      · unfold allL at hp
        obtain ⟨key, hkey, rfl⟩ := List.mem_map.1 hp
        rw [sortT_mem] at hkey
        obtain ⟨q, hq, rfl⟩ := List.mem_map.1 hkey
        obtain ⟨v, hv1, hv2⟩ := tk_val ok (k := q.1) (v := q.2) hq
        rw [getK_mem ku (v := q.2) hq, hv2, hv1]; rfl
      · have := congrArg List.length hL
        simp only [List.length_map, sortT_len] at this
        omega
      · rcases hj with rfl | rfl | rfl | hj
        · have := x7.size; omega
        · omega
        · omega
        · have := hr9 j hj; have := x5.size; omega
      · have := hr9 _ e; omega
      · have := hr9 _ e; omega
      · have := hr9 _ e; have := x5.size; omega
  have hidx : ∀ (h5 : H), Only (· = h.size) h4 h5 → ∀ (i : Nat) (s : Sl), ([rs, es] : List Sl)[i]? = some s → cellH h5 ⟨sl, i * 1, none⟩ = some s.enc := fun h5 e5 i s hs => by
    have b5 : Blk h5 sl #[rs.enc, es.enc] tn_Sltable_place_chain_Chain_api_Agg := e5.block b4 (by have := e3.size; omega)
    rw [Nat.mul_one]
    rcases i with _ | _ | i
    · simp at hs; subst hs; exact b5.cell rfl
    · simp at hs; subst hs; exact b5.cell rfl
    · simp at hs
  have second : ∀ h5, Only (· = h.size) h4 h5 → Blk h5 ma #[.map (some h.size)] tn_map_string_chain_Chain_api_Agg → MapH h5 h.size (tkL T.row) → F.table_Table_chain_Chain_api_Agg_All.l1 Q 2 ⟨ma, 0, none⟩ ⟨some ⟨sl, 0, none⟩, 2, 2⟩ 2 1 h5 := fun h5 e5 b5 m5 => by
    unfold F.table_Table_chain_Chain_api_Agg_All.l1
    refine ⟨fun _ => ?_, fun g => by simp at g⟩
    refine idxA_of (b := sl) (i := 1) rfl (by simp) rfl ?_
    rw [ldL_iff (hidx h5 e5 1 es rfl)]
    refine ⟨T.elder.length + 1, ?_⟩
    have x5 : Ext h h5 := x4.step e5 fun j hj hf => by omega
    exact all_row (Q := Q) (h := h) (hs := h5) (pre := T.row) (R := T.elder) (C1 := F.table_Table_chain_Chain_api_Agg_All.l1 Q 1) (by omega) (Nat.le_refl _) hmb hbe ku (fun h6 e6 o6 b6 m6 => by
      rw [w64 (by omega) (by omega)]
      exact tail h6 (e5.trans o6 fun _ _ e => e) b6 m6) t.el.reads _ 0 h5 x5 (.refl _) b5 (by simpa using m5) (by omega) (by omega)
  unfold F.table_Table_chain_Chain_api_Agg_All.l1
  refine ⟨fun _ => ?_, fun g => by simp at g⟩
  refine idxA_of (b := sl) (i := 0) rfl (by simp) rfl ?_
  rw [ldL_iff (hidx h4 (.refl _) 0 rs rfl)]
  refine ⟨T.row.length + 1, ?_⟩
  refine all_row (Q := Q) (h := h) (hs := h4) (pre := []) (R := T.row) (C1 := F.table_Table_chain_Chain_api_Agg_All.l1 Q 2) (by omega) (Nat.le_refl _) hmb hbr ?_ (fun h6 e6 o6 b6 m6 => ?_) t.row.reads _ 0 h4 x4 (.refl _) bm4 (by simpa [tkL] using mp4) (by omega) (by omega)
  · have := ku
    unfold KU at this
    rw [tkL_app, List.map_append, List.nodup_append] at this
    exact this.1
  · rw [w64 (by omega) (by omega)]
    exact second h6 o6 b6 m6
end Go.Proofs.YtoccbnhahaoeiaaGreat.V.P
namespace Go.Proofs.YtoccbnhahaoeiaaGreat.V.P
open Go Go.Proofs.YtoccbnhahaoeiaaGreat.V
set_option linter.unusedVariables false
set_option linter.unusedSimpArgs false
set_option maxRecDepth 20000
abbrev seqV (ka ma : Nat) : Value := .func (.func no_table_Table_chain_Chain_api_Agg_All_1) #[] #[.pointer (some ⟨ka, 0, none⟩), .pointer (some ⟨ma, 0, none⟩)]
/-- What a table's iterator does, called with a loop's yield. -/
theorem seq_core {h1 : H} {ka ma b l : Nat} {r : Sl} {L : List (ByteArray × Option Addr)} {js : List Code} {R : LoopState → Option Code → Obj} {BB : Nat → ByteArray → Option Addr → H → (H → Prop) → (Nat → H → Prop) → Prop} {Kn : H → Prop} {Kj : Nat → H → Prop} (I : Nat → H → Prop) (E : Nat → H → Prop) (hR : ∀ s p, ∃ r, R s p = .loop r)
    (hst : ∀ i h' h'', I i h' → Only (· = l) h' h'' → I i h'') (hstE : ∀ j h' h'', E j h' → Only (· = l) h' h'' → E j h'') (hown : ∀ i h', I i h' → SeqH h' ka ma b r L)
    (hB : ∀ (X : Obj) (i : Nat) (x : ByteArray × Option Addr) (h5 : H) (K : H → Prop) (J : Nat → H → Prop), (∃ r, X = .loop r) → I i h5 → h5[l]? = some X → L[i]? = some x → (∀ h2, I (i + 1) h2 → h2[l]? = some X → K h2) → (∀ j h2, E j h2 → h2[l]? = some X → J j h2) → BB l x.1 x.2 h5 K J)
    (hn : ∀ h', I L.length h' → Kn h') (hj : ∀ j h', E j h' → ∃ c, js[j]? = some c ∧ Kj j h')
    (hy : yields PP R l js (fun bg l args h' K J => ∃ (k : ByteArray), ∃ (v : Option Addr), args = [.string k, .pointer v] ∧ bg h' fun h5 => BB l k v h5 K J)) (h0 : I 0 h1) (hr : h1[l]? = some (R .ready none)) :
    F.table_Table_chain_Chain_api_Agg_All_1 (.func (.yield l) #[] #[]) ⟨ka, 0, none⟩ ⟨ma, 0, none⟩ h1 (rngEnd R l js Kn Kj) := by
  unfold F.table_Table_chain_Chain_api_Agg_All_1
  have s0 := hown 0 h1 h0
  rw [ldL_iff (s0.kb.cell (i := 0) rfl)]
  have hlen := s0.len
  have hrl := own_len cT_len (by omega) s0.ko
  rw [List.length_map] at hrl
  refine ⟨L.length + 1, ?_⟩
  rw [hrl]
  have key : ∀ (m i : Nat) (h' : H), i ≤ L.length → L.length - i < m → I i h' → h'[l]? = some (R .ready none) → F.table_Table_chain_Chain_api_Agg_All_1.l1 (rngEnd R l js Kn Kj) m (.func (.yield l) #[] #[]) ⟨ma, 0, none⟩ r (L.length : Int) (i : Int) h' := by
    intro m
    induction m with
    | zero => intro i h' _ hm; omega
    | succ m ih =>
      intro i h' hi hm hI hrd
      unfold F.table_Table_chain_Chain_api_Agg_All_1.l1
      simp only [decide_eq_true_eq, decide_eq_false_iff_not]
      refine ⟨fun g => ?_, fun g => ?_⟩
      · obtain ⟨x, hx⟩ : ∃ x, L[i]? = some x := ⟨_, List.getElem?_eq_getElem (by omega)⟩
        have si := hown i h' hI
        obtain ⟨M, m1, m2⟩ := si.mp
        obtain ⟨bb, a1, a2⟩ := own_at cT_len (by omega) si.ko (i := i) (x := x.1) (by rw [List.getElem?_map, hx]; rfl)
        refine idxA_of (i := i) a1 (by omega) rfl ?_
        rw [ldS_iff (by have := a2.one; rwa [Nat.mul_one] at this ⊢), ldM_iff (si.mb.cell (i := 0) rfl)]
        refine lookM_of (kt := 9) (et := _) (z := .pointer none) mt_map_string_chain_Chain_api_Agg Tryz.underlying9 (fun w => by kernel_rfl) m1 ?_
        rw [m2 x (List.mem_of_getElem? hx)]
        refine ⟨x.2, rfl, ?_⟩
        refine hy h' _ _ hrd ⟨x.1, x.2, rfl, hrd, ?_⟩
        refine hB (R .busy none) i x _ _ _ (hR _ _) (hst i h' _ hI (put_only h' l _)) (putAt_ hrd) hx (fun h4 hI4 hb4 => ⟨hb4, true, rfl, (fun h => by cases h), fun _ => ?_⟩) (fun j h4 hE hb4 => ?_)
        · rw [show IntKind.wrap .i64 ((i : Int) + 1) = ((i + 1 : Nat) : Int) from by rw [w64 (by omega) (by omega)]; omega]
          exact ih (i + 1) _ (by omega) (by omega) (hst (i + 1) h4 _ hI4 (put_only h4 l _)) (putAt_ hb4)
        · obtain ⟨c, hc, _⟩ := hj j h4 hE
          refine ⟨c, hc, hb4, false, rfl, fun _ => ?_, fun h => by cases h⟩
          have hE2 := hstE j h4 _ hE (put_only h4 l (R .done (some c)))
          have hp := putAt_ (o := R .done (some c)) hb4
          obtain ⟨c', hc', hk⟩ := hj j _ (hstE j _ _ hE2 (put_only _ l (R .exhausted (some c))))
          exact .inr ⟨j, c, hc, hp, hk⟩
      · have : i = L.length := by omega
        subst this
        exact .inl ⟨hrd, hn _ (hst _ h' _ hI (put_only h' l _))⟩
  exact key _ 0 h1 (by omega) (by omega) h0 hr
/-- A range over a table's sequence, outermost: h.size + 1 is the record's place, h.size that of the block for deferred calls. -/
theorem range_seq {h : H} {ka ma b : Nat} {r : Sl} {L : List (ByteArray × Option Addr)} {js : List Code} {BB : Nat → ByteArray → Option Addr → H → (H → Prop) → (Nat → H → Prop) → Prop} {Kn : H → Prop} {Kj : Nat → H → Prop} (I : Nat → H → Prop) (E : Nat → H → Prop)
    (hst : ∀ i h' h'', I i h' → Only (· = h.size + 1) h' h'' → I i h'') (hstE : ∀ j h' h'', E j h' → Only (· = h.size + 1) h' h'' → E j h'') (hown : ∀ i h', I i h' → SeqH h' ka ma b r L)
    (h0 : I 0 (h.push (.deferred (some []))))
    (hB : ∀ (X : Obj) (i : Nat) (x : ByteArray × Option Addr) (h5 : H) (K : H → Prop) (J : Nat → H → Prop), (∃ r, X = .loop r) → I i h5 → h5[h.size + 1]? = some X → L[i]? = some x → (∀ h2, I (i + 1) h2 → h2[h.size + 1]? = some X → K h2) → (∀ j h2, E j h2 → h2[h.size + 1]? = some X → J j h2) → BB (h.size + 1) x.1 x.2 h5 K J)
    (hn : ∀ h', I L.length h' → Kn h') (hj : ∀ j h', E j h' → ∃ c, js[j]? = some c ∧ Kj j h') :
    rng PP (seqV ka ma) h js (fun bg l args h' K J => ∃ (k : ByteArray), ∃ (v : Option Addr), args = [.string k, .pointer v] ∧ bg h' fun h5 => BB l k v h5 K J) Kn Kj := fun R hR hy => by
  refine ⟨no_table_Table_chain_Chain_api_Agg_All_1, #[], #[.pointer (some ⟨ka, 0, none⟩), .pointer (some ⟨ma, 0, none⟩)], rfl, fun a w => no_table_Table_chain_Chain_api_Agg_All_1_call a w, ?_⟩
  have := F.table_Table_chain_Chain_api_Agg_All_1_ok (seq_core I E hR hst hstE hown hB hn hj hy (h1 := (h.push (.deferred (some []))).push (R .ready none)) (hst 0 _ _ h0 (.push _ _)) (by rw [Array.getElem?_push, if_pos (by simp)]))
  exact this.mono fun r h' ⟨_, q⟩ => q
end Go.Proofs.YtoccbnhahaoeiaaGreat.V.P
namespace Go.Proofs.YtoccbnhahaoeiaaGreat.V.P
open Go Go.Proofs.YtoccbnhahaoeiaaGreat.V
set_option linter.unusedVariables false
set_option linter.unusedSimpArgs false
set_option maxRecDepth 20000
theorem shift_spec {n : Nat} {rs es : Sl} {x4 : Option Addr} {Q : Option Addr → Bool → H → Prop} : ∀ (f : Nat) (h : H) (T : Tb (Option Addr)) (a k : Nat) (R : List (Pl (Option Addr))), TH h n rs es T → shiftM nilA f T.row a k = some R → a < T.row.length → k < T.row.length →
    (∀ h', TH h' n rs es { T with row := R } → Stp h n rs es h' rs es → Q x4 true h') → F.table_Table_chain_Chain_api_Agg_Drop.l1 Q f (some ⟨n, 0, none⟩) x4 (a : Int) (T.row.length : Int) (k : Int) h
  | 0, h, T, a, k, R, t, hs, ha, hk, kk => by cases hs
  | f + 1, h, T, a, k, R, t, hs, ha, hk, kk => by
    unfold F.table_Table_chain_Chain_api_Agg_Drop.l1
    unfold shiftM at hs
    obtain ⟨p, hp⟩ : ∃ p, T.row[k]? = some p := ⟨_, List.getElem?_eq_getElem hk⟩
    rw [hp] at hs
    simp only at hs
    simp only [nn_some, add_lit, Nat.zero_add]
    have hbr := t.br
    rw [ldL_iff t.c0]
    obtain ⟨b, q1, q2⟩ := t.row_at hp
    have c0 := q2 0 _ rfl
    have c1 := q2 1 _ rfl
    refine idxA_of q1 (by rw [t.rlen]; exact hk) rfl ?_
    rw [ldI_iff c0]
    simp only [bne_iff_ne, ne_eq, bne_eq_false_iff_eq]
    by_cases h0 : p.is_ = 0
    · rw [if_pos h0] at hs
      cases hs
      refine ⟨fun g => absurd (by omega) g, fun _ => ?_⟩
      rw [ldL_iff t.c0]
      refine idxA_of q1 (by rw [t.rlen]; exact ha) rfl ?_
      exact t.set_row (p := emptP nilA) q1 ha (by show (0 : Nat) ≤ _; decide) fun h1 t1 s1 => kk h1 t1 s1
    · rw [if_neg h0] at hs
      refine ⟨fun _ => ?_, fun g => absurd g (by omega)⟩
      rw [ldL_iff t.c0, ldL_iff t.c0]
      refine idxA_of q1 (by rw [t.rlen]; exact hk) rfl ?_
      rw [ldS_iff c1]
      refine home_spec (R := T.row) t.rlen (by omega) hbr (t.kr k p hp) fun h1 e1 => ?_
      have hh := home_lt (R := T.row) (key := p.key) (by omega)
      have t1 := t.ext e1
      refine ⟨by omega, by omega, ?_⟩
      rw [tmod_dist hh hk hbr, tmod_dist ha hk hbr]
      simp only [decide_eq_true_eq, decide_eq_false_iff_not]
      by_cases hd : dist T.row.length (homeM T.row p.key) k ≥ dist T.row.length a k
      · rw [if_pos hd] at hs
        refine ⟨fun _ => ?_, fun g => absurd (by omega) g⟩
        rw [ldL_iff t1.c0, ldL_iff t1.c0]
        refine idxA_of q1 (by rw [t.rlen]; exact hk) rfl ?_
        have q3 : Cells h1 ⟨b, k * 3, none⟩ (cP p) := q2.ext e1
        refine ⟨⟨(p.is_ : Int), p.key, p.value⟩, q3, ?_⟩
        refine idxA_of q1 (by rw [t.rlen]; exact ha) rfl ?_
        refine t1.set_row (p := p) q1 ha (t.kr k p hp) fun h2 t2 s2 => ?_
        unfold F.table_Table_chain_Chain_api_Agg_Drop.j2
        refine ⟨by omega, ?_⟩
        rw [next_tmod hk hbr]
        have := shift_spec f h2 _ k ((k + 1) % T.row.length) R t2 hs (by simpa using hk) (by simpa using ring_lt (h := k) (k := 1) (n := T.row.length) (by omega)) fun h' t' s' => kk h' t' ((Stp.of_ext e1).trans (s2.trans s'))
        simp only [List.length_set] at this
        exact this
      · rw [if_neg hd] at hs
        refine ⟨fun g => absurd g (by omega), fun _ => ?_⟩
        unfold F.table_Table_chain_Chain_api_Agg_Drop.j2
        refine ⟨by omega, ?_⟩
        rw [next_tmod hk hbr]
        exact shift_spec f h1 T a ((k + 1) % T.row.length) R t1 hs ha (ring_lt (h := k) (k := 1) (by omega)) fun h' t' s' => kk h' t' ((Stp.of_ext e1).trans s')
theorem Drop_spec {h : H} {n : Nat} {rs es : Sl} {T T' : Tb (Option Addr)} {key : ByteArray} {r : Option Addr × Bool} {Q : Option Addr → Bool → H → Prop} (t : TH h n rs es T) (ok : TOk T) (hk : SmallK key) (hd : dropM nilA T key = some (T', r))
    (k : ∀ h' es', TH h' n rs es' T' → Stp h n rs es h' rs es' → Q r.1 r.2 h') : F.table_Table_chain_Chain_api_Agg_Drop (some ⟨n, 0, none⟩) key h Q := by
  unfold F.table_Table_chain_Chain_api_Agg_Drop
  obtain ⟨T1, m1, ok1, m3, m4, m5, m6, m7⟩ := move_ok (z := nilA) ok 4
  unfold dropM at hd
  rw [m1] at hd
  simp only at hd
  refine Move_spec t m1 (by omega) fun h1 es1 t1 s1 => ?_
  simp only [nn_some, add_lit, Nat.zero_add]
  rw [ldL_iff t1.c1]
  cases hf : findM T1.elder key with
  | none => rw [hf] at hd; cases hd
  | some w =>
    rw [hf] at hd
    obtain ⟨i, b⟩ := w
    refine find_spec t1.el.reads t1.be hk hf fun h2 e2 => ?_
    have t2 := t1.ext e2
    have hbc := t1.bc
    have hcnt := ok1.cnt
    simp only [BIG] at hbc
    cases b with
    | true =>
      refine ⟨fun _ => ?_, fun h => by cases h⟩
      simp only at hd
      cases hp : T1.elder[i]? with
      | none => rw [hp] at hd; cases hd
      | some p =>
        rw [hp] at hd
        simp only at hd
        cases hd
        have hi := (List.getElem?_eq_some_iff.1 hp).1
        have h1p : p.is_ = 1 := by
          rcases hit_or T1.elder key with ⟨j, hj⟩ | hn
          · rw [ok1.elder.hit hj] at hf
            cases hf
            obtain ⟨q, g1, g2, _⟩ := hj
            rw [hp] at g1; cases g1; exact g2
          · by_cases he : T1.elder = []
            · rw [he] at hp; simp at hp
            · obtain ⟨j, g1, _, _⟩ := find_miss hn (ok1.eroom he)
              rw [g1] at hf; cases hf
        have hc1 := ok1.cnt_elder hp h1p
        rw [ldL_iff t2.c1]
        obtain ⟨b, q1, q2⟩ := t2.el_at hp
        refine idxA_of q1 (by rw [t1.elen]; exact hi) rfl ?_
        have c2 := q2 2 _ rfl
        rw [ldP_iff c2, ldL_iff t2.c1]
        refine idxA_of q1 (by rw [t1.elen]; exact hi) rfl ?_
        refine t2.set_el (p := goneP nilA) q1 hi (by show (0 : Nat) ≤ _; decide) fun h3 t3 s3 => ?_
        rw [ldI_iff t3.c3]
        refine t3.st_count (m := T1.count - 1) (by show IntKind.wrap .i64 ((T1.count : Int) - 1) = _; rw [w64 (by omega) (by omega)]; omega) (by simp only [BIG]; omega) fun h4 t4 s4 => ?_
        exact k h4 _ t4 ((s1.ext e2).trans (s3.trans s4))
    | false =>
      refine ⟨fun h => (by cases h), fun _ => ?_⟩
      simp only at hd
      rw [ldL_iff t2.c0]
      cases hg : findM T1.row key with
      | none => rw [hg] at hd; cases hd
      | some w =>
        rw [hg] at hd
        obtain ⟨i, b⟩ := w
        refine find_spec t2.row.reads t2.br hk hg fun h3 e3 => ?_
        have t3 := t2.ext e3
        cases b with
        | false =>
          simp only at hd
          cases hd
          exact ⟨fun _ => k h3 _ t3 ((s1.ext e2).ext e3), fun h => by cases h⟩
        | true =>
          refine ⟨fun h => (by cases h), fun _ => ?_⟩
          simp only at hd
          cases hp : T1.row[i]? with
          | none => rw [hp] at hd; cases hd
          | some p =>
            rw [hp] at hd
            simp only at hd
            cases hR : shiftM nilA (T1.row.length + 1) T1.row i ((i + 1) % T1.row.length) with
            | none => rw [hR] at hd; cases hd
            | some R =>
              rw [hR] at hd
              simp only at hd
              cases hd
              have hi := (List.getElem?_eq_some_iff.1 hp).1
              have h1p : p.is_ = 1 := by
                rcases hit_or T1.row key with ⟨j, hj⟩ | hn
                · rw [ok1.row.hit hj] at hg
                  cases hg
                  obtain ⟨q, g1, g2, _⟩ := hj
                  rw [hp] at g1; cases g1; exact g2
                · obtain ⟨j, g1, _, _⟩ := find_miss hn (ok1.room ok1.cnt_row)
                  rw [g1] at hg; cases hg
              have hc1 : 1 ≤ cntT T1.row := by
                unfold cntT
                exact List.countP_pos_iff.2 ⟨p, List.mem_of_getElem? hp, by simpa using h1p⟩
              rw [ldL_iff t3.c0]
              obtain ⟨b, q1, q2⟩ := t3.row_at hp
              refine idxA_of q1 (by rw [t1.rlen]; exact hi) rfl ?_
              have c2 := q2 2 _ rfl
              rw [ldP_iff c2, ldI_iff t3.c3]
              refine t3.st_count (m := T1.count - 1) (by show IntKind.wrap .i64 ((T1.count : Int) - 1) = _; rw [w64 (by omega) (by omega)]; omega) (by simp only [BIG]; omega) fun h4 t4 s4 => ?_
              rw [ldL_iff t4.c0, t4.rlen]
              have hbr := t1.br
              refine ⟨by show ((T1.row.length : Nat) : Int) ≠ 0; omega, T1.row.length + 1, ?_⟩
              have hnx := next_tmod hi hbr
              show F.table_Table_chain_Chain_api_Agg_Drop.l1 Q (T1.row.length + 1) (some ⟨n, 0, none⟩) p.value (i : Int) (T1.row.length : Int) (Int.tmod (IntKind.wrap .i64 ((i : Int) + 1)) (T1.row.length : Int)) h4
              rw [hnx]
              exact shift_spec _ h4 { T1 with count := T1.count - 1 } i _ R t4 hR hi (ring_lt (h := i) (k := 1) (by omega)) fun h5 t5 s5 => k h5 _ t5 (((s1.ext e2).ext e3).trans (s4.trans s5))
end Go.Proofs.YtoccbnhahaoeiaaGreat.V.P
namespace Go.Proofs.YtoccbnhahaoeiaaGreat.V.P
open Go Go.Proofs.YtoccbnhahaoeiaaGreat.V
set_option linter.unusedVariables false
set_option linter.unusedSimpArgs false
set_option maxRecDepth 20000
set_option linter.unusedVariables false
set_option linter.unusedSimpArgs false
theorem sortT_id {A : List ByteArray} (h : A.Pairwise fun a b => a.data.toList < b.data.toList) : sortT A = A := by
  unfold sortT
  have hs : (A.map fun s => s.data.toList).Pairwise fun x y => (decide (x ≤ y)) = true := by
    rw [List.pairwise_map]
    exact h.imp fun h => by simpa using List.le_of_lt h
  rw [List.mergeSort_of_pairwise hs, List.map_map]
  conv => rhs; rw [← List.map_id A]
  exact List.map_congr_left fun s _ => rfl
end Go.Proofs.YtoccbnhahaoeiaaGreat.V.P
namespace Go.Proofs.YtoccbnhahaoeiaaGreat.V.S
open Go Go.Proofs.YtoccbnhahaoeiaaGreat.V
set_option linter.unusedVariables false
set_option linter.unusedSimpArgs false
set_option maxRecDepth 20000
section
variable {α : Type} {key : α → Cel}
/-- x laid into a list that is in order of its keys, in the place of what has its key. -/
def setK (key : α → Cel) : List α → α → List α
  | [], x => [x]
  | y :: r, x => if cmpC (key x) (key y) = -1 then x :: y :: r else if cmpC (key x) (key y) = 0 then x :: r else y :: setK key r x
def getK (key : α → Cel) (S : List α) (c : Cel) : Option α := S.find? fun y => decide (cmpC (key y) c = 0)
abbrev SortK (key : α → Cel) (S : List α) : Prop := S.Pairwise fun a b => cmpC (key a) (key b) = -1
theorem cC_self (a : Cel) : cmpC a a = 0 := cC_zero.2 rfl
theorem getK_set {x : α} {d : Cel} : ∀ (S : List α), getK key (setK key S x) d = if cmpC (key x) d = 0 then some x else getK key S d
  | [] => by
    unfold setK getK
    by_cases h : cmpC (key x) d = 0 <;> simp [h]
  | y :: r => by
    have ih := getK_set (x := x) (d := d) r
    unfold setK
    split
    · unfold getK
      by_cases h : cmpC (key x) d = 0 <;> simp [h]
    · rename_i h1
      split
      · rename_i h2
        have he := cC_zero.1 h2
        unfold getK
        rw [List.find?_cons, List.find?_cons, ← he]
        by_cases h : cmpC (key x) d = 0
        · simp [h]
        · simp [h]
      · rename_i h2
        have hne : key x ≠ key y := fun e => h2 (cC_zero.2 e)
        unfold getK at ih ⊢
        rw [List.find?_cons, List.find?_cons, ih]
        by_cases hy : cmpC (key y) d = 0
        · have hyd := cC_zero.1 hy
          have hx : ¬ cmpC (key x) d = 0 := fun e => hne ((cC_zero.1 e).trans hyd.symm)
          simp [hy, hx]
        · simp [hy]
theorem getK_some {S : List α} {c : Cel} {x : α} (h : getK key S c = some x) : x ∈ S ∧ key x = c :=
  ⟨List.mem_of_find?_eq_some h, cC_zero.1 (by have := List.find?_some h; simpa using this)⟩
theorem getK_none {S : List α} {c : Cel} (h : getK key S c = none) : ∀ x ∈ S, key x ≠ c := fun x hx e => by
  have := List.find?_eq_none.1 h x hx
  simp [cC_zero.2 e] at this
theorem getK_mem {S : List α} (hs : SortK key S) {x : α} (hx : x ∈ S) : getK key S (key x) = some x := by
  induction S with
  | nil => cases hx
  | cons y r ih =>
    have h := List.pairwise_cons.1 hs
    unfold getK
    rw [List.find?_cons]
    rcases List.mem_cons.1 hx with e | e
    · subst e; simp [cC_self]
    · have := h.1 x e
      have hn : ¬ cmpC (key y) (key x) = 0 := by omega
      simp only [hn, decide_false]
      exact ih h.2 e
theorem mem_set {x y : α} : ∀ {S : List α}, SortK key S → (y ∈ setK key S x ↔ y = x ∨ (y ∈ S ∧ key y ≠ key x))
  | [], _ => by simp [setK]
  | z :: r, hs => by
    have h := List.pairwise_cons.1 hs
    have ih := mem_set (x := x) (y := y) h.2
    unfold setK
    split
    · rename_i h1
      have hall : ∀ w ∈ z :: r, key w ≠ key x := fun w hw e => by
        rcases List.mem_cons.1 hw with q | q
        · subst q; rw [e, cC_self] at h1; omega
        · have := cC_trans h1 (h.1 w q); rw [e, cC_self] at this; omega
      constructor
      · intro hy
        rcases List.mem_cons.1 hy with q | q
        · exact .inl q
        · exact .inr ⟨q, hall y q⟩
      · rintro (q | ⟨q, _⟩)
        · rw [q]; simp
        · exact List.mem_cons_of_mem _ q
    · rename_i h1
      split
      · rename_i h2
        have he := cC_zero.1 h2
        constructor
        · intro hy
          rcases List.mem_cons.1 hy with q | q
          · exact .inl q
          · refine .inr ⟨List.mem_cons_of_mem _ q, fun e => ?_⟩
            have := h.1 y q
            rw [e, ← he, cC_self] at this; omega
        · rintro (q | ⟨q, q2⟩)
          · rw [q]; simp
          · rcases List.mem_cons.1 q with q | q
            · subst q; exact absurd he.symm q2
            · exact List.mem_cons_of_mem _ q
      · rename_i h2
        have hne : key z ≠ key x := fun e => h2 (cC_zero.2 e.symm)
        rw [List.mem_cons, ih]
        constructor
        · rintro (q | q | ⟨q, q2⟩)
          · subst q; exact .inr ⟨by simp, hne⟩
          · exact .inl q
          · exact .inr ⟨List.mem_cons_of_mem _ q, q2⟩
        · rintro (q | ⟨q, q2⟩)
          · exact .inr (.inl q)
          · rcases List.mem_cons.1 q with q | q
            · exact .inl q
            · exact .inr (.inr ⟨q, q2⟩)
theorem sort_set {x : α} : ∀ {S : List α}, SortK key S → SortK key (setK key S x)
  | [], _ => by simp [setK, SortK]
  | z :: r, hs => by
    have h := List.pairwise_cons.1 hs
    have ih := sort_set (x := x) h.2
    unfold setK
    split
    · rename_i h1
      refine List.pairwise_cons.2 ⟨fun w hw => ?_, hs⟩
      rcases List.mem_cons.1 hw with q | q
      · subst q; exact h1
      · exact cC_trans h1 (h.1 w q)
    · rename_i h1
      split
      · rename_i h2
        have he := cC_zero.1 h2
        exact List.pairwise_cons.2 ⟨fun w hw => by rw [he]; exact h.1 w hw, h.2⟩
      · rename_i h2
        refine List.pairwise_cons.2 ⟨fun w hw => ?_, ih⟩
        rcases (mem_set h.2).1 hw with q | ⟨q, _⟩
        · subst q
          have := cC_range (key w) (key z)
          have := cC_anti (key z) (key w)
          omega
        · exact h.1 w q
theorem pw_set {P : α → α → Prop} {x : α} : ∀ {S : List α}, SortK key S → S.Pairwise P → (∀ y ∈ S, key y ≠ key x → P x y ∧ P y x) → (setK key S x).Pairwise P
  | [], _, _, _ => by simp [setK]
  | z :: r, hs, hp, hx => by
    have h := List.pairwise_cons.1 hs
    have hp' := List.pairwise_cons.1 hp
    have ih := pw_set (x := x) h.2 hp'.2 fun y hy => hx y (List.mem_cons_of_mem _ hy)
    unfold setK
    split
    · rename_i h1
      refine List.pairwise_cons.2 ⟨fun w hw => (hx w hw fun e => ?_).1, hp⟩
      rcases List.mem_cons.1 hw with q | q
      · subst q; rw [e, cC_self] at h1; omega
      · have := cC_trans h1 (h.1 w q); rw [e, cC_self] at this; omega
    · rename_i h1
      split
      · rename_i h2
        have he := cC_zero.1 h2
        refine List.pairwise_cons.2 ⟨fun w hw => (hx w (List.mem_cons_of_mem _ hw) fun e => ?_).1, hp'.2⟩
        have := h.1 w hw
        rw [e, ← he, cC_self] at this; omega
      · rename_i h2
        have hne : key z ≠ key x := fun e => h2 (cC_zero.2 e.symm)
        refine List.pairwise_cons.2 ⟨fun w hw => ?_, ih⟩
        rcases (mem_set h.2).1 hw with q | ⟨q, _⟩
        · subst q; exact (hx z (by simp) hne).2
        · exact hp'.1 w q
theorem sum_set {x : α} (f : α → Nat) : ∀ {S : List α}, SortK key S → ((setK key S x).map f).sum + ((getK key S (key x)).map f).getD 0 = (S.map f).sum + f x
  | [], _ => by simp [setK, getK]
  | z :: r, hs => by
    have h := List.pairwise_cons.1 hs
    have ih := sum_set (x := x) f h.2
    unfold setK
    split
    · rename_i h1
      have hn : getK key (z :: r) (key x) = none := by
        unfold getK
        rw [List.find?_eq_none]
        intro w hw
        have : cmpC (key x) (key w) = -1 := by
          rcases List.mem_cons.1 hw with q | q
          · subst q; exact h1
          · exact cC_trans h1 (h.1 w q)
        have := cC_anti (key w) (key x)
        simp; omega
      rw [hn]; simp; omega
    · rename_i h1
      split
      · rename_i h2
        have he := cC_zero.1 h2
        have hs' : getK key (z :: r) (key x) = some z := by
          unfold getK; rw [List.find?_cons, ← he]; simp [cC_self]
        rw [hs']; simp; omega
      · rename_i h2
        have hne : ¬ cmpC (key z) (key x) = 0 := fun e => h2 (cC_zero.2 (cC_zero.1 e).symm)
        have hs' : getK key (z :: r) (key x) = getK key r (key x) := by
          unfold getK; rw [List.find?_cons]; simp [hne]
        rw [hs']; simp; omega
theorem map_set {β : Type} {key' : β → Cel} (f : α → β) (hk : ∀ x, key' (f x) = key x) {x : α} : ∀ (S : List α), (setK key S x).map f = setK key' (S.map f) (f x)
  | [] => rfl
  | z :: r => by
    have ih := map_set f hk (x := x) r
    show _ = setK key' (f z :: r.map f) (f x)
    unfold setK
    rw [hk, hk]
    split
    · rfl
    · split
      · rfl
      · rw [List.map_cons, ih]
theorem map_get {β : Type} {key' : β → Cel} (f : α → β) (hk : ∀ x, key' (f x) = key x) {c : Cel} : ∀ (S : List α), getK key' (S.map f) c = (getK key S c).map f
  | [] => rfl
  | z :: r => by
    have ih := map_get f hk (c := c) r
    unfold getK at ih ⊢
    rw [List.map_cons, List.find?_cons, List.find?_cons, hk, ih]
    split <;> simp_all
end
abbrev Ver := C.Ver
abbrev zA := C.zA
abbrev SL := List (Cel × List Ver)
def okC (c : Cel) : Int := if c.View < 0 ∨ c.View ≥ 4 then 23 else if (c.Key.size : Int) < 1 ∨ (c.Key.size : Int) > 32 then 21 else if c.Start < -2305843009213693952 ∨ c.Start > 2305843009213693952 then 22 else 0
theorem ok_may {c : Cel} (h : okC c = 0) : mayC c = 0 := by
  unfold okC at h
  unfold mayC
  split at h
  · cases h
  · rename_i h1
    rw [if_neg (by omega)]
    split at h
    · cases h
    · rename_i h2
      rw [if_neg (by omega)]
      split at h
      · cases h
      · rename_i h3; rw [if_neg h3]
theorem ok_start {c : Cel} (h : okC c = 0) : I64n c.Start := by
  unfold okC at h
  split at h
  · cases h
  · split at h
    · cases h
    · split at h
      · cases h
      · unfold I64n; omega
def keyB (c : Cel) : ByteArray := ⟨(keyL c).toArray⟩
theorem kL_keyB (c : Cel) : kL (keyB c) = keyL c := by simp [keyB, kL]
theorem key_size {c : Cel} (h : okC c = 0) : (keyL c).length ≤ 100 := by
  obtain ⟨h1, h2, h3⟩ := may_view (ok_may h)
  have := escL_len c.Key.data.toList
  have h4 : c.Key.data.toList.length = c.Key.size := (size_data).symm
  unfold keyL
  simp [beT_len]
  omega
theorem key_inj {a b : Cel} (ha : okC a = 0) (hb : okC b = 0) (h : keyL a = keyL b) : a = b := by
  have h1 := cell_back (ok_may ha) (ok_start ha)
  have h2 := cell_back (ok_may hb) (ok_start hb)
  rw [h, h2] at h1
  exact (congrArg Prod.fst h1).symm
abbrev alive (vs : List Ver) : Bool := (C.newestM vs).2.2
def unitsV (vs : List Ver) : Nat := vs.length + (if alive vs then 1 else 0)
def aliveN (vs : List Ver) : Nat := if alive vs then 1 else 0
def unitsS (S : SL) : Nat := (S.map fun x => unitsV x.2).sum
def thereS (S : SL) : Nat := (S.map fun x => aliveN x.2).sum
abbrev getS (S : SL) (c : Cel) : Option (List Ver) := (getK (·.1) S c).map (·.2)
abbrev setS (S : SL) (c : Cel) (vs : List Ver) : SL := setK (·.1) S (c, vs)
abbrev SortS (S : SL) : Prop := SortK (·.1) S
def atV (vs : List Ver) (e : Int) : S_api_Agg × Bool := if e = 0 then ((C.newestM vs).1, alive vs) else C.atM vs e
def atS (S : SL) (c : Cel) (e : Int) : S_api_Agg := if okC c ≠ 0 then zA else match getS S c with
  | some vs => (atV vs e).1
  | none => zA
def needV (o : Option (List Ver)) (e : Int) : Int := match o with
  | none => 2
  | some vs => if (C.newestM vs).2.1 > e then 0 else if (C.newestM vs).2.1 = e ∧ alive vs = true then 0 else if (C.newestM vs).2.1 = e ∨ alive vs = true then 1 else 2
def needS (S : SL) (e : Int) (c : Cel) : Int := if okC c ≠ 0 then 0 else needV (getS S c) e
def pruneS (S : SL) (E : List Int) : SL := (S.map fun x => (x.1, C.pruneM x.2 E)).filter fun x => !x.2.isEmpty
/-- What a version list of a cell is like. -/
structure VOk (vs : List Ver) : Prop where
  ne : vs ≠ []
  rise : C.Rise vs
  dead : ∀ v ∈ vs, v.dead = true → v.value = zA
  ep : ∀ v ∈ vs, 1 ≤ v.epoch ∧ v.epoch ≤ 1099511627776
structure SOk (S : SL) : Prop where
  sort : SortS S
  ok : ∀ x ∈ S, okC x.1 = 0 ∧ VOk x.2
theorem unitsV_pos {vs : List Ver} (h : vs ≠ []) : 1 ≤ unitsV vs := by
  have := List.length_pos_iff.2 h
  unfold unitsV; omega
theorem len_units {S : SL} (h : SOk S) : S.length ≤ unitsS S := by
  have : ∀ (S : SL), (∀ x ∈ S, x.2 ≠ []) → S.length ≤ unitsS S := fun S => by
    induction S with
    | nil => intro _; simp [unitsS]
    | cons x r ih =>
      intro hx
      have h1 := ih fun y hy => hx y (by simp [hy])
      have h2 := unitsV_pos (hx x (by simp))
      unfold unitsS at h1 ⊢
      rw [List.map_cons, List.sum_cons, List.length_cons]; omega
  exact this S fun x hx => (h.ok x hx).2.ne
theorem ver_units {S : SL} {x : Cel × List Ver} (hx : x ∈ S) : x.2.length ≤ unitsS S := by
  induction S with
  | nil => cases hx
  | cons y r ih =>
    unfold unitsS at ih ⊢
    rw [List.map_cons, List.sum_cons]
    rcases List.mem_cons.1 hx with e | e
    · subst e; unfold unitsV; omega
    · have := ih e; omega
theorem alive_le (vs : List Ver) : aliveN vs ≤ unitsV vs := by unfold aliveN unitsV; omega
theorem there_le {S : SL} : thereS S ≤ unitsS S := by
  induction S with
  | nil => simp [thereS, unitsS]
  | cons y r ih =>
    unfold unitsS thereS at ih ⊢
    rw [List.map_cons, List.sum_cons, List.map_cons, List.sum_cons]
    have := alive_le y.2
    omega
end Go.Proofs.YtoccbnhahaoeiaaGreat.V.S
namespace Go.Proofs.YtoccbnhahaoeiaaGreat.V
open Go
set_option linter.unusedVariables false
set_option linter.unusedSimpArgs false
/-- A slice over the beginning of what another one owns. -/
theorem own_pre {α : Type} {f : α → List Value} {kk : Nat} {e : TypeId} {h : H} {r a : Sl} {L : List α} {n : Nat} (hf : ∀ x, (f x).length = kk) (hk : 0 < kk) (w : Owns h r e kk (L.flatMap f)) (hp : a.ptr = r.ptr) (hc : a.cap = r.cap) (ha : a.len = n) (hn : n ≤ L.length) : Owns h a e kk ((L.take n).flatMap f) := by
  have hl := own_len hf hk w
  obtain ⟨q0, ⟨q1, q2, q3⟩ | ⟨b', c', q1, q2, q3, q4, q5, q6⟩⟩ := w
  · have : n = 0 := by omega
    subst this
    exact ⟨by simp [ha], .inl ⟨hp.trans q1, ha, hc.trans q3⟩⟩
  · refine ⟨by rw [flat_len f kk hf, List.length_take, Nat.min_eq_left hn, ha], .inr ⟨b', c', hp.trans q1, q2, by rw [hc]; exact q3, by rw [ha, hc]; omega, by rw [hc]; exact q5, ?_⟩⟩
    have h1 : L.flatMap f = (L.take n).flatMap f ++ (L.drop n).flatMap f := by rw [← List.flatMap_append, List.take_append_drop]
    have h2 := congrArg (List.take ((L.take n).flatMap f).length) q6
    rw [List.take_take, Nat.min_eq_left (by rw [h1, List.length_append]; omega)] at h2
    rw [h2, h1, List.take_left]
section
variable {α : Type} {f : α → List Value} {kk : Nat} {e : TypeId} {n : Nat} {h0 h h' : H} {A M : Nat → Sl} {D T : Nat → List α}
end
end Go.Proofs.YtoccbnhahaoeiaaGreat.V
namespace Go.Proofs.YtoccbnhahaoeiaaGreat.V.S
open Go Go.Proofs.YtoccbnhahaoeiaaGreat.V
set_option linter.unusedVariables false
set_option linter.unusedSimpArgs false
set_option maxRecDepth 20000
theorem key_spec {h : H} {c : Cel} {Q : ByteArray → Int → H → Prop} (k0 : okC c ≠ 0 → ∀ h', Ext h h' → Q ⟨#[]⟩ (okC c) h') (k1 : okC c = 0 → ∀ h', Ext h h' → Q (keyB c) 0 h') : F.shard_key c h Q := by
  unfold F.shard_key
  refine new_of fun n h1 hn b1 e1 s1 => ?_
  have c0 : cellH h1 ⟨n, 0, none⟩ = some (.int .i64 c.View) := Blk.cells b1 0 _ rfl
  have c1 : cellH h1 ⟨n, 1, none⟩ = some (.string c.Key) := Blk.cells b1 1 _ rfl
  have c2 : cellH h1 ⟨n, 2, none⟩ = some (.int .i64 c.Start) := Blk.cells b1 2 _ rfl
  have j1 : okC c = 0 → F.shard_key.j1 Q ⟨n, 0, none⟩ h1 := fun g => by
    unfold F.shard_key.j1
    refine ⟨c, Blk.cells b1, Key_spec (fun g2 => absurd (ok_may g) g2) fun _ h2 e2 => k1 g h2 (e1.trans e2)⟩
  have j4 : ∀ b : Bool, (b = true → okC c = 22) → (b = false → okC c = 0) → F.shard_key.j4 Q ⟨n, 0, none⟩ b h1 := fun b q1 q2 => by
    unfold F.shard_key.j4
    refine ⟨fun g => ?_, fun g => j1 (q2 g)⟩
    have := k0 (by rw [q1 g]; decide) h1 e1
    rw [q1 g] at this; exact this
  have j3 : ∀ b : Bool, (b = true → okC c = 21) → (b = false → okC c = if c.Start < -2305843009213693952 ∨ c.Start > 2305843009213693952 then 22 else 0) → F.shard_key.j3 Q ⟨n, 0, none⟩ b h1 := fun b q1 q2 => by
    unfold F.shard_key.j3
    simp only [add_lit, Nat.zero_add, Nat.add_zero]
    refine ⟨fun g => ?_, fun g => ?_⟩
    · have := k0 (by rw [q1 g]; decide) h1 e1
      rw [q1 g] at this; exact this
    · have hq := q2 g
      rw [ldI_iff c2]
      refine ⟨fun g2 => j4 true (fun _ => ?_) fun h => (by cases h), fun g2 => ?_⟩
      · have g2 := of_decide_eq_true g2
        rw [hq, if_pos (.inl g2)]
      · have g2 := of_decide_eq_false g2
        rw [ldI_iff c2]
        refine j4 _ (fun g3 => ?_) fun g3 => ?_
        · have g3 := of_decide_eq_true g3
          rw [hq, if_pos (.inr g3)]
        · have g3 := of_decide_eq_false g3
          rw [hq, if_neg (by omega)]
  have j2 : ∀ b : Bool, (b = true → okC c = 23) → (b = false → okC c = if (c.Key.size : Int) < 1 ∨ (c.Key.size : Int) > 32 then 21 else if c.Start < -2305843009213693952 ∨ c.Start > 2305843009213693952 then 22 else 0) → F.shard_key.j2 Q ⟨n, 0, none⟩ b h1 := fun b q1 q2 => by
    unfold F.shard_key.j2
    simp only [add_lit, Nat.zero_add, Nat.add_zero]
    refine ⟨fun g => ?_, fun g => ?_⟩
    · have := k0 (by rw [q1 g]; decide) h1 e1
      rw [q1 g] at this; exact this
    · have hq := q2 g
      rw [ldS_iff c1]
      refine ⟨fun g2 => j3 true (fun _ => ?_) fun h => (by cases h), fun g2 => ?_⟩
      · have g2 := of_decide_eq_true g2
        rw [hq, if_pos (.inl g2)]
      · have g2 := of_decide_eq_false g2
        rw [ldS_iff c1]
        refine j3 _ (fun g3 => ?_) fun g3 => ?_
        · have g3 := of_decide_eq_true g3
          rw [hq, if_pos (.inr g3)]
        · have g3 := of_decide_eq_false g3
          rw [hq, if_neg (by omega)]
  simp only [add_lit, Nat.zero_add, Nat.add_zero]
  rw [ldI_iff c0]
  refine ⟨fun g2 => j2 true (fun _ => ?_) fun h => (by cases h), fun g2 => ?_⟩
  · have g2 := of_decide_eq_true g2
    unfold okC; rw [if_pos (.inl g2)]
  · have g2 := of_decide_eq_false g2
    rw [ldI_iff c0]
    refine j2 _ (fun g3 => ?_) fun g3 => ?_
    · have g3 := of_decide_eq_true g3
      unfold okC; rw [if_pos (.inr g3)]
    · have g3 := of_decide_eq_false g3
      unfold okC; rw [if_neg (by omega)]
structure Rec where
  c : Cel
  vs : List Ver
  p : Nat
  B : Option Nat
abbrev toS (Z : List Rec) : SL := Z.map fun r => (r.c, r.vs)
/-- The kinds of a shard's blocks. -/
def ShE (e : TypeId) : Prop := e = tn_shard_Shard ∨ e = tn_table_Table_chain_Chain_api_Agg ∨ e = tn_table_place_chain_Chain_api_Agg ∨ e = tn_chain_Chain_api_Agg ∨ e = tn_chain_version_api_Agg
def ShTy (h : H) (b : Nat) : Prop := ∃ e, ShE e ∧ WB h b e
structure SZG (W : List Ver → Prop) (h : H) (n tn : Nat) (rs es : Sl) (T : Tb (Option Addr)) (Z : List Rec) (slots : Nat) (R : Nat → Prop) (u t : Int) : Prop where
  sb : Blk h n #[.int .i64 u, .int .i64 t, .int .i64 (slots : Int), .pointer (some ⟨tn, 0, none⟩)] tn_shard_Shard
  th : P.TH h tn rs es T
  ok : TOk T
  ch : ∀ r ∈ Z, C.Ch h r.p r.vs r.B
  get : ∀ r ∈ Z, getM T (keyB r.c) = some (some ⟨r.p, 0, none⟩)
  all : ∀ k v, getM T k = some v → ∃ r ∈ Z, kL k = keyL r.c
  srt : SortK Rec.c Z
  pd : Z.Pairwise fun a b => a.p ≠ b.p
  bd : Z.Pairwise fun a b => ∀ x, a.B = some x → b.B ≠ some x
  wf : ∀ r ∈ Z, okC r.c = 0 ∧ W r.vs
  us : unitsS (toS Z) ≤ slots
  sl : slots ≤ 1048576
  rl : T.row.length ≤ 4200000
  rn : R n
  rt : R tn
  rr : ∀ b, rs.blk = some b → R b
  re : ∀ b, es.blk = some b → R b
  rp : ∀ r ∈ Z, R r.p ∧ ∀ x, r.B = some x → R x
abbrev SZ := SZG VOk
theorem toS_ok {h : H} {n tn : Nat} {rs es : Sl} {T : Tb (Option Addr)} {Z : List Rec} {slots : Nat} {R : Nat → Prop} {u t : Int} (z : SZ h n tn rs es T Z slots R u t) : SOk (toS Z) := by
  refine ⟨?_, fun x hx => ?_⟩
  · unfold SortS SortK; rw [List.pairwise_map]; exact z.srt
  · obtain ⟨r, hr, rfl⟩ := List.mem_map.1 hx
    exact z.wf r hr
section
variable {W : List Ver → Prop} {h h' : H} {n tn : Nat} {rs es : Sl} {T : Tb (Option Addr)} {Z : List Rec} {slots : Nat} {R : Nat → Prop} {u t : Int}
theorem ch_typ {p : Nat} {L : List Ver} {B : Option Nat} (c : C.Ch h p L B) : WB h p tn_chain_Chain_api_Agg ∧ ∀ b, B = some b → WB h b tn_chain_version_api_Agg := by
  obtain ⟨s, h1, h2, h3, h4⟩ := c
  exact ⟨⟨_, h1⟩, fun b hb => h2.typ (by rw [h3]; exact hb)⟩
/-- Blocks of others are written: the shard stays. -/
theorem SZG.keep {S : Nat → Prop} (z : SZG W h n tn rs es T Z slots R u t) (o : Only S h h') (hn : ∀ b, R b → ShTy h b → ¬ S b) : SZG W h' n tn rs es T Z slots R u t := by
  refine { z with sb := o.block z.sb (hn n z.rn ⟨_, .inl rfl, _, z.sb⟩), th := z.th.only o fun b hb => ?_, ch := fun r hr => ?_ }
  · rcases hb with hb | hb | hb
    · subst hb; exact hn _ z.rt ⟨_, .inr (.inl rfl), _, z.th.tb⟩
    · exact hn _ (z.rr b hb) ⟨_, .inr (.inr (.inl rfl)), z.th.row.typ hb⟩
    · exact hn _ (z.re b hb) ⟨_, .inr (.inr (.inl rfl)), z.th.el.typ hb⟩
  · have := ch_typ (z.ch r hr)
    exact (z.ch r hr).only o (hn _ (z.rp r hr).1 ⟨_, .inr (.inr (.inr (.inl rfl))), this.1⟩) fun b hb => hn _ ((z.rp r hr).2 b hb) ⟨_, .inr (.inr (.inr (.inr rfl))), this.2 b hb⟩
theorem SZG.ext (z : SZG W h n tn rs es T Z slots R u t) (e : Ext h h') : SZG W h' n tn rs es T Z slots R u t := z.keep e fun _ _ _ f => f
theorem SZG.len (z : SZG VOk h n tn rs es T Z slots R u t) : Z.length ≤ 1048576 := by
  have h1 := len_units (toS_ok z)
  have h2 := z.us
  have h3 := z.sl
  rw [show (toS Z).length = Z.length from List.length_map _] at h1
  omega
theorem SZG.vlen (z : SZG W h n tn rs es T Z slots R u t) {r : Rec} (hr : r ∈ Z) : r.vs.length ≤ 1048576 := by
  have h1 := ver_units (S := toS Z) (x := (r.c, r.vs)) (List.mem_map.2 ⟨r, hr, rfl⟩)
  have h2 := z.us
  have h3 := z.sl
  simp only at h1
  omega
theorem SZG.cs0 (z : SZG W h n tn rs es T Z slots R u t) : cellH h ⟨n, 0, none⟩ = some (.int .i64 u) := z.sb.cell rfl
theorem SZG.cs1 (z : SZG W h n tn rs es T Z slots R u t) : cellH h ⟨n, 1, none⟩ = some (.int .i64 t) := z.sb.cell rfl
theorem SZG.cs2 (z : SZG W h n tn rs es T Z slots R u t) : cellH h ⟨n, 2, none⟩ = some (.int .i64 (slots : Int)) := z.sb.cell rfl
theorem SZG.cs3 (z : SZG W h n tn rs es T Z slots R u t) : cellH h ⟨n, 3, none⟩ = some (.pointer (some ⟨tn, 0, none⟩)) := z.sb.cell rfl
/-- What lies under a cell's key. -/
theorem SZG.look (z : SZG W h n tn rs es T Z slots R u t) {c : Cel} (hc : okC c = 0) : getM T (keyB c) = (getK Rec.c Z c).map fun r => some ⟨r.p, 0, none⟩ := by
  cases hg : getK Rec.c Z c with
  | some r =>
    obtain ⟨h1, h2⟩ := getK_some hg
    subst h2
    exact z.get r h1
  | none =>
    cases hm : getM T (keyB c) with
    | none => rfl
    | some v =>
      obtain ⟨r, hr, he⟩ := z.all _ _ hm
      rw [kL_keyB] at he
      exact absurd (key_inj hc (z.wf r hr).1 he).symm (getK_none hg r hr)
theorem SZG.getS (z : SZG W h n tn rs es T Z slots R u t) (c : Cel) : S.getS (toS Z) c = (getK Rec.c Z c).map (·.vs) := by
  show (getK _ (Z.map _) c).map _ = _
  rw [map_get (key := Rec.c) (key' := fun x : Cel × List Ver => x.1) (fun r : Rec => (r.c, r.vs)) (fun _ => rfl), Option.map_map]
  rfl
theorem key_small {c : Cel} (h : okC c = 0) : SmallK (keyB c) := by
  have := key_size h
  show (keyL c).toArray.size ≤ _
  simp; omega
end
def SH (h : H) (n : Nat) (S : SL) (slots : Nat) (R : Nat → Prop) : Prop := ∃ tn rs es T Z, toS Z = S ∧ SZ h n tn rs es T Z slots R (unitsS (toS Z) : Int) (thereS (toS Z) : Int)
section
variable {h h' : H} {n : Nat} {S : SL} {slots : Nat} {R : Nat → Prop}
theorem SH.keep {P : Nat → Prop} (s : SH h n S slots R) (o : Only P h h') (hn : ∀ b, R b → ShTy h b → ¬ P b) : SH h' n S slots R := by
  obtain ⟨tn, rs, es, T, Z, h1, z⟩ := s
  exact ⟨tn, rs, es, T, Z, h1, z.keep o hn⟩
theorem SH.ext (s : SH h n S slots R) (e : Ext h h') : SH h' n S slots R := s.keep e fun _ _ _ f => f
theorem SH.ok (s : SH h n S slots R) : SOk S := by
  obtain ⟨tn, rs, es, T, Z, rfl, z⟩ := s
  exact toS_ok z
theorem SH.us (s : SH h n S slots R) : unitsS S ≤ slots ∧ slots ≤ 1048576 := by
  obtain ⟨tn, rs, es, T, Z, rfl, z⟩ := s
  exact ⟨z.us, z.sl⟩
/-- A slice of another kind is written. -/
theorem SH.oth (s : SH h n S slots R) {t : Sl} {e : TypeId} {k : Nat} {cs : List Value} (o : Only (fun b => t.blk = some b) h h') (w : Owns h t e k cs) (he : ¬ ShE e) : SH h' n S slots R :=
  s.keep o fun b _ ⟨e', h1, c', h2⟩ hb => he (by
    obtain ⟨c, h3⟩ := w.typ hb
    have := h3.symm.trans h2
    simp at this
    rw [this.2]; exact h1)
/-- What a shard's methods turn: blocks of its kinds, of its own. -/
abbrev SOnly (R : Nat → Prop) (h h' : H) : Prop := Only (fun b => R b ∧ ShTy h b) h h'
theorem ShTy.back {S : Nat → Prop} (o : Only S h h') {b : Nat} (hb : b < h.size) (hs : ¬ S b) (t : ShTy h' b) : ShTy h b := by
  obtain ⟨e, h1, c, h2⟩ := t
  exact ⟨e, h1, c, (o.same b hb hs).symm.trans h2⟩
theorem SOnly.trans {h'' : H} (a : SOnly R h h') (b : SOnly R h' h'') : SOnly R h h'' := Only.trans a b fun m hm ⟨h1, h2⟩ => by
  by_cases hs : ShTy h m
  · exact ⟨h1, hs⟩
  · exact ⟨h1, ShTy.back a hm (fun h => hs h.2) h2⟩
theorem SOnly.ext {h'' : H} (a : SOnly R h h') (b : Ext h' h'') : SOnly R h h'' := Only.ext a b
theorem SOnly.of (e : Ext h h') : SOnly R h h' := Ext.only e
/-- Slices of other kinds stay. -/
theorem SOnly.owns (a : SOnly R h h') {t : Sl} {e : TypeId} {k : Nat} {cs : List Value} (w : Owns h t e k cs) (he : ¬ ShE e) : Owns h' t e k cs := w.only a fun b hb ⟨_, e', h1, c', h2⟩ => he (by
  obtain ⟨c, h3⟩ := w.typ hb
  have := h3.symm.trans h2
  simp at this
  rw [this.2]; exact h1)
theorem SOnly.base {h0 : H} (e : Ext h0 h) (a : SOnly R h h') (hR : ∀ b, R b → h0.size ≤ b) : Ext h0 h' := e.step a fun m hm hb => by have := hR m hb.1; omega
end
theorem Units_spec {h : H} {n : Nat} {S : SL} {slots : Nat} {R : Nat → Prop} {Q : Int → H → Prop} (s : SH h n S slots R) (k : Q (unitsS S : Int) h) : F.shard_counts_Units (some ⟨n, 0, none⟩) h Q := by
  obtain ⟨tn, rs, es, T, Z, rfl, z⟩ := s
  unfold F.shard_counts_Units
  simp only [nn_some, add_lit, Nat.add_zero]
  rw [ldI_iff z.cs0]; exact k
theorem Cells_spec {h : H} {n : Nat} {S : SL} {slots : Nat} {R : Nat → Prop} {Q : Int → H → Prop} (s : SH h n S slots R) (k : Q (thereS S : Int) h) : F.shard_counts_Cells (some ⟨n, 0, none⟩) h Q := by
  obtain ⟨tn, rs, es, T, Z, rfl, z⟩ := s
  unfold F.shard_counts_Cells
  simp only [nn_some, add_lit, Nat.zero_add]
  rw [ldI_iff z.cs1]; exact k
theorem New_spec {h : H} {m : Int} {R : Nat → Prop} {Q : Option Addr → Int → H → Prop} (k0 : (m < 2 ∨ m > 1048576) → Q none 1 h)
    (hR : ∀ b, h.size ≤ b → R b) (k1 : 2 ≤ m → m ≤ 1048576 → ∀ h' n, SH h' n [] m.toNat R → Ext h h' → h.size ≤ n → Q (some ⟨n, 0, none⟩) 0 h') : F.shard_New m h Q := by
  have j1 : 2 ≤ m → m ≤ 1048576 → F.shard_New.j1 Q m h := fun h1 h2 => by
    unfold F.shard_New.j1
    refine P.New_spec fun h3 tn rs th e3 hft => ?_
    refine new_of fun n h4 hn b4 e4 s4 => ?_
    have g := new_ok (P.nilA)
    have e3s := e3.size
    refine k1 h1 h2 h4 n ⟨tn, rs, ⟨none, 0, 0⟩, newT P.nilA, [], rfl, ?_⟩ (e3.trans e4) (by omega)
    refine { sb := ?_, th := th.ext e4, ok := g.1, ch := (fun r hr => by cases hr), get := (fun r hr => by cases hr), all := fun k v hk => ?_, srt := List.Pairwise.nil, pd := List.Pairwise.nil, bd := List.Pairwise.nil, wf := (fun r hr => by cases hr), us := Nat.zero_le _, sl := by omega, rl := (by show (newT P.nilA).row.length ≤ _; simp [newT]), rn := hR _ (by omega), rt := hR _ (hft _ (.inl rfl)), rr := fun b hb => hR _ (hft _ (.inr (.inl hb))), re := fun b hb => hR _ (hft _ (.inr (.inr hb))), rp := (fun r hr => by cases hr) }
    · have hm : ((m.toNat : Nat) : Int) = m := by omega
      rw [hm]; exact b4
    · rw [g.2.2] at hk; cases hk
  unfold F.shard_New F.shard_New.j2
  refine ⟨fun g => ⟨fun _ => k0 (.inl (of_decide_eq_true g)), fun h => by cases h⟩, fun g => ⟨fun g2 => k0 (.inr (of_decide_eq_true g2)), fun g2 => ?_⟩⟩
  exact j1 (by have := of_decide_eq_false g; omega) (by have := of_decide_eq_false g2; omega)
/-- A cell's chain. -/
theorem chain_spec {h : H} {n tn : Nat} {rs es : Sl} {T : Tb (Option Addr)} {Z : List Rec} {slots : Nat} {R : Nat → Prop} {u t : Int} {c : Cel} {Q : Option Addr → H → Prop} (z : SZ h n tn rs es T Z slots R u t)
    (k0 : (okC c ≠ 0 ∨ getK Rec.c Z c = none) → ∀ h', Ext h h' → Q none h') (k1 : okC c = 0 → ∀ r, getK Rec.c Z c = some r → ∀ h', Ext h h' → Q (some ⟨r.p, 0, none⟩) h') : F.shard_Shard_chain (some ⟨n, 0, none⟩) c h Q := by
  unfold F.shard_Shard_chain
  refine new_of fun m h1 hm b1 e1 s1 => ⟨c, Blk.cells b1, ?_⟩
  refine key_spec (fun g h2 e2 => ⟨fun _ => k0 (.inl g) h2 (e1.trans e2), fun g2 => absurd (by simpa using g2) g⟩) fun g h2 e2 => ⟨fun g2 => by simp at g2, fun _ => ?_⟩
  have z2 := z.ext (e1.trans e2)
  simp only [nn_some, add_lit, Nat.zero_add]
  rw [ldP_iff z2.cs3]
  refine P.Get_spec z2.th z2.ok (key_small g) fun h3 e3 => ?_
  rw [z2.look g]
  have e13 := (e1.trans e2).trans e3
  cases hg : getK Rec.c Z c with
  | none => exact k0 (.inr hg) h3 e13
  | some r => exact k1 g r hg h3 e13
theorem at_none {h : H} {e : Int} {Q : S_api_Agg → Bool → H → Prop} (k : ∀ h', Ext h h' → Q zA false h') : F.shard_at none e h Q := by
  unfold F.shard_at
  refine new_of fun m h1 hm b1 e1 s1 => ⟨fun _ => ?_, fun g => by cases g⟩
  have b1' : Blk h1 m zA.cells.toArray tn_api_Agg := b1
  refine C.st_agg b1' (d := zA) fun h2 b2 o2 s2 => ⟨zA, b2.cells, k h2 (e1.step o2 fun x hx hb => by omega)⟩
theorem at_spec {h : H} {p : Nat} {vs : List Ver} {B : Option Nat} {e : Int} {Q : S_api_Agg → Bool → H → Prop} (c : C.Ch h p vs B) (hr : C.Rise vs) (hl : vs.length < 1073741824) (k : ∀ h', Ext h h' → Q (atV vs e).1 (atV vs e).2 h') : F.shard_at (some ⟨p, 0, none⟩) e h Q := by
  unfold F.shard_at
  unfold atV at k
  refine new_of fun m h1 hm b1 e1 s1 => ⟨fun g => by simp at g, fun _ => ⟨fun g => ?_, fun g => ?_⟩⟩
  · have g : e = 0 := by simpa using g
    rw [if_pos g] at k
    have b1' : Blk h1 m zA.cells.toArray tn_api_Agg := b1
    refine C.Newest_spec (c.ext e1) (by omega) fun h2 e2 => ?_
    refine new_of fun m3 h3 hm3 b3 e3 s3 => ?_
    have b3' : Blk h3 m3 zA.cells.toArray tn_api_Agg := b3
    refine C.st_agg b3' fun h4 b4 o4 s4 => ⟨_, b4.cells, ?_⟩
    have e2s := e2.size
    have e14 : Ext h1 h4 := (e2.trans e3).step o4 fun x hx hb => by omega
    have b14 := e14.block b1' fun f => f
    refine C.st_agg b14 fun h5 b5 o5 s5 => ⟨_, b5.cells, ?_⟩
    exact k h5 ((e1.trans e14).step o5 fun x hx hb => by omega)
  · have g : e ≠ 0 := by simpa using g
    rw [if_neg g] at k
    have b1' : Blk h1 m zA.cells.toArray tn_api_Agg := b1
    refine C.At_spec (c.ext e1) hr hl fun h2 e2 => ?_
    refine C.st_agg (e2.block b1' fun f => f) fun h5 b5 o5 s5 => ⟨_, b5.cells, ?_⟩
    exact k h5 ((e1.trans e2).step o5 fun x hx hb => by omega)
theorem At_spec {h : H} {n : Nat} {S : SL} {slots : Nat} {R : Nat → Prop} {c : Cel} {e : Int} {Q : S_api_Agg → H → Prop} (s : SH h n S slots R) (k : ∀ h', Ext h h' → Q (atS S c e) h') : F.shard_Shard_At (some ⟨n, 0, none⟩) c e h Q := by
  obtain ⟨tn, rs, es, T, Z, rfl, z⟩ := s
  unfold F.shard_Shard_At
  refine new_of fun m h1 hm b1 e1 s1 => new_of fun m2 h2 hm2 b2 e2 s2 => ⟨c, (Blk.cells b1).ext e2, ?_⟩
  have e12 := e1.trans e2
  have b2' : Blk h2 m2 zA.cells.toArray tn_api_Agg := b2
  have z2 := z.ext e12
  have tail : ∀ (a : S_api_Agg) (h3 : H), Ext h2 h3 → a = atS (toS Z) c e → new h3 (((⟨0, 0, 0, 0⟩ : S_api_Agg) : S_api_Agg).cells.toArray) tn_api_Agg fun a13 h12 => stH h12 a13 a.cells fun h14 => ld_S_api_Agg h14 a13 fun y15 => stH h14 ⟨m2, 0, none⟩ y15.cells fun h17 => ld_S_api_Agg h17 ⟨m2, 0, none⟩ fun y18 => Q y18 h17 := fun a h3 e3 ha => by
    refine new_of fun m4 h4 hm4 b4 e4 s4 => ?_
    have b4' : Blk h4 m4 zA.cells.toArray tn_api_Agg := b4
    refine C.st_agg b4' fun h5 b5 o5 s5 => ⟨_, b5.cells, ?_⟩
    have z3 := e3.size
    have e25 : Ext h2 h5 := (e3.trans e4).step o5 fun x hx hb => by omega
    refine C.st_agg (e25.block b2' fun f => f) fun h6 b6 o6 s6 => ⟨_, b6.cells, ?_⟩
    rw [ha]
    exact k h6 ((e12.trans e25).step o6 fun x hx hb => by have := e1.size; omega)
  refine chain_spec z2 (fun g h3 e3 => at_none fun h4 e4 => tail _ h4 (e3.trans e4) ?_) fun g r hr h3 e3 => ?_
  · unfold atS
    split
    · rfl
    · rename_i g2
      rcases g with g | g
      · exact absurd g g2
      · rw [z.getS, g]; rfl
  · obtain ⟨h5, h6⟩ := getK_some hr
    refine at_spec ((z2.ch r h5).ext e3) (z.wf r h5).2.rise (by have := z.vlen h5; omega) fun h4 e4 => tail _ h4 (e3.trans e4) ?_
    unfold atS
    rw [if_neg (fun h => h g), z.getS, hr]; rfl
theorem Get_spec {h : H} {n : Nat} {S : SL} {slots : Nat} {R : Nat → Prop} {c : Cel} {Q : S_api_Agg → H → Prop} (s : SH h n S slots R) (k : ∀ h', Ext h h' → Q (atS S c 0) h') : F.shard_Shard_Get (some ⟨n, 0, none⟩) c h Q := by
  unfold F.shard_Shard_Get
  refine new_of fun m h1 hm b1 e1 s1 => new_of fun m2 h2 hm2 b2 e2 s2 => ⟨c, (Blk.cells b1).ext e2, ?_⟩
  have e12 := e1.trans e2
  have b2' : Blk h2 m2 zA.cells.toArray tn_api_Agg := b2
  refine At_spec (s.ext e12) fun h3 e3 => ?_
  refine C.st_agg (e3.block b2' fun f => f) fun h6 b6 o6 s6 => ⟨_, b6.cells, ?_⟩
  exact k h6 ((e12.trans e3).step o6 fun x hx hb => by have := e1.size; omega)
theorem need_spec {h : H} {n tn : Nat} {rs es : Sl} {T : Tb (Option Addr)} {Z : List Rec} {slots : Nat} {R : Nat → Prop} {u t : Int} {c : Cel} {e : Int} {Q : Int → H → Prop} (z : SZ h n tn rs es T Z slots R u t) (k : ∀ h', Ext h h' → Q (needS (toS Z) e c) h') : F.shard_Shard_need (some ⟨n, 0, none⟩) e c h Q := by
  unfold F.shard_Shard_need
  unfold needS at k
  refine new_of fun m h1 hm b1 e1 s1 => ⟨c, Blk.cells b1, ?_⟩
  refine key_spec (fun g h2 e2 => ⟨fun _ => ?_, fun g2 => absurd (by simpa using g2) g⟩) fun g h2 e2 => ⟨fun g2 => by simp at g2, fun _ => ⟨c, (Blk.cells b1).ext e2, ?_⟩⟩
  · rw [if_pos g] at k; exact k h2 (e1.trans e2)
  rw [if_neg (fun h => h g)] at k
  have z2 := z.ext (e1.trans e2)
  refine chain_spec z2 (fun g2 h3 e3 => ⟨fun _ => ?_, fun g3 => by simp at g3⟩) fun _ r hr h3 e3 => ⟨fun g3 => by simp at g3, fun _ => ?_⟩
  · have : getK Rec.c Z c = none := by
      rcases g2 with g2 | g2
      · exact absurd g g2
      · exact g2
    rw [z.getS, this] at k
    exact k h3 ((e1.trans e2).trans e3)
  · obtain ⟨h5, h6⟩ := getK_some hr
    rw [z.getS, hr] at k
    refine C.Newest_spec ((z2.ch r h5).ext e3) (by have := z.vlen h5; omega) fun h4 e4 => ?_
    refine new_of fun m5 h5' hm5 b5 e5 s5 => ?_
    have b5' : Blk h5' m5 zA.cells.toArray tn_api_Agg := b5
    refine C.st_agg b5' fun h6' b6 o6 s6 => ?_
    have ee : Ext h h6' := ((((e1.trans e2).trans e3).trans e4).trans e5).step o6 fun x hx hb => by
      have := (((e1.trans e2).trans e3).trans e4).size
      omega
    have k := k h6' ee
    simp only [Option.map_some, needV] at k
    refine ⟨fun g3 => ?_, fun g3 => ?_⟩
    · rw [if_pos (of_decide_eq_true g3)] at k; exact k
    · rw [if_neg (of_decide_eq_false g3)] at k
      rw [show alive r.vs = (C.newestM r.vs).2.2 from rfl] at k
      generalize (C.newestM r.vs).2.2 = A at k ⊢
      generalize (C.newestM r.vs).2.1 = E at k ⊢
      unfold F.shard_Shard_need.j1 F.shard_Shard_need.j2
      by_cases hE : E = e
      · subst hE; cases A <;> simp at k ⊢ <;> exact k
      · cases A <;> simp [hE] at k ⊢ <;> exact k
end Go.Proofs.YtoccbnhahaoeiaaGreat.V.S
namespace Go.Proofs.YtoccbnhahaoeiaaGreat.V.S
open Go Go.Proofs.YtoccbnhahaoeiaaGreat.V
set_option linter.unusedVariables false
set_option linter.unusedSimpArgs false
set_option maxRecDepth 20000
theorem cells_l {h : H} {n o : Nat} {xs ys : List Value} (c : Cells h ⟨n, o, none⟩ (xs ++ ys)) : Cells h ⟨n, o, none⟩ xs := fun i v hv => c i v (by rw [List.getElem?_append_left (List.getElem?_eq_some_iff.1 hv).1]; exact hv)
theorem cells_r {h : H} {n o : Nat} {xs ys : List Value} (c : Cells h ⟨n, o, none⟩ (xs ++ ys)) : Cells h ⟨n, o + xs.length, none⟩ ys := fun i v hv => by
  have := c (xs.length + i) v (by rw [List.getElem?_append_right (by omega), Nat.add_sub_cancel_left]; exact hv)
  rw [add_lit] at this ⊢
  rwa [Nat.add_assoc]
theorem pw_two {α : Type} {P : α → α → Prop} (sym : ∀ x y, P x y → P y x) : ∀ {Z : List α}, Z.Pairwise P → ∀ {x y : α}, x ∈ Z → y ∈ Z → x ≠ y → P x y
  | [], _, _, _, hx, _, _ => by cases hx
  | z :: r, h, x, y, hx, hy, hne => by
    have h' := List.pairwise_cons.1 h
    rcases List.mem_cons.1 hx with e | e <;> rcases List.mem_cons.1 hy with e2 | e2
    · exact absurd (e.trans e2.symm) hne
    · rw [e]; exact h'.1 y e2
    · rw [e2]; exact sym _ _ (h'.1 x e)
    · exact pw_two sym h'.2 e e2 hne
theorem nodup_lenG {α : Type} [DecidableEq α] : ∀ {E L : List α}, E.Nodup → (∀ e ∈ E, e ∈ L) → E.length ≤ L.length
  | [], L, _, _ => Nat.zero_le _
  | e :: E, L, h, hs => by
    rw [List.nodup_cons] at h
    have he := hs e (by simp)
    have := nodup_lenG (E := E) (L := L.erase e) h.2 fun x hx => (List.mem_erase_of_ne (show x ≠ e from fun hxe => h.1 (by rw [← hxe]; exact hx))).2 (hs x (by simp [hx]))
    rw [List.length_erase_of_mem he] at this
    have hpos : 0 < L.length := List.length_pos_of_mem he
    simp only [List.length_cons]; omega
theorem ft_ty {h : H} {tn : Nat} {rs es : Sl} {T : Tb (Option Addr)} (th : P.TH h tn rs es T) {b : Nat} (hb : FT tn rs es b) : ∃ e, WB h b e ∧ (e = tn_table_Table_chain_Chain_api_Agg ∨ e = tn_table_place_chain_Chain_api_Agg) := by
  rcases hb with hb | hb | hb
  · subst hb; exact ⟨_, ⟨_, th.tb⟩, .inl rfl⟩
  · exact ⟨_, th.row.typ hb, .inr rfl⟩
  · exact ⟨_, th.el.typ hb, .inr rfl⟩
section
variable {W : List Ver → Prop} {h h' : H} {n tn : Nat} {rs es : Sl} {T : Tb (Option Addr)} {Z : List Rec} {slots : Nat} {R : Nat → Prop} {u t : Int}
theorem SZG.n_ft (z : SZG W h n tn rs es T Z slots R u t) {b : Nat} (hb : FT tn rs es b) : b ≠ n := by
  obtain ⟨e, h1, h2⟩ := ft_ty z.th hb
  exact h1.ne ⟨_, z.sb⟩ (by rcases h2 with rfl | rfl <;> decide)
theorem SZG.ch_ft (z : SZG W h n tn rs es T Z slots R u t) {r : Rec} (hr : r ∈ Z) {b : Nat} (hb : FT tn rs es b) : b ≠ r.p ∧ r.B ≠ some b := by
  obtain ⟨e, h1, h2⟩ := ft_ty z.th hb
  have h3 := ch_typ (z.ch r hr)
  exact ⟨h1.ne h3.1 (by rcases h2 with rfl | rfl <;> decide), fun hB => h1.ne (h3.2 b hB) (by rcases h2 with rfl | rfl <;> decide) rfl⟩
theorem SZG.n_ch (z : SZG W h n tn rs es T Z slots R u t) {r : Rec} (hr : r ∈ Z) : r.p ≠ n ∧ r.B ≠ some n := by
  have h3 := ch_typ (z.ch r hr)
  exact ⟨h3.1.ne ⟨_, z.sb⟩ (by decide), fun hB => (h3.2 n hB).ne ⟨_, z.sb⟩ (by decide) rfl⟩
theorem SZG.p_B (z : SZG W h n tn rs es T Z slots R u t) {r r' : Rec} (hr : r ∈ Z) (hr' : r' ∈ Z) : r'.B ≠ some r.p := fun hB =>
  ((ch_typ (z.ch r' hr')).2 _ hB).ne (ch_typ (z.ch r hr)).1 (by decide) rfl
theorem SZG.f_lt (z : SZG W h n tn rs es T Z slots R u t) : n < h.size ∧ (∀ b, FT tn rs es b → b < h.size) ∧ ∀ r ∈ Z, r.p < h.size ∧ ∀ b, r.B = some b → b < h.size :=
  ⟨block_lt z.sb, z.th.lt, fun r hr => ⟨(z.ch r hr).lt, (z.ch r hr).ltB⟩⟩
theorem SZG.stN (z : SZG W h n tn rs es T Z slots R u t) {u' t' : Int} (o : Only (· = n) h h') (b : Blk h' n #[.int .i64 u', .int .i64 t', .int .i64 (slots : Int), .pointer (some ⟨tn, 0, none⟩)] tn_shard_Shard) : SZG W h' n tn rs es T Z slots R u' t' ∧ SOnly R h h' := by
  refine ⟨{ z with sb := b, th := z.th.only o fun b hb => z.n_ft hb, ch := fun r hr => (z.ch r hr).only o (z.n_ch hr).1 fun b hb e => (z.n_ch hr).2 (by rw [hb, e]) }, o.mono fun b _ e => ?_⟩
  subst e
  exact ⟨z.rn, _, .inl rfl, _, z.sb⟩
theorem SZG.st0 (z : SZG W h n tn rs es T Z slots R u t) {x : Int} {K : H → Prop} (k : ∀ h', SZG W h' n tn rs es T Z slots R x t → SOnly R h h' → K h') : stH h ⟨n, 0, none⟩ [.int .i64 x] K :=
  stH_of z.sb (by simp) fun h' q1 q2 q3 => by
    have := z.stN (u' := x) (t' := t) q2 q1
    exact k h' this.1 this.2
theorem SZG.st1 (z : SZG W h n tn rs es T Z slots R u t) {x : Int} {K : H → Prop} (k : ∀ h', SZG W h' n tn rs es T Z slots R u x → SOnly R h h' → K h') : stH h ⟨n, 1, none⟩ [.int .i64 x] K :=
  stH_of z.sb (by simp) fun h' q1 q2 q3 => by
    have := z.stN (u' := u) (t' := x) q2 q1
    exact k h' this.1 this.2
theorem mem_setZ (z : SZG W h n tn rs es T Z slots R u t) {x y : Rec} : y ∈ setK Rec.c Z x ↔ y = x ∨ (y ∈ Z ∧ y.c ≠ x.c) := mem_set z.srt
/-- The versions of a cell are others. -/
theorem SZG.lay (z : SZG W h n tn rs es T Z slots R u t) {r : Rec} (hr : r ∈ Z) {vs : List Ver} {B' : Option Nat} (c : C.Ch h' r.p vs B') (o : Only (C.FP r.p r.B) h h') (kin : C.Kin h.size r.B B') (ok : W vs)
    (hus : unitsS (toS (setK Rec.c Z ⟨r.c, vs, r.p, B'⟩)) ≤ slots) (hR : ∀ b, h.size ≤ b → R b) : SZG W h' n tn rs es T (setK Rec.c Z ⟨r.c, vs, r.p, B'⟩) slots R u t ∧ SOnly R h h' := by
  obtain ⟨l1, l2, l3⟩ := z.f_lt
  have hty := ch_typ (z.ch r hr)
  have hne : ∀ {y : Rec}, y ∈ Z → y.c ≠ r.c → y.p ≠ r.p ∧ (∀ x, r.B = some x → y.B ≠ some x) := fun {y} hy hc => by
    have hyr : y ≠ r := fun e => hc (by rw [e])
    exact ⟨pw_two (fun _ _ h => h.symm) z.pd hy hr hyr, fun x hx hyx => pw_two (P := fun a b : Rec => ∀ x, a.B = some x → b.B ≠ some x) (fun a b h x h1 h2 => h x h2 h1) z.bd hy hr hyr x hyx hx⟩
  have keepCh : ∀ y ∈ Z, y.c ≠ r.c → C.Ch h' y.p y.vs y.B := fun y hy hc => by
    obtain ⟨h1, h2⟩ := hne hy hc
    refine (z.ch y hy).only o (fun e => ?_) fun b hb e => ?_
    · rcases e with e | e
      · exact h1 e
      · exact z.p_B hy hr e
    · rcases e with e | e
      · subst e; exact z.p_B hr hy hb
      · exact h2 b e hb
  have hB : ∀ x, B' = some x → r.B = some x ∨ h.size ≤ x := fun x hx => by
    rcases kin with k | k | ⟨b, k, k2⟩
    · exact .inl (by rw [← k]; exact hx)
    · rw [k] at hx; cases hx
    · rw [k] at hx; cases hx; exact .inr k2
  refine ⟨{ z with sb := ?_, th := ?_, ch := fun y hy => ?_, get := fun y hy => ?_, all := fun k v hk => ?_, srt := sort_set z.srt, pd := pw_set z.srt z.pd fun y hy hc => ?_, bd := pw_set z.srt z.bd fun y hy hc => ?_, wf := fun y hy => ?_, us := hus, rp := fun y hy => ?_ }, ?_⟩
  · refine o.block z.sb fun e => ?_
    rcases e with e | e
    · exact (z.n_ch hr).1 e.symm
    · exact (z.n_ch hr).2 e
  · refine z.th.only o fun b hb e => ?_
    have := z.ch_ft hr hb
    rcases e with e | e
    · exact this.1 e
    · exact this.2 e
  · rcases (mem_setZ z).1 hy with e | ⟨e, e2⟩
    · subst e; exact c
    · exact keepCh y e e2
  · rcases (mem_setZ z).1 hy with e | ⟨e, e2⟩
    · subst e; exact z.get r hr
    · exact z.get y e
  · obtain ⟨y, hy, e⟩ := z.all k v hk
    by_cases hc : y.c = r.c
    · exact ⟨_, (mem_setZ z).2 (.inl rfl), by rw [e, hc]⟩
    · exact ⟨y, (mem_setZ z).2 (.inr ⟨hy, hc⟩), e⟩
  · exact ⟨fun e => (hne hy hc).1 e.symm, fun e => (hne hy hc).1 e⟩
  · refine ⟨fun x hx hy2 => ?_, fun x hx hy2 => ?_⟩
    · rcases hB x hx with e | e
      · exact (hne hy hc).2 x e hy2
      · have := (l3 y hy).2 x hy2; omega
    · rcases hB x hy2 with e | e
      · exact (hne hy hc).2 x e hx
      · have := (l3 y hy).2 x hx; omega
  · rcases (mem_setZ z).1 hy with e | ⟨e, e2⟩
    · subst e; exact ⟨(z.wf r hr).1, ok⟩
    · exact z.wf y e
  · rcases (mem_setZ z).1 hy with e | ⟨e, e2⟩
    · subst e
      refine ⟨(z.rp r hr).1, fun x hx => ?_⟩
      rcases hB x hx with e | e
      · exact (z.rp r hr).2 x e
      · exact hR x e
    · exact z.rp y e
  · refine o.mono fun b _ e => ?_
    rcases e with e | e
    · subst e; exact ⟨(z.rp r hr).1, _, .inr (.inr (.inr (.inl rfl))), hty.1⟩
    · exact ⟨(z.rp r hr).2 b e, _, .inr (.inr (.inr (.inr rfl))), hty.2 b e⟩
theorem SZG.count (z : SZG W h n tn rs es T Z slots R u t) : T.count ≤ Z.length := by
  have ku := P.KU_of z.ok
  have hl := P.tk_len z.ok
  have hn : ((P.tkL (T.row ++ T.elder)).map fun p => kL p.1).Nodup := by
    have : ((P.tkL (T.row ++ T.elder)).map fun p => kL p.1) = ((P.tkL (T.row ++ T.elder)).map (·.1)).map kL := by rw [List.map_map]; rfl
    rw [this]
    exact List.Pairwise.map _ (fun a b h e => h (kL_inj e)) ku
  have := nodup_lenG hn (L := Z.map fun r => keyL r.c) fun e he => by
    obtain ⟨⟨k, v⟩, hp, rfl⟩ := List.mem_map.1 he
    obtain ⟨w, hw, _⟩ := P.tk_val z.ok hp
    obtain ⟨r, hr, e⟩ := z.all k w hw
    exact List.mem_map.2 ⟨r, hr, e.symm⟩
  rw [List.length_map, List.length_map, hl] at this
  exact this
/-- A cell that had no versions has some. -/
theorem SZG.add {h1 h2 : H} {T' : Tb (Option Addr)} {rs' es' : Sl} {c : Cel} {p : Nat} {vs : List Ver} {B' : Option Nat} (z : SZG W h n tn rs es T Z slots R u t) (hc : okC c = 0) (hg : getK Rec.c Z c = none) (e1 : Ext h h1) (hp : h.size ≤ p) (hp1 : p < h1.size)
    (th : P.TH h2 tn rs' es' T') (ok : TOk T') (stp : Stp h1 tn rs es h2 rs' es') (hget : ∀ k, getM T' k = if kL k = kL (keyB c) then some (some ⟨p, 0, none⟩) else getM T k) (hrl : T'.row.length ≤ 4200000)
    (ch : C.Ch h' p vs B') (o : Only (C.FP p none) h2 h') (kin : C.Kin h2.size none B') (vok : W vs) (hus : unitsS (toS (setK Rec.c Z ⟨c, vs, p, B'⟩)) ≤ slots) (hR : ∀ b, h.size ≤ b → R b) :
    SZG W h' n tn rs' es' T' (setK Rec.c Z ⟨c, vs, p, B'⟩) slots R u t ∧ SOnly R h h' := by
  obtain ⟨l1, l2, l3⟩ := z.f_lt
  have z1 := z.ext e1
  have s1 := e1.size
  have s2 := stp.only.size
  have hcne : ∀ y ∈ Z, y.c ≠ c := getK_none hg
  have oB : ∀ b, b < h.size → ¬ C.FP p none b := fun b hb e => by
    rcases e with e | e
    · omega
    · cases e
  have hB : ∀ x, B' = some x → h.size ≤ x := fun x hx => by
    rcases kin with k | k | ⟨b, k, k2⟩
    · rw [k] at hx; cases hx
    · rw [k] at hx; cases hx
    · rw [k] at hx; cases hx; omega
  have keepCh : ∀ y ∈ Z, C.Ch h' y.p y.vs y.B := fun y hy => by
    have q := ((z1.ch y hy).only stp.only (fun e => (z1.ch_ft hy e).1 rfl) fun b hb e => (z1.ch_ft hy e).2 hb)
    exact q.only o (oB _ (l3 y hy).1) fun b hb => oB _ ((l3 y hy).2 b hb)
  have ft' : ∀ b, FT tn rs' es' b → b ≠ p ∧ R b := fun b hb => by
    rcases stp.new b hb with e | e
    · have := l2 b e
      refine ⟨by omega, ?_⟩
      rcases e with e | e | e
      · subst e; exact z.rt
      · exact z.rr b e
      · exact z.re b e
    · exact ⟨by omega, hR b (by omega)⟩
  refine ⟨{ sb := ?_, th := th.only o fun b hb e => ?_, ok := ok, ch := fun y hy => ?_, get := fun y hy => ?_, all := fun k v hk => ?_, srt := sort_set z.srt, pd := pw_set z.srt z.pd fun y hy hc => ?_, bd := pw_set z.srt z.bd fun y hy hc => ?_, wf := fun y hy => ?_, us := hus, sl := z.sl, rl := hrl, rn := z.rn, rt := z.rt, rr := fun b hb => (ft' b (.inr (.inl hb))).2, re := fun b hb => (ft' b (.inr (.inr hb))).2, rp := fun y hy => ?_ }, ?_⟩
  · exact o.block (stp.only.block z1.sb fun e => z1.n_ft e rfl) (oB n l1)
  · rcases e with e | e
    · exact (ft' b hb).1 e
    · cases e
  · rcases (mem_setZ z).1 hy with e | ⟨e, e2⟩
    · subst e; exact ch
    · exact keepCh y e
  · rw [hget]
    rcases (mem_setZ z).1 hy with e | ⟨e, e2⟩
    · subst e; rw [if_pos rfl]
    · rw [if_neg]
      · exact z.get y e
      · intro he
        rw [kL_keyB, kL_keyB] at he
        exact e2 (key_inj (z.wf y e).1 hc he)
  · rw [hget] at hk
    split at hk
    · rename_i he
      exact ⟨_, (mem_setZ z).2 (.inl rfl), by rw [he, kL_keyB]⟩
    · obtain ⟨y, hy, e⟩ := z.all k v hk
      exact ⟨y, (mem_setZ z).2 (.inr ⟨hy, hcne y hy⟩), e⟩
  · have := (l3 y hy).1
    exact ⟨by simp only; omega, by simp only; omega⟩
  · refine ⟨fun x hx hy2 => ?_, fun x hx hy2 => ?_⟩
    · have := hB x hx; have := (l3 y hy).2 x hy2; omega
    · have := hB x hy2; have := (l3 y hy).2 x hx; omega
  · rcases (mem_setZ z).1 hy with e | ⟨e, e2⟩
    · subst e; exact ⟨hc, vok⟩
    · exact z.wf y e
  · rcases (mem_setZ z).1 hy with e | ⟨e, e2⟩
    · subst e; exact ⟨hR _ hp, fun x hx => hR x (hB x hx)⟩
    · exact z.rp y e
  · have a1 : SOnly R h h1 := SOnly.of e1
    have a2 : SOnly R h1 h2 := stp.only.mono fun b _ e => by
      obtain ⟨ty, q1, q2⟩ := ft_ty z1.th e
      refine ⟨?_, ty, ?_, q1⟩
      · rcases e with e | e | e
        · subst e; exact z.rt
        · exact z.rr b e
        · exact z.re b e
      · rcases q2 with rfl | rfl
        · exact .inr (.inl rfl)
        · exact .inr (.inr (.inl rfl))
    exact Only.trans (SOnly.trans a1 a2) o fun m hm e => absurd e (oB m hm)
end
theorem lastE_newest {vs : List Ver} : C.lastE vs = (C.newestM vs).2.1 := by
  unfold C.lastE C.newestM
  cases vs.getLast? <;> rfl
theorem lay_last (vs : List Ver) (x : Ver) : (C.layM vs x).getLast? = some x := by
  unfold C.layM
  split <;> simp
theorem lay_newest (vs : List Ver) (x : Ver) : C.newestM (C.layM vs x) = (x.value, x.epoch, !x.dead) := by
  unfold C.newestM; rw [lay_last]
theorem lay_len (vs : List Ver) (x : Ver) : ((C.layM vs x).length : Int) = vs.length + C.layN vs x := by
  unfold C.layM C.layN
  split
  · rename_i h
    have := List.length_pos_iff.2 h.1
    simp; omega
  · simp
theorem layN_range (vs : List Ver) (x : Ver) : C.layN vs x = 0 ∨ C.layN vs x = 1 := by
  unfold C.layN; split <;> simp
theorem lay_units (vs : List Ver) (x : Ver) : ((unitsV (C.layM vs x) : Nat) : Int) = vs.length + C.layN vs x + (if x.dead then 0 else 1) := by
  unfold unitsV alive
  rw [lay_newest]
  have := lay_len vs x
  cases x.dead <;> simp <;> omega
theorem lay_alive (vs : List Ver) (x : Ver) : aliveN (C.layM vs x) = if x.dead then 0 else 1 := by
  unfold aliveN alive
  rw [lay_newest]
  cases x.dead <;> simp
theorem units_eq (vs : List Ver) : unitsV vs = vs.length + aliveN vs := rfl
theorem last_le {vs : List Ver} (hr : C.Rise vs) : ∀ v ∈ vs, v.epoch ≤ C.lastE vs := fun v hv => by
  unfold C.lastE
  have hn : vs ≠ [] := fun e => by rw [e] at hv; cases hv
  rw [List.getLast?_eq_some_getLast hn]
  obtain ⟨i, hi⟩ := List.mem_iff_getElem?.1 hv
  have hl := C.last_get hn
  have h1 := (List.getElem?_eq_some_iff.1 hi).1
  by_cases e : i = vs.length - 1
  · rw [e, hl] at hi; cases hi; exact Int.le_refl _
  · have := hr.lt (show i < vs.length - 1 by omega) hi hl
    simp only; omega
theorem lastE_get {vs : List Ver} (hn : vs ≠ []) : C.lastE vs = (vs.getLast hn).epoch := by
  unfold C.lastE; rw [List.getLast?_eq_some_getLast hn]
theorem lay_ok {vs : List Ver} {x : Ver} (h : vs = [] ∨ VOk vs) (he : C.lastE vs ≤ x.epoch ∨ vs = []) (hd : x.dead = true → x.value = zA) (h1 : 1 ≤ x.epoch) (h2 : x.epoch ≤ 1099511627776) : VOk (C.layM vs x) := by
  have hr : C.Rise vs := by
    rcases h with h | h
    · subst h; exact List.Pairwise.nil
    · exact h.rise
  have hdd : ∀ v ∈ vs, (v.dead = true → v.value = zA) ∧ 1 ≤ v.epoch ∧ v.epoch ≤ 1099511627776 := fun v hv => by
    rcases h with h | h
    · subst h; cases hv
    · exact ⟨h.dead v hv, h.ep v hv⟩
  have hlast := last_le hr
  have hmem : ∀ v ∈ C.layM vs x, v = x ∨ v ∈ vs := fun v hv => by
    unfold C.layM at hv
    split at hv
    · rcases List.mem_append.1 hv with e | e
      · exact .inr ((List.dropLast_sublist vs).subset e)
      · exact .inl (List.mem_singleton.1 e)
    · rcases List.mem_append.1 hv with e | e
      · exact .inr e
      · exact .inl (List.mem_singleton.1 e)
  refine ⟨fun e => ?_, ?_, fun v hv => ?_, fun v hv => ?_⟩
  · have := lay_last vs x
    rw [e] at this; cases this
  · unfold C.layM
    split
    · rename_i g
      refine List.pairwise_append.2 ⟨List.Pairwise.sublist (List.dropLast_sublist vs) hr, List.pairwise_singleton _ _, fun a ha b hb => ?_⟩
      obtain rfl := List.mem_singleton.1 hb
      have hd2 : vs = vs.dropLast ++ [vs.getLast g.1] := (List.dropLast_concat_getLast g.1).symm
      have hr2 := hr
      unfold C.Rise at hr2
      rw [hd2] at hr2
      have := (List.pairwise_append.1 hr2).2.2 a ha (vs.getLast g.1) (by simp)
      have hl := lastE_get g.1
      have := g.2
      omega
    · rename_i g
      refine List.pairwise_append.2 ⟨hr, List.pairwise_singleton _ _, fun a ha b hb => ?_⟩
      obtain rfl := List.mem_singleton.1 hb
      have hn : vs ≠ [] := fun e => by rw [e] at ha; cases ha
      have h3 := hlast a ha
      have h4 : C.lastE vs ≠ b.epoch := fun e => g ⟨hn, e⟩
      rcases he with he | he
      · omega
      · exact absurd he hn
  · rcases hmem v hv with e | e
    · subst e; exact hd
    · exact (hdd v e).1
  · rcases hmem v hv with e | e
    · subst e; exact ⟨h1, h2⟩
    · exact (hdd v e).2
theorem set_units {S : SL} (hs : SortS S) (c : Cel) (vs : List Ver) : unitsS (setS S c vs) + unitsV ((getS S c).getD []) = unitsS S + unitsV vs := by
  have := sum_set (key := fun x : Cel × List Ver => x.1) (x := (c, vs)) (fun x => unitsV x.2) hs
  have e : ((getK (fun x : Cel × List Ver => x.1) S c).map fun x => unitsV x.2).getD 0 = unitsV ((getS S c).getD []) := by
    unfold getS
    cases getK (fun x : Cel × List Ver => x.1) S c <;> rfl
  rw [← e]; exact this
theorem set_there {S : SL} (hs : SortS S) (c : Cel) (vs : List Ver) : thereS (setS S c vs) + aliveN ((getS S c).getD []) = thereS S + aliveN vs := by
  have := sum_set (key := fun x : Cel × List Ver => x.1) (x := (c, vs)) (fun x => aliveN x.2) hs
  have e : ((getK (fun x : Cel × List Ver => x.1) S c).map fun x => aliveN x.2).getD 0 = aliveN ((getS S c).getD []) := by
    unfold getS
    cases getK (fun x : Cel × List Ver => x.1) S c <;> rfl
  rw [← e]; exact this
theorem toS_set (Z : List Rec) (r : Rec) : toS (setK Rec.c Z r) = setS (toS Z) r.c r.vs :=
  map_set (key := Rec.c) (key' := fun x : Cel × List Ver => x.1) (fun r : Rec => (r.c, r.vs)) (fun _ => rfl) Z
/-- What a write takes more. -/
theorem need_lay (o : Option (List Ver)) (e : Int) (x : Ver) (hx : x.epoch = e) (hd : x.dead = false) (hn : ¬ (C.newestM (o.getD [])).2.1 > e) (ho : ∀ vs, o = some vs → vs ≠ []) : needV o e = C.layN (o.getD []) x + 1 - aliveN (o.getD []) := by
  cases o with
  | none => rfl
  | some vs =>
    have hne := ho vs rfl
    simp only [Option.getD_some] at hn ⊢
    unfold needV
    simp only
    rw [if_neg hn]
    by_cases h1 : (C.newestM vs).2.1 = e
    · have hl : C.layN vs x = 0 := by unfold C.layN; rw [if_pos ⟨hne, by rw [lastE_newest, hx]; exact h1⟩]
      rw [hl]
      unfold aliveN
      by_cases h2 : alive vs = true
      · rw [if_pos ⟨h1, h2⟩, if_pos h2]; rfl
      · rw [if_neg (fun h => h2 h.2), if_pos (.inl h1), if_neg h2]; rfl
    · have hl : C.layN vs x = 1 := by unfold C.layN; rw [if_neg (fun h => h1 (by rw [← lastE_newest, ← hx]; exact h.2))]
      rw [hl, if_neg (fun h => h1 h.1)]
      unfold aliveN
      by_cases h2 : alive vs = true
      · rw [if_pos (.inr h2), if_pos h2]; rfl
      · rw [if_neg (fun h => h.elim h1 h2), if_neg h2]; rfl
end Go.Proofs.YtoccbnhahaoeiaaGreat.V.S
namespace Go.Proofs.YtoccbnhahaoeiaaGreat.V.S
open Go Go.Proofs.YtoccbnhahaoeiaaGreat.V
set_option linter.unusedVariables false
set_option linter.unusedSimpArgs false
set_option maxRecDepth 20000
/-- What agg.Right tells of an aggregate. -/
def RightIs (a : S_api_Agg) (b : Bool) : Prop := ∀ (h : H) (Q : Bool → H → Prop), (∀ h', Ext h h' → Q b h') → F.agg_Right a h Q
def putE (S : SL) (slots : Nat) (e : Int) (c : Cel) (a : S_api_Agg) (rt : Bool) : Int :=
  if okC c ≠ 0 then okC c else if e < 1 ∨ e > 1099511627776 ∨ a.Count = 0 ∨ rt = false then 1 else if (C.newestM ((getS S c).getD [])).2.1 > e then 32 else if (unitsS S : Int) + needS S e c > slots then 31 else 0
def putS (S : SL) (e : Int) (c : Cel) (a : S_api_Agg) : SL := setS S c (C.layM ((getS S c).getD []) ⟨e, a, false⟩)
def killE (S : SL) (e : Int) (c : Cel) : Int :=
  if okC c ≠ 0 then okC c else if e < 1 ∨ e > 1099511627776 then 1 else match getS S c with
  | none => 44
  | some vs => if (C.newestM vs).2.1 > e then 32 else if alive vs = false then 44 else 0
def killS (S : SL) (e : Int) (c : Cel) : SL := setS S c (C.layM ((getS S c).getD []) ⟨e, zA, true⟩)
theorem getS_ne {S : SL} (h : SOk S) {c : Cel} : ∀ vs, getS S c = some vs → VOk vs := fun vs hg => by
  unfold getS at hg
  cases hx : getK (fun x : Cel × List Ver => x.1) S c with
  | none => rw [hx] at hg; cases hg
  | some x =>
    rw [hx] at hg; cases hg
    exact (h.ok x (getK_some hx).1).2
theorem put_units {S : SL} (h : SOk S) {e : Int} {c : Cel} {a : S_api_Agg} (hc : okC c = 0) (hn : ¬ (C.newestM ((getS S c).getD [])).2.1 > e) :
    (unitsS (putS S e c a) : Int) = unitsS S + needS S e c ∧ (thereS (putS S e c a) : Int) = thereS S + (1 - aliveN ((getS S c).getD [])) ∧ needS S e c = C.layN ((getS S c).getD []) ⟨e, a, false⟩ + (1 - aliveN ((getS S c).getD [])) := by
  have h1 := set_units h.sort c (C.layM ((getS S c).getD []) ⟨e, a, false⟩)
  have h2 := set_there h.sort c (C.layM ((getS S c).getD []) ⟨e, a, false⟩)
  have h3 := lay_units ((getS S c).getD []) ⟨e, a, false⟩
  have h4 := lay_alive ((getS S c).getD []) ⟨e, a, false⟩
  have h5 := units_eq ((getS S c).getD [])
  have h6 := need_lay (getS S c) e ⟨e, a, false⟩ rfl rfl hn fun vs hv => (getS_ne h vs hv).ne
  have h7 : needS S e c = needV (getS S c) e := by unfold needS; rw [if_neg (fun h => h hc)]
  simp only [Bool.false_eq_true, if_false] at h3 h4
  unfold putS
  rw [h7]
  refine ⟨by omega, by omega, by omega⟩
theorem mayM_ok {vs : List Ver} {e : Int} (h1 : 1 ≤ e) (h2 : e ≤ 1099511627776) : C.mayM vs e = if vs ≠ [] ∧ e < (C.newestM vs).2.1 then 32 else 0 := by
  unfold C.mayM
  rw [if_neg (by omega), lastE_newest]
section
variable {h : H} {n : Nat} {S : SL} {slots : Nat} {R : Nat → Prop}
theorem Put_spec {e : Int} {x : S_api_Row} {rt : Bool} {Q : Int → H → Prop} (s : SH h n S slots R) (hrt : RightIs x.Agg rt) (hR : ∀ b, h.size ≤ b → R b)
    (k0 : putE S slots e x.Cell x.Agg rt ≠ 0 → ∀ h', Ext h h' → Q (putE S slots e x.Cell x.Agg rt) h')
    (k1 : putE S slots e x.Cell x.Agg rt = 0 → ∀ h', SH h' n (putS S e x.Cell x.Agg) slots R → SOnly R h h' → Q 0 h') : F.shard_Shard_Put (some ⟨n, 0, none⟩) e x h Q := by
  have sok := s.ok
  obtain ⟨tn, rs, es, T, Z, hZ, z⟩ := s
  obtain ⟨c, a⟩ := x
  simp only at hrt k0 k1
  unfold F.shard_Shard_Put
  refine new_of fun m h1 hm b1 e1 s1 => ?_
  have rc : Cells h1 ⟨m, 0, none⟩ (c.cells ++ a.cells) := Blk.cells b1
  simp only [add_lit, Nat.zero_add, Nat.add_zero]
  have ra : ∀ {hh : H}, Ext h1 hh → Cells hh ⟨m, 3, none⟩ a.cells := fun ee => (cells_r rc : Cells h1 ⟨m, 0 + 3, none⟩ a.cells).ext ee
  have rcc : ∀ {hh : H}, Ext h1 hh → Cells hh ⟨m, 0, none⟩ c.cells := fun ee => (cells_l rc).ext ee
  refine ⟨c, rcc (.refl _), ?_⟩
  unfold putE at k0 k1
  refine key_spec (fun g h2 e2 => ⟨fun _ => ?_, fun g2 => absurd (by simpa using g2) g⟩) fun g h2 e2 => ⟨fun g2 => by simp at g2, fun _ => ?_⟩
  · rw [if_pos g] at k0; exact k0 g h2 (e1.trans e2)
  rw [if_neg (fun h => h g)] at k0 k1
  have e02 := e1.trans e2
  have a0 : ∀ {hh : H}, Ext h1 hh → cellH hh ⟨m, 3, none⟩ = some (.int .i64 a.Count) := fun ee => ra ee 0 _ rfl
  -- a bad argument
  have bad : ∀ {hh : H}, Ext h hh → (e < 1 ∨ e > 1099511627776 ∨ a.Count = 0 ∨ rt = false) → F.shard_Shard_Put.j4 Q (some ⟨n, 0, none⟩) e ⟨m, 0, none⟩ (keyB c) true hh := fun ee hb => by
    unfold F.shard_Shard_Put.j4
    refine ⟨fun _ => ?_, fun h => by cases h⟩
    rw [if_pos hb] at k0
    exact k0 (by decide) _ ee
  -- the last step: a chain that is there is written
  have j1 : ∀ h3, Ext h2 h3 → 1 ≤ e → e ≤ 1099511627776 → a.Count ≠ 0 → rt = true → F.shard_Shard_Put.j1 Q (some ⟨n, 0, none⟩) e ⟨m, 0, none⟩ (keyB c) h3 := by
    intro h3 e3 he1 he2 hac hrt1
    rw [if_neg (by rintro (h | h | h | h)
                   · omega
                   · omega
                   · exact hac h
                   · rw [hrt1] at h; cases h)] at k0 k1
    have e03 := e02.trans e3
    have z3 := z.ext e03
    unfold F.shard_Shard_Put.j1
    simp only [nn_some, add_lit, Nat.zero_add, Nat.add_zero]
    rw [ldP_iff z3.cs3]
    refine P.Get_spec z3.th z3.ok (key_small g) fun h4 e4 => ?_
    have e04 := e03.trans e4
    have e14 : Ext h1 h4 := (e2.trans e3).trans e4
    have z4 := z3.ext e4
    have hlk := z3.look g
    rw [hlk]
    -- room is asked for
    have j2 : ∀ (h5 : H) (l : Option Addr) (is th : Bool), Ext h4 h5 → ¬ (C.newestM ((getS S c).getD [])).2.1 > e → ((unitsS S : Int) + needS S e c ≤ slots → ∀ h6, Ext h5 h6 → ((!is) = true → F.chain_New_api_Agg h6 fun r60 h59 => ldP h59 ⟨n, 3, none⟩ fun y63 => F.table_Table_chain_Chain_api_Agg_Put y63 (keyB c) r60 h59 fun h65 => F.shard_Shard_Put.j3 Q (some ⟨n, 0, none⟩) e ⟨m, 0, none⟩ r60 th h65) ∧ ((!is) = false → F.shard_Shard_Put.j3 Q (some ⟨n, 0, none⟩) e ⟨m, 0, none⟩ l th h6)) →
        F.shard_Shard_Put.j2 Q (some ⟨n, 0, none⟩) e ⟨m, 0, none⟩ (keyB c) l is th h5 := by
      intro h5 l is th e5 hnw hgo
      have z5 := z4.ext e5
      unfold F.shard_Shard_Put.j2
      simp only [nn_some, add_lit, Nat.zero_add, Nat.add_zero]
      rw [ldI_iff z5.cs0]
      refine ⟨c, rcc (e14.trans e5), ldI_of z5.cs2 (need_spec z5 fun h6 e6 => ⟨(z5.ext e6).cs2, (z5.ext e6).cs0, ?_⟩)⟩
      rw [hZ]
      rw [if_neg hnw] at k0 k1
      have hus := z.us
      have hsl := z.sl
      rw [hZ] at hus
      have hnd : 0 ≤ needS S e c ∧ needS S e c ≤ 2 := by
        unfold needS needV
        split
        · omega
        · cases getS S c with
          | none => simp
          | some vs => simp only; split <;> (try split) <;> (try split) <;> omega
      rw [w64 (by omega) (by omega)]
      refine ⟨fun g2 => ?_, fun g2 => hgo (by have := of_decide_eq_false g2; omega) h6 e6⟩
      have g2 := of_decide_eq_true g2
      rw [if_pos g2] at k0
      exact k0 (by decide) h6 ((e04.trans e5).trans e6)
    have hgs : getS S c = (getK Rec.c Z c).map (·.vs) := by rw [← hZ]; exact z.getS c
    have hpu := fun (hn : ¬ (C.newestM ((getS S c).getD [])).2.1 > e) => put_units (a := a) sok g hn
    -- the numbers
    have nums : ∀ (h8 : H) (rs' es' : Sl) (T' : Tb (Option Addr)) (Z' : List Rec) (th : Bool), SZ h8 n tn rs' es' T' Z' slots R (unitsS S : Int) (thereS S : Int) → toS Z' = putS S e c a → SOnly R h h8 → ¬ (C.newestM ((getS S c).getD [])).2.1 > e → (unitsS S : Int) + needS S e c ≤ slots →
        (aliveN ((getS S c).getD []) = if th then 1 else 0) →
        (nn (some ⟨n, 0, none⟩) fun a36 => ldI .i64 h8 ((a36.add 0).add 0) fun y38 => nn (some ⟨n, 0, none⟩) fun a40 => stH h8 ((a40.add 0).add 0) [(.int .i64 (IntKind.wrap .i64 (y38 + C.layN ((getS S c).getD []) ⟨e, a, false⟩)))] fun h42 =>
          ((!th) = true → nn (some ⟨n, 0, none⟩) fun a44 => ldI .i64 h42 ((a44.add 0).add 0) fun y46 => nn (some ⟨n, 0, none⟩) fun a48 => stH h42 ((a48.add 0).add 0) [(.int .i64 (IntKind.wrap .i64 (y46 + 1)))] fun h50 => nn (some ⟨n, 0, none⟩) fun a51 => ldI .i64 h50 ((a51.add 0).add 1) fun y53 => nn (some ⟨n, 0, none⟩) fun a55 => stH h50 ((a55.add 0).add 1) [(.int .i64 (IntKind.wrap .i64 (y53 + 1)))] fun h57 => Q 0 h57) ∧ ((!th) = false → Q 0 h42)) := by
      intro h8 rs' es' T' Z' th z8 hZ' so hnw hroom hth
      obtain ⟨p1, p2, p3⟩ := hpu hnw
      have hsl := z.sl
      have htl : thereS S ≤ unitsS S := there_le
      have hus := z.us
      rw [hZ] at hus
      have hlr := layN_range ((getS S c).getD []) ⟨e, a, false⟩
      rw [if_neg hnw, if_neg (show ¬ (unitsS S : Int) + needS S e c > slots by omega)] at k1
      simp only [nn_some, add_lit, Nat.zero_add, Nat.add_zero]
      rw [ldI_iff z8.cs0, w64 (by omega) (by omega)]
      refine z8.st0 fun h9 z9 o9 => ?_
      have so9 := so.trans o9
      refine ⟨fun g3 => ?_, fun g3 => ?_⟩
      · have hth0 : th = false := by simpa using g3
        rw [hth0] at hth
        simp only [Bool.false_eq_true, if_false] at hth
        rw [ldI_iff z9.cs0, w64 (by omega) (by omega)]
        refine z9.st0 fun h10 z10 o10 => ?_
        rw [ldI_iff z10.cs1, w64 (by omega) (by omega)]
        refine z10.st1 fun h11 z11 o11 => ?_
        refine k1 rfl h11 ⟨tn, rs', es', T', Z', hZ', ?_⟩ ((so9.trans o10).trans o11)
        rw [hZ', p1, p2, p3, hth]
        have q1 : (unitsS S : Int) + C.layN ((getS S c).getD []) ⟨e, a, false⟩ + 1 = unitsS S + (C.layN ((getS S c).getD []) ⟨e, a, false⟩ + (1 - ((0 : Nat) : Int))) := by omega
        have q2 : (thereS S : Int) + 1 = thereS S + (1 - ((0 : Nat) : Int)) := by omega
        rw [← q1, ← q2]; exact z11
      · have hth1 : th = true := by simpa using g3
        rw [hth1] at hth
        simp only [if_true] at hth
        refine k1 rfl h9 ⟨tn, rs', es', T', Z', hZ', ?_⟩ so9
        rw [hZ', p1, p2, p3, hth]
        have q1 : (unitsS S : Int) + C.layN ((getS S c).getD []) ⟨e, a, false⟩ = unitsS S + (C.layN ((getS S c).getD []) ⟨e, a, false⟩ + (1 - ((1 : Nat) : Int))) := by omega
        have q2 : (thereS S : Int) = thereS S + (1 - ((1 : Nat) : Int)) := by omega
        rw [← q1, ← q2]; exact z9
    cases hg : getK Rec.c Z c with
    | none =>
      refine ⟨fun h => (by cases h), fun _ => ?_⟩
      have hgd : (getS S c).getD [] = [] := by rw [hgs, hg]; rfl
      have hnw : ¬ (C.newestM ((getS S c).getD [])).2.1 > e := by rw [hgd]; show ¬ (0 : Int) > e; omega
      refine j2 h4 _ _ _ (.refl _) hnw fun hroom h6 e6 => ⟨fun _ => ?_, fun h => by cases h⟩
      have z6 := z4.ext e6
      refine C.New_spec fun p h7 hp c7 e7 => ?_
      have z7 := z6.ext e7
      rw [ldP_iff z7.cs3]
      obtain ⟨T', t1, t2, t3, t4, t5, t6⟩ := put_ok (z := P.nilA) z7.ok (keyB c) (some ⟨p, 0, none⟩)
      have hcnt := z7.count
      have hzl := z7.len
      have hrl := z7.rl
      have hgn : getM T (keyB c) = none := by rw [z.look g, hg]; rfl
      rw [hgn] at t5
      simp only [Option.isSome_none, Bool.false_eq_true, if_false] at t5
      have hrl' : T'.row.length ≤ 4200000 := by
        rcases t6 with ⟨_, q1, q2, _⟩ | ⟨_, q2, _⟩
        · have q1 : 3 * T.row.length < 4 * (T.count + 1) := q1
          omega
        · omega
      refine P.Put_spec z7.th z7.ok (key_small g) t1 (by show _ ≤ 1099511627776; omega) (by show _ ≤ 1099511627776; omega) fun h8 rs' es' th8 stp => ?_
      unfold F.shard_Shard_Put.j3
      simp only [add_lit, Nat.zero_add, Nat.add_zero]
      have hp6 : p < h7.size := c7.lt
      have l7 := z7.f_lt
      have c8 : C.Ch h8 p [] none := c7.only stp.only (fun hb => by
        have := z6.th.lt p hb; omega) fun b hb => by cases hb
      have e17 : Ext h1 h7 := (e14.trans e6).trans e7
      have e07 := ((e04.trans e6).trans e7)
      have rb8 : Cells h8 ⟨m, 3, none⟩ a.cells := (ra e17).only stp.only fun hb => by
        have := z.th.lt m hb; omega
      refine ⟨a, rb8, ?_⟩
      refine C.Put_spec c8 (by simp) (fun h => absurd (by rw [mayM_ok he1 he2]; simp) h) fun _ h9 B' c9 o9 kin9 => ?_
      have hsetq : toS (setK Rec.c Z ⟨c, C.layM [] ⟨e, a, false⟩, p, B'⟩) = putS S e c a := by
        rw [toS_set, hZ]; unfold putS; rw [hgd]
      have vok : VOk (C.layM [] ⟨e, a, false⟩) := lay_ok (.inl rfl) (.inr rfl) (fun h => by cases h) he1 he2
      obtain ⟨p1, p2, p3⟩ := hpu hnw
      have hz := z.add (c := c) g hg (e07) (by have := ((e04.trans e6)).size; omega) hp6 th8 t2 stp t4 hrl' c9 o9 kin9 vok (by rw [hsetq]; omega) hR
      have := nums h9 rs' es' T' _ false (by rw [← hZ]; exact hz.1) hsetq hz.2 hnw hroom (by rw [hgd]; rfl)
      rw [hgd] at this
      exact this
    | some r =>
      refine ⟨fun _ => ?_, fun h => by cases h⟩
      obtain ⟨hr, hrc⟩ := getK_some hg
      have hgd : (getS S c).getD [] = r.vs := by rw [hgs, hg]; rfl
      have hv := (z.wf r hr).2
      refine C.Newest_spec (z4.ch r hr) (by have := z.vlen hr; omega) fun h5 e5 => ⟨fun g2 => ?_, fun g2 => ?_⟩
      · have g2 := of_decide_eq_true g2
        rw [hgd, if_pos g2] at k0
        exact k0 (by decide) h5 (e04.trans e5)
      have hnw : ¬ (C.newestM ((getS S c).getD [])).2.1 > e := by rw [hgd]; exact of_decide_eq_false g2
      refine j2 h5 _ _ _ e5 hnw fun hroom h6 e6 => ⟨fun h => (by cases h), fun _ => ?_⟩
      have e06 := (e04.trans e5).trans e6
      have z6 := z.ext e06
      unfold F.shard_Shard_Put.j3
      simp only [add_lit, Nat.zero_add, Nat.add_zero]
      refine ⟨a, ra ((e14.trans e5).trans e6), ?_⟩
      refine C.Put_spec (z6.ch r hr) (by have := z.vlen hr; omega) (fun h => absurd (by rw [mayM_ok he1 he2, if_neg (fun h2 => by rw [hgd] at hnw; omega)]) h) fun _ h9 B' c9 o9 kin9 => ?_
      have hsetq : toS (setK Rec.c Z ⟨r.c, C.layM r.vs ⟨e, a, false⟩, r.p, B'⟩) = putS S e c a := by
        rw [toS_set, hZ, hrc]; unfold putS; rw [hgd]
      have hn2 : C.lastE r.vs ≤ e := by rw [lastE_newest]; rw [hgd] at hnw; omega
      have vok : VOk (C.layM r.vs ⟨e, a, false⟩) := lay_ok (.inr hv) (.inl hn2) (fun h => by cases h) he1 he2
      obtain ⟨p1, p2, p3⟩ := hpu hnw
      have hz := z6.lay hr c9 o9 kin9 vok (by rw [hsetq]; omega) fun b hb => hR b (by have := e06.size; omega)
      have := nums h9 rs es T _ (alive r.vs) (by rw [← hZ]; exact hz.1) hsetq ((SOnly.of e06).trans hz.2) hnw hroom (by rw [hgd]; rfl)
      rw [hgd] at this
      exact this
  have e2r : Ext h1 h2 := e2
  refine ⟨fun g2 => bad e02 (.inl (of_decide_eq_true g2)), fun g2 => ⟨fun g3 => bad e02 (.inr (.inl (of_decide_eq_true g3))), fun g3 => ?_⟩⟩
  rw [ldI_iff (a0 e2)]
  refine ⟨fun g4 => bad e02 (.inr (.inr (.inl (by simpa using g4)))), fun g4 => ⟨a, ra e2, hrt h2 _ fun h3 e3 => ?_⟩⟩
  have g2 := of_decide_eq_false g2
  have g3 := of_decide_eq_false g3
  have g4 : a.Count ≠ 0 := by simpa using g4
  cases hrv : rt with
  | false => exact bad (e02.trans e3) (.inr (.inr (.inr hrv)))
  | true =>
    unfold F.shard_Shard_Put.j4
    exact ⟨fun h => (by cases h), fun _ => j1 h3 e3 (by omega) (by omega) g4 hrv⟩
theorem kill_units {S : SL} (h : SOk S) {e : Int} {c : Cel} {vs : List Ver} (hg : getS S c = some vs) (ha : alive vs = true) :
    (unitsS (killS S e c) : Int) = unitsS S + (C.layN vs ⟨e, zA, true⟩ - 1) ∧ (thereS (killS S e c) : Int) = thereS S - 1 := by
  have h1 := set_units h.sort c (C.layM ((getS S c).getD []) ⟨e, zA, true⟩)
  have h2 := set_there h.sort c (C.layM ((getS S c).getD []) ⟨e, zA, true⟩)
  have h3 := lay_units ((getS S c).getD []) ⟨e, zA, true⟩
  have h4 := lay_alive ((getS S c).getD []) ⟨e, zA, true⟩
  have h5 := units_eq ((getS S c).getD [])
  have h6 : aliveN ((getS S c).getD []) = 1 := by rw [hg]; unfold aliveN; rw [Option.getD_some, if_pos ha]
  simp only [if_true] at h3 h4
  rw [show (C.layN vs ⟨e, zA, true⟩) = C.layN ((getS S c).getD []) ⟨e, zA, true⟩ from by rw [hg]; rfl]
  unfold killS
  refine ⟨by omega, by omega⟩
theorem Kill_spec {e : Int} {c : Cel} {Q : Int → H → Prop} (s : SH h n S slots R) (hR : ∀ b, h.size ≤ b → R b)
    (k0 : killE S e c ≠ 0 → ∀ h', Ext h h' → Q (killE S e c) h')
    (k1 : killE S e c = 0 → ∀ h', SH h' n (killS S e c) slots R → SOnly R h h' → Q 0 h') : F.shard_Shard_Kill (some ⟨n, 0, none⟩) e c h Q := by
  have sok := s.ok
  obtain ⟨tn, rs, es, T, Z, hZ, z⟩ := s
  unfold F.shard_Shard_Kill
  refine new_of fun m h1 hm b1 e1 s1 => ⟨c, Blk.cells b1, ?_⟩
  unfold killE at k0 k1
  refine key_spec (fun g h2 e2 => ⟨fun _ => ?_, fun g2 => absurd (by simpa using g2) g⟩) fun g h2 e2 => ⟨fun g2 => by simp at g2, fun _ => ?_⟩
  · rw [if_pos g] at k0; exact k0 g h2 (e1.trans e2)
  rw [if_neg (fun h => h g)] at k0 k1
  have e02 := e1.trans e2
  have bad : (e < 1 ∨ e > 1099511627776) → F.shard_Shard_Kill.j2 Q (some ⟨n, 0, none⟩) e ⟨m, 0, none⟩ true h2 := fun hb => by
    unfold F.shard_Shard_Kill.j2
    refine ⟨fun _ => ?_, fun h => by cases h⟩
    rw [if_pos hb] at k0
    exact k0 (by decide) _ e02
  refine ⟨fun g2 => bad (.inl (of_decide_eq_true g2)), fun g2 => ?_⟩
  have g2 := of_decide_eq_false g2
  cases hb : decide (e > 1099511627776) with
  | true => exact bad (.inr (of_decide_eq_true hb))
  | false =>
    have g3 := of_decide_eq_false hb
    unfold F.shard_Shard_Kill.j2
    refine ⟨fun h => (by cases h), fun _ => ?_⟩
    rw [if_neg (by omega)] at k0 k1
    unfold F.shard_Shard_Kill.j1
    refine ⟨c, (Blk.cells b1).ext e2, ?_⟩
    have z2 := z.ext e02
    have hgs : getS S c = (getK Rec.c Z c).map (·.vs) := by rw [← hZ]; exact z.getS c
    refine chain_spec z2 (fun g4 h3 e3 => ⟨fun _ => ?_, fun h => by simp at h⟩) fun _ r hg h3 e3 => ⟨fun h => by simp at h, fun _ => ?_⟩
    · have : getK Rec.c Z c = none := by
        rcases g4 with g4 | g4
        · exact absurd g g4
        · exact g4
      rw [hgs, this] at k0
      exact k0 (fun h => by cases h) h3 (e02.trans e3)
    · obtain ⟨hr, hrc⟩ := getK_some hg
      rw [hg] at hgs
      have hgs : getS S c = some r.vs := hgs
      rw [hgs] at k0 k1
      dsimp only at k0 k1
      have e03 := e02.trans e3
      have z3 := z.ext e03
      have hv := (z.wf r hr).2
      have hml := mayM_ok (vs := r.vs) (e := e) (by omega) (by omega)
      have hmne : r.vs ≠ [] := hv.ne
      refine C.Kill_spec (z3.ch r hr) (by have := z.vlen hr; omega) (fun g4 => ⟨fun g5 => ?_, fun g5 => ?_⟩) (fun g4 g5 h4 e4 => ⟨fun _ => ?_, fun h => by simp at h⟩) fun g4 g5 h4 B' c4 o4 kin4 => ⟨fun h => by simp at h, fun _ => ?_⟩
      · rw [hml] at g4 ⊢
        have : r.vs ≠ [] ∧ e < (C.newestM r.vs).2.1 := by
          refine Classical.byContradiction fun hn => ?_
          rw [if_neg hn] at g4; exact g4 rfl
        rw [if_pos this]
        rw [if_pos (show (C.newestM r.vs).2.1 > e from this.2)] at k0
        exact k0 (by decide) h3 e03
      · exact absurd (by simpa using g5) g4
      · have hnw : ¬ (C.newestM r.vs).2.1 > e := fun hh => by rw [hml, if_pos ⟨hmne, hh⟩] at g4; cases g4
        rw [if_neg hnw, if_pos (show alive r.vs = false from g5)] at k0
        exact k0 (by decide) h4 (e03.trans e4)
      · have hnw : ¬ (C.newestM r.vs).2.1 > e := fun hh => by rw [hml, if_pos ⟨hmne, hh⟩] at g4; cases g4
        rw [if_neg hnw, if_neg (show ¬ alive r.vs = false from by rw [show alive r.vs = (C.newestM r.vs).2.2 from rfl, g5]; decide)] at k1
        obtain ⟨p1, p2⟩ := kill_units (e := e) sok hgs g5
        have hus := z.us
        have hsl := z.sl
        rw [hZ] at hus
        have hlr := layN_range r.vs ⟨e, zA, true⟩
        have htl : thereS S ≤ unitsS S := there_le
        have hsetq : toS (setK Rec.c Z ⟨r.c, C.layM r.vs ⟨e, zA, true⟩, r.p, B'⟩) = killS S e c := by
          rw [toS_set, hZ, hrc]; unfold killS; rw [hgs]; rfl
        have hn2 : C.lastE r.vs ≤ e := by rw [lastE_newest]; omega
        have vok : VOk (C.layM r.vs ⟨e, zA, true⟩) := lay_ok (.inr hv) (.inl hn2) (fun _ => rfl) (by show 1 ≤ e; omega) (by show e ≤ _; omega)
        have hz := z3.lay hr c4 o4 kin4 vok (by rw [hsetq]; omega) fun b hb => hR b (by have := e03.size; omega)
        obtain ⟨z4, so4⟩ := hz
        rw [hZ] at z4
        simp only [nn_some, add_lit, Nat.zero_add, Nat.add_zero]
        rw [ldI_iff z4.cs0, w64 (n := C.layN r.vs ⟨e, zA, true⟩ - 1) (by omega) (by omega), w64 (by omega) (by omega)]
        refine z4.st0 fun h5 z5 o5 => ?_
        rw [ldI_iff z5.cs1, w64 (by omega) (by omega)]
        refine z5.st1 fun h6 z6 o6 => ?_
        refine k1 rfl h6 ⟨tn, rs, es, T, _, hsetq, ?_⟩ ((((SOnly.of e03).trans so4).trans o5).trans o6)
        rw [hsetq, p1, p2]; exact z6
end
end Go.Proofs.YtoccbnhahaoeiaaGreat.V.S
namespace Go.Proofs.YtoccbnhahaoeiaaGreat.V.S
open Go Go.Proofs.YtoccbnhahaoeiaaGreat.V
set_option linter.unusedVariables false
set_option linter.unusedSimpArgs false
set_option maxRecDepth 20000
abbrev Rw := S_api_Row
/-- The keys of a shard's table, with what lies under them. -/
def keysZ (Z : List Rec) : List (ByteArray × Option Addr) := Z.map fun r => (keyB r.c, some ⟨r.p, 0, none⟩)
theorem keysZ_len (Z : List Rec) : (keysZ Z).length = Z.length := List.length_map _
theorem cB_lt : ∀ (x y : List UInt8), Lib.compareBytes x y = -1 → x < y
  | [], [], h => by simp [Lib.compareBytes] at h
  | [], b :: y, _ => List.nil_lt_cons b y
  | a :: x, [], h => by simp [Lib.compareBytes] at h
  | a :: x, b :: y, h => by
    simp only [Lib.compareBytes] at h
    rcases u8_tri a b with g | g | g
    · exact List.cons_lt_cons_iff.2 (.inl g)
    · subst g
      simp only [u8_irr, if_false] at h
      exact List.cons_lt_cons_iff.2 (.inr ⟨rfl, cB_lt x y h⟩)
    · simp [g, u8_asym g] at h
theorem key_lt {a b : Cel} (ha : okC a = 0) (hb : okC b = 0) (h : cmpC a b = -1) : keyL a < keyL b :=
  cB_lt _ _ (by rw [key_cmp (ok_may ha) (ok_may hb) (ok_start ha) (ok_start hb)]; exact h)
section
variable {h h' : H} {n tn : Nat} {rs es : Sl} {T : Tb (Option Addr)} {Z : List Rec} {slots : Nat} {R : Nat → Prop} {u t : Int}
theorem tk_has (ok : TOk T) {k : ByteArray} {v : Option Addr} (hg : getM T k = some v) : ∃ p ∈ P.tkL (T.row ++ T.elder), p.1 = k := by
  have go : ∀ (W : List (Pl (Option Addr))), valOf W k = some v → ∃ p ∈ P.tkL W, p.1 = k := fun W hv => by
    obtain ⟨i, p, h1, h2, h3, h4⟩ := valOf_some hv
    exact ⟨(p.key, .pointer p.value), List.mem_map.2 ⟨p, List.mem_filter.2 ⟨List.mem_of_getElem? h1, by simp [h2]⟩, rfl⟩, kL_inj h3⟩
  unfold getM at hg
  rw [P.tkL_app]
  cases hv : valOf T.row k with
  | some w =>
    rw [hv] at hg; cases hg
    obtain ⟨p, h1, h2⟩ := go _ hv
    exact ⟨p, List.mem_append_left _ h1, h2⟩
  | none =>
    rw [hv] at hg
    obtain ⟨p, h1, h2⟩ := go _ hg
    exact ⟨p, List.mem_append_right _ h1, h2⟩
theorem all_eq (z : SZ h n tn rs es T Z slots R u t) : P.allL T = keysZ Z := by
  have hk : ∀ c : Cel, (keyB c).data.toList = keyL c := fun c => by simp [keyB]
  have hsort : (Z.map fun r => keyB r.c).Pairwise fun a b => a.data.toList < b.data.toList := by
    rw [List.pairwise_map]
    have := z.srt
    refine List.Pairwise.imp_of_mem ?_ this
    intro a b ha hb hab
    rw [hk, hk]
    exact key_lt (z.wf a ha).1 (z.wf b hb).1 hab
  have hn2 : (Z.map fun r => keyB r.c).Nodup := hsort.imp fun {a b} hab e => by subst e; exact List.lt_irrefl _ hab
  have hn1 := P.KU_of z.ok
  have hp : ((P.tkL (T.row ++ T.elder)).map (·.1)).Perm (Z.map fun r => keyB r.c) := (List.perm_ext_iff_of_nodup hn1 hn2).2 fun k => by
    constructor
    · intro hk'
      obtain ⟨⟨k2, v⟩, hm, rfl⟩ := List.mem_map.1 hk'
      obtain ⟨w, hw, _⟩ := P.tk_val z.ok hm
      obtain ⟨r, hr, e⟩ := z.all k2 w hw
      refine List.mem_map.2 ⟨r, hr, kL_inj ?_⟩
      rw [kL_keyB]; exact e.symm
    · intro hk'
      obtain ⟨r, hr, rfl⟩ := List.mem_map.1 hk'
      have hg := z.get r hr
      refine Classical.byContradiction fun hno => ?_
      have hlt := tk_has z.ok hg
      obtain ⟨p, hp1, hp2⟩ := hlt
      exact hno (List.mem_map.2 ⟨p, hp1, hp2⟩)
  unfold P.allL
  rw [sortT_perm hp, P.sortT_id hsort, List.map_map]
  refine List.map_congr_left fun r hr => ?_
  simp only [Function.comp, z.get r hr, Option.getD_some]
end
theorem st_cel {h : H} {n : Nat} {c d : Cel} {e : TypeId} {K : H → Prop} (b : Blk h n c.cells.toArray e) (k : ∀ h', Blk h' n d.cells.toArray e → Only (· = n) h h' → h'.size = h.size → K h') : stH h ⟨n, 0, none⟩ d.cells K := by
  refine stH_of b (Nat.le_refl 3) fun h' q1 q2 q3 => k h' ?_ q2 q3
  rw [writeA_all (by rfl)] at q1
  exact q1
theorem shut1 {d : Nat} {h : H} {K : H → Prop} (hd : h[d]? = some (.deferred (some []))) (k : ∀ h', Only (· = d) h h' → K h') : shuts [d] h K :=
  ⟨hd, k _ ⟨by simp [put], fun b hb hn => by simp only [put]; rw [Array.getElem?_setIfInBounds_ne (fun e => hn e.symm)]⟩⟩
section
variable {h hL h' h'' : H} {n2 n4 n6 n8 n10 n12 ka ma b : Nat} {r : Sl} {L : List (ByteArray × Option Addr)} {ep most : Int} {fr to : Cel} {rows : List Rw}
end
end Go.Proofs.YtoccbnhahaoeiaaGreat.V.S
namespace Go.Proofs.YtoccbnhahaoeiaaGreat.V.S
open Go Go.Proofs.YtoccbnhahaoeiaaGreat.V
set_option linter.unusedVariables false
set_option linter.unusedSimpArgs false
set_option maxRecDepth 20000
theorem max_of {k : IntKind} {ts : Array TypeId} {t : TypeId} {h : H} {a b : Int} {K : Int → H → Prop} (kk : K (if a < b then b else a) h) : runI PP (Builtin.max_ ts t #[.int k a, .int k b]) h k K := fun w hw =>
  ⟨_, w, rfl, .refl _, _, rfl, by rw [hw]; exact kk⟩
def maxL (L : List Nat) : Nat := L.foldl max 0
theorem w64s {n : Nat} (h : n < 9000000000000000000) : IntKind.wrap .i64 ((n : Int) + 1) = ((n + 1 : Nat) : Int) := by rw [w64 (by omega) (by omega)]; omega
abbrev cN (n : Nat) : List Value := [.int .i64 (n : Int)]
theorem cN_len (n : Nat) : (cN n).length = 1 := rfl
theorem Max_spec {h : H} {s : Sl} {L : List Nat} {Q : Int → H → Prop} (rd : Reads h s 1 (L.flatMap cN)) (hn : L ≠ []) (hl : L.length < 4611686018427387904) (k : Q (maxL L : Int) h) : F.slices_Max_Slint_int s h Q := by
  have hs := rd_len cN_len (by omega) rd
  have hpos := List.length_pos_iff.2 hn
  have at_ : ∀ {i : Nat} {x : Nat} {K : Int → Prop}, L[i]? = some x → K (x : Int) → idxA s (i : Int) 1 fun a => ldI .i64 h a K := fun {i x K} hx kk => by
    obtain ⟨p, p1, p2, p3⟩ := rd_at cN_len (by omega) rd hx
    exact idxR_of (i := i) p1 (by have := (List.getElem?_eq_some_iff.1 hx).1; omega) rfl ((ldI_iff (n := x) p3.one).2 kk)
  unfold F.slices_Max_Slint_int
  rw [hs]
  refine ⟨fun g => by have := of_decide_eq_true g; omega, fun _ => ?_⟩
  unfold F.slices_Max_Slint_int.j1
  obtain ⟨x0, hx0⟩ : ∃ x, L[0]? = some x := ⟨_, List.getElem?_eq_getElem hpos⟩
  refine at_ (i := 0) hx0 ⟨L.length + 1, ?_⟩
  have key : ∀ (d i m : Nat), i ≤ L.length → L.length - i < d → m = maxL (L.take i) → F.slices_Max_Slint_int.l2 Q d s (m : Int) (i : Int) h := by
    intro d
    induction d with
    | zero => intro i m _ hd; omega
    | succ d ih =>
      intro i m hi hd hm
      unfold F.slices_Max_Slint_int.l2
      rw [hs]
      refine ⟨fun g => ?_, fun g => ?_⟩
      · have g := of_decide_eq_true g
        obtain ⟨x, hx⟩ : ∃ x, L[i]? = some x := ⟨_, List.getElem?_eq_getElem (by omega)⟩
        refine at_ hx (max_of ?_)
        rw [w64s (by omega)]
        have hmx : (if (m : Int) < (x : Int) then (x : Int) else (m : Int)) = ((max m x : Nat) : Int) := by split <;> omega
        rw [hmx]
        refine ih (i + 1) (max m x) (by omega) (by omega) ?_
        obtain ⟨h1, h2⟩ := List.getElem?_eq_some_iff.1 hx
        rw [List.take_succ_eq_append_getElem h1, h2]
        unfold maxL at hm ⊢
        rw [List.foldl_append, ← hm]; rfl
      · have : i = L.length := by have := of_decide_eq_false g; omega
        rw [this, List.take_length] at hm
        rw [hm]; exact k
  refine key _ 1 x0 (by omega) (by omega) ?_
  cases L with
  | nil => exact absurd rfl hn
  | cons y r => simp at hx0; subst hx0; simp [maxL]
def lensZ (Z : List Rec) : List Nat := Z.map fun r => r.vs.length
theorem lensZ_len (Z : List Rec) : (lensZ Z).length = Z.length := List.length_map _
def mostS (S : SL) : Nat := maxL (S.map fun x => x.2.length)
structure MI (h hL h' : H) (n2 ka ma b : Nat) (r : Sl) (L : List (ByteArray × Option Addr)) (out : List Nat) : Prop where
  ext : Ext h h'
  sq : P.SeqH h' ka ma b r L
  dfr : h'[hL.size]? = some (.deferred (some []))
  out : ∃ o, Blk h' n2 #[o.enc] tn_Slint ∧ Owns h' o tn_int 1 (out.flatMap cN) ∧ ∀ x, o.blk = some x → hL.size + 2 ≤ x
  sz : hL.size + 1 ≤ h'.size
  lt : n2 < hL.size ∧ (∀ m, SQF ka ma b r m → m < hL.size ∧ m ≠ n2) ∧ h.size ≤ n2
theorem MI.only {h hL h' h'' : H} {n2 ka ma b : Nat} {r : Sl} {L : List (ByteArray × Option Addr)} {out : List Nat} {S : Nat → Prop} (v : MI h hL h' n2 ka ma b r L out) (o : Only S h' h'') (hS : ∀ m, S m → hL.size < m ∧ ∀ o : Sl, Blk h' n2 #[o.enc] tn_Slint → o.blk ≠ some m) : MI h hL h'' n2 ka ma b r L out := by
  obtain ⟨l2, lq, q⟩ := v.lt
  have no : ∀ m, m ≤ hL.size → ¬ S m := fun m hm h => by have := (hS m h).1; omega
  obtain ⟨ou, o1, o2, o3⟩ := v.out
  exact ⟨v.ext.step o fun m hm => no m (by omega), v.sq.only o fun m hm => no m (by have := (lq m hm).1; omega), o.block v.dfr (no _ (by omega)),
    ⟨ou, o.block o1 (no _ (by omega)), o2.only o fun m hm hs => (hS m hs).2 ou o1 hm, o3⟩, by have := o.size; have := v.sz; omega, v.lt⟩
theorem Most_spec {h : H} {n : Nat} {S : SL} {slots : Nat} {R : Nat → Prop} {Q : Int → H → Prop} (s : SH h n S slots R) (k : ∀ h', Ext h h' → Q (mostS S : Int) h') : F.shard_Shard_Most (some ⟨n, 0, none⟩) h Q := by
  obtain ⟨tn, rs, es, T, Z, rfl, z⟩ := s
  unfold F.shard_Shard_Most
  refine new_of fun n2 h1 hn2 b2 e1 s1 => ?_
  have z1 := z.ext e1
  simp only [nn_some, add_lit, Nat.zero_add, Nat.add_zero]
  rw [ldP_iff z1.cs3]
  have hcnt := z.count
  have hzl := z.len
  refine P.All_spec z1.th z1.ok (by omega) fun hL ka ma b r sq eL hmine _ => ?_
  rw [all_eq z1] at sq
  have hLs := eL.size
  have hmost : mostS (toS Z) = maxL (lensZ Z) := by unfold mostS toS lensZ; rw [List.map_map]; rfl
  refine P.range_seq (I := fun i h' => MI h hL h' n2 ka ma b r (keysZ Z) (lensZ (Z.take i))) (E := fun j h' => False)
    (fun i h' h'' v o => v.only o fun m hm => ⟨by omega, fun ou hou hb => ?_⟩) (fun j h' h'' v o => v) (fun i h' v => v.sq) ?_ ?_ (fun h' v => ?_) (fun j h' v => v.elim)
  · obtain ⟨o', o1, o2, o3⟩ := v.out
    have heq := o1.symm.trans hou
    have : o' = ou := enc_inj.1 (by simpa using heq)
    subst this
    have := o3 m hb; omega
  · have ep0 : Ext hL (hL.push (.deferred (some []))) := .push _ _
    refine ⟨(e1.trans eL).trans ep0, sq.only ep0 fun m hm f => f, by simp, ⟨_, ep0.block (eL.block b2 fun f => f) fun f => f, by simpa [lensZ] using Owns.nil _ tn_int 1, fun x hx => by simp [Sl.blk] at hx⟩, by simp, ?_⟩
    exact ⟨by omega, fun m hm => ⟨sq.lt m hm, by have := hmine m hm; omega⟩, by omega⟩
  · intro X i x h5 K J hX v hx hxi kK kJ
    unfold keysZ at hxi
    rw [List.getElem?_map] at hxi
    obtain ⟨q, hq, rfl⟩ : ∃ q, Z[i]? = some q ∧ x = (keyB q.c, some ⟨q.p, 0, none⟩) := by
      cases hy : Z[i]? with
      | none => rw [hy] at hxi; cases hxi
      | some q => rw [hy] at hxi; cases hxi; exact ⟨q, rfl, rfl⟩
    have hqz : q ∈ Z := List.mem_of_getElem? hq
    obtain ⟨o, o1, o2, o3⟩ := v.out
    have hlo := own_len cN_len (by omega) o2
    rw [lensZ_len, List.length_take] at hlo
    have zq := z.ext v.ext
    have c5 : cellH h5 ⟨n2, 0, none⟩ = some o.enc := Blk.cell (i := 0) o1 rfl
    refine ldL_of c5 (C.Len_spec (zq.ch q hqz) ⟨c5, ?_⟩)
    refine newL_of fun n14 h14 hn14 b14 e14 s14 => ⟨e14.cell c5 fun f => f, ?_⟩
    have hi : i < Z.length := (List.getElem?_eq_some_iff.1 hq).1
    refine app_list (L := lensZ (Z.take i)) (M := [q.vs.length]) cN_len (by omega) el_Slint (o2.ext e14) (blk_reads b14 rfl) (fun x => one1 rfl) (by simp only [List.length_singleton, lensZ_len, List.length_take]; omega) fun r15 h15 w15 o15 n15 => ?_
    have x14 : Blk h14 n2 #[o.enc] tn_Slint := e14.block o1 fun f => f
    obtain ⟨l2, lq, ld⟩ := v.lt
    have lts := v.lt
    have hob : o.blk ≠ some n2 := fun e => by have := o3 _ e; omega
    have x15 : Blk h15 n2 #[o.enc] tn_Slint := o15.block x14 hob
    have hh5 : hL.size + 1 < h5.size := (Array.getElem?_eq_some_iff.1 hx).1
    refine stH_of x15 (by simp) fun h16 b16 o16 s16 => ?_
    have r15n : ∀ y, r15.blk = some y → hL.size + 2 ≤ y := fun y hy => by
      rcases n15 with n15 | ⟨y', n15, n16⟩
      · exact o3 y (by rw [← n15]; exact hy)
      · rw [n15] at hy; cases hy
        have := e14.size; omega
    have v14 : MI h hL h14 n2 ka ma b r (keysZ Z) (lensZ (Z.take i)) := v.only e14 fun _ f => f.elim
    have no : ∀ m, m ≤ hL.size + 1 → ¬ (o.blk = some m) := fun m hm e => by have := o3 m e; omega
    have o14 : Only (fun m => o.blk = some m ∨ m = n2) h14 h16 := (o15.mono fun _ _ e => .inl e).trans o16 fun _ _ e => .inr e
    refine kK h16 ⟨v14.ext.step o14 fun m hm e => ?_, v14.sq.only o14 fun m hm e => ?_, o14.block v14.dfr fun e => ?_, ⟨r15, b16, ?_, r15n⟩, ?_, lts⟩ (o14.block (e14.block hx fun f => f) fun e => ?_)
    · rcases e with e | e
      · have := o3 m e; have := (e1.trans eL).size; omega
      · omega
    · rcases e with e | e
      · have := o3 m e; have := (lq m hm).1; omega
      · exact (lq m hm).2 e
    · rcases e with e | e
      · exact no _ (by omega) e
      · omega
    · have hsn : lensZ (Z.take (i + 1)) = lensZ (Z.take i) ++ [q.vs.length] := by
        unfold lensZ
        obtain ⟨h1, h2⟩ := List.getElem?_eq_some_iff.1 hq
        rw [List.take_succ_eq_append_getElem h1, h2, List.map_append]; rfl
      rw [hsn]
      exact w15.only o16 fun m hm e => by have := r15n m hm; omega
    · have := o14.size; have := v14.sz; omega
    · rcases e with e | e
      · exact no _ (Nat.le_refl _) e
      · omega
  · obtain ⟨o, o1, o2, o3⟩ := v.out
    rw [keysZ_len, List.take_length] at o2
    have hlo := own_len cN_len (by omega) o2
    rw [lensZ_len] at hlo
    have c5 : cellH h' ⟨n2, 0, none⟩ = some o.enc := Blk.cell (i := 0) o1 rfl
    have hle : h.size ≤ hL.size := (e1.trans eL).size
    refine ldL_of c5 ⟨fun g => ?_, fun g => ldL_of c5 ?_⟩
    · have hz : Z = [] := List.eq_nil_of_length_eq_zero (by have : (o.len : Int) = 0 := by simpa using g
                                                            omega)
      refine shut1 v.dfr fun h9 o9 => ?_
      have := k h9 (v.ext.step o9 fun m hm e => by omega)
      rw [hmost, hz] at this; exact this
    · have hz : Z ≠ [] := fun e => by rw [e] at hlo; simp [hlo] at g
      refine Max_spec o2.reads (by simpa [lensZ] using hz) (by rw [lensZ_len]; omega) (shut1 v.dfr fun h9 o9 => ?_)
      have := k h9 (v.ext.step o9 fun m hm e => by omega)
      rw [hmost] at this; exact this
end Go.Proofs.YtoccbnhahaoeiaaGreat.V.S
