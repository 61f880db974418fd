/- Parts of the proof of StoreRoutes; no condition. -/
import Derived.ChangeSlices
import Derived.OpenShut
import Derived.Shelf.SlLaysM
import Derived.Shelf.SortM.Plain
import Derived.Shelf.SortM.SortNone
import Derived.Sort.KeysCollected
import Derived.Sort.OwnSorted
import Derived.Test.YtjjchpaomgmmdaaGreatProg
import Derived.Test.YtjjchpaomgmmdaaGreatQStoreRoutes2
namespace Go.Proofs.YtjjchpaomgmmdaaGreat.V.C
open Go Go.Proofs.YtjjchpaomgmmdaaGreat.V
set_option linter.unusedVariables false
set_option linter.unusedSimpArgs false
set_option maxRecDepth 20000
abbrev FP (p : Nat) (B : Option Nat) : Nat -> Prop := fun b => b = p ∨ B = some b
def Kin (n : Nat) (B B' : Option Nat) : Prop := B' = B ∨ B' = none ∨ ∃ b, B' = some b ∧ n <= b
theorem lay_spec {h : H} {p : Nat} {L : List Ver} {B : Option Nat} {x : Ver} {Q : Int -> H -> Prop} (c : Ch h p L B) (hL : L.length < 4294967296)
    (k : ∀ h' B', Ch h' p (layM L x) B' -> Only (FP p B) h h' -> Kin h.size B B' -> Q (layN L x) h') : F.xas (some ⟨p, 0, none⟩) x h Q := by
  have hp := c.lt
  unfold F.xas
  refine new_of fun n h1 e1 e2 e3 e4 => ?_
  have c1 := c.ext e3
  obtain ⟨s, hb, ho, hB, hne⟩ := c1
  have hl := Ch.len ho
  have hc0 : cellH h1 ⟨p, 0, none⟩ = some s.enc := hb.cell rfl
  have hx0 : cellH h1 ⟨n, 0, none⟩ = some (.int .i64 x.epoch) := e2.cell rfl
  have hxc : Cells h1 ⟨n, 0, none⟩ x.cells := fun j v hv => by rw [add_lit, Nat.zero_add]; exact e2.cell (by simpa using hv)
  -- the new version is appended
  have happ : ¬ (L ≠ [] ∧ lastE L = x.epoch) -> F.xas.j1 Q (some ⟨p, 0, none⟩) ⟨n, 0, none⟩ h1 := fun hno => by
    unfold F.xas.j1
    simp only [nn_some, add_lit, Nat.add_zero]
    rw [ldL_iff hc0]
    refine ⟨x, hxc, ?_⟩
    refine newL_of fun n2 h2 f1 f2 f3 f4 => ?_
    refine ⟨f3.cell hc0 (fun f => f), ?_⟩
    refine app_of (ys := x.cells) el_Slchain_version_api_Agg (ho.only f3 (fun _ _ f => f)) (blk_reads (by simpa using f2) rfl) (ones_S_chain_version_api_Agg x) (by simp only; omega) fun r h3 r1 r2 r3 r4 => ?_
    have hb3 : Blk h3 p #[s.enc] tn_chain_Chain_api_Agg := r3.block (f3.block hb (fun f => f)) (by rw [hB]; exact hne)
    refine stH_of hb3 (by simp) fun h4 g1 g2 g3 => ?_
    have hr1 : r.blk ≠ some p := by
      rcases r4 with r4 | ⟨b, r4, r5⟩
      · rw [r4, hB]; exact hne
      · rw [r4]; intro e; cases e; omega
    have hm : layM L x = L ++ [x] := if_neg hno
    have hn : layN L x = 1 := if_neg hno
    rw [← hn]
    refine k h4 r.blk ⟨r, g1, ?_, rfl, hr1⟩ ?_ ?_
    · rw [hm, List.flatMap_append]
      exact (by simpa using r1 : Owns h3 r tn_chain_version_api_Agg 6 (L.flatMap (·.cells) ++ x.cells)).only g2 (fun b hb e => hr1 (by rw [hb, e])) |> (by simpa using ·)
    · refine (((e3.only (S := FP p B)).ext f3).trans r3 fun m _ e => .inr (by rw [← hB]; exact e)).trans g2 fun m _ e => .inl e
    · rcases r4 with r4 | ⟨b, r4, r5⟩
      · exact .inl (by rw [r4, hB])
      · exact .inr (.inr ⟨b, r4, by omega⟩)
  -- the newest version is written anew
  have hset : L ≠ [] ∧ lastE L = x.epoch -> F.xas.j2 Q (some ⟨p, 0, none⟩) ⟨n, 0, none⟩ (L.length : Int) true h1 := fun hyes => by
    have hpos : 0 < L.length := List.length_pos_iff.2 hyes.1
    obtain ⟨b, a1, a2, a3, a4, a5⟩ := Ch.at ho (last_get hyes.1)
    refine ⟨fun _ => ?_, fun h => by cases h⟩
    simp only [nn_some, add_lit, Nat.add_zero]
    rw [ldL_iff hc0]
    refine ⟨x, hxc, ?_⟩
    refine idxA_of (i := L.length - 1) a1 (by omega) (by rw [w64 (by omega) (by omega)]; omega) ?_
    have hfl := flat_len (·.cells) 6 ver_len L
    refine own_set ho a1 (by rw [hfl]; simp [S_chain_version_api_Agg.cells, S_api_Agg.cells]; omega) fun h4 g1 g2 g3 => ?_
    have hm : layM L x = L.dropLast ++ [x] := if_pos hyes
    have hn : layN L x = 0 := if_pos hyes
    rw [← hn]
    refine k h4 B ⟨s, g2.block hb (by rw [hB]; exact hne), ?_, hB, hne⟩ ((e3.only (S := FP p B)).trans g2 fun m _ e => .inr (by rw [← hB]; exact e)) (.inl rfl)
    rw [hm, List.flatMap_append]
    have e1 : (L.flatMap (·.cells)).take ((L.length - 1) * 6) = L.dropLast.flatMap (·.cells) := by
      have hd : L = L.dropLast ++ [L.getLast hyes.1] := (List.dropLast_concat_getLast hyes.1).symm
      have hdl := flat_len (·.cells) 6 ver_len L.dropLast
      rw [List.length_dropLast] at hdl
      conv => lhs; rw [hd, List.flatMap_append]
      rw [show ((L.dropLast ++ [L.getLast hyes.1]).length - 1) = L.length - 1 from by simp]
      rw [← hdl, List.take_left]
    have e2 : (L.flatMap (·.cells)).drop ((L.length - 1) * 6 + x.cells.length) = [] := by
      apply List.drop_eq_nil_of_le
      rw [hfl, ver_len]; omega
    rw [e1, e2] at g1
    simpa using g1
  simp only [nn_some, add_lit, Nat.add_zero, ldL_iff hc0, hl]
  by_cases hn : L = []
  · refine ⟨fun g => ?_, fun g => ⟨(fun h => by cases h), fun _ => happ fun h => h.1 hn⟩⟩
    rw [decide_eq_true_iff] at g; subst hn; simp at g
  · have hpos : 0 < L.length := List.length_pos_iff.2 hn
    refine ⟨fun g => ?_, fun g => by rw [decide_eq_false_iff_not] at g; omega⟩
    obtain ⟨b, a1, a2, a3, a4, a5⟩ := Ch.at ho (last_get hn)
    refine idxA_of (i := L.length - 1) a1 (by omega) (by rw [w64 (by omega) (by omega)]; omega) ?_
    simp only [add_lit, Nat.add_zero]
    rw [ldI_iff a2, ldI_iff hx0]
    have hle : lastE L = (L.getLast hn).epoch := by unfold lastE; rw [List.getLast?_eq_some_getLast hn]
    rw [← hle]
    by_cases he : lastE L = x.epoch
    · rw [show (lastE L == x.epoch) = true from by simp [he]]
      exact hset ⟨hn, he⟩
    · rw [show (lastE L == x.epoch) = false from by simp [he]]
      exact ⟨fun h => (by cases h), fun _ => happ fun h => he h.2⟩
abbrev zA : S_api_Agg := ⟨0, 0, 0, 0⟩
theorem st_agg {h : H} {n : Nat} {c d : S_api_Agg} {e : TypeId} {K : H -> Prop} (b : Blk h n c.cells.toArray e) (k : ∀ h', Blk h' n d.cells.toArray e -> Only (· = n) h h' -> h'.size = h.size -> K h') : stH h ⟨n, 0, none⟩ d.cells K := by
  refine stH_of b (Nat.le_refl 4) fun h' q1 q2 q3 => k h' ?_ q2 q3
  rw [writeA_all (by rfl)] at q1
  exact q1
theorem Kin.ge {n n' : Nat} {B B' : Option Nat} (k : Kin n' B B') (h : n <= n') : Kin n B B' := by
  rcases k with k | k | ⟨b, k, k2⟩
  · exact .inl k
  · exact .inr (.inl k)
  · exact .inr (.inr ⟨b, k, by omega⟩)
theorem Put_spec {h : H} {p : Nat} {L : List Ver} {B : Option Nat} {e : Int} {v : S_api_Agg} {Q : Int -> Int -> H -> Prop} (c : Ch h p L B) (hL : L.length < 4294967296)
    (k0 : mayM L e ≠ 0 -> ∀ h', Ext h h' -> Q 0 (mayM L e) h')
    (k1 : mayM L e = 0 -> ∀ h' B', Ch h' p (layM L ⟨e, v, false⟩) B' -> Only (FP p B) h h' -> Kin h.size B B' -> Q (layN L ⟨e, v, false⟩) 0 h') : F.xcg (some ⟨p, 0, none⟩) e v h Q := by
  unfold F.xcg
  refine new_of fun n h1 hn b1 e1 s1 => ?_
  refine may_spec (c.ext e1) hL ⟨fun g => k0 (by simpa using g) h1 e1, fun g => ⟨v, Blk.cells b1, ?_⟩⟩
  exact lay_spec (c.ext e1) hL fun h' B' q1 q2 q3 => k1 (by simpa using g) h' B' q1 ((e1.only (S := FP p B)).trans q2 fun m _ e => e) (q3.ge e1.size)
def newestM (L : List Ver) : S_api_Agg × Int × Bool := match L.getLast? with | some x => (x.value, x.epoch, !x.dead) | none => (zA, 0, false)
theorem Newest_spec {h : H} {p : Nat} {L : List Ver} {B : Option Nat} {Q : S_api_Agg -> Int -> Bool -> H -> Prop} (c : Ch h p L B) (hL : L.length < 4294967296)
    (k : ∀ h', Ext h h' -> Q (newestM L).1 (newestM L).2.1 (newestM L).2.2 h') : F.xbr (some ⟨p, 0, none⟩) h Q := by
  unfold F.xbr
  refine new_of fun n0 h0 hn0 b0 e0 s0 => ?_
  obtain ⟨s, hb, ho, hB, hne⟩ := c.ext e0
  have hl := Ch.len ho
  have hc0 : cellH h0 ⟨p, 0, none⟩ = some s.enc := hb.cell rfl
  simp only [nn_some, add_lit, Nat.add_zero, ldL_iff hc0, hl]
  have b0' : Blk h0 n0 zA.cells.toArray tn_api_Agg := b0
  by_cases hn : L = []
  · subst hn
    refine ⟨fun _ => ⟨zA, b0'.cells, st_agg b0' fun h1 b1 o1 s1 => ⟨zA, b1.cells, ?_⟩⟩, fun g => by simp at g⟩
    exact k h1 (e0.step o1 fun m hm hb => by omega)
  · have hpos : 0 < L.length := List.length_pos_iff.2 hn
    refine ⟨fun g => by rw [beq_iff_eq] at g; omega, fun _ => ?_⟩
    obtain ⟨b, a1, a2, a3, a4, a5⟩ := Ch.at ho (last_get hn)
    refine idxA_of (i := L.length - 1) a1 (by omega) (by rw [w64 (by omega) (by omega)]; omega) ?_
    refine ⟨_, a5, ?_⟩
    refine new_of fun n h1 hn1 e2 e3 e4 => ?_
    refine ⟨a5.ext e3, e3.cell hc0 (fun f => f), e3.cell hc0 (fun f => f), ?_⟩
    refine stH_of e2 (Nat.le_refl 6) fun h2 f1 f2 f3 => ?_
    rw [writeA_all (by rfl)] at f1
    have f1c := Blk.cells f1
    simp only [add_lit, Nat.zero_add, Nat.add_zero]
    have v4 : Cells h2 ⟨n, 1, none⟩ (L.getLast hn).value.cells := fun j v hv => by
      rw [add_lit]
      have q : ∀ i, i < 4 -> ((L.getLast hn).cells)[1 + i]? = ((L.getLast hn).value.cells)[i]? := fun i hi => by
        match i, hi with
        | 0, _ => rfl
        | 1, _ => rfl
        | 2, _ => rfl
        | 3, _ => rfl
      have hj : j < 4 := (List.getElem?_eq_some_iff.1 hv).1
      have := f1c (1 + j) v (by rw [q j hj]; exact hv)
      rwa [add_lit, Nat.zero_add] at this
    have c0 : cellH h2 ⟨n, 0, none⟩ = some (.int .i64 (L.getLast hn).epoch) := f1c 0 _ rfl
    have c5 : cellH h2 ⟨n, 5, none⟩ = some (.bool (L.getLast hn).dead) := f1c 5 _ rfl
    refine ⟨_, v4, ldI_of c0 (ldB_of c5 ?_)⟩
    have n0n : n0 ≠ n := by omega
    have b2 : Blk h2 n0 zA.cells.toArray tn_api_Agg := f2.block (e3.block b0' fun f => f) n0n
    refine st_agg b2 fun h3 b3 o3 s3 => ?_
    have z : Only (· = n0) h2 h3 := o3
    refine ⟨z.cell c5 (fun h => n0n h.symm), z.cell c0 (fun h => n0n h.symm), _, b3.cells, ?_⟩
    have hle : newestM L = ((L.getLast hn).value, (L.getLast hn).epoch, !(L.getLast hn).dead) := by unfold newestM; rw [List.getLast?_eq_some_getLast hn]
    have := k h3 (((e0.trans e3).step f2 fun m hm hb => by omega).step o3 fun m hm hb => by omega)
    rw [hle] at this
    exact this
abbrev Rise (L : List Ver) : Prop := L.Pairwise fun x y => x.epoch < y.epoch
def cntM (L : List Ver) (e : Int) : Nat := L.countP fun x => decide (x.epoch <= e)
theorem Rise.lt {L : List Ver} (r : Rise L) {i j : Nat} {x y : Ver} (hij : i < j) (hx : L[i]? = some x) (hy : L[j]? = some y) : x.epoch < y.epoch := by
  obtain ⟨hi, rfl⟩ := List.getElem?_eq_some_iff.1 hx
  obtain ⟨hj, rfl⟩ := List.getElem?_eq_some_iff.1 hy
  exact List.pairwise_iff_getElem.1 r i j hi hj hij
theorem cnt_eq {α : Type} (q : α -> Bool) : ∀ (L : List α) (i : Nat), i <= L.length -> (∀ t x, t < i -> L[t]? = some x -> q x = true) -> (∀ t x, i <= t -> L[t]? = some x -> q x = false) -> L.countP q = i
  | [], i, hi, _, _ => by simp at hi; simp [hi]
  | y :: r, 0, hi, h1, h2 => by
    rw [List.countP_cons, h2 0 y (by omega) rfl, cnt_eq q r 0 (by omega) (fun t x ht => by omega) (fun t x ht hx => h2 (t + 1) x (by omega) (by simpa using hx))]
    rfl
  | y :: r, i + 1, hi, h1, h2 => by
    simp at hi
    rw [List.countP_cons, h1 0 y (by omega) rfl, cnt_eq q r i hi (fun t x ht hx => h1 (t + 1) x (by omega) (by simpa using hx)) (fun t x ht hx => h2 (t + 1) x (by omega) (by simpa using hx))]
    rfl
theorem mid_eq {i j : Nat} (h : i + j < 4294967296) : IntKind.wrap .i64 (Int.fdiv (IntKind.wrap .u64 (IntKind.wrap .i64 ((i : Int) + j))) (2 ^ (min (1 : Int).toNat (IntKind.bits .u64)) : Int)) = ((i + j) / 2 : Nat) := by
  rw [w64 (n := (i : Int) + j) (by omega) (by omega)]
  have e1 : IntKind.wrap .u64 ((i : Int) + j) = ((i + j : Nat) : Int) := by
    unfold IntKind.wrap
    simp [IntKind.bits, IntKind.signed]
    omega
  rw [e1, show (2 ^ (min (1 : Int).toNat (IntKind.bits .u64)) : Int) = 2 from by simp [IntKind.bits], Int.fdiv_eq_ediv_of_nonneg _ (by omega), show (((i + j : Nat) : Int) / 2) = (((i + j) / 2 : Nat) : Int) from by omega, w64 (by omega) (by omega)]
theorem cmp_spec {h : H} {x : Ver} {e : Int} {K : Value -> H -> Prop} (k : ∀ h', Ext h h' -> K (.int .i64 (if x.epoch <= e then -1 else 1)) h') : CV PP (.func (.func no_chain_Chain_api_Agg_place_1) #[] #[]) [.agg x.cells.toArray, .int .i64 e] h K := by
  refine CV_func (fun a w => no_chain_Chain_api_Agg_place_1_call a w) ?_
  have : F.xcs x e h fun r h' => K (.int .i64 r) h' := by
    unfold F.xcs
    refine new_of fun n h1 e1 e2 e3 e4 => ?_
    simp only [add_lit, Nat.add_zero]
    rw [ldI_iff (e2.cell (v := .int .i64 x.epoch) rfl)]
    simp only [decide_eq_true_eq, decide_eq_false_iff_not]
    refine ⟨fun g => ?_, fun g => ?_⟩
    · have := k h1 e3; rw [if_pos g] at this; exact this
    · have := k h1 e3; rw [if_neg g] at this; exact this
  have := F.xcs_ok this
  simp only [List.append_toArray, Array.empty_append, Array.append_empty]
  exact this.mono fun r h' ⟨r0, e, q⟩ => by subst e; exact q
theorem bs_loop {s : Sl} {e : Int} {L : List Ver} {Q : Int -> Bool -> H -> Prop} (hr : Rise L) (hL : L.length < 1073741824) : ∀ (m i j : Nat) (h : H), Owns h s tn_chain_version_api_Agg 6 (L.flatMap (·.cells)) -> i <= j -> j <= L.length ->
    (∀ t x, t < i -> L[t]? = some x -> x.epoch <= e) -> (∀ t x, j <= t -> L[t]? = some x -> e < x.epoch) -> j - i < m -> (∀ r h', Ext h h' -> Q (cntM L e) r h') ->
    F.xbf.l1 Q m s e (.func (.func no_chain_Chain_api_Agg_place_1) #[] #[]) (L.length : Int) (i : Int) (j : Int) h
  | 0, i, j, h, _, _, _, _, _, hm, _ => by omega
  | m + 1, i, j, h, ho, hij, hj, hlo, hhi, hm, k => by
    unfold F.xbf.l1
    simp only [decide_eq_true_eq, decide_eq_false_iff_not]
    refine ⟨fun g => ⟨by omega, ?_⟩, fun g => ?_⟩
    · rw [mid_eq (by omega)]
      have hm1 : (i + j) / 2 < L.length := by omega
      obtain ⟨x, hx⟩ : ∃ x, L[(i + j) / 2]? = some x := ⟨_, List.getElem?_eq_getElem hm1⟩
      obtain ⟨b, a1, a2, a3, a4, a5⟩ := Ch.at ho hx
      have hl := Ch.len ho
      refine idxA_of (i := (i + j) / 2) a1 (by omega) rfl ?_
      refine ⟨x, a5, cmp_spec fun h' e1 => ⟨_, rfl, fun g2 => ?_, fun g2 => ?_⟩⟩
      · have hxe : x.epoch <= e := by
          by_cases hh : x.epoch <= e
          · exact hh
          · rw [if_neg hh] at g2; omega
        rw [w64 (by omega) (by omega), show (((i + j) / 2 : Nat) : Int) + 1 = (((i + j) / 2 + 1 : Nat) : Int) from by omega]
        refine bs_loop hr hL m _ j h' (ho.only e1 fun _ _ f => f) (by omega) hj (fun t y ht hy => ?_) hhi (by omega) fun r h2 e2 => k r h2 (e1.trans e2)
        by_cases ht2 : t = (i + j) / 2
        · subst ht2; rw [hx] at hy; cases hy; exact hxe
        · have := hr.lt (by omega) hy hx; omega
      · have hxe : ¬ x.epoch <= e := fun hh => by rw [if_pos hh] at g2; omega
        refine bs_loop hr hL m i _ h' (ho.only e1 fun _ _ f => f) (by omega) (by omega) hlo (fun t y ht hy => ?_) (by omega) fun r h2 e2 => k r h2 (e1.trans e2)
        by_cases ht2 : t = (i + j) / 2
        · subst ht2; rw [hx] at hy; cases hy; omega
        · have := hr.lt (show (i + j) / 2 < t by omega) hx hy; omega
    · have hij2 : i = j := by omega
      subst hij2
      have hc : cntM L e = i := cnt_eq _ L i hj (fun t x ht hx => by simpa using hlo t x ht hx) fun t x ht hx => by simpa using hhi t x ht hx
      rw [hc] at k
      refine ⟨fun g2 => ?_, fun g2 => k _ h (.refl _)⟩
      obtain ⟨x, hx⟩ : ∃ x, L[i]? = some x := ⟨_, List.getElem?_eq_getElem (by omega)⟩
      obtain ⟨b, a1, a2, a3, a4, a5⟩ := Ch.at ho hx
      have hl := Ch.len ho
      refine idxA_of (i := i) a1 (by omega) rfl ?_
      exact ⟨x, a5, cmp_spec fun h' e1 => ⟨_, rfl, k _ h' e1⟩⟩
theorem place_spec {h : H} {p : Nat} {L : List Ver} {B : Option Nat} {e : Int} {Q : Int -> H -> Prop} (c : Ch h p L B) (hr : Rise L) (hL : L.length < 1073741824)
    (k : ∀ h', Ext h h' -> Q ((cntM L e : Int) - 1) h') : F.xbh (some ⟨p, 0, none⟩) e h Q := by
  obtain ⟨s, hb, ho, hB, hne⟩ := c
  have hl := Ch.len ho
  have hc0 : cellH h ⟨p, 0, none⟩ = some s.enc := hb.cell rfl
  have hcl : cntM L e <= L.length := List.countP_le_length
  simp only [F.xbh, nn_some, add_lit, Nat.add_zero, ldL_iff hc0]
  unfold F.xbf
  refine ⟨L.length + 1, ?_⟩
  rw [hl]
  refine bs_loop hr hL _ 0 L.length h ho (by omega) (by omega) (fun t x ht => by omega) (fun t x ht hx => ?_) (by omega) fun r h' e1 => ?_
  · rw [List.getElem?_eq_none (by omega)] at hx; cases hx
  · rw [w64 (by omega) (by omega)]
    exact k h' e1
def atM (L : List Ver) (e : Int) : S_api_Agg × Bool := match (L.filter fun x => decide (x.epoch <= e)).getLast? with | some x => if x.dead then (zA, false) else (x.value, true) | none => (zA, false)
theorem rise_filter {L : List Ver} (hr : Rise L) (e : Int) : L.filter (fun x => decide (x.epoch <= e)) = L.take (cntM L e) := by
  unfold cntM
  induction L with
  | nil => rfl
  | cons y r ih =>
    have hr' := List.pairwise_cons.1 hr
    by_cases hy : y.epoch <= e
    · simp [hy, ih hr'.2]
    · have hno : ∀ x ∈ r, ¬ x.epoch <= e := fun x hx => by have := hr'.1 x hx; omega
      have h1 : r.filter (fun x => decide (x.epoch <= e)) = [] := by simp; intro x hx; have := hno x hx; omega
      have h2 : r.countP (fun x => decide (x.epoch <= e)) = 0 := by rw [List.countP_eq_length_filter, h1]; rfl
      simp [hy, h1, h2]
theorem at_last {L : List Ver} (hr : Rise L) (e : Int) : (L.filter fun x => decide (x.epoch <= e)).getLast? = if cntM L e = 0 then none else L[cntM L e - 1]? := by
  have hcl : cntM L e <= L.length := List.countP_le_length
  rw [rise_filter hr, List.getLast?_eq_getElem?, List.length_take, Nat.min_eq_left hcl]
  split
  · rename_i h0; rw [h0]; simp
  · rw [List.getElem?_take_of_lt (by omega)]
theorem At_spec {h : H} {p : Nat} {L : List Ver} {B : Option Nat} {e : Int} {Q : S_api_Agg -> Bool -> H -> Prop} (c : Ch h p L B) (hr : Rise L) (hL : L.length < 1073741824)
    (k : ∀ h', Ext h h' -> Q (atM L e).1 (atM L e).2 h') : F.xau (some ⟨p, 0, none⟩) e h Q := by
  unfold F.xau
  refine new_of fun n0 h0 hn0 b0 e0 s0 => ?_
  have b0' : Blk h0 n0 zA.cells.toArray tn_api_Agg := b0
  refine place_spec (c.ext e0) hr hL fun h1 e1 => ?_
  have e01 := e0.trans e1
  have b1 : Blk h1 n0 zA.cells.toArray tn_api_Agg := e1.block b0' fun f => f
  obtain ⟨s, hb, ho, hB, hne⟩ := c.ext e01
  have hl := Ch.len ho
  have hc0 : cellH h1 ⟨p, 0, none⟩ = some s.enc := hb.cell rfl
  have hcl : cntM L e <= L.length := List.countP_le_length
  have none_ : (atM L e) = (zA, false) -> F.xau.j1 Q ⟨n0, 0, none⟩ h1 := fun hn => by
    unfold F.xau.j1
    refine ⟨zA, b1.cells, st_agg b1 fun h2 b2 o2 s2 => ⟨zA, b2.cells, ?_⟩⟩
    have := k h2 (e01.step o2 fun m hm hb => by omega)
    rw [hn] at this; exact this
  unfold atM at none_ k
  rw [at_last hr e] at none_ k
  simp only [F.xau.j2, nn_some, add_lit, Nat.add_zero, ldL_iff hc0, decide_eq_true_eq, decide_eq_false_iff_not]
  refine ⟨fun g => ?_, fun g => ⟨(fun h => by cases h), fun _ => none_ (by rw [if_pos (by omega)])⟩⟩
  rw [if_neg (by omega)] at none_ k
  obtain ⟨x, hx⟩ : ∃ x, L[cntM L e - 1]? = some x := ⟨_, List.getElem?_eq_getElem (by omega)⟩
  rw [hx] at none_ k
  obtain ⟨b, a1, a2, a3, a4, a5⟩ := Ch.at ho hx
  refine idxA_of (i := cntM L e - 1) a1 (by omega) (by omega) ?_
  simp only [add_lit, Nat.add_zero]
  rw [ldB_iff a4]
  cases hd : x.dead with
  | true => exact ⟨(fun h => by cases h), fun _ => none_ (by simp [hd])⟩
  | false =>
    simp only [hd] at k
    refine ⟨fun _ => ?_, (fun h => by cases h)⟩
    refine idxA_of (i := cntM L e - 1) a1 (by omega) (by omega) ?_
    rw [add_lit]
    refine ⟨x.value, a3, st_agg b1 fun h2 b2 o2 s2 => ⟨_, b2.cells, ?_⟩⟩
    exact k h2 (e01.step o2 fun m hm hb => by omega)
end Go.Proofs.YtjjchpaomgmmdaaGreat.V.C
namespace Go.Proofs.YtjjchpaomgmmdaaGreat.V
open Go
set_option linter.unusedVariables false
set_option linter.unusedSimpArgs false
theorem i64_of {n : Int} (h : (Lit.int .i64 n).wf = true) : -9223372036854775808 <= n ∧ n < 9223372036854775808 := by
  simp [Lit.wf, IntKind.min, IntKind.max, IntKind.bits, IntKind.signed] at h
  omega
structure Pl (α : Type) where
  is_ : Nat
  key : ByteArray
  value : α
abbrev kL (k : ByteArray) : List UInt8 := k.data.toList
theorem kL_inj {a b : ByteArray} (h : kL a = kL b) : a = b := by
  obtain ⟨x⟩ := a
  obtain ⟨y⟩ := b
  congr 1
  exact Array.toList_inj.1 h
def hashL (l : List UInt8) : Nat := l.foldl (fun h c => ((h ^^^ c.toNat) * 1099511628211) % 18446744073709551616) 14695981039346656037
def hashM (k : ByteArray) : Nat := hashL (kL k)
section
variable {α : Type}
def probe (R : List (Pl α)) (key : ByteArray) : Nat -> Nat -> Option (Nat × Bool)
  | 0, _ => none
  | f + 1, i => match R[i]? with
    | none => none
    | some p => if p.is_ = 0 then some (i, false) else if p.is_ = 1 ∧ kL p.key = kL key then some (i, true) else probe R key f ((i + 1) % R.length)
def homeM (R : List (Pl α)) (key : ByteArray) : Nat := hashM key % R.length
def findM (R : List (Pl α)) (key : ByteArray) : Option (Nat × Bool) := if R.length = 0 then some (0, false) else probe R key (R.length + 1) (homeM R key)
def dist (n h i : Nat) : Nat := if h <= i then i - h else i + n - h
theorem dist_lt {n h i : Nat} (hh : h < n) (hi : i < n) : dist n h i < n := by unfold dist; split <;> omega
theorem ring_dist {n h i : Nat} (hh : h < n) (hi : i < n) : (h + dist n h i) % n = i := by
  unfold dist
  split
  · rw [show h + (i - h) = i from by omega, Nat.mod_eq_of_lt hi]
  · rw [show h + (i + n - h) = i + n from by omega, Nat.add_mod_right, Nat.mod_eq_of_lt hi]
theorem ring_val {n h k : Nat} (hh : h < n) (hk : k < n) : (h + k) % n = if h + k < n then h + k else h + k - n := by
  split
  · rename_i g; exact Nat.mod_eq_of_lt g
  · rename_i g
    rw [show h + k = (h + k - n) + n from by omega, Nat.add_mod_right, Nat.mod_eq_of_lt (by omega)]
    omega
theorem dist_ring {n h k : Nat} (hh : h < n) (hk : k < n) : dist n h ((h + k) % n) = k := by
  rw [ring_val hh hk]; unfold dist
  split <;> split <;> omega
theorem ring_lt {n h k : Nat} (hn : 0 < n) : (h + k) % n < n := Nat.mod_lt _ hn
theorem ring_succ {n h k : Nat} : ((h + k) % n + 1) % n = (h + (k + 1)) % n := by
  rw [Nat.add_mod ((h + k) % n), Nat.mod_mod, ← Nat.add_mod, Nat.add_assoc]
def Full (R : List (Pl α)) (i : Nat) : Prop := ∃ p, R[i]? = some p ∧ p.is_ ≠ 0
def Hit (R : List (Pl α)) (key : ByteArray) (i : Nat) : Prop := ∃ p, R[i]? = some p ∧ p.is_ = 1 ∧ kL p.key = kL key
def Empty (R : List (Pl α)) (i : Nat) : Prop := ∃ p, R[i]? = some p ∧ p.is_ = 0
theorem full_or_empty {R : List (Pl α)} {i : Nat} (h : i < R.length) : Full R i ∨ Empty R i := by
  by_cases e : R[i].is_ = 0
  · exact .inr ⟨_, List.getElem?_eq_getElem h, e⟩
  · exact .inl ⟨_, List.getElem?_eq_getElem h, e⟩
theorem Empty.lt {R : List (Pl α)} {i : Nat} (h : Empty R i) : i < R.length := by
  obtain ⟨p, h1, _⟩ := h; exact (List.getElem?_eq_some_iff.1 h1).1
theorem Hit.lt {R : List (Pl α)} {key : ByteArray} {i : Nat} (h : Hit R key i) : i < R.length := by
  obtain ⟨p, h1, _⟩ := h; exact (List.getElem?_eq_some_iff.1 h1).1
theorem probe_go {R : List (Pl α)} {key : ByteArray} {h : Nat} (hn : h < R.length) : ∀ (K f : Nat), (∀ k, k < K -> Full R ((h + k) % R.length) ∧ ¬ Hit R key ((h + k) % R.length)) -> ∀ j, j <= K -> probe R key (f + (K - j)) ((h + j) % R.length) = probe R key f ((h + K) % R.length) := by
  intro K f hk j hj
  obtain ⟨d, hd⟩ : ∃ d, K = j + d := ⟨K - j, by omega⟩
  subst hd
  induction d generalizing j with
  | zero => simp
  | succ d ih =>
    rw [show j + (d + 1) - j = d + 1 from by omega, ← Nat.add_assoc f d 1, probe]
    obtain ⟨⟨p, h1, h2⟩, h3⟩ := hk j (by omega)
    rw [h1]
    simp only [h2, if_false]
    rw [if_neg (fun hh => h3 ⟨p, h1, hh.1, hh.2⟩), ring_succ]
    have := ih (j + 1) (fun k hk2 => hk k (by omega)) (by omega)
    rw [show j + 1 + d - (j + 1) = d from by omega, show j + 1 + d = j + (d + 1) from by omega] at this
    exact this
theorem probe_hit {R : List (Pl α)} {key : ByteArray} {h K f : Nat} (hn : h < R.length) (hk : ∀ k, k < K -> Full R ((h + k) % R.length) ∧ ¬ Hit R key ((h + k) % R.length)) (hh : Hit R key ((h + K) % R.length)) (hf : K < f) : probe R key f h = some ((h + K) % R.length, true) := by
  have := probe_go hn K (f - K) hk 0 (by omega)
  rw [show f - K + (K - 0) = f from by omega, Nat.add_zero, Nat.mod_eq_of_lt hn] at this
  rw [this, show f - K = (f - K - 1) + 1 from by omega, probe]
  obtain ⟨p, h1, h2, h3⟩ := hh
  rw [h1]
  simp [h2, h3]
theorem probe_miss {R : List (Pl α)} {key : ByteArray} {h K f : Nat} (hn : h < R.length) (hk : ∀ k, k < K -> Full R ((h + k) % R.length) ∧ ¬ Hit R key ((h + k) % R.length)) (hh : Empty R ((h + K) % R.length)) (hf : K < f) : probe R key f h = some ((h + K) % R.length, false) := by
  have := probe_go hn K (f - K) hk 0 (by omega)
  rw [show f - K + (K - 0) = f from by omega, Nat.add_zero, Nat.mod_eq_of_lt hn] at this
  rw [this, show f - K = (f - K - 1) + 1 from by omega, probe]
  obtain ⟨p, h1, h2⟩ := hh
  rw [h1]
  simp [h2]
theorem least {P : Nat -> Prop} : ∀ m, (∃ k, k < m ∧ P k) -> ∃ k, k < m ∧ P k ∧ ∀ j, j < k -> ¬ P j
  | 0, ⟨k, h, _⟩ => by omega
  | m + 1, ⟨k, h, hp⟩ => by
    by_cases e : ∃ k, k < m ∧ P k
    · obtain ⟨k, h1, h2, h3⟩ := least m e
      exact ⟨k, by omega, h2, h3⟩
    · exact ⟨k, h, hp, fun j hj hpj => e ⟨j, by omega, hpj⟩⟩
def Chain (R : List (Pl α)) (key : ByteArray) (i : Nat) : Prop := ∀ k, k < dist R.length (homeM R key) i -> Full R ((homeM R key + k) % R.length)
theorem home_lt {R : List (Pl α)} {key : ByteArray} (h : 0 < R.length) : homeM R key < R.length := Nat.mod_lt _ h
theorem find_hit {R : List (Pl α)} {key : ByteArray} {i : Nat} (hh : Hit R key i) (hc : Chain R key i) (hu : ∀ j, Hit R key j -> j = i) : findM R key = some (i, true) := by
  have hlt := hh.lt
  have hn : 0 < R.length := by omega
  have hm := home_lt (R := R) (key := key) hn
  unfold findM
  rw [if_neg (by omega)]
  have hr := ring_dist hm hlt
  have hd := dist_lt hm hlt
  rw [probe_hit (K := dist R.length (homeM R key) i) hm (fun k hk => ⟨hc k hk, fun hk2 => ?_⟩) (by rw [hr]; exact hh) (by omega), hr]
  have := hu _ hk2
  have h2 := dist_ring hm (show k < R.length by omega)
  rw [this] at h2; omega
theorem find_miss {R : List (Pl α)} {key : ByteArray} (hn : ∀ j, ¬ Hit R key j) (hr : ∃ i, Empty R i) : ∃ i, findM R key = some (i, false) ∧ Empty R i ∧ Chain R key i := by
  obtain ⟨e, he⟩ := hr
  have hlt := he.lt
  have hm := home_lt (R := R) (key := key) (by omega)
  obtain ⟨K, h1, h2, h3⟩ := least (P := fun k => Empty R ((homeM R key + k) % R.length)) R.length ⟨dist R.length (homeM R key) e, dist_lt hm hlt, by rw [ring_dist hm hlt]; exact he⟩
  have full : ∀ k, k < K -> Full R ((homeM R key + k) % R.length) := fun k hk => (full_or_empty (ring_lt (by omega))).resolve_right (h3 k hk)
  refine ⟨(homeM R key + K) % R.length, ?_, h2, fun k hk => ?_⟩
  · unfold findM
    rw [if_neg (by omega)]
    exact probe_miss hm (fun k hk => ⟨full k hk, hn _⟩) h2 (by omega)
  · rw [dist_ring hm h1] at hk; exact full k hk
theorem find_nil {key : ByteArray} : findM ([] : List (Pl α)) key = some (0, false) := rfl
structure RowOk (R : List (Pl α)) : Prop where
  chain : ∀ (i : Nat) (p : Pl α), R[i]? = some p -> p.is_ = 1 -> Chain R p.key i
  uniq : ∀ (i j : Nat) (p q : Pl α), R[i]? = some p -> R[j]? = some q -> p.is_ = 1 -> q.is_ = 1 -> kL p.key = kL q.key -> i = j
theorem RowOk.hit {R : List (Pl α)} (r : RowOk R) {key : ByteArray} {i : Nat} (h : Hit R key i) : findM R key = some (i, true) := by
  obtain ⟨p, h1, h2, h3⟩ := h
  have hk := kL_inj h3
  refine find_hit ⟨p, h1, h2, h3⟩ (by rw [← hk]; exact r.chain i p h1 h2) fun j ⟨q, g1, g2, g3⟩ => r.uniq j i q p g1 h1 g2 h2 (g3.trans h3.symm)
theorem set_full {R : List (Pl α)} {i j : Nat} {p : Pl α} (h : Full R j) (hp : p.is_ ≠ 0) : Full (R.set i p) j := by
  obtain ⟨q, h1, h2⟩ := h
  by_cases e : i = j
  · subst e; exact ⟨p, by rw [List.getElem?_set, if_pos rfl, if_pos (List.getElem?_eq_some_iff.1 h1).1], hp⟩
  · exact ⟨q, by rw [List.getElem?_set, if_neg e]; exact h1, h2⟩
theorem set_chain {R : List (Pl α)} {i j : Nat} {p : Pl α} {key : ByteArray} (h : Chain R key j) (hp : p.is_ ≠ 0) : Chain (R.set i p) key j := by
  unfold Chain homeM at *
  rw [List.length_set]
  exact fun k hk => set_full (h k hk) hp
theorem set_get {R : List (Pl α)} {i j : Nat} {p q : Pl α} (h : (R.set i p)[j]? = some q) : (i = j ∧ q = p ∧ i < R.length) ∨ (i ≠ j ∧ R[j]? = some q) := by
  rw [List.getElem?_set] at h
  split at h
  · rename_i e
    split at h
    · exact .inl ⟨e, (Option.some.inj h).symm, by assumption⟩
    · cases h
  · rename_i e; exact .inr ⟨e, h⟩
theorem RowOk.put {R : List (Pl α)} (r : RowOk R) {p : Pl α} {i : Nat} (h1 : p.is_ = 1) (hc : Chain R p.key i) (hn : ∀ j, ¬ Hit R p.key j) : RowOk (R.set i p) := by
  refine ⟨fun j q hq hq1 => ?_, fun j k q s hq hs hq1 hs1 he => ?_⟩
  · rcases set_get hq with ⟨rfl, rfl, _⟩ | ⟨_, hq⟩
    · exact set_chain hc (by omega)
    · exact set_chain (r.chain j q hq hq1) (by omega)
  · rcases set_get hq with ⟨rfl, rfl, _⟩ | ⟨_, gq⟩
    · rcases set_get hs with ⟨rfl, _, _⟩ | ⟨_, gs⟩
      · rfl
      · exact absurd ⟨s, gs, hs1, he.symm⟩ (hn k)
    · rcases set_get hs with ⟨rfl, rfl, _⟩ | ⟨_, gs⟩
      · exact absurd ⟨q, gq, hq1, he⟩ (hn j)
      · exact r.uniq j k q s gq gs hq1 hs1 he
theorem RowOk.anew {R : List (Pl α)} (r : RowOk R) {p q : Pl α} {i : Nat} (h0 : R[i]? = some p) (hp : p.is_ = 1) (h1 : q.is_ = 1) (hk : kL q.key = kL p.key) : RowOk (R.set i q) := by
  have hk' := kL_inj hk
  refine ⟨fun j s hs hs1 => ?_, fun j k s t hs ht hs1 ht1 he => ?_⟩
  · rcases set_get hs with ⟨rfl, rfl, _⟩ | ⟨_, hs⟩
    · rw [hk']; exact set_chain (r.chain i p h0 hp) (by omega)
    · exact set_chain (r.chain j s hs hs1) (by omega)
  · rcases set_get hs with ⟨rfl, rfl, _⟩ | ⟨_, gs⟩
    · rcases set_get ht with ⟨rfl, _, _⟩ | ⟨_, gt⟩
      · rfl
      · exact r.uniq i k p t h0 gt hp ht1 (hk.symm.trans he)
    · rcases set_get ht with ⟨rfl, rfl, _⟩ | ⟨_, gt⟩
      · exact r.uniq j i s p gs h0 hs1 hp (he.trans hk)
      · exact r.uniq j k s t gs gt hs1 ht1 he
theorem RowOk.gone {R : List (Pl α)} (r : RowOk R) {q : Pl α} {i : Nat} (h1 : q.is_ ≠ 1) (h0 : q.is_ ≠ 0) : RowOk (R.set i q) := by
  refine ⟨fun j s hs hs1 => ?_, fun j k s t hs ht hs1 ht1 he => ?_⟩
  · rcases set_get hs with ⟨rfl, rfl, _⟩ | ⟨_, hs⟩
    · exact absurd hs1 h1
    · exact set_chain (r.chain j s hs hs1) h0
  · rcases set_get hs with ⟨rfl, rfl, _⟩ | ⟨_, hs⟩
    · exact absurd hs1 h1
    · rcases set_get ht with ⟨rfl, rfl, _⟩ | ⟨_, ht⟩
      · exact absurd ht1 h1
      · exact r.uniq j k s t hs ht hs1 ht1 he
def cntT (R : List (Pl α)) : Nat := R.countP fun p => decide (p.is_ = 1)
theorem cntT_set : ∀ (R : List (Pl α)) (i : Nat) (p q : Pl α), R[i]? = some q -> cntT (R.set i p) + (if q.is_ = 1 then 1 else 0) = cntT R + (if p.is_ = 1 then 1 else 0)
  | [], i, p, q, h => by simp at h
  | x :: r, 0, p, q, h => by
    simp at h; subst h
    simp only [List.set_cons_zero, cntT, List.countP_cons]
    by_cases h1 : x.is_ = 1 <;> by_cases h2 : p.is_ = 1 <;> simp [h1, h2]
  | x :: r, i + 1, p, q, h => by
    have := cntT_set r i p q (by simpa using h)
    simp only [List.set_cons_succ, cntT, List.countP_cons] at *
    omega
theorem room_of {R : List (Pl α)} (h01 : ∀ p ∈ R, p.is_ <= 1) (h : cntT R < R.length) : ∃ i, Empty R i := by
  apply Classical.byContradiction
  intro hn
  have : cntT R = R.length := by
    unfold cntT
    rw [List.countP_eq_length]
    intro p hp
    obtain ⟨i, hi, rfl⟩ := List.mem_iff_getElem.1 hp
    have := h01 _ hp
    have : ¬ R[i].is_ = 0 := fun e => hn ⟨i, _, List.getElem?_eq_getElem hi, e⟩
    simp; omega
  omega
def valOf (R : List (Pl α)) (key : ByteArray) : Option α := (R.find? fun p => decide (p.is_ = 1 ∧ kL p.key = kL key)).map (·.value)
theorem valOf_hit {R : List (Pl α)} (r : RowOk R) {key : ByteArray} {i : Nat} {p : Pl α} (h0 : R[i]? = some p) (h1 : p.is_ = 1) (h2 : kL p.key = kL key) : valOf R key = some p.value := by
  unfold valOf
  cases hf : R.find? fun p => decide (p.is_ = 1 ∧ kL p.key = kL key) with
  | none =>
    rw [List.find?_eq_none] at hf
    have := hf p (List.mem_of_getElem? h0)
    simp [h1, h2] at this
  | some q =>
    have hq : q.is_ = 1 ∧ kL q.key = kL key := by simpa only [decide_eq_true_eq] using List.find?_some hf
    have hm := List.mem_of_find?_eq_some hf
    obtain ⟨j, hj⟩ := List.mem_iff_getElem?.1 hm
    have := r.uniq j i q p hj h0 hq.1 h1 (by rw [hq.2]; exact h2.symm)
    subst this
    rw [h0] at hj; cases hj; rfl
theorem valOf_none {R : List (Pl α)} {key : ByteArray} (h : ∀ j, ¬ Hit R key j) : valOf R key = none := by
  unfold valOf
  rw [Option.map_eq_none_iff, List.find?_eq_none]
  intro p hp
  obtain ⟨j, hj⟩ := List.mem_iff_getElem?.1 hp
  intro hh
  simp only [decide_eq_true_eq] at hh
  exact h j ⟨p, hj, hh.1, hh.2⟩
theorem valOf_some {R : List (Pl α)} {key : ByteArray} {v : α} (h : valOf R key = some v) : ∃ (i : Nat) (p : Pl α), R[i]? = some p ∧ p.is_ = 1 ∧ kL p.key = kL key ∧ p.value = v := by
  unfold valOf at h
  obtain ⟨p, hp, rfl⟩ := Option.map_eq_some_iff.1 h
  have hq : p.is_ = 1 ∧ kL p.key = kL key := by simpa only [decide_eq_true_eq] using List.find?_some hp
  obtain ⟨j, hj⟩ := List.mem_iff_getElem?.1 (List.mem_of_find?_eq_some hp)
  exact ⟨j, p, hj, hq.1, hq.2, rfl⟩
theorem hit_or (R : List (Pl α)) (key : ByteArray) : (∃ i, Hit R key i) ∨ ∀ j, ¬ Hit R key j := by
  by_cases h : ∃ i, Hit R key i
  · exact .inl h
  · exact .inr fun j hj => h ⟨j, hj⟩
theorem valOf_set {R : List (Pl α)} {i : Nat} {p q : Pl α} (r' : RowOk (R.set i q)) (r : RowOk R) (h0 : R[i]? = some p) (key : ByteArray) (hp : ¬ (p.is_ = 1 ∧ kL p.key = kL key)) : valOf (R.set i q) key = if q.is_ = 1 ∧ kL q.key = kL key then some q.value else valOf R key := by
  have hi := (List.getElem?_eq_some_iff.1 h0).1
  have hg : (R.set i q)[i]? = some q := by rw [List.getElem?_set, if_pos rfl, if_pos hi]
  split
  · rename_i h; exact valOf_hit r' hg h.1 h.2
  · rename_i h
    rcases hit_or R key with ⟨j, s, g1, g2, g3⟩ | hn
    · have hij : i ≠ j := fun e => by subst e; rw [h0] at g1; cases g1; exact hp ⟨g2, g3⟩
      rw [valOf_hit r g1 g2 g3, valOf_hit r' (i := j) (by rw [List.getElem?_set, if_neg hij]; exact g1) g2 g3]
    · rw [valOf_none hn, valOf_none]
      intro j ⟨s, g1, g2, g3⟩
      rcases set_get g1 with ⟨rfl, rfl, _⟩ | ⟨_, g1⟩
      · exact h ⟨g2, g3⟩
      · exact hn j ⟨s, g1, g2, g3⟩
end
structure Tb (α : Type) where
  row : List (Pl α)
  elder : List (Pl α)
  moved : Nat
  count : Nat
section
variable {α : Type} (z : α)
def goneP : Pl α := ⟨2, ⟨#[]⟩, z⟩
def emptP : Pl α := ⟨0, ⟨#[]⟩, z⟩
def move1 (T : Tb α) : Option (Tb α) := match T.elder[T.moved]? with
  | none => none
  | some p => if p.is_ = 1 then (match findM T.row p.key with
    | none => none
    | some r => some ⟨T.row.set r.1 p, T.elder.set T.moved (goneP z), T.moved + 1, T.count⟩) else some ⟨T.row, T.elder, T.moved + 1, T.count⟩
def moveN : Nat -> Tb α -> Option (Tb α)
  | 0, T => some T
  | n + 1, T => if T.moved < T.elder.length then (match move1 z T with
    | none => none
    | some T' => moveN n T') else some T
def finT (T : Tb α) : Tb α := if T.moved = T.elder.length then ⟨T.row, [], 0, T.count⟩ else T
def moveM (T : Tb α) (n : Int) : Option (Tb α) := (moveN z n.toNat T).map finT
def leftT (T : Tb α) : Nat := T.elder.length - T.moved
def whereM (T : Tb α) (key : ByteArray) : Option (Option (Bool × Nat)) := match findM T.row key with
  | none => none
  | some (i, true) => some (some (false, i))
  | some (_, false) => match findM T.elder key with
    | none => none
    | some (i, true) => some (some (true, i))
    | some (_, false) => some none
def growT (T : Tb α) : Tb α := ⟨List.replicate (2 * T.row.length) (emptP z), T.row, 0, T.count⟩
def layP (T : Tb α) (key : ByteArray) (v : α) : Option (Tb α) := match findM T.row key with
  | none => none
  | some (i, _) => some ⟨T.row.set i ⟨1, key, v⟩, T.elder, T.moved, T.count + 1⟩
def newP (R : List (Pl α)) (i : Nat) (v : α) : List (Pl α) := match R[i]? with
  | none => R
  | some p => R.set i ⟨p.is_, p.key, v⟩
def putM' (T : Tb α) (key : ByteArray) (v : α) : Option (Tb α) := match whereM T key with
  | none => none
  | some (some (false, i)) => some ⟨newP T.row i v, T.elder, T.moved, T.count⟩
  | some (some (true, i)) => some ⟨T.row, newP T.elder i v, T.moved, T.count⟩
  | some none => if 4 * (T.count + 1) > 3 * T.row.length then (match moveM z T (T.elder.length : Int) with
      | none => none
      | some T2 => layP (growT z T2) key v) else layP T key v
def putM (T : Tb α) (key : ByteArray) (v : α) : Option (Tb α) := match moveM z T 4 with
  | none => none
  | some T1 => putM' z T1 key v
def getM (T : Tb α) (key : ByteArray) : Option α := match valOf T.row key with
  | some v => some v
  | none => valOf T.elder key
end
section
variable {α : Type} {z : α}
structure TOk (T : Tb α) : Prop where
  row : RowOk T.row
  row01 : ∀ p ∈ T.row, p.is_ <= 1
  pos : 2 <= T.row.length
  elder : RowOk T.elder
  eroom : T.elder ≠ [] -> ∃ i, Empty T.elder i
  behind : ∀ (i : Nat) (p : Pl α), i < T.moved -> T.elder[i]? = some p -> p.is_ ≠ 1
  mle : T.moved <= T.elder.length
  apart : ∀ (i j : Nat) (p q : Pl α), T.row[i]? = some p -> T.elder[j]? = some q -> p.is_ = 1 -> q.is_ = 1 -> kL p.key ≠ kL q.key
  cnt : cntT T.row + cntT T.elder = T.count
  load : leftT T + 4 * T.count <= 3 * T.row.length
def Rest (T : Tb α) : Prop := T.elder = [] ∨ T.moved < T.elder.length
theorem TOk.room {T : Tb α} (t : TOk T) (h : cntT T.row < T.row.length) : ∃ i, Empty T.row i := room_of t.row01 h
theorem TOk.cnt_row {T : Tb α} (t : TOk T) : cntT T.row < T.row.length := by
  have := t.cnt
  have := t.load
  have := t.pos
  omega
theorem move1_ok {T : Tb α} (t : TOk T) (hm : T.moved < T.elder.length) : ∃ T', move1 z T = some T' ∧ TOk T' ∧ T'.moved = T.moved + 1 ∧ T'.elder.length = T.elder.length ∧ T'.row.length = T.row.length ∧ T'.count = T.count ∧ ∀ key, getM T' key = getM T key := by
  obtain ⟨p, hp⟩ : ∃ p, T.elder[T.moved]? = some p := ⟨_, List.getElem?_eq_getElem hm⟩
  unfold move1
  rw [hp]
  simp only
  have hload := t.load
  by_cases h1 : p.is_ = 1
  · rw [if_pos h1]
    have hno : ∀ j, ¬ Hit T.row p.key j := fun j ⟨q, g1, g2, g3⟩ => t.apart j T.moved q p g1 hp g2 h1 g3
    obtain ⟨i, f1, f2, f3⟩ := find_miss hno (t.room t.cnt_row)
    rw [f1]
    have hi := f2.lt
    obtain ⟨e, he1, he2⟩ := f2
    have r1 := t.row.put h1 f3 hno (i := i)
    have r2 : RowOk (T.elder.set T.moved (goneP z)) := t.elder.gone (by simp [goneP]) (by simp [goneP])
    refine ⟨_, rfl, ⟨r1, fun q hq => ?_, by simpa using t.pos, r2, fun hne => ?_, fun j q hj hq => ?_, by simp; omega, fun a b q s hq hs hq1 hs1 => ?_, ?_, ?_⟩, rfl, by simp, by simp, rfl, fun key => ?_⟩
    · obtain ⟨j, hj⟩ := List.mem_iff_getElem?.1 hq
      rcases set_get hj with ⟨_, rfl, _⟩ | ⟨_, hj⟩
      · omega
      · exact t.row01 q (List.mem_of_getElem? hj)
    · obtain ⟨j, q, g1, g2⟩ := t.eroom (fun e => by rw [e] at hm; simp at hm)
      have : T.moved ≠ j := fun e => by subst e; rw [hp] at g1; cases g1; omega
      exact ⟨j, q, by rw [List.getElem?_set, if_neg this]; exact g1, g2⟩
    · rcases set_get hq with ⟨_, rfl, _⟩ | ⟨hne, hq⟩
      · simp [goneP]
      · exact t.behind j q (by simp at hj; omega) hq
    · rcases set_get hs with ⟨_, rfl, _⟩ | ⟨hne, gs⟩
      · simp [goneP] at hs1
      · rcases set_get hq with ⟨_, rfl, _⟩ | ⟨_, gq⟩
        · exact fun e => hne (t.elder.uniq T.moved b q s hp gs hq1 hs1 e)
        · exact t.apart a b q s gq gs hq1 hs1
    · have c1 := cntT_set T.row i p e he1
      have c2 := cntT_set T.elder T.moved (goneP z) p hp
      have := t.cnt
      rw [if_pos h1, if_neg (by omega)] at c1
      rw [if_pos h1, if_neg (by simp [goneP])] at c2
      show cntT (T.row.set i p) + cntT (T.elder.set T.moved (goneP z)) = T.count
      omega
    · show (T.elder.set T.moved (goneP z)).length - (T.moved + 1) + 4 * T.count <= 3 * (T.row.set i p).length
      unfold leftT at hload
      simp; omega
    · have v1 := valOf_set r1 t.row he1 key (by omega)
      show (match valOf (T.row.set i p) key with | some v => some v | none => valOf (T.elder.set T.moved (goneP z)) key) = getM T key
      unfold getM
      by_cases hk : kL p.key = kL key
      · have hrow : valOf T.row key = none := valOf_none (R := T.row) (fun j hj => hno j (by obtain ⟨q, g1, g2, g3⟩ := hj; exact ⟨q, g1, g2, g3.trans hk.symm⟩))
        have hel : valOf T.elder key = some p.value := valOf_hit t.elder hp h1 hk
        rw [v1, if_pos ⟨h1, hk⟩, hrow, hel]
      · rw [v1, if_neg (fun h => hk h.2), valOf_set r2 t.elder hp key (fun h => hk h.2), if_neg (by simp [goneP])]
  · rw [if_neg h1]
    refine ⟨_, rfl, ⟨t.row, t.row01, t.pos, t.elder, t.eroom, fun j q hj hq => ?_, by show T.moved + 1 <= T.elder.length; omega, t.apart, t.cnt, ?_⟩, rfl, rfl, rfl, rfl, fun key => rfl⟩
    · by_cases e : j = T.moved
      · subst e; rw [hp] at hq; cases hq; exact h1
      · exact t.behind j q (by simp at hj; omega) hq
    · show T.elder.length - (T.moved + 1) + 4 * T.count <= 3 * T.row.length
      unfold leftT at hload
      omega
theorem moveN_ok : ∀ (n : Nat) {T : Tb α}, TOk T -> ∃ T', moveN z n T = some T' ∧ TOk T' ∧ leftT T' = leftT T - n ∧ T'.row.length = T.row.length ∧ T'.count = T.count ∧ ∀ key, getM T' key = getM T key
  | 0, T, t => ⟨T, rfl, t, rfl, rfl, rfl, fun _ => rfl⟩
  | n + 1, T, t => by
    unfold moveN
    by_cases hm : T.moved < T.elder.length
    · rw [if_pos hm]
      obtain ⟨T1, a1, a2, a3, a4, a5, a6, a7⟩ := move1_ok (z := z) t hm
      rw [a1]
      obtain ⟨T2, b1, b2, b3, b4, b5, b6⟩ := moveN_ok n a2
      refine ⟨T2, b1, b2, ?_, by omega, by omega, fun key => (b6 key).trans (a7 key)⟩
      unfold leftT at *; omega
    · rw [if_neg hm]
      refine ⟨T, rfl, t, ?_, rfl, rfl, fun _ => rfl⟩
      unfold leftT; omega
theorem RowOk.nil : RowOk ([] : List (Pl α)) := ⟨fun i p h => by simp at h, fun i j p q h => by simp at h⟩
theorem fin_ok {T : Tb α} (t : TOk T) : TOk (finT T) ∧ Rest (finT T) ∧ leftT (finT T) = leftT T ∧ (finT T).row = T.row ∧ (finT T).count = T.count ∧ ∀ key, getM (finT T) key = getM T key := by
  unfold finT
  by_cases h : T.moved = T.elder.length
  · rw [if_pos h]
    have hno : ∀ key j, ¬ Hit T.elder key j := fun key j ⟨q, g1, g2, g3⟩ => t.behind j q (by rw [h]; exact (List.getElem?_eq_some_iff.1 g1).1) g1 g2
    have hc : cntT T.elder = 0 := by
      unfold cntT
      rw [List.countP_eq_zero]
      intro p hp
      obtain ⟨j, hj⟩ := List.mem_iff_getElem?.1 hp
      have := t.behind j p (by rw [h]; exact (List.getElem?_eq_some_iff.1 hj).1) hj
      simpa using this
    have hload := t.load
    have hcnt := t.cnt
    refine ⟨⟨t.row, t.row01, t.pos, RowOk.nil, fun h => absurd rfl h, fun i p hi => by simp at hi, Nat.le_refl _, fun i j p q _ hq => by simp at hq, by show cntT T.row + cntT [] = _; rw [show cntT ([] : List (Pl α)) = 0 from rfl]; show _ = T.count; omega, ?_⟩, .inl rfl, ?_, rfl, rfl, fun key => ?_⟩
    · show 0 - 0 + 4 * T.count <= 3 * T.row.length
      omega
    · unfold leftT; simp; omega
    · unfold getM
      rw [valOf_none (hno key)]
      rw [valOf_none (R := []) (fun j ⟨q, g1, _⟩ => by simp at g1)]
  · rw [if_neg h]
    have := t.mle
    exact ⟨t, .inr (by omega), rfl, rfl, rfl, fun _ => rfl⟩
theorem move_ok {T : Tb α} (t : TOk T) (n : Int) : ∃ T', moveM z T n = some T' ∧ TOk T' ∧ Rest T' ∧ leftT T' = leftT T - n.toNat ∧ T'.row.length = T.row.length ∧ T'.count = T.count ∧ ∀ key, getM T' key = getM T key := by
  obtain ⟨T1, a1, a2, a3, a4, a5, a6⟩ := moveN_ok (z := z) n.toNat t
  obtain ⟨b1, b2, b3, b4, b5, b6⟩ := fin_ok a2
  refine ⟨finT T1, by unfold moveM; rw [a1]; rfl, b1, b2, by omega, by rw [b4]; exact a4, by omega, fun key => (b6 key).trans (a6 key)⟩
theorem where_ok {T : Tb α} (t : TOk T) (key : ByteArray) : (∃ i, whereM T key = some (some (false, i)) ∧ Hit T.row key i) ∨ (∃ i, whereM T key = some (some (true, i)) ∧ Hit T.elder key i ∧ ∀ j, ¬ Hit T.row key j) ∨ (whereM T key = some none ∧ (∀ j, ¬ Hit T.row key j) ∧ ∀ j, ¬ Hit T.elder key j) := by
  unfold whereM
  rcases hit_or T.row key with ⟨i, hi⟩ | hn
  · rw [t.row.hit hi]; exact .inl ⟨i, rfl, hi⟩
  · obtain ⟨i, f1, _, _⟩ := find_miss hn (t.room t.cnt_row)
    rw [f1]
    simp only
    rcases hit_or T.elder key with ⟨j, hj⟩ | hne
    · rw [t.elder.hit hj]; exact .inr (.inl ⟨j, rfl, hj, hn⟩)
    · by_cases he : T.elder = []
      · rw [he, find_nil]; exact .inr (.inr ⟨rfl, hn, fun j ⟨q, g, _⟩ => by simp at g⟩)
      · obtain ⟨j, g1, _, _⟩ := find_miss hne (t.eroom he)
        rw [g1]; exact .inr (.inr ⟨rfl, hn, hne⟩)
theorem get_row {T : Tb α} (t : TOk T) {key : ByteArray} {i : Nat} {p : Pl α} (h : T.row[i]? = some p) (h1 : p.is_ = 1) (h2 : kL p.key = kL key) : getM T key = some p.value := by
  unfold getM; rw [valOf_hit t.row h h1 h2]
theorem get_elder {T : Tb α} (t : TOk T) {key : ByteArray} {i : Nat} {p : Pl α} (hn : ∀ j, ¬ Hit T.row key j) (h : T.elder[i]? = some p) (h1 : p.is_ = 1) (h2 : kL p.key = kL key) : getM T key = some p.value := by
  unfold getM; rw [valOf_none hn, valOf_hit t.elder h h1 h2]
theorem get_none {T : Tb α} {key : ByteArray} (hn : ∀ j, ¬ Hit T.row key j) (hne : ∀ j, ¬ Hit T.elder key j) : getM T key = none := by
  unfold getM; rw [valOf_none hn, valOf_none hne]
theorem newP_eq {R : List (Pl α)} {i : Nat} {p : Pl α} {v : α} (h : R[i]? = some p) : newP R i v = R.set i ⟨p.is_, p.key, v⟩ := by unfold newP; rw [h]
theorem lay_ok {T : Tb α} (t : TOk T) (hr : Rest T) {key : ByteArray} {v : α} (hn : ∀ j, ¬ Hit T.row key j) (hne : ∀ j, ¬ Hit T.elder key j) (hl : leftT T + 4 * (T.count + 1) <= 3 * T.row.length) :
    ∃ T', layP T key v = some T' ∧ TOk T' ∧ Rest T' ∧ T'.row.length = T.row.length ∧ T'.count = T.count + 1 ∧ leftT T' = leftT T ∧ ∀ k, getM T' k = if kL k = kL key then some v else getM T k := by
  obtain ⟨i, f1, f2, f3⟩ := find_miss hn (t.room t.cnt_row)
  unfold layP
  rw [f1]
  obtain ⟨e, he1, he2⟩ := f2
  have hi := (List.getElem?_eq_some_iff.1 he1).1
  have r1 : RowOk (T.row.set i ⟨1, key, v⟩) := t.row.put rfl f3 hn
  refine ⟨_, rfl, ⟨r1, fun q hq => ?_, by simpa using t.pos, t.elder, t.eroom, t.behind, t.mle, fun a b q s hq hs hq1 hs1 => ?_, ?_, by simpa [leftT] using hl⟩, hr, by simp, rfl, rfl, fun k => ?_⟩
  · obtain ⟨j, hj⟩ := List.mem_iff_getElem?.1 hq
    rcases set_get hj with ⟨_, rfl, _⟩ | ⟨_, hj⟩
    · exact Nat.le_refl _
    · exact t.row01 q (List.mem_of_getElem? hj)
  · rcases set_get hq with ⟨_, rfl, _⟩ | ⟨_, gq⟩
    · exact fun h => hne b ⟨s, hs, hs1, h.symm⟩
    · exact t.apart a b q s gq hs hq1 hs1
  · have c1 := cntT_set T.row i ⟨1, key, v⟩ e he1
    have := t.cnt
    rw [if_neg (by omega), if_pos rfl] at c1
    show cntT (T.row.set i ⟨1, key, v⟩) + cntT T.elder = T.count + 1
    omega
  · have v1 := valOf_set r1 t.row he1 k (by omega)
    show (match valOf (T.row.set i ⟨1, key, v⟩) k with | some v => some v | none => valOf T.elder k) = _
    rw [v1]
    by_cases hk : kL k = kL key
    · rw [if_pos ⟨rfl, hk.symm⟩, if_pos hk]
    · rw [if_neg (fun h => hk h.2.symm), if_neg hk]; rfl
theorem repl_get {n i : Nat} {p q : Pl α} (h : (List.replicate n p)[i]? = some q) : q = p ∧ i < n := by
  rw [List.getElem?_replicate] at h
  split at h
  · exact ⟨(Option.some.inj h).symm, by assumption⟩
  · cases h
theorem grow_ok {T : Tb α} (t : TOk T) (he : T.elder = []) (hf : 3 * T.row.length < 4 * (T.count + 1)) : TOk (growT z T) ∧ (growT z T).row.length = 2 * T.row.length ∧ (growT z T).count = T.count ∧ leftT (growT z T) = T.row.length ∧ (∀ key, getM (growT z T) key = getM T key) ∧ ∀ key j, ¬ Hit (growT z T).row key j := by
  have hno : ∀ key j, ¬ Hit (growT z T).row key j := fun key j ⟨q, g1, g2, _⟩ => by
    obtain ⟨rfl, _⟩ := repl_get g1
    simp [emptP] at g2
  have hcnt := t.cnt
  have hload := t.load
  have hpos := t.pos
  have he0 : cntT T.elder = 0 := by rw [he]; rfl
  refine ⟨⟨⟨fun i p h h1 => ?_, fun i j p q h h2 h1 => ?_⟩, fun p hp => ?_, by show 2 <= (List.replicate _ _).length; simp; omega, t.row, fun _ => t.room t.cnt_row, fun i p hi => by simp [growT] at hi, by simp [growT], fun i j p q h h2 h1 => ?_, ?_, ?_⟩, by simp [growT], rfl, by simp [growT, leftT], fun key => ?_, hno⟩
  · obtain ⟨rfl, _⟩ := repl_get h
    simp [emptP] at h1
  · obtain ⟨rfl, _⟩ := repl_get h
    simp [emptP] at h1
  · have := List.eq_of_mem_replicate hp
    subst this; simp [emptP]
  · obtain ⟨rfl, _⟩ := repl_get h
    simp [emptP] at h1
  · have : cntT (List.replicate (2 * T.row.length) (emptP z)) = 0 := by
      unfold cntT
      rw [List.countP_eq_zero]
      intro p hp
      have := List.eq_of_mem_replicate hp
      subst this; simp [emptP]
    show cntT (List.replicate (2 * T.row.length) (emptP z)) + cntT T.row = T.count
    omega
  · show T.row.length - 0 + 4 * T.count <= 3 * (List.replicate (2 * T.row.length) (emptP z)).length
    simp; omega
  · unfold getM
    rw [valOf_none (hno key), he]
    show valOf T.row key = _
    rw [valOf_none (R := []) (fun j ⟨q, g1, _⟩ => by simp at g1)]
    cases valOf T.row key <;> rfl
theorem put'_ok {T : Tb α} (t : TOk T) (hr : Rest T) (key : ByteArray) (v : α) (hlow : leftT T + 4 * (T.count + 1) <= 3 * T.row.length ∨ (T.elder = [] ∧ 4 * (T.count + 1) > 3 * T.row.length)) :
    ∃ T', putM' z T key v = some T' ∧ TOk T' ∧ Rest T' ∧ (∀ k, getM T' k = if kL k = kL key then some v else getM T k) ∧ T'.count = T.count + (if (getM T key).isSome then 0 else 1) ∧
      ((getM T key = none ∧ 4 * (T.count + 1) > 3 * T.row.length ∧ T'.row.length = 2 * T.row.length ∧ leftT T' = T.row.length) ∨ ((getM T key).isSome = true ∨ 4 * (T.count + 1) <= 3 * T.row.length) ∧ T'.row.length = T.row.length ∧ leftT T' = leftT T) := by
  unfold putM'
  rcases where_ok t key with ⟨i, w, p, h1, h2, h3⟩ | ⟨i, w, ⟨p, h1, h2, h3⟩, hn⟩ | ⟨w, hn, hne⟩
  · rw [w]
    simp only
    rw [newP_eq h1]
    have r1 : RowOk (T.row.set i ⟨p.is_, p.key, v⟩) := t.row.anew h1 h2 h2 rfl
    have hg := get_row t h1 h2 h3
    refine ⟨_, rfl, ⟨r1, fun q hq => ?_, by simpa using t.pos, t.elder, t.eroom, t.behind, t.mle, fun a b q s hq hs hq1 hs1 => ?_, ?_, by simpa [leftT] using t.load⟩, hr, fun k => ?_, by rw [hg]; rfl, .inr ⟨.inl (by rw [hg]; rfl), by simp, rfl⟩⟩
    · obtain ⟨j, hj⟩ := List.mem_iff_getElem?.1 hq
      rcases set_get hj with ⟨_, rfl, _⟩ | ⟨_, hj⟩
      · show p.is_ <= 1; omega
      · exact t.row01 q (List.mem_of_getElem? hj)
    · rcases set_get hq with ⟨_, rfl, _⟩ | ⟨_, gq⟩
      · exact t.apart i b p s h1 hs h2 hs1
      · exact t.apart a b q s gq hs hq1 hs1
    · have c1 := cntT_set T.row i ⟨p.is_, p.key, v⟩ p h1
      have := t.cnt
      show cntT (T.row.set i ⟨p.is_, p.key, v⟩) + cntT T.elder = T.count
      simp only at c1; omega
    · show (match valOf (T.row.set i ⟨p.is_, p.key, v⟩) k with | some v => some v | none => valOf T.elder k) = _
      by_cases hk : kL k = kL key
      · rw [if_pos hk, valOf_hit r1 (i := i) (p := ⟨p.is_, p.key, v⟩) (by rw [List.getElem?_set, if_pos rfl, if_pos (List.getElem?_eq_some_iff.1 h1).1]) h2 (h3.trans hk.symm)]
      · rw [if_neg hk, valOf_set r1 t.row h1 k (fun h => hk (h.2.symm.trans h3)), if_neg (fun h => hk (h.2.symm.trans h3))]; rfl
  · rw [w]
    simp only
    rw [newP_eq h1]
    have r1 : RowOk (T.elder.set i ⟨p.is_, p.key, v⟩) := t.elder.anew h1 h2 h2 rfl
    have hg := get_elder t hn h1 h2 h3
    have hil := (List.getElem?_eq_some_iff.1 h1).1
    refine ⟨_, rfl, ⟨t.row, t.row01, t.pos, r1, fun hne => ?_, fun j q hj hq => ?_, by simpa using t.mle, fun a b q s hq hs hq1 hs1 => ?_, ?_, by simpa [leftT] using t.load⟩, ?_, fun k => ?_, by rw [hg]; rfl, .inr ⟨.inl (by rw [hg]; rfl), rfl, by simp [leftT]⟩⟩
    · obtain ⟨j, q, g1, g2⟩ := t.eroom (fun e => by rw [e] at h1; simp at h1)
      have : i ≠ j := fun e => by subst e; rw [h1] at g1; cases g1; omega
      exact ⟨j, q, by rw [List.getElem?_set, if_neg this]; exact g1, g2⟩
    · rcases set_get hq with ⟨rfl, rfl, _⟩ | ⟨_, gq⟩
      · exact t.behind i p hj h1
      · exact t.behind j q hj gq
    · rcases set_get hs with ⟨_, rfl, _⟩ | ⟨_, gs⟩
      · exact t.apart a i q p hq h1 hq1 h2
      · exact t.apart a b q s hq gs hq1 hs1
    · have c1 := cntT_set T.elder i ⟨p.is_, p.key, v⟩ p h1
      have := t.cnt
      show cntT T.row + cntT (T.elder.set i ⟨p.is_, p.key, v⟩) = T.count
      simp only at c1; omega
    · rcases hr with hr | hr
      · rw [hr] at h1; simp at h1
      · exact .inr (by simpa using hr)
    · show (match valOf T.row k with | some v => some v | none => valOf (T.elder.set i ⟨p.is_, p.key, v⟩) k) = _
      by_cases hk : kL k = kL key
      · rw [if_pos hk, valOf_none (fun j ⟨q, g1, g2, g3⟩ => hn j ⟨q, g1, g2, g3.trans hk⟩), valOf_hit r1 (i := i) (p := ⟨p.is_, p.key, v⟩) (by rw [List.getElem?_set, if_pos rfl, if_pos hil]) h2 (h3.trans hk.symm)]
      · rw [if_neg hk, valOf_set r1 t.elder h1 k (fun h => hk (h.2.symm.trans h3)), if_neg (fun h => hk (h.2.symm.trans h3))]; rfl
  · rw [w]
    have hg := get_none hn hne
    simp only
    by_cases hb : 4 * (T.count + 1) > 3 * T.row.length
    · rw [if_pos hb]
      have he : T.elder = [] := by
        rcases hlow with h | h
        · omega
        · exact h.1
      obtain ⟨T1, m1, m2, m3, m4, m5, m6, m7⟩ := move_ok (z := z) t (T.elder.length : Int)
      rw [m1]
      have he1 : T1.elder = [] := by
        rcases m3 with h | h
        · exact h
        · unfold leftT at m4
          rw [he] at m4
          simp at m4
          omega
      obtain ⟨g1, g2, g3, g4, g5, g6⟩ := grow_ok (z := z) m2 he1 (by omega)
      have hpos := t.pos
      have hld := t.load
      have hel : ∀ j, ¬ Hit (growT z T1).elder key j := fun j hj => by
        obtain ⟨q, a1, a2, a3⟩ := hj
        have : getM T1 key = some q.value := get_row m2 a1 a2 a3
        rw [m7, hg] at this; cases this
      obtain ⟨T2, l1, l2, l3, l4, l5, l6, l7⟩ := lay_ok (v := v) g1 (.inr (by show (growT z T1).moved < T1.row.length; show 0 < T1.row.length; omega)) (g6 key) hel (by rw [g2, g3, g4]; omega)
      simp only
      rw [l1]
      refine ⟨T2, rfl, l2, l3, fun k => ?_, by rw [hg, l5, g3, m6]; rfl, .inl ⟨hg, hb, by rw [l4, g2, m5], by rw [l6, g4, m5]⟩⟩
      rw [l7, g5, m7]
    · rw [if_neg hb]
      have hl : leftT T + 4 * (T.count + 1) <= 3 * T.row.length := by
        rcases hlow with h | h
        · exact h
        · omega
      obtain ⟨T2, l1, l2, l3, l4, l5, l6, l7⟩ := lay_ok (v := v) t hr hn hne hl
      exact ⟨T2, l1, l2, l3, l7, by rw [hg, l5]; rfl, .inr ⟨.inr (by omega), l4, l6⟩⟩
theorem put_ok {T : Tb α} (t : TOk T) (key : ByteArray) (v : α) :
    ∃ T', putM z T key v = some T' ∧ TOk T' ∧ Rest T' ∧ (∀ k, getM T' k = if kL k = kL key then some v else getM T k) ∧ T'.count = T.count + (if (getM T key).isSome then 0 else 1) ∧
      ((getM T key = none ∧ 4 * (T.count + 1) > 3 * T.row.length ∧ T'.row.length = 2 * T.row.length ∧ leftT T' = T.row.length ∧ leftT T < 4) ∨ ((getM T key).isSome = true ∨ 4 * (T.count + 1) <= 3 * T.row.length) ∧ T'.row.length = T.row.length ∧ leftT T' = leftT T - 4) := by
  obtain ⟨T1, m1, m2, m3, m4, m5, m6, m7⟩ := move_ok (z := z) t 4
  have hld := t.load
  have hlow : leftT T1 + 4 * (T1.count + 1) <= 3 * T1.row.length ∨ (T1.elder = [] ∧ 4 * (T1.count + 1) > 3 * T1.row.length) := by
    rw [m5, m6, m4]
    by_cases hb : 4 * (T.count + 1) > 3 * T.row.length
    · refine .inr ⟨?_, hb⟩
      rcases m3 with h | h
      · exact h
      · unfold leftT at m4; unfold leftT at hld; simp at m4; omega
    · refine .inl ?_
      simp; omega
  obtain ⟨T2, p1, p2, p3, p4, p5, p6⟩ := put'_ok (z := z) m2 m3 key v hlow
  unfold putM
  rw [m1]
  refine ⟨T2, p1, p2, p3, fun k => ?_, by rw [p5, m6, m7], ?_⟩
  · rw [p4, m7]
  · rw [m7, m6, m5, m4] at p6
    rcases p6 with ⟨a, b, c, d⟩ | ⟨a, b, c⟩
    · exact .inl ⟨a, b, c, d, by omega⟩
    · exact .inr ⟨a, b, by simpa using c⟩
def newT (z : α) : Tb α := ⟨List.replicate 8 (emptP z), [], 0, 0⟩
theorem new_ok (z : α) : TOk (newT z) ∧ Rest (newT z) ∧ ∀ key, getM (newT z) key = none := by
  have hno : ∀ key j, ¬ Hit (newT z).row key j := fun key j ⟨q, g1, g2, _⟩ => by
    obtain ⟨rfl, _⟩ := repl_get g1
    simp [emptP] at g2
  refine ⟨⟨⟨fun i p h h1 => ?_, fun i j p q h h2 h1 => ?_⟩, fun p hp => ?_, by simp [newT], RowOk.nil, fun h => absurd rfl h, fun i p hi => by simp [newT] at hi, Nat.le_refl _, fun i j p q h h2 => by simp [newT] at h2, ?_, by simp [newT, leftT]⟩, .inl rfl, fun key => get_none (hno key) fun j ⟨q, g1, _⟩ => by simp [newT] at g1⟩
  · obtain ⟨rfl, _⟩ := repl_get h
    simp [emptP] at h1
  · obtain ⟨rfl, _⟩ := repl_get h
    simp [emptP] at h1
  · have := List.eq_of_mem_replicate hp
    subst this; simp [emptP]
  · show cntT (List.replicate 8 (emptP z)) + cntT [] = 0
    rfl
end
open Go Go.Proofs
set_option maxRecDepth 100000
def srtRen : Go.Shelf.Ren := ⟨fun | 6 => 124 | 8 => 145 | 9 => 144 | 19 => 162 | 20 => 163 | 21 => 153 | 22 => 154 | 23 => 155 | 24 => 156 | 25 => 157 | 26 => 158 | 27 => 159 | 28 => 160 | 29 => 161 | 36 => 167 | 31 => 168 | 32 => 169 | 37 => 170 | 38 => 171 | 39 => 172 | 41 => 181 | n => n, fun | 27 => 22 | 29 => 9 | 3 => 3 | 32 => 177 | 26 => 22 | 0 => 0 | 44 => 223 | 46 => 90 | 4 => 4 | 36 => 216 | 35 => 215 | 41 => 166 | 5 => 5 | 9 => 9 | 53 => 227 | 57 => 231 | 63 => 238 | 64 => 239 | n => n, fun n => n⟩
theorem srt : SlLaysM.n6 Tryz.prog srtRen := { mixed := by kernel_rfl, f6 := ⟨Tryz.f124.name, by decide, Tryz.func124.trans (congrArg some (by kernel_rfl))⟩, f8 := Tryz.func145.trans (congrArg some (by kernel_rfl)), f9 := ⟨Tryz.f144.name, by decide, Tryz.func144.trans (congrArg some (by kernel_rfl))⟩, f19 := Tryz.func162.trans (congrArg some (by kernel_rfl)), f20 := Tryz.func163.trans (congrArg some (by kernel_rfl)), f21 := ⟨Tryz.f153.name, by decide, Tryz.func153.trans (congrArg some (by kernel_rfl))⟩, f22 := ⟨Tryz.f154.name, by decide, Tryz.func154.trans (congrArg some (by kernel_rfl))⟩, f23 := ⟨Tryz.f155.name, by decide, Tryz.func155.trans (congrArg some (by kernel_rfl))⟩, f24 := ⟨Tryz.f156.name, by decide, Tryz.func156.trans (congrArg some (by kernel_rfl))⟩, f25 := ⟨Tryz.f157.name, by decide, Tryz.func157.trans (congrArg some (by kernel_rfl))⟩, f26 := ⟨Tryz.f158.name, by decide, Tryz.func158.trans (congrArg some (by kernel_rfl))⟩, f27 := ⟨Tryz.f159.name, by decide, Tryz.func159.trans (congrArg some (by kernel_rfl))⟩, f28 := ⟨Tryz.f160.name, by decide, Tryz.func160.trans (congrArg some (by kernel_rfl))⟩, f29 := ⟨Tryz.f161.name, by decide, Tryz.func161.trans (congrArg some (by kernel_rfl))⟩, f31 := Tryz.func168.trans (congrArg some (by kernel_rfl)), f32 := Tryz.func169.trans (congrArg some (by kernel_rfl)), f36 := ⟨Tryz.f167.name, by decide, Tryz.func167.trans (congrArg some (by kernel_rfl))⟩, f37 := ⟨Tryz.f170.name, by decide, Tryz.func170.trans (congrArg some (by kernel_rfl))⟩, f38 := ⟨Tryz.f171.name, by decide, Tryz.func171.trans (congrArg some (by kernel_rfl))⟩, f39 := ⟨Tryz.f172.name, by decide, Tryz.func172.trans (congrArg some (by kernel_rfl))⟩, f41 := ⟨Tryz.f181.name, by decide, Tryz.func181.trans (congrArg some (by kernel_rfl))⟩, t0 := Tryz.underlying0, a0 := Tryz.isAgg0, z0 := Tryz.sizeOf0, v0 := Tryz.zeroValue0, t3 := Tryz.underlying3, a3 := Tryz.isAgg3, z3 := Tryz.sizeOf3, v3 := Tryz.zeroValue3, t4 := Tryz.underlying4, a4 := Tryz.isAgg4, z4 := Tryz.sizeOf4, v4 := Tryz.zeroValue4, t5 := Tryz.underlying5, a5 := Tryz.isAgg5, z5 := Tryz.sizeOf5, v5 := Tryz.zeroValue5, t9 := Tryz.underlying9, a9 := Tryz.isAgg9, z9 := Tryz.sizeOf9, v9 := Tryz.zeroValue9, t26 := Tryz.underlying22, a26 := Tryz.isAgg22, z26 := Tryz.sizeOf22, v26 := Tryz.zeroValue22, t27 := Tryz.underlying22, a27 := Tryz.isAgg22, z27 := Tryz.sizeOf22, v27 := Tryz.zeroValue22, t29 := Tryz.underlying9, a29 := Tryz.isAgg9, z29 := Tryz.sizeOf9, v29 := Tryz.zeroValue9, t32 := Tryz.underlying177, a32 := Tryz.isAgg177, z32 := Tryz.sizeOf177, v32 := Tryz.zeroValue177, t35 := Tryz.underlying215, a35 := Tryz.isAgg215, z35 := Tryz.sizeOf215, v35 := Tryz.zeroValue215, t36 := Tryz.underlying216, a36 := Tryz.isAgg216, z36 := Tryz.sizeOf216, v36 := Tryz.zeroValue216, t41 := Tryz.underlying166, a41 := Tryz.isAgg166, z41 := Tryz.sizeOf166, v41 := Tryz.zeroValue166, t44 := Tryz.underlying223, a44 := Tryz.isAgg223, z44 := Tryz.sizeOf223, v44 := Tryz.zeroValue223, t46 := Tryz.underlying90, a46 := Tryz.isAgg90, z46 := Tryz.sizeOf90, v46 := Tryz.zeroValue90, t53 := Tryz.underlying227, a53 := Tryz.isAgg227, z53 := Tryz.sizeOf227, v53 := Tryz.zeroValue227, t57 := Tryz.underlying231, a57 := Tryz.isAgg231, z57 := Tryz.sizeOf231, v57 := Tryz.zeroValue231, t63 := Tryz.underlying238, a63 := Tryz.isAgg238, z63 := Tryz.sizeOf238, v63 := Tryz.zeroValue238, t64 := Tryz.underlying239, a64 := Tryz.isAgg239, z64 := Tryz.sizeOf239, v64 := Tryz.zeroValue239 }
open Go Go.Sort
noncomputable def sortT (ss : List ByteArray) : List ByteArray := ((ss.map fun s => s.data.toList).mergeSort fun x y => decide (x <= y)).map fun l => ⟨l.toArray⟩
theorem sortT_len (ss : List ByteArray) : (sortT ss).length = ss.length := by simp [sortT]
theorem enc_str (s : ByteArray) : encStr s.data.toList = .string s := by simp [encStr]
theorem flat_str (ss : List ByteArray) : ss.flatMap cT = (ss.map fun s => s.data.toList).map encStr := by
  rw [List.map_map]
  induction ss with
  | nil => rfl
  | cons a r ih => rw [List.flatMap_cons, ih]; simp [enc_str]
theorem flat_sort (ss : List ByteArray) : (sortT ss).flatMap cT = ((ss.map fun s => s.data.toList).mergeSort fun x y => decide (x <= y)).map encStr := by
  rw [flat_str, sortT, List.map_map, List.map_map]
  congr 1
theorem sort_fn {h : H} {s : Sl} {ss : List ByteArray} {f : Nat} {K : Value -> H -> Prop} (hf : srtRen.f 6 = f) (ow : Owns h s 9 1 (ss.flatMap cT)) (hl : ss.length < 4611686018427387904)
    (k : ∀ h', Owns h' s 9 1 ((sortT ss).flatMap cT) -> Only (fun b => s.blk = some b) h h' -> K (.tuple #[]) h') : Fn Tryz.prog f [s.enc].toArray h K := fun w hw => by
  subst hw
  subst hf
  obtain ⟨hlen, ⟨h1, h2, h3⟩ | ⟨g, c, h1, h2, h3, h4, h5, h6⟩⟩ := id ow
  · obtain ⟨sp, sl, sc⟩ := s
    simp only at h1 h2 h3
    subst h1; subst h2; subst h3
    have hs : ss = [] := by
      have := hlen
      rw [flat_len cT 1 cT_len] at this
      simp only at this
      exact List.eq_nil_of_length_eq_zero (by omega)
    subst hs
    have hc := AnyM.slices_Sort_string_none srt none 0 w
    refine callsIn_wide.2 (hc.mono fun e w' ⟨he, hn⟩ => ?_)
    subst he
    subst hn
    refine ⟨_, rfl, Like.refl _, k _ ?_ (.refl _)⟩
    have : sortT [] = [] := by simp [sortT]
    rw [this]
    exact ow
  · obtain ⟨sp, sl, sc⟩ := s
    simp only at h1 h3 h4 h5
    subst h1
    have hsl : sl = ss.length := by
      have := hlen
      rw [flat_len cT 1 cT_len] at this
      simp only at this
      omega
    subst hsl
    have htk : c.toList.take (ss.map fun s => s.data.toList).length = (ss.map fun s => s.data.toList).map encStr := by
      rw [← flat_str, List.length_map]
      rw [flat_len cT 1 cT_len, Nat.mul_one] at h6
      exact h6
    have hH := holds_of_block (w := w) (ss := ss.map fun s => s.data.toList) h2 htk
    have hc := AnyM.slices_Sort_string srt g 0 sc (ss.map fun s => s.data.toList) w hH (Array.getElem?_eq_some_iff.1 h2).1 (by simpa using hl)
    rw [List.length_map] at hc
    refine callsIn_wide.2 (hc.mono fun e w' ⟨he, n, os, hn⟩ => ?_)
    subst he
    have hg : w.grownBy w' (some g) := by rw [hn]; exact grownBy_sorted _
    have hso := heap_sorted (n := n) (os := os) ((ss.map fun s => s.data.toList).mergeSort fun x y => decide (x <= y)).toArray h2
    rw [← hn] at hso
    refine ⟨_, rfl, ⟨hg.os, hg.tape, hg.output, by rw [hn]; exact Nat.le_add_right _ _⟩, k _ ⟨?_, .inr ⟨g, _, rfl, hso, ?_, h4, h5, ?_⟩⟩ ((heap_ext hg).mono fun b _ e => by simpa [Sl.blk] using e)⟩
    · rw [flat_len cT 1 cT_len, sortT_len]
    · simp only [putCells]; simpa using h3
    · rw [flat_len cT 1 cT_len, Nat.mul_one, sortT_len, flat_sort]
      have hlm : ((ss.map fun s => s.data.toList).mergeSort fun x y => decide (x <= y)).length = ss.length := by simp
      have := take_putCells c ((ss.map fun s => s.data.toList).mergeSort fun x y => decide (x <= y)) (by rw [hlm]; omega)
      rw [hlm] at this
      exact this
set_option maxRecDepth 20000
def hstep (h : Nat) (c : UInt8) : Nat := ((h ^^^ c.toNat) * 1099511628211) % 18446744073709551616
theorem hash_step {x : Nat} (c : UInt8) (hx : x < 18446744073709551616) : IntKind.wrap .u64 ((bitsOf .xor .u64 (x : Int) (IntKind.wrap .u64 (c.toNat : Int))) * 1099511628211) = ((hstep x c : Nat) : Int) := by
  have hb : c.toNat < 256 := c.toNat_lt
  have e2 : IntKind.wrap .u64 (c.toNat : Int) = ((c.toNat : Nat) : Int) := by rw [wrap_u64]; omega
  rw [e2]
  simp only [bitsOf]
  rw [BitVec.ofInt_natCast, BitVec.ofInt_natCast, BitVec.toNat_xor, BitVec.toNat_ofNat, BitVec.toNat_ofNat, wrap_u64, wrap_u64]
  have e3 : x % 2 ^ (IntKind.bits .u64) = x := Nat.mod_eq_of_lt (by simpa [IntKind.bits] using hx)
  have e4 : c.toNat % 2 ^ (IntKind.bits .u64) = c.toNat := Nat.mod_eq_of_lt (by simp [IntKind.bits]; omega)
  rw [e3, e4]
  have hlt : x ^^^ c.toNat < 2 ^ 64 := Nat.xor_lt_two_pow (by omega) (by omega)
  unfold hstep
  generalize x ^^^ c.toNat = y at *
  omega
theorem hstep_lt (h : Nat) (c : UInt8) : hstep h c < 18446744073709551616 := Nat.mod_lt _ (by omega)
theorem hashL_eq (l : List UInt8) : hashL l = l.foldl hstep 14695981039346656037 := rfl
theorem hash_loop {h : H} {s : Sl} {l : List UInt8} {z : Nat} {Q : Int -> H -> Prop} (rd : Reads h s 1 (l.flatMap cU)) (hl : l.length <= 9223372036854775807) (k : Q (z : Int) h) :
    ∀ (m i : Nat) (x : Nat), i <= l.length -> l.length - i < m -> x < 18446744073709551616 -> (l.drop i).foldl hstep x = z -> F.xbb.l1 Q m (x : Int) s (s.len : Int) (i : Int) h
  | 0, i, x, h1, h2, _, _ => by omega
  | m + 1, i, x, h1, h2, hlt, hx => by
    unfold F.xbb.l1
    have hlen := rd_len cU_len (by omega) rd
    rw [hlen]
    simp only [decide_eq_true_eq, decide_eq_false_iff_not]
    refine ⟨fun g => ?_, fun g => ?_⟩
    · obtain ⟨c, hc⟩ : ∃ c, l[i]? = some c := ⟨_, List.getElem?_eq_getElem (by omega)⟩
      obtain ⟨p, q1, q2, q3⟩ := rd_at cU_len (by omega) rd hc
      refine idxR_of q1 (by omega) rfl ?_
      rw [ldI_iff (by have := q3.one; rwa [Nat.mul_one] at this ⊢), hash_step c hlt, w64 (by omega) (by omega)]
      have := hash_loop rd hl k m (i + 1) (hstep x c) (by omega) (by omega) (hstep_lt x c) (by
        rw [← hx, List.drop_eq_getElem_cons (show i < l.length by omega), List.foldl_cons]
        have : l[i] = c := by have := (List.getElem?_eq_some_iff.1 hc).2; exact this
        rw [this])
      rw [hlen] at this
      exact this
    · have : i = l.length := by omega
      subst this
      rw [List.drop_length] at hx
      cases hx
      exact k
theorem Hash_spec {h : H} {key : ByteArray} {Q : Int -> H -> Prop} (hk : key.size <= 9223372036854775807) (k : ∀ h', Ext h h' -> Q ((hashM key : Nat) : Int) h') : F.xbb key h Q := by
  unfold F.xbb
  refine cvtL_of Tryz.underlying9 el_Sluint8.slice Tryz.underlying5 fun r h' rd hc e _ => ?_
  refine ⟨key.data.toList.length + 1, ?_⟩
  have := hash_loop (Q := Q) (z := hashM key) rd (by rw [← size_data]; exact hk) (k h' e) (key.data.toList.length + 1) 0 14695981039346656037 (by omega) (by omega) (by omega) (by rw [List.drop_zero]; unfold hashM; rw [hashL_eq])
  exact this
abbrev SmallK (k : ByteArray) : Prop := k.size <= 9223372036854775807
abbrev BIG : Nat := 1099511627776
theorem probe_lt {α : Type} {R : List (Pl α)} {key : ByteArray} : ∀ (f i : Nat) (r : Nat × Bool), probe R key f i = some r -> r.1 < R.length
  | 0, i, r, h => by cases h
  | f + 1, i, r, h => by
    unfold probe at h
    cases hp : R[i]? with
    | none => rw [hp] at h; cases h
    | some p =>
      have hi := (List.getElem?_eq_some_iff.1 hp).1
      rw [hp] at h
      simp only at h
      split at h
      · cases h; exact hi
      · split at h
        · cases h; exact hi
        · exact probe_lt f _ r h
theorem find_lt {α : Type} {R : List (Pl α)} {key : ByteArray} {r : Nat × Bool} (h0 : R ≠ []) (h : findM R key = some r) : r.1 < R.length := by
  unfold findM at h
  rw [if_neg (fun e => h0 (List.eq_nil_of_length_eq_zero e))] at h
  exact probe_lt _ _ _ h
def WB (h : H) (n : Nat) (e : TypeId) : Prop := ∃ c, Blk h n c e
theorem WB.ne {h : H} {a b : Nat} {e e' : TypeId} (x : WB h a e) (y : WB h b e') (n : e ≠ e') : a ≠ b := fun hab => by
  obtain ⟨c, hc⟩ := x
  obtain ⟨d, hd⟩ := y
  subst hab
  unfold Blk at hc hd
  rw [hc] at hd
  simp at hd
  exact n hd.2
theorem Owns.typ {h : H} {s : Sl} {e : TypeId} {size : Nat} {cs : List Value} (o : Owns h s e size cs) {b : Nat} (hb : s.blk = some b) : WB h b e := by
  obtain ⟨_, ⟨h1, _⟩ | ⟨b', c', h1, h2, _⟩⟩ := o
  · simp [Sl.blk, h1] at hb
  · simp [Sl.blk, h1] at hb; subst hb; exact ⟨c', h2⟩
def KB {α : Type} (R : List (Pl α)) : Prop := ∀ (i : Nat) (p : Pl α), R[i]? = some p -> SmallK p.key
theorem KB.set {α : Type} {R : List (Pl α)} (k : KB R) {i : Nat} {p : Pl α} (hp : SmallK p.key) : KB (R.set i p) := fun j q hq => by
  rcases set_get hq with ⟨_, rfl, _⟩ | ⟨_, hq⟩
  · exact hp
  · exact k j q hq
def FT (n : Nat) (rs es : Sl) (b : Nat) : Prop := b = n ∨ rs.blk = some b ∨ es.blk = some b
structure Stp (h : H) (n : Nat) (rs es : Sl) (h' : H) (rs' es' : Sl) : Prop where
  only : Only (FT n rs es) h h'
  new : ∀ b, FT n rs' es' b -> FT n rs es b ∨ h.size <= b
theorem Stp.refl (h : H) (n : Nat) (rs es : Sl) : Stp h n rs es h rs es := ⟨.refl _, fun b hb => .inl hb⟩
theorem Stp.trans {h h' h'' : H} {n : Nat} {rs es rs' es' rs'' es'' : Sl} (a : Stp h n rs es h' rs' es') (b : Stp h' n rs' es' h'' rs'' es'') : Stp h n rs es h'' rs'' es'' :=
  ⟨a.only.trans b.only fun m hm hf => (a.new m hf).resolve_right (by omega), fun m hm => by
    rcases b.new m hm with h1 | h1
    · exact a.new m h1
    · exact .inr (Nat.le_trans a.only.size h1)⟩
theorem Stp.ext {h h' h'' : H} {n : Nat} {rs es rs' es' : Sl} (a : Stp h n rs es h' rs' es') (e : Ext h' h'') : Stp h n rs es h'' rs' es' := ⟨a.only.ext e, a.new⟩
theorem Stp.of_ext {h h' : H} {n : Nat} {rs es : Sl} (e : Ext h h') : Stp h n rs es h' rs es := ⟨e.only, fun b hb => .inl hb⟩
theorem made3 (a b c : Value) (n : Nat) : (madeCells #[a, b, c] (n * 3)).toList = (List.replicate n [a, b, c]).flatten := by
    apply List.ext_getElem?
    intro j
    have hfl : (List.replicate n [a, b, c]).flatten = (List.replicate n ()).flatMap fun _ => [a, b, c] := by
      rw [List.flatMap, List.map_replicate]
    rw [hfl]
    by_cases hj : j < n * 3
    · have hd : j = (j / 3) * 3 + j % 3 := by omega
      have hu : (List.replicate n ())[j / 3]? = some () := by rw [List.getElem?_replicate, if_pos (by omega)]
      have := flat_get (fun _ : Unit => [a, b, c]) 3 (fun _ => rfl) (List.replicate n ()) (j / 3) () hu (j % 3) (by omega)
      rw [← hd] at this
      rw [this]
      simp only [madeCells, Array.getElem?_toList]
      have hm : j % 3 < 3 := by omega
      simp [hj]
      rcases (show j % 3 = 0 ∨ j % 3 = 1 ∨ j % 3 = 2 by omega) with h | h | h <;> simp [h]
    · rw [List.getElem?_eq_none (by simp [size_madeCells]; omega), List.getElem?_eq_none (by rw [flat_len _ 3 (fun _ => rfl)]; simp; omega)]
theorem KB.nil {α : Type} : KB ([] : List (Pl α)) := fun i p hp => by simp at hp
theorem set3 {cs : List Value} {o : Nat} {a b v : Value} (ha : cs[o]? = some a) (hb : cs[o + 1]? = some b) : cs.take (o + 2) ++ [v] ++ cs.drop (o + 2 + [v].length) = cs.take o ++ [a, b, v] ++ cs.drop (o + [a, b, v].length) := by
  rw [List.take_add_one (i := o + 1), List.take_add_one (i := o), ha, hb]
  simp
theorem put_only (h : H) (l : Nat) (o : Obj) : Only (· = l) h (put h l o) := ⟨by simp [put], fun b hb hn => by
  unfold put
  rw [Array.getElem?_setIfInBounds_ne (fun e => hn e.symm)]⟩
theorem putAt_ {h : H} {l : Nat} {o o' : Obj} (hl : h[l]? = some o') : (put h l o)[l]? = some o := by
  have := (Array.getElem?_eq_some_iff.1 hl).1
  unfold put
  rw [Array.getElem?_setIfInBounds_self_of_lt this]
theorem nodup_len : ∀ {E L : List Nat}, E.Nodup -> (∀ e ∈ E, e ∈ L) -> E.length <= L.length
  | [], L, _, _ => Nat.zero_le _
  | e :: E, L, h, hs => by
    rw [List.nodup_cons] at h
    have he := hs e (by simp)
    have := nodup_len (E := E) (L := L.erase e) h.2 fun x hx => (List.mem_erase_of_ne (show x ≠ e from fun hxe => h.1 (by rw [← hxe]; exact hx))).2 (hs x (by simp [hx]))
    rw [List.length_erase_of_mem he] at this
    have hpos : 0 < L.length := List.length_pos_of_mem he
    simp only [List.length_cons]; omega
structure KG (h : H) (o b : Nat) (M D : List (ByteArray × Value)) (h' : H) : Prop where
  ext : Ext h h'
  box : ∃ s : Sl, Blk h' o #[s.enc] tn_Slstring ∧ Owns h' s 9 1 ((D.map (·.1)).flatMap cT) ∧ ∀ n, s.blk = some n -> o + 4 <= n
  dfr : h'[o + 1]? = some (.deferred (some []))
  it : ItH h' (o + 3) b M D
  size : o + 3 < h'.size
theorem KG.only {h h' h'' : H} {o b : Nat} {M D : List (ByteArray × Value)} (k : KG h o b M D h') (ho : h.size <= o) (hb : b < o) (e : Only (· = o + 2) h' h'') : KG h o b M D h'' := by
  obtain ⟨s, s1, s2, s3⟩ := k.box
  exact ⟨k.ext.step e fun n hn hf => by omega, ⟨s, e.block s1 (by omega), s2.only e fun n hn hf => by have := s3 n hn; omega, s3⟩, e.block k.dfr (by omega), k.it.only e (by omega) (by omega), by have := k.size; have := e.size; omega⟩
theorem put_new {M : List (ByteArray × Value)} {k : ByteArray} {v : Value} (h : k ∉ M.map (·.1)) : putK M k v = M ++ [(k, v)] := by
  unfold putK
  have : (M.findIdx? fun p => k == p.1) = none := by
    rw [List.findIdx?_eq_none_iff]
    intro p hp
    exact ba_ne fun e => h (List.mem_map.2 ⟨p, hp, e.symm⟩)
  rw [this]
theorem getK_mem {M : List (ByteArray × Value)} {k : ByteArray} {v : Value} (hn : (M.map (·.1)).Nodup) (h : (k, v) ∈ M) : getK M k = some v := by
  induction M with
  | nil => cases h
  | cons p M ih =>
    rw [List.map_cons, List.nodup_cons] at hn
    unfold getK
    rw [List.find?_cons]
    rcases List.mem_cons.1 h with rfl | h
    · simp [ba_self]
    · have : ¬ k = p.1 := fun e => hn.1 (List.mem_map.2 ⟨(k, v), h, e⟩)
      rw [ba_ne this]
      exact ih hn.2 h
theorem sortT_perm {A B : List ByteArray} (h : A.Perm B) : sortT A = sortT B := by
  unfold sortT
  rw [show ((A.map fun s => s.data.toList).mergeSort fun x y => decide (x <= y)) = ((B.map fun s => s.data.toList).mergeSort fun x y => decide (x <= y)) from mergeSort_of_perm (h.map _)]
theorem sortT_mem {A : List ByteArray} {k : ByteArray} : k ∈ sortT A ↔ k ∈ A := by
  unfold sortT
  rw [List.mem_map]
  constructor
  · rintro ⟨l, hl, rfl⟩
    have := (List.mergeSort_perm _ _).mem_iff.1 hl
    obtain ⟨s, hs, rfl⟩ := List.mem_map.1 this
    simpa using hs
  · intro h
    exact ⟨k.data.toList, (List.mergeSort_perm _ _).mem_iff.2 (List.mem_map.2 ⟨k, h, rfl⟩), by simp⟩
def SQF (ka ma b : Nat) (r : Sl) (n : Nat) : Prop := n = ka ∨ n = ma ∨ n = b ∨ r.blk = some n
end Go.Proofs.YtjjchpaomgmmdaaGreat.V
namespace Go.Proofs.YtjjchpaomgmmdaaGreat.V.P
open Go Go.Proofs.YtjjchpaomgmmdaaGreat.V
set_option linter.unusedVariables false
set_option linter.unusedSimpArgs false
set_option maxRecDepth 20000
abbrev nilA : Option Addr := none
abbrev cP (p : Pl (Option Addr)) : List Value := [.int .u8 (p.is_ : Int), .string p.key, .pointer p.value]
theorem cP_len (p : Pl (Option Addr)) : (cP p).length = 3 := rfl
theorem home_spec {h : H} {s : Sl} {α : Type} {R : List (Pl α)} {key : ByteArray} {Q : Int -> H -> Prop} (hs : s.len = R.length) (h0 : 0 < R.length) (hb : R.length <= BIG) (hk : SmallK key) (k : ∀ h', Ext h h' -> Q ((homeM R key : Nat) : Int) h') : F.xcd s key h Q := by
  unfold F.xcd
  refine Hash_spec hk fun h1 e1 => ?_
  have hw : IntKind.wrap .u64 (s.len : Int) = ((R.length : Nat) : Int) := by rw [wrap_u64, hs]; simp only [BIG] at hb; omega
  rw [hw]
  refine ⟨by omega, ?_⟩
  rw [← Int.ofNat_tmod]
  have hl := home_lt (R := R) (key := key) h0
  unfold homeM at hl
  rw [w64 (by omega) (by simp only [BIG] at hb; omega)]
  exact k h1 e1
theorem probe_loop {h : H} {s : Sl} {R : List (Pl (Option Addr))} {key : ByteArray} {Q : Int -> Bool -> H -> Prop} (rd : Reads h s 3 (R.flatMap cP)) (hb : R.length <= BIG) :
    ∀ (f i : Nat) (r : Nat × Bool), probe R key f i = some r -> Q ((r.1 : Nat) : Int) r.2 h -> F.xah.l1 Q f s key (i : Int) h
  | 0, i, r, hp, k => by cases hp
  | f + 1, i, r, hp, k => by
    unfold probe at hp
    unfold F.xah.l1
    have hlen := rd_len cP_len (by omega) rd
    cases hpi : R[i]? with
    | none => rw [hpi] at hp; cases hp
    | some p =>
      have hi := (List.getElem?_eq_some_iff.1 hpi).1
      rw [hpi] at hp
      simp only at hp
      obtain ⟨a, q1, q2, q3⟩ := rd_at cP_len (by omega) rd hpi
      have c0 := q3 0 _ rfl
      have c1 := q3 1 _ rfl
      refine idxR_of q1 (by omega) rfl ?_
      rw [ldI_iff c0]
      simp only [bne_iff_ne, ne_eq, bne_eq_false_iff_eq, beq_iff_eq, beq_eq_false_iff_ne]
      by_cases h0 : p.is_ = 0
      · rw [if_pos h0] at hp
        cases hp
        exact ⟨fun g => absurd (by omega) g, fun _ => k⟩
      · rw [if_neg h0] at hp
        refine ⟨fun _ => ?_, fun g => absurd g (by omega)⟩
        refine idxR_of q1 (by omega) rfl ?_
        rw [ldI_iff c0]
        have next : ∀ (x : Bool), ¬ (x = true) -> ¬ (p.is_ = 1 ∧ kL p.key = kL key) -> F.xah.j3 Q (F.xah.l1 Q f) s key (i : Int) x h := fun x hx hn => by
          rw [if_neg hn] at hp
          unfold F.xah.j3
          refine ⟨fun g => absurd g hx, fun _ => ?_⟩
          unfold F.xah.j2
          simp only [BIG] at hb
          refine ⟨by omega, ?_⟩
          rw [w64 (by omega) (by omega), hlen, show (i : Int) + 1 = ((i + 1 : Nat) : Int) from by omega, ← Int.ofNat_tmod]
          exact probe_loop rd hb f _ r hp k
        refine ⟨fun g => ?_, fun g => ?_⟩
        · refine idxR_of q1 (by omega) rfl ?_
          rw [ldS_iff c1, toList_data, toList_data]
          by_cases hk : kL p.key = kL key
          · rw [if_pos ⟨by omega, hk⟩] at hp
            cases hp
            rw [show (p.key.data.toList == key.data.toList) = true from by simpa using hk]
            exact ⟨fun _ => k, fun h => by cases h⟩
          · rw [show (p.key.data.toList == key.data.toList) = false from by simpa using hk]
            exact next _ (by simp) fun h => hk h.2
        · exact next _ (by simp) fun h => g (by omega)
theorem find_spec {h : H} {s : Sl} {R : List (Pl (Option Addr))} {key : ByteArray} {Q : Int -> Bool -> H -> Prop} {r : Nat × Bool} (rd : Reads h s 3 (R.flatMap cP)) (hb : R.length <= BIG) (hk : SmallK key) (hf : findM R key = some r) (k : ∀ h', Ext h h' -> Q ((r.1 : Nat) : Int) r.2 h') : F.xah s key h Q := by
  unfold F.xah
  unfold findM at hf
  have hlen := rd_len cP_len (by omega) rd
  simp only [beq_iff_eq, beq_eq_false_iff_ne]
  by_cases h0 : R.length = 0
  · rw [if_pos h0] at hf
    cases hf
    exact ⟨fun _ => k h (.refl _), fun g => absurd (by omega) g⟩
  · rw [if_neg h0] at hf
    refine ⟨fun g => absurd g (by omega), fun _ => ?_⟩
    refine home_spec (R := R) hlen (by omega) hb hk fun h1 e1 => ?_
    exact ⟨R.length + 1, probe_loop (rd.ext e1) hb _ _ r hf (k h1 e1)⟩
structure TH (h : H) (n : Nat) (rs es : Sl) (T : Tb (Option Addr)) : Prop where
  tb : Blk h n #[rs.enc, es.enc, .int .i64 (T.moved : Int), .int .i64 (T.count : Int)] tn_table_Table_chain_Chain_api_Agg
  row : Owns h rs tn_table_place_chain_Chain_api_Agg 3 (T.row.flatMap cP)
  el : Owns h es tn_table_place_chain_Chain_api_Agg 3 (T.elder.flatMap cP)
  ne : ∀ b, rs.blk = some b -> es.blk ≠ some b
  kr : KB T.row
  ke : KB T.elder
  pos : T.row ≠ []
  br : T.row.length <= BIG
  be : T.elder.length <= BIG
  bc : T.count <= BIG
  bm : T.moved <= T.elder.length
section
variable {h h' : H} {n : Nat} {rs es : Sl} {T : Tb (Option Addr)}
theorem TH.c0 (t : TH h n rs es T) : cellH h ⟨n, 0, none⟩ = some rs.enc := t.tb.cell rfl
theorem TH.c1 (t : TH h n rs es T) : cellH h ⟨n, 1, none⟩ = some es.enc := t.tb.cell rfl
theorem TH.c2 (t : TH h n rs es T) : cellH h ⟨n, 2, none⟩ = some (.int .i64 (T.moved : Int)) := t.tb.cell rfl
theorem TH.c3 (t : TH h n rs es T) : cellH h ⟨n, 3, none⟩ = some (.int .i64 (T.count : Int)) := t.tb.cell rfl
theorem TH.nr (t : TH h n rs es T) : ∀ b, rs.blk = some b -> b ≠ n := fun b hb => (t.row.typ hb).ne ⟨_, t.tb⟩ (by decide)
theorem TH.nel (t : TH h n rs es T) : ∀ b, es.blk = some b -> b ≠ n := fun b hb => (t.el.typ hb).ne ⟨_, t.tb⟩ (by decide)
theorem TH.rlen (t : TH h n rs es T) : rs.len = T.row.length := own_len cP_len (by omega) t.row
theorem TH.elen (t : TH h n rs es T) : es.len = T.elder.length := own_len cP_len (by omega) t.el
theorem TH.lt (t : TH h n rs es T) : ∀ b, FT n rs es b -> b < h.size := fun b hb => by
  rcases hb with rfl | hb | hb
  · exact block_lt t.tb
  · exact t.row.blk_lt hb
  · exact t.el.blk_lt hb
theorem TH.only (t : TH h n rs es T) {S : Nat -> Prop} (o : Only S h h') (hn : ∀ b, FT n rs es b -> ¬ S b) : TH h' n rs es T :=
  ⟨o.block t.tb (hn n (.inl rfl)), t.row.only o fun b hb => hn b (.inr (.inl hb)), t.el.only o fun b hb => hn b (.inr (.inr hb)), t.ne, t.kr, t.ke, t.pos, t.br, t.be, t.bc, t.bm⟩
theorem TH.ext (t : TH h n rs es T) (e : Ext h h') : TH h' n rs es T := t.only e fun _ _ f => f
theorem TH.set_row (t : TH h n rs es T) {i b : Nat} {p : Pl (Option Addr)} {K : H -> Prop} (hp : rs.ptr = some ⟨b, 0, none⟩) (hi : i < T.row.length) (hk : SmallK p.key)
    (k : ∀ h', TH h' n rs es { T with row := T.row.set i p } -> Stp h n rs es h' rs es -> K h') : stH h ⟨b, i * 3, none⟩ (cP p) K :=
  own_setAt cP_len t.row hp hi fun h1 o1 e1 _ => k h1 ⟨e1.block t.tb fun hb => t.nr _ hb rfl, o1, t.el.only e1 fun b' hb hb' => t.ne b' hb' hb, t.ne, t.kr.set hk, t.ke, by
    have := t.pos; intro hnil; exact this (by simpa using hnil), by simpa using t.br, t.be, t.bc, t.bm⟩ ⟨e1.mono fun b' _ hb => .inr (.inl hb), fun b' hb => .inl hb⟩
theorem TH.set_el (t : TH h n rs es T) {i b : Nat} {p : Pl (Option Addr)} {K : H -> Prop} (hp : es.ptr = some ⟨b, 0, none⟩) (hi : i < T.elder.length) (hk : SmallK p.key)
    (k : ∀ h', TH h' n rs es { T with elder := T.elder.set i p } -> Stp h n rs es h' rs es -> K h') : stH h ⟨b, i * 3, none⟩ (cP p) K :=
  own_setAt cP_len t.el hp hi fun h1 o1 e1 _ => k h1 ⟨e1.block t.tb fun hb => t.nel _ hb rfl, t.row.only e1 fun b' hb hb' => t.ne b' hb hb', o1, t.ne, t.kr, t.ke.set hk, t.pos, t.br, by simpa using t.be, t.bc, by simpa using t.bm⟩ ⟨e1.mono fun b' _ hb => .inr (.inr hb), fun b' hb => .inl hb⟩
theorem TH.row_at (t : TH h n rs es T) {i : Nat} {p : Pl (Option Addr)} (hp : T.row[i]? = some p) : ∃ b, rs.ptr = some ⟨b, 0, none⟩ ∧ Cells h ⟨b, i * 3, none⟩ (cP p) := own_at cP_len (by omega) t.row hp
theorem TH.el_at (t : TH h n rs es T) {i : Nat} {p : Pl (Option Addr)} (hp : T.elder[i]? = some p) : ∃ b, es.ptr = some ⟨b, 0, none⟩ ∧ Cells h ⟨b, i * 3, none⟩ (cP p) := own_at cP_len (by omega) t.el hp
theorem TH.stn (t : TH h n rs es T) {j : Nat} {v : Value} {K : H -> Prop} (hj : j < 4)
    (k : ∀ h', Blk h' n ((#[rs.enc, es.enc, .int .i64 (T.moved : Int), .int .i64 (T.count : Int)] : Array Value).setIfInBounds j v) tn_table_Table_chain_Chain_api_Agg -> Only (· = n) h h' -> Owns h' rs tn_table_place_chain_Chain_api_Agg 3 (T.row.flatMap cP) -> Owns h' es tn_table_place_chain_Chain_api_Agg 3 (T.elder.flatMap cP) -> K h') : stH h ⟨n, j, none⟩ [v] K :=
  stH_of t.tb (by show j + 1 <= 4; omega) fun h1 b1 e1 _ => k h1 b1 e1 (t.row.only e1 fun b hb hn => t.nr b hb hn) (t.el.only e1 fun b hb hn => t.nel b hb hn)
theorem TH.st_moved (t : TH h n rs es T) {m : Nat} {x : Int} {K : H -> Prop} (hx : x = (m : Int)) (hm : m <= T.elder.length) (k : ∀ h', TH h' n rs es { T with moved := m } -> Stp h n rs es h' rs es -> K h') : stH h ⟨n, 2, none⟩ [.int .i64 x] K := by
  subst hx
  exact t.stn (by omega) fun h1 b1 e1 o1 o2 => k h1 ⟨b1, o1, o2, t.ne, t.kr, t.ke, t.pos, t.br, t.be, t.bc, hm⟩ ⟨e1.mono fun b _ hb => .inl hb, fun b hb => .inl hb⟩
theorem TH.st_count (t : TH h n rs es T) {m : Nat} {x : Int} {K : H -> Prop} (hx : x = (m : Int)) (hm : m <= BIG) (k : ∀ h', TH h' n rs es { T with count := m } -> Stp h n rs es h' rs es -> K h') : stH h ⟨n, 3, none⟩ [.int .i64 x] K := by
  subst hx
  exact t.stn (by omega) fun h1 b1 e1 o1 o2 => k h1 ⟨b1, o1, o2, t.ne, t.kr, t.ke, t.pos, t.br, t.be, hm, t.bm⟩ ⟨e1.mono fun b _ hb => .inl hb, fun b hb => .inl hb⟩
theorem Left_spec (t : TH h n rs es T) {Q : Int -> H -> Prop} (k : Q ((leftT T : Nat) : Int) h) : F.xch (some ⟨n, 0, none⟩) h Q := by
  unfold F.xch
  simp only [nn_some, add_lit, Nat.zero_add]
  rw [ldL_iff t.c1, ldI_iff t.c2, t.elen]
  have := t.bm
  have := t.be
  simp only [BIG] at this
  rw [w64 (by omega) (by omega)]
  rw [show ((leftT T : Nat) : Int) = (T.elder.length : Int) - (T.moved : Int) from by unfold leftT; omega] at k
  exact k
end
theorem Move_loop {n : Nat} {Q : Int -> H -> Prop} : ∀ (m : Nat) (h : H) (rs es : Sl) (T T1 : Tb (Option Addr)) (x1 : Int), TH h n rs es T -> moveN nilA x1.toNat T = some T1 -> x1 < 9223372036854775808 -> x1.toNat < m ->
    (∀ h' es', TH h' n rs es' (finT T1) -> Stp h n rs es h' rs es' -> Q ((leftT (finT T1) : Nat) : Int) h') -> F.xab.l1 Q m (some ⟨n, 0, none⟩) x1 h
  | 0, h, rs, es, T, T1, x1, t, hm, hx, hf, k => by omega
  | m + 1, h, rs, es, T, T1, x1, t, hm, hx, hf, k => by
    unfold F.xab.l1
    simp only [nn_some, add_lit, Nat.zero_add]
    rw [ldI_iff t.c2, ldL_iff t.c1, t.elen]
    have hbe := t.be
    simp only [BIG] at hbe
    have stop : ∀ C1, T1 = T -> F.xab.j5 Q C1 (some ⟨n, 0, none⟩) x1 false h := fun C1 e => by
      subst e
      unfold F.xab.j5
      refine ⟨(fun h => by cases h), fun _ => ?_⟩
      simp only [nn_some, add_lit, Nat.zero_add]
      rw [ldI_iff t.c2, ldL_iff t.c1, t.elen]
      simp only [beq_iff_eq, beq_eq_false_iff_ne]
      unfold F.xab.j6
      refine ⟨fun g => ?_, fun g => ?_⟩
      · refine t.stn (by omega) fun h1 b1 e1 o1 o2 => ?_
        have hfin : finT T1 = ⟨T1.row, [], 0, T1.count⟩ := by unfold finT; rw [if_pos (by omega)]
        refine stH_of b1 (by simp) fun h2 b2 e2 _ => ?_
        have t2 : TH h2 n rs ⟨none, 0, 0⟩ (finT T1) := by
          rw [hfin]
          exact ⟨b2, o1.only e2 fun b hb hn => t.nr b hb hn, Owns.nil _ _ _, fun b hb => by simp [Sl.blk], t.kr, fun i p hi => by simp at hi, t.pos, t.br, by simp, t.bc, by simp⟩
        have s2 : Stp h n rs es h2 rs ⟨none, 0, 0⟩ := ⟨(e1.mono fun b _ hb => .inl hb).trans (e2.mono fun b _ hb => .inl hb) fun _ _ hb => hb, fun b hb => by
          rcases hb with hb | hb | hb
          · exact .inl (.inl hb)
          · exact .inl (.inr (.inl hb))
          · simp [Sl.blk] at hb⟩
        exact Left_spec t2 (k h2 _ t2 s2)
      · have hfin : finT T1 = T1 := by unfold finT; rw [if_neg (by omega)]
        have t2 : TH h n rs es (finT T1) := by rw [hfin]; exact t
        exact Left_spec t2 (k h _ t2 (.refl _ _ _ _))
    by_cases hx0 : x1 > 0
    · refine ⟨fun _ => ?_, fun g => by simp at g; omega⟩
      obtain ⟨c, hc⟩ : ∃ c, x1.toNat = c + 1 := ⟨x1.toNat - 1, by omega⟩
      rw [hc] at hm
      unfold moveN at hm
      by_cases hlt : T.moved < T.elder.length
      · rw [if_pos hlt] at hm
        rw [show decide ((T.moved : Int) < (T.elder.length : Int)) = true from by simpa using hlt]
        unfold F.xab.j5
        refine ⟨fun _ => ?_, fun h => by cases h⟩
        unfold F.xab.j2
        simp only [nn_some, add_lit, Nat.zero_add]
        obtain ⟨p, hp⟩ : ∃ p, T.elder[T.moved]? = some p := ⟨_, List.getElem?_eq_getElem hlt⟩
        obtain ⟨be, q1, q2⟩ := t.el_at hp
        have step : ∀ (h1 : H) (T2 : Tb (Option Addr)), TH h1 n rs es T2 -> Stp h n rs es h1 rs es -> T2.moved = T.moved -> T2.elder.length = T.elder.length -> moveN nilA c { T2 with moved := T2.moved + 1 } = some T1 -> F.xab.j4 Q (F.xab.l1 Q m) (some ⟨n, 0, none⟩) x1 h1 := fun h1 T2 t2 s2 em el hm2 => by
          unfold F.xab.j4
          simp only [nn_some, add_lit, Nat.zero_add]
          rw [ldI_iff t2.c2]
          refine t2.st_moved (m := T2.moved + 1) (by rw [w64 (by omega) (by omega)]; omega) (by omega) fun h2 t3 s3 => ?_
          unfold F.xab.j3
          rw [w64 (by omega) (by omega)]
          refine Move_loop m h2 rs es _ T1 (x1 - 1) t3 ?_ (by omega) (by omega) fun h' es' t4 s4 => k h' es' t4 ((s2.trans s3).trans s4)
          rw [show (x1 - 1).toNat = c from by omega]
          exact hm2
        rw [ldL_iff t.c1, ldI_iff t.c2]
        refine idxA_of q1 (by rw [t.elen]; exact hlt) rfl ?_
        have c0 := q2 0 _ rfl
        have c1 := q2 1 _ rfl
        rw [ldI_iff c0]
        unfold move1 at hm
        rw [hp] at hm
        simp only at hm
        simp only [beq_iff_eq, beq_eq_false_iff_ne]
        by_cases h1 : p.is_ = 1
        · rw [if_pos h1] at hm
          refine ⟨fun _ => ?_, fun g => absurd (by omega) g⟩
          cases hfr : findM T.row p.key with
          | none => rw [hfr] at hm; cases hm
          | some r =>
            rw [hfr] at hm
            simp only at hm
            rw [ldL_iff t.c0, ldS_iff c1]
            refine find_spec t.row.reads t.br (t.ke _ p hp) hfr fun h1 e1 => ?_
            have t1 := t.ext e1
            rw [ldL_iff t1.c0]
            have q3 : Cells h1 ⟨be, T.moved * 3, none⟩ (cP p) := q2.ext e1
            refine ⟨⟨(p.is_ : Int), p.key, p.value⟩, q3, ?_⟩
            have hr := find_lt t.pos hfr
            obtain ⟨br, u1, _⟩ := t1.row_at (List.getElem?_eq_getElem hr)
            refine idxA_of u1 (by rw [t.rlen]; exact hr) rfl ?_
            refine t1.set_row u1 hr (t.ke _ p hp) fun h2 t2 s2 => ?_
            refine t2.set_el (p := goneP nilA) (i := T.moved) q1 hlt (by show (0 : Nat) <= _; decide) fun h3 t3 s3 => ?_
            exact step h3 _ t3 ((Stp.of_ext e1).trans (s2.trans s3)) rfl (by simp) hm
        · rw [if_neg h1] at hm
          refine ⟨fun g => absurd (by omega) h1, fun _ => ?_⟩
          exact step h T t (.refl _ _ _ _) rfl rfl hm
      · rw [if_neg hlt] at hm
        rw [show decide ((T.moved : Int) < (T.elder.length : Int)) = false from by simpa using hlt]
        exact stop _ (Option.some.inj hm).symm
    · refine ⟨fun g => by simp at g; omega, fun _ => stop _ ?_⟩
      rw [show x1.toNat = 0 from by omega] at hm
      exact (Option.some.inj hm).symm
theorem Move_spec {h : H} {n : Nat} {rs es : Sl} {T T' : Tb (Option Addr)} {x : Int} {Q : Int -> H -> Prop} (t : TH h n rs es T) (hm : moveM nilA T x = some T') (hx : x < 9223372036854775808)
    (k : ∀ h' es', TH h' n rs es' T' -> Stp h n rs es h' rs es' -> Q ((leftT T' : Nat) : Int) h') : F.xab (some ⟨n, 0, none⟩) x h Q := by
  unfold moveM at hm
  cases h1 : moveN nilA x.toNat T with
  | none => rw [h1] at hm; cases hm
  | some T1 =>
    rw [h1] at hm
    cases hm
    exact ⟨x.toNat + 1, Move_loop _ h rs es T T1 x t h1 hx (by omega) k⟩
theorem elP : El PP tn_Sltable_place_chain_Chain_api_Agg tn_table_place_chain_Chain_api_Agg 3 32 (.agg #[.int .u8 0, .string ⟨#[]⟩, .pointer none]) := el_Sltable_place_chain_Chain_api_Agg
theorem made_rows (n : Nat) : (madeCells (Value.agg #[.int .u8 0, .string ⟨#[]⟩, .pointer none]).cells (n * 3)).toList = (List.replicate n (emptP nilA)).flatMap cP := by
  have := made3 (.int .u8 0) (.string ⟨#[]⟩) (.pointer none) n
  rw [List.flatMap, List.map_replicate]
  exact this
theorem KB.repl (n : Nat) : KB (List.replicate n (emptP nilA)) := fun i p hp => by
  obtain ⟨rfl, _⟩ := repl_get hp
  show (0 : Nat) <= _; omega
theorem New_spec {h : H} {Q : Option Addr -> H -> Prop} (k : ∀ h' n rs, TH h' n rs ⟨none, 0, 0⟩ (newT nilA) -> Ext h h' -> (∀ b, FT n rs ⟨none, 0, 0⟩ b -> h.size <= b) -> Q (some ⟨n, 0, none⟩) h') : F.xcj h Q := by
  unfold F.xcj
  refine make_of (n := 8) elP (by omega) (by simp [maxLen]) fun b h1 hb o1 e1 => ?_
  rw [made_rows] at o1
  refine new_of fun n h2 hn b2 e2 _ => ?_
  refine k h2 n _ ⟨b2, o1.ext e2, Owns.nil _ _ _, fun b hb => by simp [Sl.blk], KB.repl 8, KB.nil, by simp [newT], by simp [newT, BIG], by simp [newT], by simp [newT], by simp [newT]⟩ (e1.trans e2) fun b' hb' => ?_
  rcases hb' with h1 | h1 | h1
  · have := e1.size; omega
  · simp [Sl.blk] at h1; omega
  · simp [Sl.blk] at h1
section
variable {h : H} {n : Nat} {rs es : Sl} {T : Tb (Option Addr)} {key : ByteArray}
theorem where_spec {Q : Option Addr -> H -> Prop} (t : TH h n rs es T) (ok : TOk T) (hk : SmallK key)
    (k1 : ∀ h' i b, Ext h h' -> Hit T.row key i -> rs.ptr = some ⟨b, 0, none⟩ -> Q (some ⟨b, i * 3, none⟩) h')
    (k2 : ∀ h' i b, Ext h h' -> Hit T.elder key i -> (∀ j, ¬ Hit T.row key j) -> es.ptr = some ⟨b, 0, none⟩ -> Q (some ⟨b, i * 3, none⟩) h')
    (k3 : ∀ h', Ext h h' -> (∀ j, ¬ Hit T.row key j) -> (∀ j, ¬ Hit T.elder key j) -> Q none h') : F.xbu (some ⟨n, 0, none⟩) key h Q := by
  unfold F.xbu
  simp only [nn_some, add_lit, Nat.zero_add]
  rw [ldL_iff t.c0]
  have w := where_ok ok key
  unfold whereM at w
  cases hf : findM T.row key with
  | none => rw [hf] at w; rcases w with ⟨i, w, _⟩ | ⟨i, w, _⟩ | ⟨w, _⟩ <;> cases w
  | some r =>
    rw [hf] at w
    obtain ⟨i, b⟩ := r
    refine find_spec t.row.reads t.br hk hf fun h1 e1 => ?_
    have t1 := t.ext e1
    rw [ldL_iff t1.c0, ldL_iff t1.c1]
    cases b with
    | true =>
      refine ⟨fun _ => ?_, fun h => by cases h⟩
      rcases w with ⟨j, w, wh⟩ | ⟨j, w, _⟩ | ⟨w, _⟩
      · simp at w; subst w
        obtain ⟨p, hp, _⟩ := id wh
        obtain ⟨b, u1, _⟩ := t1.row_at hp
        exact idxA_of u1 (by rw [t.rlen]; exact wh.lt) rfl (k1 h1 _ b e1 wh u1)
      · cases w
      · cases w
    | false =>
      refine ⟨fun h => (by cases h), fun _ => ?_⟩
      simp only at w
      cases hg : findM T.elder key with
      | none => rw [hg] at w; rcases w with ⟨i, w, _⟩ | ⟨i, w, _⟩ | ⟨w, _⟩ <;> cases w
      | some r =>
        rw [hg] at w
        obtain ⟨i, b⟩ := r
        refine find_spec t1.el.reads t.be hk hg fun h2 e2 => ?_
        have t2 := t1.ext e2
        rw [ldL_iff t2.c1]
        cases b with
        | true =>
          refine ⟨fun _ => ?_, fun h => by cases h⟩
          rcases w with ⟨j, w, _⟩ | ⟨j, w, wh, wn⟩ | ⟨w, _⟩
          · simp at w
          · simp at w; subst w
            obtain ⟨p, hp, _⟩ := id wh
            obtain ⟨b, u1, _⟩ := t2.el_at hp
            exact idxA_of u1 (by rw [t.elen]; exact wh.lt) rfl (k2 h2 _ b (e1.trans e2) wh wn u1)
          · cases w
        | false =>
          refine ⟨fun h => (by cases h), fun _ => ?_⟩
          rcases w with ⟨j, w, _⟩ | ⟨j, w, _⟩ | ⟨w, w1, w2⟩
          · simp at w
          · simp at w
          · exact k3 h2 (e1.trans e2) w1 w2
theorem Get_spec {Q : Option Addr -> Bool -> H -> Prop} (t : TH h n rs es T) (ok : TOk T) (hk : SmallK key) (k : ∀ h', Ext h h' -> Q ((getM T key).getD nilA) (getM T key).isSome h') : F.xbs (some ⟨n, 0, none⟩) key h Q := by
  unfold F.xbs
  refine where_spec t ok hk (fun h1 i b e1 hh hb => ?_) (fun h1 i b e1 hh hn hb => ?_) (fun h1 e1 hn hne => ?_)
  · obtain ⟨p, g1, g2, g3⟩ := hh
    obtain ⟨b', u1, u2⟩ := (t.ext e1).row_at g1
    rw [hb] at u1; cases u1
    refine ⟨fun _ => ?_, fun h => by cases h⟩
    rw [nn_some, ldP_iff (u2 2 _ rfl)]
    have := k h1 e1
    rw [get_row ok g1 g2 g3] at this
    exact this
  · obtain ⟨p, g1, g2, g3⟩ := hh
    obtain ⟨b', u1, u2⟩ := (t.ext e1).el_at g1
    rw [hb] at u1; cases u1
    refine ⟨fun _ => ?_, fun h => by cases h⟩
    rw [nn_some, ldP_iff (u2 2 _ rfl)]
    have := k h1 e1
    rw [get_elder ok hn g1 g2 g3] at this
    exact this
  · refine ⟨fun h => (by cases h), fun _ => ?_⟩
    have := k h1 e1
    rw [get_none hn hne] at this
    exact this
theorem st_val {f : List (Pl (Option Addr))} {s : Sl} {i b : Nat} {p : Pl (Option Addr)} {v : Option Addr} {K : H -> Prop} (ow : Owns h s tn_table_place_chain_Chain_api_Agg 3 (f.flatMap cP)) (hp : s.ptr = some ⟨b, 0, none⟩) (hi : f[i]? = some p)
    (k : ∀ h', Owns h' s tn_table_place_chain_Chain_api_Agg 3 ((newP f i v).flatMap cP) -> Only (fun b => s.blk = some b) h h' -> K h') : stH h ⟨b, i * 3 + 2, none⟩ [.pointer v] K := by
  have hl := (List.getElem?_eq_some_iff.1 hi).1
  refine own_set ow hp (by rw [flat_len cP 3 cP_len]; simp; omega) fun h1 o1 e1 _ => k h1 ?_ e1
  have ha := flat_get cP 3 cP_len f i p hi 0 (by omega)
  have hb := flat_get cP 3 cP_len f i p hi 1 (by omega)
  rw [set3 (v := .pointer v) ha hb] at o1
  rw [newP_eq hi, flat_set cP 3 cP_len f i ⟨p.is_, p.key, v⟩ hl]
  exact o1
theorem newP_len {f : List (Pl (Option Addr))} {i : Nat} {v : Option Addr} : (newP f i v).length = f.length := by unfold newP; split <;> simp
theorem newP_kb {f : List (Pl (Option Addr))} {i : Nat} {v : Option Addr} (k : KB f) : KB (newP f i v) := by
  unfold newP
  split
  · exact k
  · rename_i p hp; exact k.set (k i p hp)
theorem lay_spec {v : Option Addr} {T' : Tb (Option Addr)} {Q : H -> Prop} (t : TH h n rs es T) (hk : SmallK key) (hl : layP T key v = some T') (hc : T'.count <= BIG) (k : ∀ h', TH h' n rs es T' -> Stp h n rs es h' rs es -> Q h') : F.xbd.j1 Q (some ⟨n, 0, none⟩) key v h := by
  unfold F.xbd.j1
  unfold layP at hl
  simp only [nn_some, add_lit, Nat.zero_add]
  rw [ldL_iff t.c0]
  cases hf : findM T.row key with
  | none => rw [hf] at hl; cases hl
  | some r =>
    rw [hf] at hl
    cases hl
    refine find_spec t.row.reads t.br hk hf fun h1 e1 => ?_
    have t1 := t.ext e1
    rw [ldL_iff t1.c0]
    have hr := find_lt t.pos hf
    obtain ⟨br, u1, _⟩ := t1.row_at (List.getElem?_eq_getElem hr)
    refine idxA_of u1 (by rw [t.rlen]; exact hr) rfl ?_
    refine t1.set_row (p := ⟨1, key, v⟩) u1 hr hk fun h2 t2 s2 => ?_
    rw [ldI_iff t2.c3]
    have hb : T.count + 1 <= BIG := hc
    simp only [BIG] at hb
    refine t2.st_count (m := T.count + 1) (by show IntKind.wrap .i64 ((T.count : Int) + 1) = _; rw [w64 (by omega) (by omega)]; omega) hc fun h3 t3 s3 => ?_
    exact k h3 t3 (((Stp.of_ext e1).trans s2).trans s3)
theorem Put_spec {v : Option Addr} {T' : Tb (Option Addr)} {Q : H -> Prop} (t : TH h n rs es T) (ok : TOk T) (hk : SmallK key) (hp : putM nilA T key v = some T') (hb : T'.row.length <= BIG) (hc : T'.count <= BIG)
    (k : ∀ h' rs' es', TH h' n rs' es' T' -> Stp h n rs es h' rs' es' -> Q h') : F.xbd (some ⟨n, 0, none⟩) key v h Q := by
  unfold F.xbd
  obtain ⟨T1, m1, ok1, m3, m4, m5, m6, m7⟩ := move_ok (z := nilA) ok 4
  unfold putM at hp
  rw [m1] at hp
  simp only at hp
  unfold putM' at hp
  have w := where_ok ok1 key
  refine Move_spec t m1 (by omega) fun h1 es1 t1 s1 => ?_
  refine where_spec t1 ok1 hk (fun h2 i b e2 hh hb2 => ?_) (fun h2 i b e2 hh hn hb2 => ?_) (fun h2 e2 hn hne => ?_)
  · refine ⟨fun _ => ?_, fun h => by cases h⟩
    rw [nn_some]
    have hw : whereM T1 key = some (some (false, i)) := by
      unfold whereM; rw [ok1.row.hit hh]
    rw [hw] at hp
    simp only at hp
    cases hp
    obtain ⟨p, g1, g2, g3⟩ := hh
    have t2 := t1.ext e2
    refine st_val t2.row hb2 g1 fun h3 o3 e3 => ?_
    exact k h3 _ _ ⟨e3.block t2.tb fun hb => t2.nr _ hb rfl, o3, t2.el.only e3 fun b' hb hb' => t2.ne b' hb' hb, t2.ne, newP_kb t2.kr, t2.ke, by
      intro hnil
      have := congrArg List.length hnil
      rw [newP_len] at this
      exact t2.pos (List.eq_nil_of_length_eq_zero this), by rw [newP_len]; exact t2.br, t2.be, t2.bc, t2.bm⟩ ((s1.ext e2).trans ⟨e3.mono fun b' _ hb => .inr (.inl hb), fun b' hb => .inl hb⟩)
  · refine ⟨fun _ => ?_, fun h => by cases h⟩
    rw [nn_some]
    have hw : whereM T1 key = some (some (true, i)) := by
      rcases w with ⟨j, w, wh⟩ | ⟨j, w, wh, _⟩ | ⟨w, _, wn⟩
      · exact absurd wh (hn j)
      · obtain ⟨p, a1, a2, a3⟩ := hh
        obtain ⟨q, b1, b2, b3⟩ := wh
        rw [w, ok1.elder.uniq i j p q a1 b1 a2 b2 (a3.trans b3.symm)]
      · exact absurd hh (wn i)
    rw [hw] at hp
    simp only at hp
    cases hp
    obtain ⟨p, g1, g2, g3⟩ := hh
    have t2 := t1.ext e2
    refine st_val t2.el hb2 g1 fun h3 o3 e3 => ?_
    exact k h3 _ _ ⟨e3.block t2.tb fun hb => t2.nel _ hb rfl, t2.row.only e3 fun b' hb hb' => t2.ne b' hb hb', o3, t2.ne, t2.kr, newP_kb t2.ke, t2.pos, t2.br, by rw [newP_len]; exact t2.be, t2.bc, by rw [newP_len]; exact t2.bm⟩ ((s1.ext e2).trans ⟨e3.mono fun b' _ hb => .inr (.inr hb), fun b' hb => .inl hb⟩)
  · refine ⟨fun h => (by cases h), fun _ => ?_⟩
    have hw : whereM T1 key = some none := by
      rcases w with ⟨j, w, wh⟩ | ⟨j, w, wh, _⟩ | ⟨w, _, _⟩
      · exact absurd wh (hn j)
      · exact absurd wh (hne j)
      · exact w
    rw [hw] at hp
    simp only at hp
    have t2 := t1.ext e2
    have s2 := s1.ext e2
    simp only [nn_some, add_lit, Nat.zero_add]
    rw [ldI_iff t2.c3, ldL_iff t2.c0, t2.rlen]
    have hbc := t1.bc
    have hbr := t1.br
    simp only [BIG] at hbc hbr
    rw [w64 (n := (T1.count : Int) + 1) (by omega) (by omega), w64 (by omega) (by omega), w64 (by omega) (by omega)]
    simp only [decide_eq_true_eq, decide_eq_false_iff_not]
    by_cases hgr : 4 * (T1.count + 1) > 3 * T1.row.length
    · rw [if_pos hgr] at hp
      refine ⟨fun _ => ?_, fun g => absurd (by omega) g⟩
      rw [ldL_iff t2.c1, t2.elen]
      obtain ⟨T2, n1, ok2, n3, n4, n5, n6, n7⟩ := move_ok (z := nilA) ok1 (T1.elder.length : Int)
      rw [n1] at hp
      simp only at hp
      have hbe := t1.be
      simp only [BIG] at hbe
      refine Move_spec t2 n1 (by omega) fun h3 es3 t3 s3 => ?_
      rw [ldL_iff t3.c0, t3.rlen]
      have hlen2 : T'.row.length = 2 * T2.row.length := by
        unfold layP at hp
        cases hf : findM (growT nilA T2).row key with
        | none => rw [hf] at hp; cases hp
        | some r => rw [hf] at hp; cases hp; simp [growT]
      have hb2 : 2 * T2.row.length <= BIG := by omega
      simp only [BIG] at hb2
      rw [w64 (by omega) (by omega), show 2 * (T2.row.length : Int) = ((2 * T2.row.length : Nat) : Int) from by omega, ldL_iff t3.c0]
      refine make_of (n := 2 * T2.row.length) elP (by omega) (by simp only [maxLen]; omega) fun b h4 hb4 o4 e4 => ?_
      rw [made_rows] at o4
      have t4 := t3.ext e4
      refine ⟨t4.c0, ?_⟩
      have hr3 := fun b' hb => t3.lt b' (.inr (.inl hb))
      refine t4.stn (by omega) fun h5 b5 e5 p5 q5 => ?_
      have o5 : Owns h5 ⟨some ⟨b, 0, none⟩, 2 * T2.row.length, 2 * T2.row.length⟩ tn_table_place_chain_Chain_api_Agg 3 ((List.replicate (2 * T2.row.length) (emptP nilA)).flatMap cP) := o4.only e5 fun b' hb' hn' => by
        simp [Sl.blk] at hb'
        have := t3.lt n (.inl rfl)
        omega
      refine stH_of b5 (by simp) fun h6 b6 e6 _ => ?_
      have o6 := o5.only e6 fun b' hb' hn' => by
        simp [Sl.blk] at hb'
        have := t3.lt n (.inl rfl)
        omega
      have p6 := p5.only e6 fun b' hb' hn' => t4.nr b' hb' hn'
      refine stH_of b6 (by rw [writeA_size]; simp) fun h7 b7 e7 _ => ?_
      have o7 := o6.only e7 fun b' hb' hn' => by
        simp [Sl.blk] at hb'
        have := t3.lt n (.inl rfl)
        omega
      have p7 := p6.only e7 fun b' hb' hn' => t4.nr b' hb' hn'
      have t7 : TH h7 n ⟨some ⟨b, 0, none⟩, 2 * T2.row.length, 2 * T2.row.length⟩ rs (growT nilA T2) :=
        ⟨b7, o7, p7, fun b' hb' hb2 => by
          have := hr3 b' hb2
          simp [Sl.blk] at hb'
          omega, KB.repl _, t3.kr, by
          have := t3.pos
          intro hnil
          have h0 := congrArg List.length hnil
          have hl0 : T2.row.length ≠ 0 := fun e => this (List.eq_nil_of_length_eq_zero e)
          simp only [growT, List.length_replicate, List.length_nil] at h0
          omega, by simp [growT]; omega, t3.br, t3.bc, by simp [growT]⟩
      have s7 : Stp h3 n rs es3 h7 ⟨some ⟨b, 0, none⟩, 2 * T2.row.length, 2 * T2.row.length⟩ rs :=
        ⟨(((e4.only (S := FT n rs es3)).trans (e5.mono fun b' _ hb => .inl hb) fun _ _ hb => hb).trans (e6.mono fun b' _ hb => .inl hb) fun _ _ hb => hb).trans (e7.mono fun b' _ hb => .inl hb) fun _ _ hb => hb, fun b' hb' => by
          rcases hb' with h1 | h1 | h1
          · exact .inl (.inl h1)
          · simp [Sl.blk] at h1; exact .inr (by omega)
          · exact .inl (.inr (.inl h1))⟩
      exact lay_spec t7 hk hp hc fun h8 t8 s8 => k h8 _ _ t8 (((s2.trans s3).trans s7).trans s8)
    · rw [if_neg hgr] at hp
      refine ⟨fun g => absurd g (by omega), fun _ => ?_⟩
      exact lay_spec t2 hk hp hc fun h3 t3 s3 => k h3 _ _ t3 (s2.trans s3)
end
theorem keys_int_loop {h : H} {o b : Nat} {M : List (ByteArray × Value)} {R : LoopState -> Option Code -> Obj} {Q : Sl -> H -> Prop} (ho : h.size <= o) (hb : b < o) (hM : M.length < 1073741824) (hv : ∀ p ∈ M, ∃ v : Option Addr, p.2 = .pointer v)
    (k : ∀ (r : Sl) (h' : H) (D : List (ByteArray × Value)), D.Perm M -> Owns h' r 9 1 ((D.map (·.1)).flatMap cT) -> Ext h h' -> (∀ n, r.blk = some n -> h.size <= n) -> Q r h')
    (hy : yields PP R (o + 2) [] (fun bg1 l1 args h K1 J1 => ∃ (y1_7 : ByteArray), args = [(.string y1_7)] ∧
      bg1 h fun h3 => ldL h3 ⟨o, 0, none⟩ fun y4 => newL h3 #[(.string y1_7)] ty_9 1 fun s7 h6 => runL PP (Builtin.append_ #[tn_Slstring, tn_Slstring] tn_Slstring #[y4.enc, s7.enc]) h6 fun s9 h8 => stH h8 ⟨o, 0, none⟩ [s9.enc] fun h10 => K1 h10)) :
    ∀ (m : Nat) (D : List (ByteArray × Value)) (h' : H), KG h o b M D h' -> h'[o + 2]? = some (R .ready none) -> D.length <= M.length -> M.length - D.length < m ->
      F.xbl.l1 (rngEnd R (o + 2) [] (fun h11 => ldL h11 ⟨o, 0, none⟩ fun y12 => shuts ((o + 1) :: ([] : List Nat)) h11 fun h14 => Q y12 h14) (fun jj h15 => True)) m (.func (.yield (o + 2)) #[] #[]) ⟨o + 3, 0, none⟩ h'
  | 0, D, h', kg, hrd, hl, hm => by omega
  | m + 1, D, h', kg, hrd, hl, hm => by
    unfold F.xbl.l1
    refine nextM_of kg.it (fun hp => ?_) (fun h5 p it5 hpM e5 sz5 hen => ?_)
    · refine ⟨false, #[], rfl, (fun h => by cases h), fun _ => .inl ⟨hrd, ?_⟩⟩
      have kg2 := kg.only ho hb (put_only h' (o + 2) (R .exhausted none))
      obtain ⟨s, s1, s2, s3⟩ := kg2.box
      refine (ldL_iff (s1.cell (i := 0) rfl)).2 ?_
      refine ⟨kg2.dfr, ?_⟩
      have e6 := put_only (put h' (o + 2) (R .exhausted none)) (o + 1) (.deferred none)
      exact k s _ D hp (s2.only e6 fun n hn hf => by have := s3 n hn; omega) (kg2.ext.step e6 fun n hn hf => by omega) fun n hn => by have := s3 n hn; omega
    · refine ⟨true, #[.string p.1, p.2], rfl, fun _ => ?_, fun h => by cases h⟩
      obtain ⟨v, hpv⟩ := hv p hpM
      refine hen _ ⟨p.1, v, by rw [hpv], ?_⟩
      have hrd5 : h5[o + 2]? = some (R .ready none) := e5.block hrd (by omega)
      refine hy h5 _ _ hrd5 ⟨p.1, rfl, hrd5, ?_⟩
      obtain ⟨s, s1, s2, s3⟩ := kg.box
      have ep := put_only h5 (o + 2) (R .busy none)
      have s1' : Blk (put h5 (o + 2) (R .busy none)) o #[s.enc] tn_Slstring := ep.block (e5.block s1 (by omega)) (by omega)
      have s2' := (s2.only e5 fun n hn hf => by have := s3 n hn; omega).only ep fun n hn hf => by have := s3 n hn; omega
      rw [ldL_iff (s1'.cell (i := 0) rfl)]
      refine newL_of fun n6 h6 hn6 b6 e6 _ => ?_
      have sz := kg.size
      have szp : (put h5 (o + 2) (R .busy none)).size = h'.size := by simp [put]; omega
      have hDl : (D.map (·.1)).length < 1073741824 := by simp; omega
      refine app_list (f := cT) (M := [p.1]) cT_len (by omega) el_Slstring (s2'.ext e6) (blk_reads (size := 1) (m := 1) (show Blk h6 n6 (([p.1] : List ByteArray).flatMap cT).toArray 9 from b6) rfl) (fun x => one1 rfl) (by simp at hDl ⊢; omega) fun r7 h7 q1 q2 q3 => ?_
      have b7 : Blk h7 o #[s.enc] tn_Slstring := q2.block (e6.block s1' (fun f => f)) fun e => by have := s3 o e; omega
      have hr7 : ∀ n, r7.blk = some n -> o + 4 <= n := fun n hn => by
        rcases q3 with q3 | ⟨b', q3, q4⟩
        · exact s3 n (by rw [← q3]; exact hn)
        · rw [q3] at hn; cases hn
          have := e6.size; omega
      refine stH_of b7 (by simp) fun h8 b8 e8 _ => ?_
      rw [writeA_all (by simp)] at b8
      have oall : Only (fun n => n = o ∨ n = o + 2 ∨ n = o + 3 ∨ s.blk = some n) h' h8 :=
        (((e5.mono fun n _ e => .inr (.inr (.inl e))).trans (ep.mono fun n _ e => .inr (.inl e)) fun _ _ e => e).trans ((e6.only (S := fun b => s.blk = some b)).trans q2 fun _ _ e => e |> fun x => x) fun n _ e => .inr (.inr (.inr e))).trans e8 fun n _ e => .inl e
      have oit : Only (fun n => n = o ∨ n = o + 2 ∨ s.blk = some n) h5 h8 :=
        ((ep.mono fun n _ e => .inr (.inl e)).trans ((e6.only (S := fun b => s.blk = some b)).trans q2 fun _ _ e => e |> fun x => x) fun n _ e => .inr (.inr e)).trans e8 fun n _ e => .inl e
      have hrd8 : h8[o + 2]? = some (R .busy none) := e8.block (q2.block (e6.block (putAt_ hrd5) (fun f => f)) fun e => by have := s3 _ e; omega) (by omega)
      have kg8 : KG h o b M (D ++ [p]) h8 := ⟨kg.ext.step oall fun n hn hf => by
          rcases hf with hf | hf | hf | hf
          · omega
          · omega
          · omega
          · have := s3 n hf; omega, ⟨r7, b8, by
          rw [List.map_append]
          exact q1.only e8 fun n hn hf => by have := hr7 n hn; omega, hr7⟩, oall.block kg.dfr (by
          intro hf
          rcases hf with hf | hf | hf | hf
          · omega
          · omega
          · omega
          · have := s3 _ hf; omega), it5.only oit (by
          intro hf
          rcases hf with hf | hf | hf
          · omega
          · omega
          · have := s3 _ hf; omega) (by
          intro hf
          rcases hf with hf | hf | hf
          · omega
          · omega
          · have := s3 _ hf; omega), by have := oall.size; omega⟩
      refine ⟨hrd8, true, rfl, (fun h => by cases h), fun _ => ?_⟩
      have hlen : (D ++ [p]).length <= M.length := by
        obtain ⟨_, es, clock, since, seen, c0, hb1, rp, hr1, _, _, _, E, w1, w2, w3, w4⟩ := it5
        have l1 : E.length = (D ++ [p]).length := by simpa using congrArg List.length w4
        have l2 := rp.len
        have hnd : E.Nodup := nodup_of w3
        have l3 : (E.map (·.born)).length <= (es.toList.map (·.born)).length := nodup_len w3 fun x hx => by
          obtain ⟨e, he, rfl⟩ := List.mem_map.1 hx
          exact List.mem_map.2 ⟨e, w1 e he, rfl⟩
        simp only [List.length_map, Array.length_toList] at l3
        omega
      refine keys_int_loop ho hb hM hv k hy m (D ++ [p]) _ (kg8.only ho hb (put_only h8 (o + 2) (R .ready none))) (putAt_ hrd8) hlen (by simp only [List.length_append, List.length_singleton] at hlen ⊢; omega)
set_option maxHeartbeats 400000 in
theorem keys_int_spec {h : H} {a b : Nat} {M : List (ByteArray × Value)} {Q : Sl -> H -> Prop} (ba : Blk h a #[.map (some b)] tn_map_string_chain_Chain_api_Agg) (mp : MapH h b M) (hM : M.length < 1073741824) (hv : ∀ p ∈ M, ∃ v : Option Addr, p.2 = .pointer v)
    (k : ∀ (r : Sl) (h' : H) (D : List (ByteArray × Value)), D.Perm M -> Owns h' r 9 1 ((D.map (·.1)).flatMap cT) -> Ext h h' -> (∀ n, r.blk = some n -> h.size <= n) -> Q r h') : F.xcp ⟨none, 0, 0⟩ (.func (.func no_maps_Keys_map_string_chain_Chain_api_Agg_string_chain_Chain_api_Agg_1) #[] #[.pointer (some ⟨a, 0, none⟩)]) h Q := by
  unfold F.xcp
  refine new_of fun o h1 ho b1 e1 sz1 => ?_
  subst ho
  rw [show h1.size = h.size + 1 from sz1]
  intro R hR hy
  rw [sz1] at hy ⊢
  refine ⟨no_maps_Keys_map_string_chain_Chain_api_Agg_string_chain_Chain_api_Agg_1, #[], #[.pointer (some ⟨a, 0, none⟩)], rfl, fun args w => no_maps_Keys_map_string_chain_Chain_api_Agg_string_chain_Chain_api_Agg_1_call args w, ?_⟩
  have hblt := mp.lt
  have halt := block_lt ba
  have d1 : Ext h1 (h1.push (.deferred (some []))) := .push _ _
  have d2 : Ext (h1.push (.deferred (some []))) ((h1.push (.deferred (some []))).push (R .ready none)) := .push _ _
  have e3 : Ext h ((h1.push (.deferred (some []))).push (R .ready none)) := (e1.trans d1).trans d2
  have key : F.xbl (.func (.yield (h.size + 2)) #[] #[]) ⟨a, 0, none⟩ ((h1.push (.deferred (some []))).push (R .ready none)) (rngEnd R (h.size + 2) [] (fun h11 => ldL h11 ⟨h.size, 0, none⟩ fun y12 => shuts ((h.size + 1) :: ([] : List Nat)) h11 fun h14 => Q y12 h14) (fun jj h15 => True)) := by
    unfold F.xbl
    rw [ldM_iff ((show Blk _ a #[.map (some b)] tn_map_string_chain_Chain_api_Agg from e3.block ba (fun f => f)).cell (i := 0) rfl)]
    refine rangeM_of (kt := 9) (et := _) mt_map_string_chain_Chain_api_Agg (mp.only e3 (fun f => f)) fun h4 it4 e4 sz4 => ?_
    have hsz : ((h1.push (.deferred (some []))).push (R .ready none)).size = h.size + 3 := by simp; omega
    rw [hsz] at it4 sz4 ⊢
    refine ⟨_, rfl, M.length + 1, ?_⟩
    refine keys_int_loop (Nat.le_refl _) hblt hM hv k hy (M.length + 1) [] h4 ⟨e3.trans e4, ⟨⟨none, 0, 0⟩, e4.block (d2.block (d1.block b1 (fun f => f)) (fun f => f)) (fun f => f), Owns.nil _ _ _, fun n hn => by simp [Sl.blk] at hn⟩, e4.block (d2.block (by rw [← sz1]; simp) (fun f => f)) (fun f => f), it4, by omega⟩ (e4.block (by
      have : h.size + 2 = (h1.push (.deferred (some []))).size := by simp; omega
      rw [this, Array.getElem?_push, if_pos rfl]) (fun f => f)) (by simp) (by simp)
  exact (F.xbl_ok key).mono fun r h' ⟨_, q⟩ => q
theorem sorted_int_spec {h : H} {a b : Nat} {M : List (ByteArray × Value)} {Q : Sl -> H -> Prop} (ba : Blk h a #[.map (some b)] tn_map_string_chain_Chain_api_Agg) (mp : MapH h b M) (hM : M.length < 1073741824) (hv : ∀ p ∈ M, ∃ v : Option Addr, p.2 = .pointer v)
    (k : ∀ (r : Sl) (h' : H) (D : List (ByteArray × Value)), D.Perm M -> Owns h' r 9 1 ((sortT (D.map (·.1))).flatMap cT) -> Ext h h' -> (∀ n, r.blk = some n -> h.size <= n) -> Q r h') : F.xco (.func (.func no_maps_Keys_map_string_chain_Chain_api_Agg_string_chain_Chain_api_Agg_1) #[] #[.pointer (some ⟨a, 0, none⟩)]) h Q := by
  unfold F.xco F.xct
  refine keys_int_spec ba mp hM hv fun r h1 D hp o1 e1 m1 => ?_
  refine sort_fn rfl o1 (by have := hp.length_eq; simp; omega) fun h2 o2 e2 => ⟨rfl, ?_⟩
  exact k r h2 D hp o2 (e1.step e2 fun n hn hf => by have := m1 n hf; omega) m1
def tkL (R : List (Pl (Option Addr))) : List (ByteArray × Value) := (R.filter fun p => decide (p.is_ = 1)).map fun p => (p.key, .pointer p.value)
theorem tkL_app (A B : List (Pl (Option Addr))) : tkL (A ++ B) = tkL A ++ tkL B := by simp [tkL]
theorem tkL_one {p : Pl (Option Addr)} (h : p.is_ = 1) : tkL [p] = [(p.key, .pointer p.value)] := by simp [tkL, h]
theorem tkL_no {p : Pl (Option Addr)} (h : p.is_ ≠ 1) : tkL [p] = [] := by simp [tkL, h]
def KU (W : List (Pl (Option Addr))) : Prop := ((tkL W).map (·.1)).Nodup
theorem KU_of {T : Tb (Option Addr)} (t : TOk T) : KU (T.row ++ T.elder) := by
  unfold KU tkL
  rw [List.map_map]
  unfold List.Nodup
  rw [List.pairwise_map, List.pairwise_filter, List.pairwise_append]
  have one : ∀ {R : List (Pl (Option Addr))}, RowOk R -> R.Pairwise fun a b => decide (a.is_ = 1) = true -> decide (b.is_ = 1) = true -> ((fun x : ByteArray × Value => x.1) ∘ fun p : Pl (Option Addr) => (p.key, Value.pointer p.value)) a ≠ ((fun x : ByteArray × Value => x.1) ∘ fun p : Pl (Option Addr) => (p.key, Value.pointer p.value)) b := fun {R} r => by
    rw [List.pairwise_iff_getElem]
    intro i j hi hj hij h1 h2 he
    have := r.uniq i j R[i] R[j] (List.getElem?_eq_getElem hi) (List.getElem?_eq_getElem hj) (by simpa using h1) (by simpa using h2) (congrArg kL he)
    omega
  refine ⟨one t.row, one t.elder, fun a ha b hb h1 h2 he => ?_⟩
  obtain ⟨i, hi⟩ := List.mem_iff_getElem?.1 ha
  obtain ⟨j, hj⟩ := List.mem_iff_getElem?.1 hb
  exact t.apart i j a b hi hj (by simpa using h1) (by simpa using h2) (congrArg kL he)
noncomputable def allL (T : Tb (Option Addr)) : List (ByteArray × Option Addr) := (sortT ((tkL (T.row ++ T.elder)).map (·.1))).map fun k => (k, (getM T k).getD nilA)
theorem tk_val {T : Tb (Option Addr)} (t : TOk T) {k : ByteArray} {v : Value} (h : (k, v) ∈ tkL (T.row ++ T.elder)) : ∃ n, getM T k = some n ∧ v = .pointer n := by
  unfold tkL at h
  obtain ⟨p, hp, he⟩ := List.mem_map.1 h
  cases he
  rw [List.mem_filter] at hp
  obtain ⟨hp, h1⟩ := hp
  have h1 : p.is_ = 1 := by simpa using h1
  refine ⟨p.value, ?_, rfl⟩
  rcases List.mem_append.1 hp with hp | hp
  · obtain ⟨i, hi⟩ := List.mem_iff_getElem?.1 hp
    exact get_row t hi h1 rfl
  · obtain ⟨i, hi⟩ := List.mem_iff_getElem?.1 hp
    exact get_elder t (fun j ⟨q, g1, g2, g3⟩ => t.apart j i q p g1 hi g2 h1 g3) hi h1 rfl
theorem tk_len {T : Tb (Option Addr)} (t : TOk T) : (tkL (T.row ++ T.elder)).length = T.count := by
  unfold tkL
  rw [List.length_map, ← List.countP_eq_length_filter, List.countP_append, ← t.cnt]
  rfl
structure SeqH (h : H) (ka ma b : Nat) (r : Sl) (L : List (ByteArray × Option Addr)) : Prop where
  kb : Blk h ka #[r.enc] tn_Slstring
  ko : Owns h r 9 1 ((L.map (·.1)).flatMap cT)
  mb : Blk h ma #[.map (some b)] tn_map_string_chain_Chain_api_Agg
  mp : ∃ M, MapH h b M ∧ ∀ p ∈ L, getK M p.1 = some (.pointer p.2)
  len : L.length < 1073741824
theorem SeqH.only {S : Nat -> Prop} {h h' : H} {ka ma b : Nat} {r : Sl} {L : List (ByteArray × Option Addr)} (s : SeqH h ka ma b r L) (o : Only S h h') (hn : ∀ n, SQF ka ma b r n -> ¬ S n) : SeqH h' ka ma b r L := by
  obtain ⟨M, m1, m2⟩ := s.mp
  exact ⟨o.block s.kb (hn _ (.inl rfl)), s.ko.only o fun n e => hn n (.inr (.inr (.inr e))), o.block s.mb (hn _ (.inr (.inl rfl))), ⟨M, m1.only o (hn _ (.inr (.inr (.inl rfl)))), m2⟩, s.len⟩
theorem SeqH.lt {h : H} {ka ma b : Nat} {r : Sl} {L : List (ByteArray × Option Addr)} (s : SeqH h ka ma b r L) : ∀ n, SQF ka ma b r n -> n < h.size := fun n hn => by
  obtain ⟨M, m1, m2⟩ := s.mp
  rcases hn with rfl | rfl | rfl | hn
  · exact block_lt s.kb
  · exact block_lt s.mb
  · exact m1.lt
  · exact s.ko.blk_lt hn
theorem all_row {h hs : H} {Q : Value -> H -> Prop} {s22 s28 : Sl} {x23 x24 : Int} {C1 : Addr -> Sl -> Int -> Int -> H -> Prop} {ma b : Nat} {pre R : List (Pl (Option Addr))} (hm0 : h.size <= ma) (hb0 : h.size <= b) (hmb : ma ≠ b) (hR : R.length <= BIG) (ku : KU (pre ++ R))
    (k : ∀ h', Ext h h' -> Only (· = b) hs h' -> Blk h' ma #[.map (some b)] tn_map_string_chain_Chain_api_Agg -> MapH h' b (tkL (pre ++ R)) -> C1 ⟨ma, 0, none⟩ s22 x23 (IntKind.wrap .i64 (x24 + 1)) h') (hrd : Reads h s28 3 (R.flatMap cP)) :
    ∀ (m i : Nat) (h' : H), Ext h h' -> Only (· = b) hs h' -> Blk h' ma #[.map (some b)] tn_map_string_chain_Chain_api_Agg -> MapH h' b (tkL (pre ++ R.take i)) -> i <= R.length -> R.length - i < m -> F.xad.l2 Q C1 m ⟨ma, 0, none⟩ s22 x23 x24 s28 (s28.len : Int) (i : Int) h'
  | 0, i, h', e, eo, bm, mp, hi, hm => by omega
  | m + 1, i, h', e, eo, bm, mp, hi, hm => by
    unfold F.xad.l2
    have hlen := rd_len cP_len (by omega) hrd
    rw [hlen]
    simp only [decide_eq_true_eq, decide_eq_false_iff_not]
    simp only [BIG] at hR
    refine ⟨fun g => ?_, fun g => ?_⟩
    · obtain ⟨p, hp⟩ : ∃ p, R[i]? = some p := ⟨_, List.getElem?_eq_getElem (by omega)⟩
      obtain ⟨a, q1, q2, q3⟩ := rd_at cP_len (by omega) (hrd.ext e) hp
      refine idxR_of q1 (by omega) rfl ?_
      refine ⟨⟨(p.is_ : Int), p.key, p.value⟩, q3, ?_⟩
      refine new_of fun n h1 hn b1 e1 _ => ?_
      refine stH_of b1 (by simp [S_table_place_chain_Chain_api_Agg.cells]) fun h2 b2 e2 _ => ?_
      rw [writeA_all (by simp [S_table_place_chain_Chain_api_Agg.cells])] at b2
      have x2 : Ext h' h2 := e1.step e2 fun j hj hf => by omega
      simp only [add_lit, Nat.zero_add]
      rw [ldI_iff (b2.cell (i := 0) rfl)]
      have htk : R.take (i + 1) = R.take i ++ [p] := by rw [List.take_add_one, hp]; rfl
      rw [w64 (by omega) (by omega), show (i : Int) + 1 = ((i + 1 : Nat) : Int) from by omega]
      simp only [beq_iff_eq, beq_eq_false_iff_ne]
      refine ⟨fun g1 => ?_, fun g1 => ?_⟩
      · have h1 : p.is_ = 1 := by have : (p.is_ : Int) = 1 := g1; omega
        have bm2 := x2.block bm (fun f => f)
        rw [ldM_iff ((show Blk h2 ma #[.map (some b)] tn_map_string_chain_Chain_api_Agg from bm2).cell (i := 0) rfl), ldS_iff (b2.cell (i := 1) rfl), ldP_iff (b2.cell (i := 2) rfl)]
        refine updM_of (kt := 9) (et := _) mt_map_string_chain_Chain_api_Agg Tryz.underlying9 (mp.only x2 (fun f => f)) fun h3 m3 e3 _ => ?_
        have hnew : p.key ∉ (tkL (pre ++ R.take i)).map (·.1) := fun hin => by
          have hs : R = R.take i ++ p :: R.drop (i + 1) := by
            have := List.take_append_drop i R
            rw [List.drop_eq_getElem_cons (show i < R.length by omega)] at this
            have hpe : R[i] = p := (List.getElem?_eq_some_iff.1 hp).2
            rw [hpe] at this
            exact this.symm
          unfold KU at ku
          rw [hs, ← List.append_assoc, tkL_app, List.map_append, List.nodup_append] at ku
          have : p.key ∈ (tkL (p :: R.drop (i + 1))).map (·.1) := by
            rw [show p :: R.drop (i + 1) = [p] ++ R.drop (i + 1) from rfl, tkL_app, tkL_one h1]
            simp
          exact ku.2.2 _ hin _ this rfl
        rw [put_new hnew] at m3
        have hM : tkL (pre ++ R.take (i + 1)) = tkL (pre ++ R.take i) ++ [(p.key, .pointer p.value)] := by rw [htk, ← List.append_assoc, tkL_app, tkL_one h1]
        have := all_row (Q := Q) hm0 hb0 hmb (by simp only [BIG]; omega) ku k hrd m (i + 1) h3 ((e.trans x2).step e3 fun j hj hf => by omega) ((eo.ext x2).trans e3 fun _ _ e => e) (e3.block bm2 hmb) (by rw [hM]; exact m3) (by omega) (by omega)
        rw [hlen] at this
        exact this
      · have h1 : p.is_ ≠ 1 := fun h => g1 (by show (p.is_ : Int) = 1; omega)
        have hM : tkL (pre ++ R.take (i + 1)) = tkL (pre ++ R.take i) := by rw [htk, ← List.append_assoc, tkL_app, tkL_no h1, List.append_nil]
        have := all_row (Q := Q) hm0 hb0 hmb (by simp only [BIG]; omega) ku k hrd m (i + 1) h2 (e.trans x2) (eo.ext x2) (x2.block bm (fun f => f)) (by rw [hM]; exact mp.only x2 (fun f => f)) (by omega) (by omega)
        rw [hlen] at this
        exact this
    · have hi' : i = R.length := by omega
      subst hi'
      rw [List.take_length] at mp
      exact k h' e eo bm mp
theorem All_spec {h : H} {n : Nat} {rs es : Sl} {T : Tb (Option Addr)} {Q : Value -> H -> Prop} (t : TH h n rs es T) (ok : TOk T) (hsm : T.count < 1073741824)
    (k : ∀ h' ka ma b r, SeqH h' ka ma b r (allL T) -> Ext h h' -> (∀ m, SQF ka ma b r m -> h.size <= m) -> (ka ≠ ma ∧ ka ≠ b ∧ ma ≠ b ∧ r.blk ≠ some ka ∧ r.blk ≠ some ma ∧ r.blk ≠ some b) -> Q (.func (.func no_table_Table_chain_Chain_api_Agg_All_1) #[] #[.pointer (some ⟨ka, 0, none⟩), .pointer (some ⟨ma, 0, none⟩)]) h') : F.xad (some ⟨n, 0, none⟩) h Q := by
  unfold F.xad
  simp only [nn_some, add_lit, Nat.zero_add]
  rw [ldI_iff t.c3]
  refine makeM_of (.inr ⟨⟨_, _, rfl⟩, mt_map_string_chain_Chain_api_Agg⟩) fun mp1 e1 => ?_
  generalize hb1 : h.push (.map #[] 0) = h1 at mp1 e1 ⊢
  refine ⟨_, rfl, ?_⟩
  refine new_of fun ma h2 hma b2 e2 sz2 => ?_
  have hs1 : h1.size = h.size + 1 := by rw [← hb1]; simp
  have hmb : ma ≠ h.size := by omega
  refine stH_of b2 (by simp) fun h3 b3 e3 _ => ?_
  rw [writeA_all (by simp)] at b3
  have x3 : Ext h h3 := (e1.trans e2).step e3 fun j hj hf => by omega
  have t3 := t.ext x3
  rw [ldL_iff t3.c0, ldL_iff t3.c1]
  refine newL_of fun sl h4 hsl b4 e4 _ => ?_
  have x4 := x3.trans e4
  have t4 := t.ext x4
  have mp4 : MapH h4 h.size [] := ((mp1.only e2 (fun f => f)).only e3 (fun e => hmb e.symm)).only e4 (fun f => f)
  have bm4 := e4.block b3 (fun f => f)
  have ku := KU_of ok
  refine ⟨3, ?_⟩
  have hbr := t.br
  have hbe := t.be
  have tail : ∀ h5, Only (· = h.size) h4 h5 -> Blk h5 ma #[.map (some h.size)] tn_map_string_chain_Chain_api_Agg -> MapH h5 h.size (tkL (T.row ++ T.elder)) -> F.xad.l1 Q 1 ⟨ma, 0, none⟩ ⟨some ⟨sl, 0, none⟩, 2, 2⟩ 2 2 h5 := fun h5 e5 b5 m5 => by
    unfold F.xad.l1
    refine ⟨fun g => by simp at g, fun _ => ?_⟩
    rw [ldM_iff ((show Blk h5 ma #[.map (some h.size)] tn_map_string_chain_Chain_api_Agg from b5).cell (i := 0) rfl)]
    unfold F.xar
    refine new_of fun kc h6 hkc b6 e6 _ => ?_
    have hML : (tkL (T.row ++ T.elder)).length < 1073741824 := by rw [tk_len ok]; exact hsm
    refine sorted_int_spec b6 (m5.only e6 (fun f => f)) hML (fun p hp => ?_) fun r h7 D hD o7 e7 m7 => ?_
    · obtain ⟨v, _, hv⟩ := tk_val ok (k := p.1) (v := p.2) hp
      exact ⟨v, hv⟩
    · refine new_of fun ka h8 hka b8 e8 _ => ?_
      refine stH_of b8 (by simp) fun h9 b9 e9 _ => ?_
      rw [writeA_all (by simp)] at b9
      have x5 : Ext h h5 := x4.step e5 fun j hj hf => by omega
      have x7 := (x5.trans e6).trans e7
      have x9 : Ext h h9 := (x7.trans e8).step e9 fun j hj hf => by have := x7.size; omega
      have hmlt := (mp4.lt)
      have s5 := e5.size
      have s6 := e6.size
      have s7 := e7.size
      have hml : ma < h4.size := block_lt bm4
      have hks : sortT (D.map (·.1)) = sortT ((tkL (T.row ++ T.elder)).map (·.1)) := sortT_perm (hD.map _)
      have hL : (allL T).map (·.1) = sortT ((tkL (T.row ++ T.elder)).map (·.1)) := by
        unfold allL; rw [List.map_map]; simp [Function.comp_def]
      have e59 : Only (· = ka) h5 h9 := ((e6.trans e7).trans e8).only.trans e9 fun _ _ e => e
      have hr9 : ∀ j, r.blk = some j -> h6.size <= j ∧ j < h7.size := fun j hj => ⟨m7 j hj, o7.blk_lt hj⟩
      refine k h9 ka ma h.size r ⟨b9, ?_, e59.block b5 (by omega), ⟨_, m5.only e59 (by omega), fun p hp => ?_⟩, ?_⟩ x9 (fun j hj => ?_) ⟨by omega, by omega, by omega, fun e => ?_, fun e => ?_, fun e => ?_⟩
      · rw [hL, ← hks]
        exact (o7.ext e8).only e9 fun j hj hf => by have := hr9 j hj; omega
      · unfold allL at hp
        obtain ⟨key, hkey, rfl⟩ := List.mem_map.1 hp
        rw [sortT_mem] at hkey
        obtain ⟨q, hq, rfl⟩ := List.mem_map.1 hkey
        obtain ⟨v, hv1, hv2⟩ := tk_val ok (k := q.1) (v := q.2) hq
        rw [getK_mem ku (v := q.2) hq, hv2, hv1]; rfl
      · have := congrArg List.length hL
        simp only [List.length_map, sortT_len] at this
        omega
      · rcases hj with rfl | rfl | rfl | hj
        · have := x7.size; omega
        · omega
        · omega
        · have := hr9 j hj; have := x5.size; omega
      · have := hr9 _ e; omega
      · have := hr9 _ e; omega
      · have := hr9 _ e; have := x5.size; omega
  have hidx : ∀ (h5 : H), Only (· = h.size) h4 h5 -> ∀ (i : Nat) (s : Sl), ([rs, es] : List Sl)[i]? = some s -> cellH h5 ⟨sl, i * 1, none⟩ = some s.enc := fun h5 e5 i s hs => by
    have b5 : Blk h5 sl #[rs.enc, es.enc] tn_Sltable_place_chain_Chain_api_Agg := e5.block b4 (by have := e3.size; omega)
    rw [Nat.mul_one]
    rcases i with _ | _ | i
    · simp at hs; subst hs; exact b5.cell rfl
    · simp at hs; subst hs; exact b5.cell rfl
    · simp at hs
  have second : ∀ h5, Only (· = h.size) h4 h5 -> Blk h5 ma #[.map (some h.size)] tn_map_string_chain_Chain_api_Agg -> MapH h5 h.size (tkL T.row) -> F.xad.l1 Q 2 ⟨ma, 0, none⟩ ⟨some ⟨sl, 0, none⟩, 2, 2⟩ 2 1 h5 := fun h5 e5 b5 m5 => by
    unfold F.xad.l1
    refine ⟨fun _ => ?_, fun g => by simp at g⟩
    refine idxA_of (b := sl) (i := 1) rfl (by simp) rfl ?_
    rw [ldL_iff (hidx h5 e5 1 es rfl)]
    refine ⟨T.elder.length + 1, ?_⟩
    have x5 : Ext h h5 := x4.step e5 fun j hj hf => by omega
    exact all_row (Q := Q) (h := h) (hs := h5) (pre := T.row) (R := T.elder) (C1 := F.xad.l1 Q 1) (by omega) (Nat.le_refl _) hmb hbe ku (fun h6 e6 o6 b6 m6 => by
      rw [w64 (by omega) (by omega)]
      exact tail h6 (e5.trans o6 fun _ _ e => e) b6 m6) t.el.reads _ 0 h5 x5 (.refl _) b5 (by simpa using m5) (by omega) (by omega)
  unfold F.xad.l1
  refine ⟨fun _ => ?_, fun g => by simp at g⟩
  refine idxA_of (b := sl) (i := 0) rfl (by simp) rfl ?_
  rw [ldL_iff (hidx h4 (.refl _) 0 rs rfl)]
  refine ⟨T.row.length + 1, ?_⟩
  refine all_row (Q := Q) (h := h) (hs := h4) (pre := []) (R := T.row) (C1 := F.xad.l1 Q 2) (by omega) (Nat.le_refl _) hmb hbr ?_ (fun h6 e6 o6 b6 m6 => ?_) t.row.reads _ 0 h4 x4 (.refl _) bm4 (by simpa [tkL] using mp4) (by omega) (by omega)
  · have := ku
    unfold KU at this
    rw [tkL_app, List.map_append, List.nodup_append] at this
    exact this.1
  · rw [w64 (by omega) (by omega)]
    exact second h6 o6 b6 m6
abbrev seqV (ka ma : Nat) : Value := .func (.func no_table_Table_chain_Chain_api_Agg_All_1) #[] #[.pointer (some ⟨ka, 0, none⟩), .pointer (some ⟨ma, 0, none⟩)]
theorem seq_core {h1 : H} {ka ma b l : Nat} {r : Sl} {L : List (ByteArray × Option Addr)} {js : List Code} {R : LoopState -> Option Code -> Obj} {BB : Nat -> ByteArray -> Option Addr -> H -> (H -> Prop) -> (Nat -> H -> Prop) -> Prop} {Kn : H -> Prop} {Kj : Nat -> H -> Prop} (I : Nat -> H -> Prop) (E : Nat -> H -> Prop) (hR : ∀ s p, ∃ r, R s p = .loop r)
    (hst : ∀ i h' h'', I i h' -> Only (· = l) h' h'' -> I i h'') (hstE : ∀ j h' h'', E j h' -> Only (· = l) h' h'' -> E j h'') (hown : ∀ i h', I i h' -> SeqH h' ka ma b r L)
    (hB : ∀ (X : Obj) (i : Nat) (x : ByteArray × Option Addr) (h5 : H) (K : H -> Prop) (J : Nat -> H -> Prop), (∃ r, X = .loop r) -> I i h5 -> h5[l]? = some X -> L[i]? = some x -> (∀ h2, I (i + 1) h2 -> h2[l]? = some X -> K h2) -> (∀ j h2, E j h2 -> h2[l]? = some X -> J j h2) -> BB l x.1 x.2 h5 K J)
    (hn : ∀ h', I L.length h' -> Kn h') (hj : ∀ j h', E j h' -> ∃ c, js[j]? = some c ∧ Kj j h')
    (hy : yields PP R l js (fun bg l args h' K J => ∃ (k : ByteArray), ∃ (v : Option Addr), args = [.string k, .pointer v] ∧ bg h' fun h5 => BB l k v h5 K J)) (h0 : I 0 h1) (hr : h1[l]? = some (R .ready none)) :
    F.xbk (.func (.yield l) #[] #[]) ⟨ka, 0, none⟩ ⟨ma, 0, none⟩ h1 (rngEnd R l js Kn Kj) := by
  unfold F.xbk
  have s0 := hown 0 h1 h0
  rw [ldL_iff (s0.kb.cell (i := 0) rfl)]
  have hlen := s0.len
  have hrl := own_len cT_len (by omega) s0.ko
  rw [List.length_map] at hrl
  refine ⟨L.length + 1, ?_⟩
  rw [hrl]
  have key : ∀ (m i : Nat) (h' : H), i <= L.length -> L.length - i < m -> I i h' -> h'[l]? = some (R .ready none) -> F.xbk.l1 (rngEnd R l js Kn Kj) m (.func (.yield l) #[] #[]) ⟨ma, 0, none⟩ r (L.length : Int) (i : Int) h' := by
    intro m
    induction m with
    | zero => intro i h' _ hm; omega
    | succ m ih =>
      intro i h' hi hm hI hrd
      unfold F.xbk.l1
      simp only [decide_eq_true_eq, decide_eq_false_iff_not]
      refine ⟨fun g => ?_, fun g => ?_⟩
      · obtain ⟨x, hx⟩ : ∃ x, L[i]? = some x := ⟨_, List.getElem?_eq_getElem (by omega)⟩
        have si := hown i h' hI
        obtain ⟨M, m1, m2⟩ := si.mp
        obtain ⟨bb, a1, a2⟩ := own_at cT_len (by omega) si.ko (i := i) (x := x.1) (by rw [List.getElem?_map, hx]; rfl)
        refine idxA_of (i := i) a1 (by omega) rfl ?_
        rw [ldS_iff (by have := a2.one; rwa [Nat.mul_one] at this ⊢), ldM_iff (si.mb.cell (i := 0) rfl)]
        refine lookM_of (kt := 9) (et := _) (z := .pointer none) mt_map_string_chain_Chain_api_Agg Tryz.underlying9 (fun w => by kernel_rfl) m1 ?_
        rw [m2 x (List.mem_of_getElem? hx)]
        refine ⟨x.2, rfl, ?_⟩
        refine hy h' _ _ hrd ⟨x.1, x.2, rfl, hrd, ?_⟩
        refine hB (R .busy none) i x _ _ _ (hR _ _) (hst i h' _ hI (put_only h' l _)) (putAt_ hrd) hx (fun h4 hI4 hb4 => ⟨hb4, true, rfl, (fun h => by cases h), fun _ => ?_⟩) (fun j h4 hE hb4 => ?_)
        · rw [show IntKind.wrap .i64 ((i : Int) + 1) = ((i + 1 : Nat) : Int) from by rw [w64 (by omega) (by omega)]; omega]
          exact ih (i + 1) _ (by omega) (by omega) (hst (i + 1) h4 _ hI4 (put_only h4 l _)) (putAt_ hb4)
        · obtain ⟨c, hc, _⟩ := hj j h4 hE
          refine ⟨c, hc, hb4, false, rfl, fun _ => ?_, fun h => by cases h⟩
          have hE2 := hstE j h4 _ hE (put_only h4 l (R .done (some c)))
          have hp := putAt_ (o := R .done (some c)) hb4
          obtain ⟨c', hc', hk⟩ := hj j _ (hstE j _ _ hE2 (put_only _ l (R .exhausted (some c))))
          exact .inr ⟨j, c, hc, hp, hk⟩
      · have : i = L.length := by omega
        subst this
        exact .inl ⟨hrd, hn _ (hst _ h' _ hI (put_only h' l _))⟩
  exact key _ 0 h1 (by omega) (by omega) h0 hr
theorem range_seq {h : H} {ka ma b : Nat} {r : Sl} {L : List (ByteArray × Option Addr)} {js : List Code} {BB : Nat -> ByteArray -> Option Addr -> H -> (H -> Prop) -> (Nat -> H -> Prop) -> Prop} {Kn : H -> Prop} {Kj : Nat -> H -> Prop} (I : Nat -> H -> Prop) (E : Nat -> H -> Prop)
    (hst : ∀ i h' h'', I i h' -> Only (· = h.size + 1) h' h'' -> I i h'') (hstE : ∀ j h' h'', E j h' -> Only (· = h.size + 1) h' h'' -> E j h'') (hown : ∀ i h', I i h' -> SeqH h' ka ma b r L)
    (h0 : I 0 (h.push (.deferred (some []))))
    (hB : ∀ (X : Obj) (i : Nat) (x : ByteArray × Option Addr) (h5 : H) (K : H -> Prop) (J : Nat -> H -> Prop), (∃ r, X = .loop r) -> I i h5 -> h5[h.size + 1]? = some X -> L[i]? = some x -> (∀ h2, I (i + 1) h2 -> h2[h.size + 1]? = some X -> K h2) -> (∀ j h2, E j h2 -> h2[h.size + 1]? = some X -> J j h2) -> BB (h.size + 1) x.1 x.2 h5 K J)
    (hn : ∀ h', I L.length h' -> Kn h') (hj : ∀ j h', E j h' -> ∃ c, js[j]? = some c ∧ Kj j h') :
    rng PP (seqV ka ma) h js (fun bg l args h' K J => ∃ (k : ByteArray), ∃ (v : Option Addr), args = [.string k, .pointer v] ∧ bg h' fun h5 => BB l k v h5 K J) Kn Kj := fun R hR hy => by
  refine ⟨no_table_Table_chain_Chain_api_Agg_All_1, #[], #[.pointer (some ⟨ka, 0, none⟩), .pointer (some ⟨ma, 0, none⟩)], rfl, fun a w => no_table_Table_chain_Chain_api_Agg_All_1_call a w, ?_⟩
  have := F.xbk_ok (seq_core I E hR hst hstE hown hB hn hj hy (h1 := (h.push (.deferred (some []))).push (R .ready none)) (hst 0 _ _ h0 (.push _ _)) (by rw [Array.getElem?_push, if_pos (by simp)]))
  exact this.mono fun r h' ⟨_, q⟩ => q
theorem sortT_id {A : List ByteArray} (h : A.Pairwise fun a b => a.data.toList < b.data.toList) : sortT A = A := by
  unfold sortT
  have hs : (A.map fun s => s.data.toList).Pairwise fun x y => (decide (x <= y)) = true := by
    rw [List.pairwise_map]
    exact h.imp fun h => by simpa using List.le_of_lt h
  rw [List.mergeSort_of_pairwise hs, List.map_map]
  conv => rhs; rw [← List.map_id A]
  exact List.map_congr_left fun s _ => rfl
end Go.Proofs.YtjjchpaomgmmdaaGreat.V.P
namespace Go.Proofs.YtjjchpaomgmmdaaGreat.V.S
open Go Go.Proofs.YtjjchpaomgmmdaaGreat.V
set_option linter.unusedVariables false
set_option linter.unusedSimpArgs false
set_option maxRecDepth 20000
section
variable {α : Type} {key : α -> Cel}
def setK (key : α -> Cel) : List α -> α -> List α
  | [], x => [x]
  | y :: r, x => if cmpC (key x) (key y) = -1 then x :: y :: r else if cmpC (key x) (key y) = 0 then x :: r else y :: setK key r x
def getK (key : α -> Cel) (S : List α) (c : Cel) : Option α := S.find? fun y => decide (cmpC (key y) c = 0)
abbrev SortK (key : α -> Cel) (S : List α) : Prop := S.Pairwise fun a b => cmpC (key a) (key b) = -1
theorem cC_self (a : Cel) : cmpC a a = 0 := cC_zero.2 rfl
theorem getK_some {S : List α} {c : Cel} {x : α} (h : getK key S c = some x) : x ∈ S ∧ key x = c :=
  ⟨List.mem_of_find?_eq_some h, cC_zero.1 (by have := List.find?_some h; simpa using this)⟩
theorem getK_none {S : List α} {c : Cel} (h : getK key S c = none) : ∀ x ∈ S, key x ≠ c := fun x hx e => by
  have := List.find?_eq_none.1 h x hx
  simp [cC_zero.2 e] at this
theorem getK_mem {S : List α} (hs : SortK key S) {x : α} (hx : x ∈ S) : getK key S (key x) = some x := by
  induction S with
  | nil => cases hx
  | cons y r ih =>
    have h := List.pairwise_cons.1 hs
    unfold getK
    rw [List.find?_cons]
    rcases List.mem_cons.1 hx with e | e
    · subst e; simp [cC_self]
    · have := h.1 x e
      have hn : ¬ cmpC (key y) (key x) = 0 := by omega
      simp only [hn, decide_false]
      exact ih h.2 e
theorem mem_set {x y : α} : ∀ {S : List α}, SortK key S -> (y ∈ setK key S x ↔ y = x ∨ (y ∈ S ∧ key y ≠ key x))
  | [], _ => by simp [setK]
  | z :: r, hs => by
    have h := List.pairwise_cons.1 hs
    have ih := mem_set (x := x) (y := y) h.2
    unfold setK
    split
    · rename_i h1
      have hall : ∀ w ∈ z :: r, key w ≠ key x := fun w hw e => by
        rcases List.mem_cons.1 hw with q | q
        · subst q; rw [e, cC_self] at h1; omega
        · have := cC_trans h1 (h.1 w q); rw [e, cC_self] at this; omega
      constructor
      · intro hy
        rcases List.mem_cons.1 hy with q | q
        · exact .inl q
        · exact .inr ⟨q, hall y q⟩
      · rintro (q | ⟨q, _⟩)
        · rw [q]; simp
        · exact List.mem_cons_of_mem _ q
    · rename_i h1
      split
      · rename_i h2
        have he := cC_zero.1 h2
        constructor
        · intro hy
          rcases List.mem_cons.1 hy with q | q
          · exact .inl q
          · refine .inr ⟨List.mem_cons_of_mem _ q, fun e => ?_⟩
            have := h.1 y q
            rw [e, ← he, cC_self] at this; omega
        · rintro (q | ⟨q, q2⟩)
          · rw [q]; simp
          · rcases List.mem_cons.1 q with q | q
            · subst q; exact absurd he.symm q2
            · exact List.mem_cons_of_mem _ q
      · rename_i h2
        have hne : key z ≠ key x := fun e => h2 (cC_zero.2 e.symm)
        rw [List.mem_cons, ih]
        constructor
        · rintro (q | q | ⟨q, q2⟩)
          · subst q; exact .inr ⟨by simp, hne⟩
          · exact .inl q
          · exact .inr ⟨List.mem_cons_of_mem _ q, q2⟩
        · rintro (q | ⟨q, q2⟩)
          · exact .inr (.inl q)
          · rcases List.mem_cons.1 q with q | q
            · exact .inl q
            · exact .inr (.inr ⟨q, q2⟩)
theorem sort_set {x : α} : ∀ {S : List α}, SortK key S -> SortK key (setK key S x)
  | [], _ => by simp [setK, SortK]
  | z :: r, hs => by
    have h := List.pairwise_cons.1 hs
    have ih := sort_set (x := x) h.2
    unfold setK
    split
    · rename_i h1
      refine List.pairwise_cons.2 ⟨fun w hw => ?_, hs⟩
      rcases List.mem_cons.1 hw with q | q
      · subst q; exact h1
      · exact cC_trans h1 (h.1 w q)
    · rename_i h1
      split
      · rename_i h2
        have he := cC_zero.1 h2
        exact List.pairwise_cons.2 ⟨fun w hw => by rw [he]; exact h.1 w hw, h.2⟩
      · rename_i h2
        refine List.pairwise_cons.2 ⟨fun w hw => ?_, ih⟩
        rcases (mem_set h.2).1 hw with q | ⟨q, _⟩
        · subst q
          have := cC_range (key w) (key z)
          have := cC_anti (key z) (key w)
          omega
        · exact h.1 w q
theorem pw_set {P : α -> α -> Prop} {x : α} : ∀ {S : List α}, SortK key S -> S.Pairwise P -> (∀ y ∈ S, key y ≠ key x -> P x y ∧ P y x) -> (setK key S x).Pairwise P
  | [], _, _, _ => by simp [setK]
  | z :: r, hs, hp, hx => by
    have h := List.pairwise_cons.1 hs
    have hp' := List.pairwise_cons.1 hp
    have ih := pw_set (x := x) h.2 hp'.2 fun y hy => hx y (List.mem_cons_of_mem _ hy)
    unfold setK
    split
    · rename_i h1
      refine List.pairwise_cons.2 ⟨fun w hw => (hx w hw fun e => ?_).1, hp⟩
      rcases List.mem_cons.1 hw with q | q
      · subst q; rw [e, cC_self] at h1; omega
      · have := cC_trans h1 (h.1 w q); rw [e, cC_self] at this; omega
    · rename_i h1
      split
      · rename_i h2
        have he := cC_zero.1 h2
        refine List.pairwise_cons.2 ⟨fun w hw => (hx w (List.mem_cons_of_mem _ hw) fun e => ?_).1, hp'.2⟩
        have := h.1 w hw
        rw [e, ← he, cC_self] at this; omega
      · rename_i h2
        have hne : key z ≠ key x := fun e => h2 (cC_zero.2 e.symm)
        refine List.pairwise_cons.2 ⟨fun w hw => ?_, ih⟩
        rcases (mem_set h.2).1 hw with q | ⟨q, _⟩
        · subst q; exact (hx z (by simp) hne).2
        · exact hp'.1 w q
theorem sum_set {x : α} (f : α -> Nat) : ∀ {S : List α}, SortK key S -> ((setK key S x).map f).sum + ((getK key S (key x)).map f).getD 0 = (S.map f).sum + f x
  | [], _ => by simp [setK, getK]
  | z :: r, hs => by
    have h := List.pairwise_cons.1 hs
    have ih := sum_set (x := x) f h.2
    unfold setK
    split
    · rename_i h1
      have hn : getK key (z :: r) (key x) = none := by
        unfold getK
        rw [List.find?_eq_none]
        intro w hw
        have : cmpC (key x) (key w) = -1 := by
          rcases List.mem_cons.1 hw with q | q
          · subst q; exact h1
          · exact cC_trans h1 (h.1 w q)
        have := cC_anti (key w) (key x)
        simp; omega
      rw [hn]; simp; omega
    · rename_i h1
      split
      · rename_i h2
        have he := cC_zero.1 h2
        have hs' : getK key (z :: r) (key x) = some z := by
          unfold getK; rw [List.find?_cons, ← he]; simp [cC_self]
        rw [hs']; simp; omega
      · rename_i h2
        have hne : ¬ cmpC (key z) (key x) = 0 := fun e => h2 (cC_zero.2 (cC_zero.1 e).symm)
        have hs' : getK key (z :: r) (key x) = getK key r (key x) := by
          unfold getK; rw [List.find?_cons]; simp [hne]
        rw [hs']; simp; omega
theorem map_set {β : Type} {key' : β -> Cel} (f : α -> β) (hk : ∀ x, key' (f x) = key x) {x : α} : ∀ (S : List α), (setK key S x).map f = setK key' (S.map f) (f x)
  | [] => rfl
  | z :: r => by
    have ih := map_set f hk (x := x) r
    show _ = setK key' (f z :: r.map f) (f x)
    unfold setK
    rw [hk, hk]
    split
    · rfl
    · split
      · rfl
      · rw [List.map_cons, ih]
theorem map_get {β : Type} {key' : β -> Cel} (f : α -> β) (hk : ∀ x, key' (f x) = key x) {c : Cel} : ∀ (S : List α), getK key' (S.map f) c = (getK key S c).map f
  | [] => rfl
  | z :: r => by
    have ih := map_get f hk (c := c) r
    unfold getK at ih ⊢
    rw [List.map_cons, List.find?_cons, List.find?_cons, hk, ih]
    split <;> simp_all
end
abbrev Ver := C.Ver
abbrev zA := C.zA
abbrev SL := List (Cel × List Ver)
def okC (c : Cel) : Int := if c.View < 0 ∨ c.View >= 4 then 23 else if (c.Key.size : Int) < 1 ∨ (c.Key.size : Int) > 32 then 21 else if c.Start < -2305843009213693952 ∨ c.Start > 2305843009213693952 then 22 else 0
theorem ok_may {c : Cel} (h : okC c = 0) : mayC c = 0 := by
  unfold okC at h
  unfold mayC
  split at h
  · cases h
  · rename_i h1
    rw [if_neg (by omega)]
    split at h
    · cases h
    · rename_i h2
      rw [if_neg (by omega)]
      split at h
      · cases h
      · rename_i h3; rw [if_neg h3]
theorem ok_start {c : Cel} (h : okC c = 0) : I64n c.Start := by
  unfold okC at h
  split at h
  · cases h
  · split at h
    · cases h
    · split at h
      · cases h
      · unfold I64n; omega
def keyB (c : Cel) : ByteArray := ⟨(keyL c).toArray⟩
theorem kL_keyB (c : Cel) : kL (keyB c) = keyL c := by simp [keyB, kL]
theorem key_size {c : Cel} (h : okC c = 0) : (keyL c).length <= 100 := by
  obtain ⟨h1, h2, h3⟩ := may_view (ok_may h)
  have := escL_len c.Key.data.toList
  have h4 : c.Key.data.toList.length = c.Key.size := (size_data).symm
  unfold keyL
  simp [beT_len]
  omega
theorem key_inj {a b : Cel} (ha : okC a = 0) (hb : okC b = 0) (h : keyL a = keyL b) : a = b := by
  have h1 := cell_back (ok_may ha) (ok_start ha)
  have h2 := cell_back (ok_may hb) (ok_start hb)
  rw [h, h2] at h1
  exact (congrArg Prod.fst h1).symm
abbrev alive (vs : List Ver) : Bool := (C.newestM vs).2.2
def unitsV (vs : List Ver) : Nat := vs.length + (if alive vs then 1 else 0)
def aliveN (vs : List Ver) : Nat := if alive vs then 1 else 0
def unitsS (S : SL) : Nat := (S.map fun x => unitsV x.2).sum
def thereS (S : SL) : Nat := (S.map fun x => aliveN x.2).sum
abbrev getS (S : SL) (c : Cel) : Option (List Ver) := (getK (·.1) S c).map (·.2)
abbrev setS (S : SL) (c : Cel) (vs : List Ver) : SL := setK (·.1) S (c, vs)
abbrev SortS (S : SL) : Prop := SortK (·.1) S
def atV (vs : List Ver) (e : Int) : S_api_Agg × Bool := if e = 0 then ((C.newestM vs).1, alive vs) else C.atM vs e
def rowS (e : Int) (x : Cel × List Ver) : S_api_Row := ⟨x.1, (atV x.2 e).1⟩
def inS (e : Int) (fr to : Cel) (x : Cel × List Ver) : Bool := (atV x.2 e).2 && (decide (cmpC fr x.1 <= 0) && decide (cmpC x.1 to < 0))
def rangeS (S : SL) (e : Int) (fr to : Cel) : List S_api_Row := (S.filter (inS e fr to)).map (rowS e)
def needV (o : Option (List Ver)) (e : Int) : Int := match o with
  | none => 2
  | some vs => if (C.newestM vs).2.1 > e then 0 else if (C.newestM vs).2.1 = e ∧ alive vs = true then 0 else if (C.newestM vs).2.1 = e ∨ alive vs = true then 1 else 2
def needS (S : SL) (e : Int) (c : Cel) : Int := if okC c ≠ 0 then 0 else needV (getS S c) e
structure VOk (vs : List Ver) : Prop where
  ne : vs ≠ []
  rise : C.Rise vs
  dead : ∀ v ∈ vs, v.dead = true -> v.value = zA
  ep : ∀ v ∈ vs, 1 <= v.epoch ∧ v.epoch <= 1099511627776
structure SOk (S : SL) : Prop where
  sort : SortS S
  ok : ∀ x ∈ S, okC x.1 = 0 ∧ VOk x.2
theorem unitsV_pos {vs : List Ver} (h : vs ≠ []) : 1 <= unitsV vs := by
  have := List.length_pos_iff.2 h
  unfold unitsV; omega
theorem len_units {S : SL} (h : SOk S) : S.length <= unitsS S := by
  have : ∀ (S : SL), (∀ x ∈ S, x.2 ≠ []) -> S.length <= unitsS S := fun S => by
    induction S with
    | nil => intro _; simp [unitsS]
    | cons x r ih =>
      intro hx
      have h1 := ih fun y hy => hx y (by simp [hy])
      have h2 := unitsV_pos (hx x (by simp))
      unfold unitsS at h1 ⊢
      rw [List.map_cons, List.sum_cons, List.length_cons]; omega
  exact this S fun x hx => (h.ok x hx).2.ne
theorem ver_units {S : SL} {x : Cel × List Ver} (hx : x ∈ S) : x.2.length <= unitsS S := by
  induction S with
  | nil => cases hx
  | cons y r ih =>
    unfold unitsS at ih ⊢
    rw [List.map_cons, List.sum_cons]
    rcases List.mem_cons.1 hx with e | e
    · subst e; unfold unitsV; omega
    · have := ih e; omega
theorem alive_le (vs : List Ver) : aliveN vs <= unitsV vs := by unfold aliveN unitsV; omega
theorem there_le {S : SL} : thereS S <= unitsS S := by
  induction S with
  | nil => simp [thereS, unitsS]
  | cons y r ih =>
    unfold unitsS thereS at ih ⊢
    rw [List.map_cons, List.sum_cons, List.map_cons, List.sum_cons]
    have := alive_le y.2
    omega
end Go.Proofs.YtjjchpaomgmmdaaGreat.V.S
namespace Go.Proofs.YtjjchpaomgmmdaaGreat.V
open Go
set_option linter.unusedVariables false
set_option linter.unusedSimpArgs false
theorem own_neG {h : H} {s : Sl} {n : Nat} {cs : List Value} {k : Nat} {c : Array Value} {e e' : TypeId} (w : Owns h s e k cs) (b : Blk h n c e') (he : e ≠ e') : s.blk ≠ some n := fun hb => by
  obtain ⟨_, ⟨q1, _, _⟩ | ⟨b', c', q1, q2, _⟩⟩ := w
  · simp [Sl.blk, q1] at hb
  · simp [Sl.blk, q1] at hb
    subst hb
    have := q2.symm.trans b
    simp at this
    exact he this.2
section
variable {α : Type} {f : α -> List Value} {kk : Nat} {e : TypeId} {n : Nat} {h0 h h' : H} {A M : Nat -> Sl} {D T : Nat -> List α}
end
end Go.Proofs.YtjjchpaomgmmdaaGreat.V
namespace Go.Proofs.YtjjchpaomgmmdaaGreat.V.S
open Go Go.Proofs.YtjjchpaomgmmdaaGreat.V
set_option linter.unusedVariables false
set_option linter.unusedSimpArgs false
set_option maxRecDepth 20000
theorem key_spec {h : H} {c : Cel} {Q : ByteArray -> Int -> H -> Prop} (k0 : okC c ≠ 0 -> ∀ h', Ext h h' -> Q ⟨#[]⟩ (okC c) h') (k1 : okC c = 0 -> ∀ h', Ext h h' -> Q (keyB c) 0 h') : F.xaf c h Q := by
  unfold F.xaf
  refine new_of fun n h1 hn b1 e1 s1 => ?_
  have c0 : cellH h1 ⟨n, 0, none⟩ = some (.int .i64 c.View) := Blk.cells b1 0 _ rfl
  have c1 : cellH h1 ⟨n, 1, none⟩ = some (.string c.Key) := Blk.cells b1 1 _ rfl
  have c2 : cellH h1 ⟨n, 2, none⟩ = some (.int .i64 c.Start) := Blk.cells b1 2 _ rfl
  have j1 : okC c = 0 -> F.xaf.j1 Q ⟨n, 0, none⟩ h1 := fun g => by
    unfold F.xaf.j1
    refine ⟨c, Blk.cells b1, Key_spec (fun g2 => absurd (ok_may g) g2) fun _ h2 e2 => k1 g h2 (e1.trans e2)⟩
  have j4 : ∀ b : Bool, (b = true -> okC c = 22) -> (b = false -> okC c = 0) -> F.xaf.j4 Q ⟨n, 0, none⟩ b h1 := fun b q1 q2 => by
    unfold F.xaf.j4
    refine ⟨fun g => ?_, fun g => j1 (q2 g)⟩
    have := k0 (by rw [q1 g]; decide) h1 e1
    rw [q1 g] at this; exact this
  have j3 : ∀ b : Bool, (b = true -> okC c = 21) -> (b = false -> okC c = if c.Start < -2305843009213693952 ∨ c.Start > 2305843009213693952 then 22 else 0) -> F.xaf.j3 Q ⟨n, 0, none⟩ b h1 := fun b q1 q2 => by
    unfold F.xaf.j3
    simp only [add_lit, Nat.zero_add, Nat.add_zero]
    refine ⟨fun g => ?_, fun g => ?_⟩
    · have := k0 (by rw [q1 g]; decide) h1 e1
      rw [q1 g] at this; exact this
    · have hq := q2 g
      rw [ldI_iff c2]
      refine ⟨fun g2 => j4 true (fun _ => ?_) fun h => (by cases h), fun g2 => ?_⟩
      · have g2 := of_decide_eq_true g2
        rw [hq, if_pos (.inl g2)]
      · have g2 := of_decide_eq_false g2
        rw [ldI_iff c2]
        refine j4 _ (fun g3 => ?_) fun g3 => ?_
        · have g3 := of_decide_eq_true g3
          rw [hq, if_pos (.inr g3)]
        · have g3 := of_decide_eq_false g3
          rw [hq, if_neg (by omega)]
  have j2 : ∀ b : Bool, (b = true -> okC c = 23) -> (b = false -> okC c = if (c.Key.size : Int) < 1 ∨ (c.Key.size : Int) > 32 then 21 else if c.Start < -2305843009213693952 ∨ c.Start > 2305843009213693952 then 22 else 0) -> F.xaf.j2 Q ⟨n, 0, none⟩ b h1 := fun b q1 q2 => by
    unfold F.xaf.j2
    simp only [add_lit, Nat.zero_add, Nat.add_zero]
    refine ⟨fun g => ?_, fun g => ?_⟩
    · have := k0 (by rw [q1 g]; decide) h1 e1
      rw [q1 g] at this; exact this
    · have hq := q2 g
      rw [ldS_iff c1]
      refine ⟨fun g2 => j3 true (fun _ => ?_) fun h => (by cases h), fun g2 => ?_⟩
      · have g2 := of_decide_eq_true g2
        rw [hq, if_pos (.inl g2)]
      · have g2 := of_decide_eq_false g2
        rw [ldS_iff c1]
        refine j3 _ (fun g3 => ?_) fun g3 => ?_
        · have g3 := of_decide_eq_true g3
          rw [hq, if_pos (.inr g3)]
        · have g3 := of_decide_eq_false g3
          rw [hq, if_neg (by omega)]
  simp only [add_lit, Nat.zero_add, Nat.add_zero]
  rw [ldI_iff c0]
  refine ⟨fun g2 => j2 true (fun _ => ?_) fun h => (by cases h), fun g2 => ?_⟩
  · have g2 := of_decide_eq_true g2
    unfold okC; rw [if_pos (.inl g2)]
  · have g2 := of_decide_eq_false g2
    rw [ldI_iff c0]
    refine j2 _ (fun g3 => ?_) fun g3 => ?_
    · have g3 := of_decide_eq_true g3
      unfold okC; rw [if_pos (.inr g3)]
    · have g3 := of_decide_eq_false g3
      unfold okC; rw [if_neg (by omega)]
structure Rec where
  c : Cel
  vs : List Ver
  p : Nat
  B : Option Nat
abbrev toS (Z : List Rec) : SL := Z.map fun r => (r.c, r.vs)
def ShE (e : TypeId) : Prop := e = tn_shard_Shard ∨ e = tn_table_Table_chain_Chain_api_Agg ∨ e = tn_table_place_chain_Chain_api_Agg ∨ e = tn_chain_Chain_api_Agg ∨ e = tn_chain_version_api_Agg
def ShTy (h : H) (b : Nat) : Prop := ∃ e, ShE e ∧ WB h b e
structure SZG (W : List Ver -> Prop) (h : H) (n tn : Nat) (rs es : Sl) (T : Tb (Option Addr)) (Z : List Rec) (slots : Nat) (R : Nat -> Prop) (u t : Int) : Prop where
  sb : Blk h n #[.int .i64 u, .int .i64 t, .int .i64 (slots : Int), .pointer (some ⟨tn, 0, none⟩)] tn_shard_Shard
  th : P.TH h tn rs es T
  ok : TOk T
  ch : ∀ r ∈ Z, C.Ch h r.p r.vs r.B
  get : ∀ r ∈ Z, getM T (keyB r.c) = some (some ⟨r.p, 0, none⟩)
  all : ∀ k v, getM T k = some v -> ∃ r ∈ Z, kL k = keyL r.c
  srt : SortK Rec.c Z
  pd : Z.Pairwise fun a b => a.p ≠ b.p
  bd : Z.Pairwise fun a b => ∀ x, a.B = some x -> b.B ≠ some x
  wf : ∀ r ∈ Z, okC r.c = 0 ∧ W r.vs
  us : unitsS (toS Z) <= slots
  sl : slots <= 1048576
  rl : T.row.length <= 4200000
  rn : R n
  rt : R tn
  rr : ∀ b, rs.blk = some b -> R b
  re : ∀ b, es.blk = some b -> R b
  rp : ∀ r ∈ Z, R r.p ∧ ∀ x, r.B = some x -> R x
abbrev SZ := SZG VOk
theorem toS_ok {h : H} {n tn : Nat} {rs es : Sl} {T : Tb (Option Addr)} {Z : List Rec} {slots : Nat} {R : Nat -> Prop} {u t : Int} (z : SZ h n tn rs es T Z slots R u t) : SOk (toS Z) := by
  refine ⟨?_, fun x hx => ?_⟩
  · unfold SortS SortK; rw [List.pairwise_map]; exact z.srt
  · obtain ⟨r, hr, rfl⟩ := List.mem_map.1 hx
    exact z.wf r hr
section
variable {W : List Ver -> Prop} {h h' : H} {n tn : Nat} {rs es : Sl} {T : Tb (Option Addr)} {Z : List Rec} {slots : Nat} {R : Nat -> Prop} {u t : Int}
theorem ch_typ {p : Nat} {L : List Ver} {B : Option Nat} (c : C.Ch h p L B) : WB h p tn_chain_Chain_api_Agg ∧ ∀ b, B = some b -> WB h b tn_chain_version_api_Agg := by
  obtain ⟨s, h1, h2, h3, h4⟩ := c
  exact ⟨⟨_, h1⟩, fun b hb => h2.typ (by rw [h3]; exact hb)⟩
theorem SZG.keep {S : Nat -> Prop} (z : SZG W h n tn rs es T Z slots R u t) (o : Only S h h') (hn : ∀ b, R b -> ShTy h b -> ¬ S b) : SZG W h' n tn rs es T Z slots R u t := by
  refine { z with sb := o.block z.sb (hn n z.rn ⟨_, .inl rfl, _, z.sb⟩), th := z.th.only o fun b hb => ?_, ch := fun r hr => ?_ }
  · rcases hb with hb | hb | hb
    · subst hb; exact hn _ z.rt ⟨_, .inr (.inl rfl), _, z.th.tb⟩
    · exact hn _ (z.rr b hb) ⟨_, .inr (.inr (.inl rfl)), z.th.row.typ hb⟩
    · exact hn _ (z.re b hb) ⟨_, .inr (.inr (.inl rfl)), z.th.el.typ hb⟩
  · have := ch_typ (z.ch r hr)
    exact (z.ch r hr).only o (hn _ (z.rp r hr).1 ⟨_, .inr (.inr (.inr (.inl rfl))), this.1⟩) fun b hb => hn _ ((z.rp r hr).2 b hb) ⟨_, .inr (.inr (.inr (.inr rfl))), this.2 b hb⟩
theorem SZG.ext (z : SZG W h n tn rs es T Z slots R u t) (e : Ext h h') : SZG W h' n tn rs es T Z slots R u t := z.keep e fun _ _ _ f => f
theorem SZG.len (z : SZG VOk h n tn rs es T Z slots R u t) : Z.length <= 1048576 := by
  have h1 := len_units (toS_ok z)
  have h2 := z.us
  have h3 := z.sl
  rw [show (toS Z).length = Z.length from List.length_map _] at h1
  omega
theorem SZG.vlen (z : SZG W h n tn rs es T Z slots R u t) {r : Rec} (hr : r ∈ Z) : r.vs.length <= 1048576 := by
  have h1 := ver_units (S := toS Z) (x := (r.c, r.vs)) (List.mem_map.2 ⟨r, hr, rfl⟩)
  have h2 := z.us
  have h3 := z.sl
  simp only at h1
  omega
theorem SZG.cs0 (z : SZG W h n tn rs es T Z slots R u t) : cellH h ⟨n, 0, none⟩ = some (.int .i64 u) := z.sb.cell rfl
theorem SZG.cs1 (z : SZG W h n tn rs es T Z slots R u t) : cellH h ⟨n, 1, none⟩ = some (.int .i64 t) := z.sb.cell rfl
theorem SZG.cs2 (z : SZG W h n tn rs es T Z slots R u t) : cellH h ⟨n, 2, none⟩ = some (.int .i64 (slots : Int)) := z.sb.cell rfl
theorem SZG.cs3 (z : SZG W h n tn rs es T Z slots R u t) : cellH h ⟨n, 3, none⟩ = some (.pointer (some ⟨tn, 0, none⟩)) := z.sb.cell rfl
theorem SZG.look (z : SZG W h n tn rs es T Z slots R u t) {c : Cel} (hc : okC c = 0) : getM T (keyB c) = (getK Rec.c Z c).map fun r => some ⟨r.p, 0, none⟩ := by
  cases hg : getK Rec.c Z c with
  | some r =>
    obtain ⟨h1, h2⟩ := getK_some hg
    subst h2
    exact z.get r h1
  | none =>
    cases hm : getM T (keyB c) with
    | none => rfl
    | some v =>
      obtain ⟨r, hr, he⟩ := z.all _ _ hm
      rw [kL_keyB] at he
      exact absurd (key_inj hc (z.wf r hr).1 he).symm (getK_none hg r hr)
theorem SZG.getS (z : SZG W h n tn rs es T Z slots R u t) (c : Cel) : S.getS (toS Z) c = (getK Rec.c Z c).map (·.vs) := by
  show (getK _ (Z.map _) c).map _ = _
  rw [map_get (key := Rec.c) (key' := fun x : Cel × List Ver => x.1) (fun r : Rec => (r.c, r.vs)) (fun _ => rfl), Option.map_map]
  rfl
theorem key_small {c : Cel} (h : okC c = 0) : SmallK (keyB c) := by
  have := key_size h
  show (keyL c).toArray.size <= _
  simp; omega
end
def SH (h : H) (n : Nat) (S : SL) (slots : Nat) (R : Nat -> Prop) : Prop := ∃ tn rs es T Z, toS Z = S ∧ SZ h n tn rs es T Z slots R (unitsS (toS Z) : Int) (thereS (toS Z) : Int)
section
variable {h h' : H} {n : Nat} {S : SL} {slots : Nat} {R : Nat -> Prop}
theorem SH.keep {P : Nat -> Prop} (s : SH h n S slots R) (o : Only P h h') (hn : ∀ b, R b -> ShTy h b -> ¬ P b) : SH h' n S slots R := by
  obtain ⟨tn, rs, es, T, Z, h1, z⟩ := s
  exact ⟨tn, rs, es, T, Z, h1, z.keep o hn⟩
theorem SH.ext (s : SH h n S slots R) (e : Ext h h') : SH h' n S slots R := s.keep e fun _ _ _ f => f
theorem SH.ok (s : SH h n S slots R) : SOk S := by
  obtain ⟨tn, rs, es, T, Z, rfl, z⟩ := s
  exact toS_ok z
theorem SH.oth (s : SH h n S slots R) {t : Sl} {e : TypeId} {k : Nat} {cs : List Value} (o : Only (fun b => t.blk = some b) h h') (w : Owns h t e k cs) (he : ¬ ShE e) : SH h' n S slots R :=
  s.keep o fun b _ ⟨e', h1, c', h2⟩ hb => he (by
    obtain ⟨c, h3⟩ := w.typ hb
    have := h3.symm.trans h2
    simp at this
    rw [this.2]; exact h1)
abbrev SOnly (R : Nat -> Prop) (h h' : H) : Prop := Only (fun b => R b ∧ ShTy h b) h h'
theorem ShTy.back {S : Nat -> Prop} (o : Only S h h') {b : Nat} (hb : b < h.size) (hs : ¬ S b) (t : ShTy h' b) : ShTy h b := by
  obtain ⟨e, h1, c, h2⟩ := t
  exact ⟨e, h1, c, (o.same b hb hs).symm.trans h2⟩
theorem SOnly.trans {h'' : H} (a : SOnly R h h') (b : SOnly R h' h'') : SOnly R h h'' := Only.trans a b fun m hm ⟨h1, h2⟩ => by
  by_cases hs : ShTy h m
  · exact ⟨h1, hs⟩
  · exact ⟨h1, ShTy.back a hm (fun h => hs h.2) h2⟩
theorem SOnly.of (e : Ext h h') : SOnly R h h' := Ext.only e
theorem SOnly.base {h0 : H} (e : Ext h0 h) (a : SOnly R h h') (hR : ∀ b, R b -> h0.size <= b) : Ext h0 h' := e.step a fun m hm hb => by have := hR m hb.1; omega
end
theorem Units_spec {h : H} {n : Nat} {S : SL} {slots : Nat} {R : Nat -> Prop} {Q : Int -> H -> Prop} (s : SH h n S slots R) (k : Q (unitsS S : Int) h) : F.xcf (some ⟨n, 0, none⟩) h Q := by
  obtain ⟨tn, rs, es, T, Z, rfl, z⟩ := s
  unfold F.xcf
  simp only [nn_some, add_lit, Nat.add_zero]
  rw [ldI_iff z.cs0]; exact k
theorem New_spec {h : H} {m : Int} {R : Nat -> Prop} {Q : Option Addr -> Int -> H -> Prop} (k0 : (m < 2 ∨ m > 1048576) -> Q none 1 h)
    (hR : ∀ b, h.size <= b -> R b) (k1 : 2 <= m -> m <= 1048576 -> ∀ h' n, SH h' n [] m.toNat R -> Ext h h' -> h.size <= n -> Q (some ⟨n, 0, none⟩) 0 h') : F.xat m h Q := by
  have j1 : 2 <= m -> m <= 1048576 -> F.xat.j1 Q m h := fun h1 h2 => by
    unfold F.xat.j1
    refine P.New_spec fun h3 tn rs th e3 hft => ?_
    refine new_of fun n h4 hn b4 e4 s4 => ?_
    have g := new_ok (P.nilA)
    have e3s := e3.size
    refine k1 h1 h2 h4 n ⟨tn, rs, ⟨none, 0, 0⟩, newT P.nilA, [], rfl, ?_⟩ (e3.trans e4) (by omega)
    refine { sb := ?_, th := th.ext e4, ok := g.1, ch := (fun r hr => by cases hr), get := (fun r hr => by cases hr), all := fun k v hk => ?_, srt := List.Pairwise.nil, pd := List.Pairwise.nil, bd := List.Pairwise.nil, wf := (fun r hr => by cases hr), us := Nat.zero_le _, sl := by omega, rl := (by show (newT P.nilA).row.length <= _; simp [newT]), rn := hR _ (by omega), rt := hR _ (hft _ (.inl rfl)), rr := fun b hb => hR _ (hft _ (.inr (.inl hb))), re := fun b hb => hR _ (hft _ (.inr (.inr hb))), rp := (fun r hr => by cases hr) }
    · have hm : ((m.toNat : Nat) : Int) = m := by omega
      rw [hm]; exact b4
    · rw [g.2.2] at hk; cases hk
  unfold F.xat F.xat.j2
  refine ⟨fun g => ⟨fun _ => k0 (.inl (of_decide_eq_true g)), fun h => by cases h⟩, fun g => ⟨fun g2 => k0 (.inr (of_decide_eq_true g2)), fun g2 => ?_⟩⟩
  exact j1 (by have := of_decide_eq_false g; omega) (by have := of_decide_eq_false g2; omega)
theorem chain_spec {h : H} {n tn : Nat} {rs es : Sl} {T : Tb (Option Addr)} {Z : List Rec} {slots : Nat} {R : Nat -> Prop} {u t : Int} {c : Cel} {Q : Option Addr -> H -> Prop} (z : SZ h n tn rs es T Z slots R u t)
    (k0 : (okC c ≠ 0 ∨ getK Rec.c Z c = none) -> ∀ h', Ext h h' -> Q none h') (k1 : okC c = 0 -> ∀ r, getK Rec.c Z c = some r -> ∀ h', Ext h h' -> Q (some ⟨r.p, 0, none⟩) h') : F.xce (some ⟨n, 0, none⟩) c h Q := by
  unfold F.xce
  refine new_of fun m h1 hm b1 e1 s1 => ⟨c, Blk.cells b1, ?_⟩
  refine key_spec (fun g h2 e2 => ⟨fun _ => k0 (.inl g) h2 (e1.trans e2), fun g2 => absurd (by simpa using g2) g⟩) fun g h2 e2 => ⟨fun g2 => by simp at g2, fun _ => ?_⟩
  have z2 := z.ext (e1.trans e2)
  simp only [nn_some, add_lit, Nat.zero_add]
  rw [ldP_iff z2.cs3]
  refine P.Get_spec z2.th z2.ok (key_small g) fun h3 e3 => ?_
  rw [z2.look g]
  have e13 := (e1.trans e2).trans e3
  cases hg : getK Rec.c Z c with
  | none => exact k0 (.inr hg) h3 e13
  | some r => exact k1 g r hg h3 e13
theorem at_spec {h : H} {p : Nat} {vs : List Ver} {B : Option Nat} {e : Int} {Q : S_api_Agg -> Bool -> H -> Prop} (c : C.Ch h p vs B) (hr : C.Rise vs) (hl : vs.length < 1073741824) (k : ∀ h', Ext h h' -> Q (atV vs e).1 (atV vs e).2 h') : F.xci (some ⟨p, 0, none⟩) e h Q := by
  unfold F.xci
  unfold atV at k
  refine new_of fun m h1 hm b1 e1 s1 => ⟨fun g => by simp at g, fun _ => ⟨fun g => ?_, fun g => ?_⟩⟩
  · have g : e = 0 := by simpa using g
    rw [if_pos g] at k
    have b1' : Blk h1 m zA.cells.toArray tn_api_Agg := b1
    refine C.Newest_spec (c.ext e1) (by omega) fun h2 e2 => ?_
    refine new_of fun m3 h3 hm3 b3 e3 s3 => ?_
    have b3' : Blk h3 m3 zA.cells.toArray tn_api_Agg := b3
    refine C.st_agg b3' fun h4 b4 o4 s4 => ⟨_, b4.cells, ?_⟩
    have e2s := e2.size
    have e14 : Ext h1 h4 := (e2.trans e3).step o4 fun x hx hb => by omega
    have b14 := e14.block b1' fun f => f
    refine C.st_agg b14 fun h5 b5 o5 s5 => ⟨_, b5.cells, ?_⟩
    exact k h5 ((e1.trans e14).step o5 fun x hx hb => by omega)
  · have g : e ≠ 0 := by simpa using g
    rw [if_neg g] at k
    have b1' : Blk h1 m zA.cells.toArray tn_api_Agg := b1
    refine C.At_spec (c.ext e1) hr hl fun h2 e2 => ?_
    refine C.st_agg (e2.block b1' fun f => f) fun h5 b5 o5 s5 => ⟨_, b5.cells, ?_⟩
    exact k h5 ((e1.trans e2).step o5 fun x hx hb => by omega)
theorem need_spec {h : H} {n tn : Nat} {rs es : Sl} {T : Tb (Option Addr)} {Z : List Rec} {slots : Nat} {R : Nat -> Prop} {u t : Int} {c : Cel} {e : Int} {Q : Int -> H -> Prop} (z : SZ h n tn rs es T Z slots R u t) (k : ∀ h', Ext h h' -> Q (needS (toS Z) e c) h') : F.xaw (some ⟨n, 0, none⟩) e c h Q := by
  unfold F.xaw
  unfold needS at k
  refine new_of fun m h1 hm b1 e1 s1 => ⟨c, Blk.cells b1, ?_⟩
  refine key_spec (fun g h2 e2 => ⟨fun _ => ?_, fun g2 => absurd (by simpa using g2) g⟩) fun g h2 e2 => ⟨fun g2 => by simp at g2, fun _ => ⟨c, (Blk.cells b1).ext e2, ?_⟩⟩
  · rw [if_pos g] at k; exact k h2 (e1.trans e2)
  rw [if_neg (fun h => h g)] at k
  have z2 := z.ext (e1.trans e2)
  refine chain_spec z2 (fun g2 h3 e3 => ⟨fun _ => ?_, fun g3 => by simp at g3⟩) fun _ r hr h3 e3 => ⟨fun g3 => by simp at g3, fun _ => ?_⟩
  · have : getK Rec.c Z c = none := by
      rcases g2 with g2 | g2
      · exact absurd g g2
      · exact g2
    rw [z.getS, this] at k
    exact k h3 ((e1.trans e2).trans e3)
  · obtain ⟨h5, h6⟩ := getK_some hr
    rw [z.getS, hr] at k
    refine C.Newest_spec ((z2.ch r h5).ext e3) (by have := z.vlen h5; omega) fun h4 e4 => ?_
    refine new_of fun m5 h5' hm5 b5 e5 s5 => ?_
    have b5' : Blk h5' m5 zA.cells.toArray tn_api_Agg := b5
    refine C.st_agg b5' fun h6' b6 o6 s6 => ?_
    have ee : Ext h h6' := ((((e1.trans e2).trans e3).trans e4).trans e5).step o6 fun x hx hb => by
      have := (((e1.trans e2).trans e3).trans e4).size
      omega
    have k := k h6' ee
    simp only [Option.map_some, needV] at k
    refine ⟨fun g3 => ?_, fun g3 => ?_⟩
    · rw [if_pos (of_decide_eq_true g3)] at k; exact k
    · rw [if_neg (of_decide_eq_false g3)] at k
      rw [show alive r.vs = (C.newestM r.vs).2.2 from rfl] at k
      generalize (C.newestM r.vs).2.2 = A at k ⊢
      generalize (C.newestM r.vs).2.1 = E at k ⊢
      unfold F.xaw.j1 F.xaw.j2
      by_cases hE : E = e
      · subst hE; cases A <;> simp at k ⊢ <;> exact k
      · cases A <;> simp [hE] at k ⊢ <;> exact k
theorem cells_l {h : H} {n o : Nat} {xs ys : List Value} (c : Cells h ⟨n, o, none⟩ (xs ++ ys)) : Cells h ⟨n, o, none⟩ xs := fun i v hv => c i v (by rw [List.getElem?_append_left (List.getElem?_eq_some_iff.1 hv).1]; exact hv)
theorem cells_r {h : H} {n o : Nat} {xs ys : List Value} (c : Cells h ⟨n, o, none⟩ (xs ++ ys)) : Cells h ⟨n, o + xs.length, none⟩ ys := fun i v hv => by
  have := c (xs.length + i) v (by rw [List.getElem?_append_right (by omega), Nat.add_sub_cancel_left]; exact hv)
  rw [add_lit] at this ⊢
  rwa [Nat.add_assoc]
theorem pw_two {α : Type} {P : α -> α -> Prop} (sym : ∀ x y, P x y -> P y x) : ∀ {Z : List α}, Z.Pairwise P -> ∀ {x y : α}, x ∈ Z -> y ∈ Z -> x ≠ y -> P x y
  | [], _, _, _, hx, _, _ => by cases hx
  | z :: r, h, x, y, hx, hy, hne => by
    have h' := List.pairwise_cons.1 h
    rcases List.mem_cons.1 hx with e | e <;> rcases List.mem_cons.1 hy with e2 | e2
    · exact absurd (e.trans e2.symm) hne
    · rw [e]; exact h'.1 y e2
    · rw [e2]; exact sym _ _ (h'.1 x e)
    · exact pw_two sym h'.2 e e2 hne
theorem nodup_lenG {α : Type} [DecidableEq α] : ∀ {E L : List α}, E.Nodup -> (∀ e ∈ E, e ∈ L) -> E.length <= L.length
  | [], L, _, _ => Nat.zero_le _
  | e :: E, L, h, hs => by
    rw [List.nodup_cons] at h
    have he := hs e (by simp)
    have := nodup_lenG (E := E) (L := L.erase e) h.2 fun x hx => (List.mem_erase_of_ne (show x ≠ e from fun hxe => h.1 (by rw [← hxe]; exact hx))).2 (hs x (by simp [hx]))
    rw [List.length_erase_of_mem he] at this
    have hpos : 0 < L.length := List.length_pos_of_mem he
    simp only [List.length_cons]; omega
theorem ft_ty {h : H} {tn : Nat} {rs es : Sl} {T : Tb (Option Addr)} (th : P.TH h tn rs es T) {b : Nat} (hb : FT tn rs es b) : ∃ e, WB h b e ∧ (e = tn_table_Table_chain_Chain_api_Agg ∨ e = tn_table_place_chain_Chain_api_Agg) := by
  rcases hb with hb | hb | hb
  · subst hb; exact ⟨_, ⟨_, th.tb⟩, .inl rfl⟩
  · exact ⟨_, th.row.typ hb, .inr rfl⟩
  · exact ⟨_, th.el.typ hb, .inr rfl⟩
section
variable {W : List Ver -> Prop} {h h' : H} {n tn : Nat} {rs es : Sl} {T : Tb (Option Addr)} {Z : List Rec} {slots : Nat} {R : Nat -> Prop} {u t : Int}
theorem SZG.n_ft (z : SZG W h n tn rs es T Z slots R u t) {b : Nat} (hb : FT tn rs es b) : b ≠ n := by
  obtain ⟨e, h1, h2⟩ := ft_ty z.th hb
  exact h1.ne ⟨_, z.sb⟩ (by rcases h2 with rfl | rfl <;> decide)
theorem SZG.ch_ft (z : SZG W h n tn rs es T Z slots R u t) {r : Rec} (hr : r ∈ Z) {b : Nat} (hb : FT tn rs es b) : b ≠ r.p ∧ r.B ≠ some b := by
  obtain ⟨e, h1, h2⟩ := ft_ty z.th hb
  have h3 := ch_typ (z.ch r hr)
  exact ⟨h1.ne h3.1 (by rcases h2 with rfl | rfl <;> decide), fun hB => h1.ne (h3.2 b hB) (by rcases h2 with rfl | rfl <;> decide) rfl⟩
theorem SZG.n_ch (z : SZG W h n tn rs es T Z slots R u t) {r : Rec} (hr : r ∈ Z) : r.p ≠ n ∧ r.B ≠ some n := by
  have h3 := ch_typ (z.ch r hr)
  exact ⟨h3.1.ne ⟨_, z.sb⟩ (by decide), fun hB => (h3.2 n hB).ne ⟨_, z.sb⟩ (by decide) rfl⟩
theorem SZG.p_B (z : SZG W h n tn rs es T Z slots R u t) {r r' : Rec} (hr : r ∈ Z) (hr' : r' ∈ Z) : r'.B ≠ some r.p := fun hB =>
  ((ch_typ (z.ch r' hr')).2 _ hB).ne (ch_typ (z.ch r hr)).1 (by decide) rfl
theorem SZG.f_lt (z : SZG W h n tn rs es T Z slots R u t) : n < h.size ∧ (∀ b, FT tn rs es b -> b < h.size) ∧ ∀ r ∈ Z, r.p < h.size ∧ ∀ b, r.B = some b -> b < h.size :=
  ⟨block_lt z.sb, z.th.lt, fun r hr => ⟨(z.ch r hr).lt, (z.ch r hr).ltB⟩⟩
theorem SZG.stN (z : SZG W h n tn rs es T Z slots R u t) {u' t' : Int} (o : Only (· = n) h h') (b : Blk h' n #[.int .i64 u', .int .i64 t', .int .i64 (slots : Int), .pointer (some ⟨tn, 0, none⟩)] tn_shard_Shard) : SZG W h' n tn rs es T Z slots R u' t' ∧ SOnly R h h' := by
  refine ⟨{ z with sb := b, th := z.th.only o fun b hb => z.n_ft hb, ch := fun r hr => (z.ch r hr).only o (z.n_ch hr).1 fun b hb e => (z.n_ch hr).2 (by rw [hb, e]) }, o.mono fun b _ e => ?_⟩
  subst e
  exact ⟨z.rn, _, .inl rfl, _, z.sb⟩
theorem SZG.st0 (z : SZG W h n tn rs es T Z slots R u t) {x : Int} {K : H -> Prop} (k : ∀ h', SZG W h' n tn rs es T Z slots R x t -> SOnly R h h' -> K h') : stH h ⟨n, 0, none⟩ [.int .i64 x] K :=
  stH_of z.sb (by simp) fun h' q1 q2 q3 => by
    have := z.stN (u' := x) (t' := t) q2 q1
    exact k h' this.1 this.2
theorem SZG.st1 (z : SZG W h n tn rs es T Z slots R u t) {x : Int} {K : H -> Prop} (k : ∀ h', SZG W h' n tn rs es T Z slots R u x -> SOnly R h h' -> K h') : stH h ⟨n, 1, none⟩ [.int .i64 x] K :=
  stH_of z.sb (by simp) fun h' q1 q2 q3 => by
    have := z.stN (u' := u) (t' := x) q2 q1
    exact k h' this.1 this.2
theorem mem_setZ (z : SZG W h n tn rs es T Z slots R u t) {x y : Rec} : y ∈ setK Rec.c Z x ↔ y = x ∨ (y ∈ Z ∧ y.c ≠ x.c) := mem_set z.srt
theorem SZG.lay (z : SZG W h n tn rs es T Z slots R u t) {r : Rec} (hr : r ∈ Z) {vs : List Ver} {B' : Option Nat} (c : C.Ch h' r.p vs B') (o : Only (C.FP r.p r.B) h h') (kin : C.Kin h.size r.B B') (ok : W vs)
    (hus : unitsS (toS (setK Rec.c Z ⟨r.c, vs, r.p, B'⟩)) <= slots) (hR : ∀ b, h.size <= b -> R b) : SZG W h' n tn rs es T (setK Rec.c Z ⟨r.c, vs, r.p, B'⟩) slots R u t ∧ SOnly R h h' := by
  obtain ⟨l1, l2, l3⟩ := z.f_lt
  have hty := ch_typ (z.ch r hr)
  have hne : ∀ {y : Rec}, y ∈ Z -> y.c ≠ r.c -> y.p ≠ r.p ∧ (∀ x, r.B = some x -> y.B ≠ some x) := fun {y} hy hc => by
    have hyr : y ≠ r := fun e => hc (by rw [e])
    exact ⟨pw_two (fun _ _ h => h.symm) z.pd hy hr hyr, fun x hx hyx => pw_two (P := fun a b : Rec => ∀ x, a.B = some x -> b.B ≠ some x) (fun a b h x h1 h2 => h x h2 h1) z.bd hy hr hyr x hyx hx⟩
  have keepCh : ∀ y ∈ Z, y.c ≠ r.c -> C.Ch h' y.p y.vs y.B := fun y hy hc => by
    obtain ⟨h1, h2⟩ := hne hy hc
    refine (z.ch y hy).only o (fun e => ?_) fun b hb e => ?_
    · rcases e with e | e
      · exact h1 e
      · exact z.p_B hy hr e
    · rcases e with e | e
      · subst e; exact z.p_B hr hy hb
      · exact h2 b e hb
  have hB : ∀ x, B' = some x -> r.B = some x ∨ h.size <= x := fun x hx => by
    rcases kin with k | k | ⟨b, k, k2⟩
    · exact .inl (by rw [← k]; exact hx)
    · rw [k] at hx; cases hx
    · rw [k] at hx; cases hx; exact .inr k2
  refine ⟨{ z with sb := ?_, th := ?_, ch := fun y hy => ?_, get := fun y hy => ?_, all := fun k v hk => ?_, srt := sort_set z.srt, pd := pw_set z.srt z.pd fun y hy hc => ?_, bd := pw_set z.srt z.bd fun y hy hc => ?_, wf := fun y hy => ?_, us := hus, rp := fun y hy => ?_ }, ?_⟩
  · refine o.block z.sb fun e => ?_
    rcases e with e | e
    · exact (z.n_ch hr).1 e.symm
    · exact (z.n_ch hr).2 e
  · refine z.th.only o fun b hb e => ?_
    have := z.ch_ft hr hb
    rcases e with e | e
    · exact this.1 e
    · exact this.2 e
  · rcases (mem_setZ z).1 hy with e | ⟨e, e2⟩
    · subst e; exact c
    · exact keepCh y e e2
  · rcases (mem_setZ z).1 hy with e | ⟨e, e2⟩
    · subst e; exact z.get r hr
    · exact z.get y e
  · obtain ⟨y, hy, e⟩ := z.all k v hk
    by_cases hc : y.c = r.c
    · exact ⟨_, (mem_setZ z).2 (.inl rfl), by rw [e, hc]⟩
    · exact ⟨y, (mem_setZ z).2 (.inr ⟨hy, hc⟩), e⟩
  · exact ⟨fun e => (hne hy hc).1 e.symm, fun e => (hne hy hc).1 e⟩
  · refine ⟨fun x hx hy2 => ?_, fun x hx hy2 => ?_⟩
    · rcases hB x hx with e | e
      · exact (hne hy hc).2 x e hy2
      · have := (l3 y hy).2 x hy2; omega
    · rcases hB x hy2 with e | e
      · exact (hne hy hc).2 x e hx
      · have := (l3 y hy).2 x hx; omega
  · rcases (mem_setZ z).1 hy with e | ⟨e, e2⟩
    · subst e; exact ⟨(z.wf r hr).1, ok⟩
    · exact z.wf y e
  · rcases (mem_setZ z).1 hy with e | ⟨e, e2⟩
    · subst e
      refine ⟨(z.rp r hr).1, fun x hx => ?_⟩
      rcases hB x hx with e | e
      · exact (z.rp r hr).2 x e
      · exact hR x e
    · exact z.rp y e
  · refine o.mono fun b _ e => ?_
    rcases e with e | e
    · subst e; exact ⟨(z.rp r hr).1, _, .inr (.inr (.inr (.inl rfl))), hty.1⟩
    · exact ⟨(z.rp r hr).2 b e, _, .inr (.inr (.inr (.inr rfl))), hty.2 b e⟩
theorem SZG.count (z : SZG W h n tn rs es T Z slots R u t) : T.count <= Z.length := by
  have ku := P.KU_of z.ok
  have hl := P.tk_len z.ok
  have hn : ((P.tkL (T.row ++ T.elder)).map fun p => kL p.1).Nodup := by
    have : ((P.tkL (T.row ++ T.elder)).map fun p => kL p.1) = ((P.tkL (T.row ++ T.elder)).map (·.1)).map kL := by rw [List.map_map]; rfl
    rw [this]
    exact List.Pairwise.map _ (fun a b h e => h (kL_inj e)) ku
  have := nodup_lenG hn (L := Z.map fun r => keyL r.c) fun e he => by
    obtain ⟨⟨k, v⟩, hp, rfl⟩ := List.mem_map.1 he
    obtain ⟨w, hw, _⟩ := P.tk_val z.ok hp
    obtain ⟨r, hr, e⟩ := z.all k w hw
    exact List.mem_map.2 ⟨r, hr, e.symm⟩
  rw [List.length_map, List.length_map, hl] at this
  exact this
theorem SZG.add {h1 h2 : H} {T' : Tb (Option Addr)} {rs' es' : Sl} {c : Cel} {p : Nat} {vs : List Ver} {B' : Option Nat} (z : SZG W h n tn rs es T Z slots R u t) (hc : okC c = 0) (hg : getK Rec.c Z c = none) (e1 : Ext h h1) (hp : h.size <= p) (hp1 : p < h1.size)
    (th : P.TH h2 tn rs' es' T') (ok : TOk T') (stp : Stp h1 tn rs es h2 rs' es') (hget : ∀ k, getM T' k = if kL k = kL (keyB c) then some (some ⟨p, 0, none⟩) else getM T k) (hrl : T'.row.length <= 4200000)
    (ch : C.Ch h' p vs B') (o : Only (C.FP p none) h2 h') (kin : C.Kin h2.size none B') (vok : W vs) (hus : unitsS (toS (setK Rec.c Z ⟨c, vs, p, B'⟩)) <= slots) (hR : ∀ b, h.size <= b -> R b) :
    SZG W h' n tn rs' es' T' (setK Rec.c Z ⟨c, vs, p, B'⟩) slots R u t ∧ SOnly R h h' := by
  obtain ⟨l1, l2, l3⟩ := z.f_lt
  have z1 := z.ext e1
  have s1 := e1.size
  have s2 := stp.only.size
  have hcne : ∀ y ∈ Z, y.c ≠ c := getK_none hg
  have oB : ∀ b, b < h.size -> ¬ C.FP p none b := fun b hb e => by
    rcases e with e | e
    · omega
    · cases e
  have hB : ∀ x, B' = some x -> h.size <= x := fun x hx => by
    rcases kin with k | k | ⟨b, k, k2⟩
    · rw [k] at hx; cases hx
    · rw [k] at hx; cases hx
    · rw [k] at hx; cases hx; omega
  have keepCh : ∀ y ∈ Z, C.Ch h' y.p y.vs y.B := fun y hy => by
    have q := ((z1.ch y hy).only stp.only (fun e => (z1.ch_ft hy e).1 rfl) fun b hb e => (z1.ch_ft hy e).2 hb)
    exact q.only o (oB _ (l3 y hy).1) fun b hb => oB _ ((l3 y hy).2 b hb)
  have ft' : ∀ b, FT tn rs' es' b -> b ≠ p ∧ R b := fun b hb => by
    rcases stp.new b hb with e | e
    · have := l2 b e
      refine ⟨by omega, ?_⟩
      rcases e with e | e | e
      · subst e; exact z.rt
      · exact z.rr b e
      · exact z.re b e
    · exact ⟨by omega, hR b (by omega)⟩
  refine ⟨{ sb := ?_, th := th.only o fun b hb e => ?_, ok := ok, ch := fun y hy => ?_, get := fun y hy => ?_, all := fun k v hk => ?_, srt := sort_set z.srt, pd := pw_set z.srt z.pd fun y hy hc => ?_, bd := pw_set z.srt z.bd fun y hy hc => ?_, wf := fun y hy => ?_, us := hus, sl := z.sl, rl := hrl, rn := z.rn, rt := z.rt, rr := fun b hb => (ft' b (.inr (.inl hb))).2, re := fun b hb => (ft' b (.inr (.inr hb))).2, rp := fun y hy => ?_ }, ?_⟩
  · exact o.block (stp.only.block z1.sb fun e => z1.n_ft e rfl) (oB n l1)
  · rcases e with e | e
    · exact (ft' b hb).1 e
    · cases e
  · rcases (mem_setZ z).1 hy with e | ⟨e, e2⟩
    · subst e; exact ch
    · exact keepCh y e
  · rw [hget]
    rcases (mem_setZ z).1 hy with e | ⟨e, e2⟩
    · subst e; rw [if_pos rfl]
    · rw [if_neg]
      · exact z.get y e
      · intro he
        rw [kL_keyB, kL_keyB] at he
        exact e2 (key_inj (z.wf y e).1 hc he)
  · rw [hget] at hk
    split at hk
    · rename_i he
      exact ⟨_, (mem_setZ z).2 (.inl rfl), by rw [he, kL_keyB]⟩
    · obtain ⟨y, hy, e⟩ := z.all k v hk
      exact ⟨y, (mem_setZ z).2 (.inr ⟨hy, hcne y hy⟩), e⟩
  · have := (l3 y hy).1
    exact ⟨by simp only; omega, by simp only; omega⟩
  · refine ⟨fun x hx hy2 => ?_, fun x hx hy2 => ?_⟩
    · have := hB x hx; have := (l3 y hy).2 x hy2; omega
    · have := hB x hy2; have := (l3 y hy).2 x hx; omega
  · rcases (mem_setZ z).1 hy with e | ⟨e, e2⟩
    · subst e; exact ⟨hc, vok⟩
    · exact z.wf y e
  · rcases (mem_setZ z).1 hy with e | ⟨e, e2⟩
    · subst e; exact ⟨hR _ hp, fun x hx => hR x (hB x hx)⟩
    · exact z.rp y e
  · have a1 : SOnly R h h1 := SOnly.of e1
    have a2 : SOnly R h1 h2 := stp.only.mono fun b _ e => by
      obtain ⟨ty, q1, q2⟩ := ft_ty z1.th e
      refine ⟨?_, ty, ?_, q1⟩
      · rcases e with e | e | e
        · subst e; exact z.rt
        · exact z.rr b e
        · exact z.re b e
      · rcases q2 with rfl | rfl
        · exact .inr (.inl rfl)
        · exact .inr (.inr (.inl rfl))
    exact Only.trans (SOnly.trans a1 a2) o fun m hm e => absurd e (oB m hm)
end
theorem lastE_newest {vs : List Ver} : C.lastE vs = (C.newestM vs).2.1 := by
  unfold C.lastE C.newestM
  cases vs.getLast? <;> rfl
theorem lay_last (vs : List Ver) (x : Ver) : (C.layM vs x).getLast? = some x := by
  unfold C.layM
  split <;> simp
theorem lay_newest (vs : List Ver) (x : Ver) : C.newestM (C.layM vs x) = (x.value, x.epoch, !x.dead) := by
  unfold C.newestM; rw [lay_last]
theorem lay_len (vs : List Ver) (x : Ver) : ((C.layM vs x).length : Int) = vs.length + C.layN vs x := by
  unfold C.layM C.layN
  split
  · rename_i h
    have := List.length_pos_iff.2 h.1
    simp; omega
  · simp
theorem layN_range (vs : List Ver) (x : Ver) : C.layN vs x = 0 ∨ C.layN vs x = 1 := by
  unfold C.layN; split <;> simp
theorem lay_units (vs : List Ver) (x : Ver) : ((unitsV (C.layM vs x) : Nat) : Int) = vs.length + C.layN vs x + (if x.dead then 0 else 1) := by
  unfold unitsV alive
  rw [lay_newest]
  have := lay_len vs x
  cases x.dead <;> simp <;> omega
theorem lay_alive (vs : List Ver) (x : Ver) : aliveN (C.layM vs x) = if x.dead then 0 else 1 := by
  unfold aliveN alive
  rw [lay_newest]
  cases x.dead <;> simp
theorem units_eq (vs : List Ver) : unitsV vs = vs.length + aliveN vs := rfl
theorem last_le {vs : List Ver} (hr : C.Rise vs) : ∀ v ∈ vs, v.epoch <= C.lastE vs := fun v hv => by
  unfold C.lastE
  have hn : vs ≠ [] := fun e => by rw [e] at hv; cases hv
  rw [List.getLast?_eq_some_getLast hn]
  obtain ⟨i, hi⟩ := List.mem_iff_getElem?.1 hv
  have hl := C.last_get hn
  have h1 := (List.getElem?_eq_some_iff.1 hi).1
  by_cases e : i = vs.length - 1
  · rw [e, hl] at hi; cases hi; exact Int.le_refl _
  · have := hr.lt (show i < vs.length - 1 by omega) hi hl
    simp only; omega
theorem lastE_get {vs : List Ver} (hn : vs ≠ []) : C.lastE vs = (vs.getLast hn).epoch := by
  unfold C.lastE; rw [List.getLast?_eq_some_getLast hn]
theorem lay_ok {vs : List Ver} {x : Ver} (h : vs = [] ∨ VOk vs) (he : C.lastE vs <= x.epoch ∨ vs = []) (hd : x.dead = true -> x.value = zA) (h1 : 1 <= x.epoch) (h2 : x.epoch <= 1099511627776) : VOk (C.layM vs x) := by
  have hr : C.Rise vs := by
    rcases h with h | h
    · subst h; exact List.Pairwise.nil
    · exact h.rise
  have hdd : ∀ v ∈ vs, (v.dead = true -> v.value = zA) ∧ 1 <= v.epoch ∧ v.epoch <= 1099511627776 := fun v hv => by
    rcases h with h | h
    · subst h; cases hv
    · exact ⟨h.dead v hv, h.ep v hv⟩
  have hlast := last_le hr
  have hmem : ∀ v ∈ C.layM vs x, v = x ∨ v ∈ vs := fun v hv => by
    unfold C.layM at hv
    split at hv
    · rcases List.mem_append.1 hv with e | e
      · exact .inr ((List.dropLast_sublist vs).subset e)
      · exact .inl (List.mem_singleton.1 e)
    · rcases List.mem_append.1 hv with e | e
      · exact .inr e
      · exact .inl (List.mem_singleton.1 e)
  refine ⟨fun e => ?_, ?_, fun v hv => ?_, fun v hv => ?_⟩
  · have := lay_last vs x
    rw [e] at this; cases this
  · unfold C.layM
    split
    · rename_i g
      refine List.pairwise_append.2 ⟨List.Pairwise.sublist (List.dropLast_sublist vs) hr, List.pairwise_singleton _ _, fun a ha b hb => ?_⟩
      obtain rfl := List.mem_singleton.1 hb
      have hd2 : vs = vs.dropLast ++ [vs.getLast g.1] := (List.dropLast_concat_getLast g.1).symm
      have hr2 := hr
      unfold C.Rise at hr2
      rw [hd2] at hr2
      have := (List.pairwise_append.1 hr2).2.2 a ha (vs.getLast g.1) (by simp)
      have hl := lastE_get g.1
      have := g.2
      omega
    · rename_i g
      refine List.pairwise_append.2 ⟨hr, List.pairwise_singleton _ _, fun a ha b hb => ?_⟩
      obtain rfl := List.mem_singleton.1 hb
      have hn : vs ≠ [] := fun e => by rw [e] at ha; cases ha
      have h3 := hlast a ha
      have h4 : C.lastE vs ≠ b.epoch := fun e => g ⟨hn, e⟩
      rcases he with he | he
      · omega
      · exact absurd he hn
  · rcases hmem v hv with e | e
    · subst e; exact hd
    · exact (hdd v e).1
  · rcases hmem v hv with e | e
    · subst e; exact ⟨h1, h2⟩
    · exact (hdd v e).2
theorem set_units {S : SL} (hs : SortS S) (c : Cel) (vs : List Ver) : unitsS (setS S c vs) + unitsV ((getS S c).getD []) = unitsS S + unitsV vs := by
  have := sum_set (key := fun x : Cel × List Ver => x.1) (x := (c, vs)) (fun x => unitsV x.2) hs
  have e : ((getK (fun x : Cel × List Ver => x.1) S c).map fun x => unitsV x.2).getD 0 = unitsV ((getS S c).getD []) := by
    unfold getS
    cases getK (fun x : Cel × List Ver => x.1) S c <;> rfl
  rw [← e]; exact this
theorem set_there {S : SL} (hs : SortS S) (c : Cel) (vs : List Ver) : thereS (setS S c vs) + aliveN ((getS S c).getD []) = thereS S + aliveN vs := by
  have := sum_set (key := fun x : Cel × List Ver => x.1) (x := (c, vs)) (fun x => aliveN x.2) hs
  have e : ((getK (fun x : Cel × List Ver => x.1) S c).map fun x => aliveN x.2).getD 0 = aliveN ((getS S c).getD []) := by
    unfold getS
    cases getK (fun x : Cel × List Ver => x.1) S c <;> rfl
  rw [← e]; exact this
theorem toS_set (Z : List Rec) (r : Rec) : toS (setK Rec.c Z r) = setS (toS Z) r.c r.vs :=
  map_set (key := Rec.c) (key' := fun x : Cel × List Ver => x.1) (fun r : Rec => (r.c, r.vs)) (fun _ => rfl) Z
theorem need_lay (o : Option (List Ver)) (e : Int) (x : Ver) (hx : x.epoch = e) (hd : x.dead = false) (hn : ¬ (C.newestM (o.getD [])).2.1 > e) (ho : ∀ vs, o = some vs -> vs ≠ []) : needV o e = C.layN (o.getD []) x + 1 - aliveN (o.getD []) := by
  cases o with
  | none => rfl
  | some vs =>
    have hne := ho vs rfl
    simp only [Option.getD_some] at hn ⊢
    unfold needV
    simp only
    rw [if_neg hn]
    by_cases h1 : (C.newestM vs).2.1 = e
    · have hl : C.layN vs x = 0 := by unfold C.layN; rw [if_pos ⟨hne, by rw [lastE_newest, hx]; exact h1⟩]
      rw [hl]
      unfold aliveN
      by_cases h2 : alive vs = true
      · rw [if_pos ⟨h1, h2⟩, if_pos h2]; rfl
      · rw [if_neg (fun h => h2 h.2), if_pos (.inl h1), if_neg h2]; rfl
    · have hl : C.layN vs x = 1 := by unfold C.layN; rw [if_neg (fun h => h1 (by rw [← lastE_newest, ← hx]; exact h.2))]
      rw [hl, if_neg (fun h => h1 h.1)]
      unfold aliveN
      by_cases h2 : alive vs = true
      · rw [if_pos (.inr h2), if_pos h2]; rfl
      · rw [if_neg (fun h => h.elim h1 h2), if_neg h2]; rfl
def RightIs (a : S_api_Agg) (b : Bool) : Prop := ∀ (h : H) (Q : Bool -> H -> Prop), (∀ h', Ext h h' -> Q b h') -> F.xbj a h Q
def putE (S : SL) (slots : Nat) (e : Int) (c : Cel) (a : S_api_Agg) (rt : Bool) : Int :=
  if okC c ≠ 0 then okC c else if e < 1 ∨ e > 1099511627776 ∨ a.Count = 0 ∨ rt = false then 1 else if (C.newestM ((getS S c).getD [])).2.1 > e then 32 else if (unitsS S : Int) + needS S e c > slots then 31 else 0
def putS (S : SL) (e : Int) (c : Cel) (a : S_api_Agg) : SL := setS S c (C.layM ((getS S c).getD []) ⟨e, a, false⟩)
theorem getS_ne {S : SL} (h : SOk S) {c : Cel} : ∀ vs, getS S c = some vs -> VOk vs := fun vs hg => by
  unfold getS at hg
  cases hx : getK (fun x : Cel × List Ver => x.1) S c with
  | none => rw [hx] at hg; cases hg
  | some x =>
    rw [hx] at hg; cases hg
    exact (h.ok x (getK_some hx).1).2
theorem put_units {S : SL} (h : SOk S) {e : Int} {c : Cel} {a : S_api_Agg} (hc : okC c = 0) (hn : ¬ (C.newestM ((getS S c).getD [])).2.1 > e) :
    (unitsS (putS S e c a) : Int) = unitsS S + needS S e c ∧ (thereS (putS S e c a) : Int) = thereS S + (1 - aliveN ((getS S c).getD [])) ∧ needS S e c = C.layN ((getS S c).getD []) ⟨e, a, false⟩ + (1 - aliveN ((getS S c).getD [])) := by
  have h1 := set_units h.sort c (C.layM ((getS S c).getD []) ⟨e, a, false⟩)
  have h2 := set_there h.sort c (C.layM ((getS S c).getD []) ⟨e, a, false⟩)
  have h3 := lay_units ((getS S c).getD []) ⟨e, a, false⟩
  have h4 := lay_alive ((getS S c).getD []) ⟨e, a, false⟩
  have h5 := units_eq ((getS S c).getD [])
  have h6 := need_lay (getS S c) e ⟨e, a, false⟩ rfl rfl hn fun vs hv => (getS_ne h vs hv).ne
  have h7 : needS S e c = needV (getS S c) e := by unfold needS; rw [if_neg (fun h => h hc)]
  simp only [Bool.false_eq_true, if_false] at h3 h4
  unfold putS
  rw [h7]
  refine ⟨by omega, by omega, by omega⟩
theorem mayM_ok {vs : List Ver} {e : Int} (h1 : 1 <= e) (h2 : e <= 1099511627776) : C.mayM vs e = if vs ≠ [] ∧ e < (C.newestM vs).2.1 then 32 else 0 := by
  unfold C.mayM
  rw [if_neg (by omega), lastE_newest]
section
variable {h : H} {n : Nat} {S : SL} {slots : Nat} {R : Nat -> Prop}
theorem Put_spec {e : Int} {x : S_api_Row} {rt : Bool} {Q : Int -> H -> Prop} (s : SH h n S slots R) (hrt : RightIs x.Agg rt) (hR : ∀ b, h.size <= b -> R b)
    (k0 : putE S slots e x.Cell x.Agg rt ≠ 0 -> ∀ h', Ext h h' -> Q (putE S slots e x.Cell x.Agg rt) h')
    (k1 : putE S slots e x.Cell x.Agg rt = 0 -> ∀ h', SH h' n (putS S e x.Cell x.Agg) slots R -> SOnly R h h' -> Q 0 h') : F.xae (some ⟨n, 0, none⟩) e x h Q := by
  have sok := s.ok
  obtain ⟨tn, rs, es, T, Z, hZ, z⟩ := s
  obtain ⟨c, a⟩ := x
  simp only at hrt k0 k1
  unfold F.xae
  refine new_of fun m h1 hm b1 e1 s1 => ?_
  have rc : Cells h1 ⟨m, 0, none⟩ (c.cells ++ a.cells) := Blk.cells b1
  simp only [add_lit, Nat.zero_add, Nat.add_zero]
  have ra : ∀ {hh : H}, Ext h1 hh -> Cells hh ⟨m, 3, none⟩ a.cells := fun ee => (cells_r rc : Cells h1 ⟨m, 0 + 3, none⟩ a.cells).ext ee
  have rcc : ∀ {hh : H}, Ext h1 hh -> Cells hh ⟨m, 0, none⟩ c.cells := fun ee => (cells_l rc).ext ee
  refine ⟨c, rcc (.refl _), ?_⟩
  unfold putE at k0 k1
  refine key_spec (fun g h2 e2 => ⟨fun _ => ?_, fun g2 => absurd (by simpa using g2) g⟩) fun g h2 e2 => ⟨fun g2 => by simp at g2, fun _ => ?_⟩
  · rw [if_pos g] at k0; exact k0 g h2 (e1.trans e2)
  rw [if_neg (fun h => h g)] at k0 k1
  have e02 := e1.trans e2
  have a0 : ∀ {hh : H}, Ext h1 hh -> cellH hh ⟨m, 3, none⟩ = some (.int .i64 a.Count) := fun ee => ra ee 0 _ rfl
  -- a bad argument
  have bad : ∀ {hh : H}, Ext h hh -> (e < 1 ∨ e > 1099511627776 ∨ a.Count = 0 ∨ rt = false) -> F.xae.j4 Q (some ⟨n, 0, none⟩) e ⟨m, 0, none⟩ (keyB c) true hh := fun ee hb => by
    unfold F.xae.j4
    refine ⟨fun _ => ?_, fun h => by cases h⟩
    rw [if_pos hb] at k0
    exact k0 (by decide) _ ee
  -- the last step: a chain that is there is written
  have j1 : ∀ h3, Ext h2 h3 -> 1 <= e -> e <= 1099511627776 -> a.Count ≠ 0 -> rt = true -> F.xae.j1 Q (some ⟨n, 0, none⟩) e ⟨m, 0, none⟩ (keyB c) h3 := by
    intro h3 e3 he1 he2 hac hrt1
    rw [if_neg (by rintro (h | h | h | h)
                   · omega
                   · omega
                   · exact hac h
                   · rw [hrt1] at h; cases h)] at k0 k1
    have e03 := e02.trans e3
    have z3 := z.ext e03
    unfold F.xae.j1
    simp only [nn_some, add_lit, Nat.zero_add, Nat.add_zero]
    rw [ldP_iff z3.cs3]
    refine P.Get_spec z3.th z3.ok (key_small g) fun h4 e4 => ?_
    have e04 := e03.trans e4
    have e14 : Ext h1 h4 := (e2.trans e3).trans e4
    have z4 := z3.ext e4
    have hlk := z3.look g
    rw [hlk]
    -- room is asked for
    have j2 : ∀ (h5 : H) (l : Option Addr) (is th : Bool), Ext h4 h5 -> ¬ (C.newestM ((getS S c).getD [])).2.1 > e -> ((unitsS S : Int) + needS S e c <= slots -> ∀ h6, Ext h5 h6 -> ((!is) = true -> F.xby h6 fun r60 h59 => ldP h59 ⟨n, 3, none⟩ fun y63 => F.xbd y63 (keyB c) r60 h59 fun h65 => F.xae.j3 Q (some ⟨n, 0, none⟩) e ⟨m, 0, none⟩ r60 th h65) ∧ ((!is) = false -> F.xae.j3 Q (some ⟨n, 0, none⟩) e ⟨m, 0, none⟩ l th h6)) ->
        F.xae.j2 Q (some ⟨n, 0, none⟩) e ⟨m, 0, none⟩ (keyB c) l is th h5 := by
      intro h5 l is th e5 hnw hgo
      have z5 := z4.ext e5
      unfold F.xae.j2
      simp only [nn_some, add_lit, Nat.zero_add, Nat.add_zero]
      rw [ldI_iff z5.cs0]
      refine ⟨c, rcc (e14.trans e5), ldI_of z5.cs2 (need_spec z5 fun h6 e6 => ⟨(z5.ext e6).cs2, (z5.ext e6).cs0, ?_⟩)⟩
      rw [hZ]
      rw [if_neg hnw] at k0 k1
      have hus := z.us
      have hsl := z.sl
      rw [hZ] at hus
      have hnd : 0 <= needS S e c ∧ needS S e c <= 2 := by
        unfold needS needV
        split
        · omega
        · cases getS S c with
          | none => simp
          | some vs => simp only; split <;> (try split) <;> (try split) <;> omega
      rw [w64 (by omega) (by omega)]
      refine ⟨fun g2 => ?_, fun g2 => hgo (by have := of_decide_eq_false g2; omega) h6 e6⟩
      have g2 := of_decide_eq_true g2
      rw [if_pos g2] at k0
      exact k0 (by decide) h6 ((e04.trans e5).trans e6)
    have hgs : getS S c = (getK Rec.c Z c).map (·.vs) := by rw [← hZ]; exact z.getS c
    have hpu := fun (hn : ¬ (C.newestM ((getS S c).getD [])).2.1 > e) => put_units (a := a) sok g hn
    -- the numbers
    have nums : ∀ (h8 : H) (rs' es' : Sl) (T' : Tb (Option Addr)) (Z' : List Rec) (th : Bool), SZ h8 n tn rs' es' T' Z' slots R (unitsS S : Int) (thereS S : Int) -> toS Z' = putS S e c a -> SOnly R h h8 -> ¬ (C.newestM ((getS S c).getD [])).2.1 > e -> (unitsS S : Int) + needS S e c <= slots ->
        (aliveN ((getS S c).getD []) = if th then 1 else 0) ->
        (nn (some ⟨n, 0, none⟩) fun a36 => ldI .i64 h8 ((a36.add 0).add 0) fun y38 => nn (some ⟨n, 0, none⟩) fun a40 => stH h8 ((a40.add 0).add 0) [(.int .i64 (IntKind.wrap .i64 (y38 + C.layN ((getS S c).getD []) ⟨e, a, false⟩)))] fun h42 =>
          ((!th) = true -> nn (some ⟨n, 0, none⟩) fun a44 => ldI .i64 h42 ((a44.add 0).add 0) fun y46 => nn (some ⟨n, 0, none⟩) fun a48 => stH h42 ((a48.add 0).add 0) [(.int .i64 (IntKind.wrap .i64 (y46 + 1)))] fun h50 => nn (some ⟨n, 0, none⟩) fun a51 => ldI .i64 h50 ((a51.add 0).add 1) fun y53 => nn (some ⟨n, 0, none⟩) fun a55 => stH h50 ((a55.add 0).add 1) [(.int .i64 (IntKind.wrap .i64 (y53 + 1)))] fun h57 => Q 0 h57) ∧ ((!th) = false -> Q 0 h42)) := by
      intro h8 rs' es' T' Z' th z8 hZ' so hnw hroom hth
      obtain ⟨p1, p2, p3⟩ := hpu hnw
      have hsl := z.sl
      have htl : thereS S <= unitsS S := there_le
      have hus := z.us
      rw [hZ] at hus
      have hlr := layN_range ((getS S c).getD []) ⟨e, a, false⟩
      rw [if_neg hnw, if_neg (show ¬ (unitsS S : Int) + needS S e c > slots by omega)] at k1
      simp only [nn_some, add_lit, Nat.zero_add, Nat.add_zero]
      rw [ldI_iff z8.cs0, w64 (by omega) (by omega)]
      refine z8.st0 fun h9 z9 o9 => ?_
      have so9 := so.trans o9
      refine ⟨fun g3 => ?_, fun g3 => ?_⟩
      · have hth0 : th = false := by simpa using g3
        rw [hth0] at hth
        simp only [Bool.false_eq_true, if_false] at hth
        rw [ldI_iff z9.cs0, w64 (by omega) (by omega)]
        refine z9.st0 fun h10 z10 o10 => ?_
        rw [ldI_iff z10.cs1, w64 (by omega) (by omega)]
        refine z10.st1 fun h11 z11 o11 => ?_
        refine k1 rfl h11 ⟨tn, rs', es', T', Z', hZ', ?_⟩ ((so9.trans o10).trans o11)
        rw [hZ', p1, p2, p3, hth]
        have q1 : (unitsS S : Int) + C.layN ((getS S c).getD []) ⟨e, a, false⟩ + 1 = unitsS S + (C.layN ((getS S c).getD []) ⟨e, a, false⟩ + (1 - ((0 : Nat) : Int))) := by omega
        have q2 : (thereS S : Int) + 1 = thereS S + (1 - ((0 : Nat) : Int)) := by omega
        rw [← q1, ← q2]; exact z11
      · have hth1 : th = true := by simpa using g3
        rw [hth1] at hth
        simp only [if_true] at hth
        refine k1 rfl h9 ⟨tn, rs', es', T', Z', hZ', ?_⟩ so9
        rw [hZ', p1, p2, p3, hth]
        have q1 : (unitsS S : Int) + C.layN ((getS S c).getD []) ⟨e, a, false⟩ = unitsS S + (C.layN ((getS S c).getD []) ⟨e, a, false⟩ + (1 - ((1 : Nat) : Int))) := by omega
        have q2 : (thereS S : Int) = thereS S + (1 - ((1 : Nat) : Int)) := by omega
        rw [← q1, ← q2]; exact z9
    cases hg : getK Rec.c Z c with
    | none =>
      refine ⟨fun h => (by cases h), fun _ => ?_⟩
      have hgd : (getS S c).getD [] = [] := by rw [hgs, hg]; rfl
      have hnw : ¬ (C.newestM ((getS S c).getD [])).2.1 > e := by rw [hgd]; show ¬ (0 : Int) > e; omega
      refine j2 h4 _ _ _ (.refl _) hnw fun hroom h6 e6 => ⟨fun _ => ?_, fun h => by cases h⟩
      have z6 := z4.ext e6
      refine C.New_spec fun p h7 hp c7 e7 => ?_
      have z7 := z6.ext e7
      rw [ldP_iff z7.cs3]
      obtain ⟨T', t1, t2, t3, t4, t5, t6⟩ := put_ok (z := P.nilA) z7.ok (keyB c) (some ⟨p, 0, none⟩)
      have hcnt := z7.count
      have hzl := z7.len
      have hrl := z7.rl
      have hgn : getM T (keyB c) = none := by rw [z.look g, hg]; rfl
      rw [hgn] at t5
      simp only [Option.isSome_none, Bool.false_eq_true, if_false] at t5
      have hrl' : T'.row.length <= 4200000 := by
        rcases t6 with ⟨_, q1, q2, _⟩ | ⟨_, q2, _⟩
        · have q1 : 3 * T.row.length < 4 * (T.count + 1) := q1
          omega
        · omega
      refine P.Put_spec z7.th z7.ok (key_small g) t1 (by show _ <= 1099511627776; omega) (by show _ <= 1099511627776; omega) fun h8 rs' es' th8 stp => ?_
      unfold F.xae.j3
      simp only [add_lit, Nat.zero_add, Nat.add_zero]
      have hp6 : p < h7.size := c7.lt
      have l7 := z7.f_lt
      have c8 : C.Ch h8 p [] none := c7.only stp.only (fun hb => by
        have := z6.th.lt p hb; omega) fun b hb => by cases hb
      have e17 : Ext h1 h7 := (e14.trans e6).trans e7
      have e07 := ((e04.trans e6).trans e7)
      have rb8 : Cells h8 ⟨m, 3, none⟩ a.cells := (ra e17).only stp.only fun hb => by
        have := z.th.lt m hb; omega
      refine ⟨a, rb8, ?_⟩
      refine C.Put_spec c8 (by simp) (fun h => absurd (by rw [mayM_ok he1 he2]; simp) h) fun _ h9 B' c9 o9 kin9 => ?_
      have hsetq : toS (setK Rec.c Z ⟨c, C.layM [] ⟨e, a, false⟩, p, B'⟩) = putS S e c a := by
        rw [toS_set, hZ]; unfold putS; rw [hgd]
      have vok : VOk (C.layM [] ⟨e, a, false⟩) := lay_ok (.inl rfl) (.inr rfl) (fun h => by cases h) he1 he2
      obtain ⟨p1, p2, p3⟩ := hpu hnw
      have hz := z.add (c := c) g hg (e07) (by have := ((e04.trans e6)).size; omega) hp6 th8 t2 stp t4 hrl' c9 o9 kin9 vok (by rw [hsetq]; omega) hR
      have := nums h9 rs' es' T' _ false (by rw [← hZ]; exact hz.1) hsetq hz.2 hnw hroom (by rw [hgd]; rfl)
      rw [hgd] at this
      exact this
    | some r =>
      refine ⟨fun _ => ?_, fun h => by cases h⟩
      obtain ⟨hr, hrc⟩ := getK_some hg
      have hgd : (getS S c).getD [] = r.vs := by rw [hgs, hg]; rfl
      have hv := (z.wf r hr).2
      refine C.Newest_spec (z4.ch r hr) (by have := z.vlen hr; omega) fun h5 e5 => ⟨fun g2 => ?_, fun g2 => ?_⟩
      · have g2 := of_decide_eq_true g2
        rw [hgd, if_pos g2] at k0
        exact k0 (by decide) h5 (e04.trans e5)
      have hnw : ¬ (C.newestM ((getS S c).getD [])).2.1 > e := by rw [hgd]; exact of_decide_eq_false g2
      refine j2 h5 _ _ _ e5 hnw fun hroom h6 e6 => ⟨fun h => (by cases h), fun _ => ?_⟩
      have e06 := (e04.trans e5).trans e6
      have z6 := z.ext e06
      unfold F.xae.j3
      simp only [add_lit, Nat.zero_add, Nat.add_zero]
      refine ⟨a, ra ((e14.trans e5).trans e6), ?_⟩
      refine C.Put_spec (z6.ch r hr) (by have := z.vlen hr; omega) (fun h => absurd (by rw [mayM_ok he1 he2, if_neg (fun h2 => by rw [hgd] at hnw; omega)]) h) fun _ h9 B' c9 o9 kin9 => ?_
      have hsetq : toS (setK Rec.c Z ⟨r.c, C.layM r.vs ⟨e, a, false⟩, r.p, B'⟩) = putS S e c a := by
        rw [toS_set, hZ, hrc]; unfold putS; rw [hgd]
      have hn2 : C.lastE r.vs <= e := by rw [lastE_newest]; rw [hgd] at hnw; omega
      have vok : VOk (C.layM r.vs ⟨e, a, false⟩) := lay_ok (.inr hv) (.inl hn2) (fun h => by cases h) he1 he2
      obtain ⟨p1, p2, p3⟩ := hpu hnw
      have hz := z6.lay hr c9 o9 kin9 vok (by rw [hsetq]; omega) fun b hb => hR b (by have := e06.size; omega)
      have := nums h9 rs es T _ (alive r.vs) (by rw [← hZ]; exact hz.1) hsetq ((SOnly.of e06).trans hz.2) hnw hroom (by rw [hgd]; rfl)
      rw [hgd] at this
      exact this
  have e2r : Ext h1 h2 := e2
  refine ⟨fun g2 => bad e02 (.inl (of_decide_eq_true g2)), fun g2 => ⟨fun g3 => bad e02 (.inr (.inl (of_decide_eq_true g3))), fun g3 => ?_⟩⟩
  rw [ldI_iff (a0 e2)]
  refine ⟨fun g4 => bad e02 (.inr (.inr (.inl (by simpa using g4)))), fun g4 => ⟨a, ra e2, hrt h2 _ fun h3 e3 => ?_⟩⟩
  have g2 := of_decide_eq_false g2
  have g3 := of_decide_eq_false g3
  have g4 : a.Count ≠ 0 := by simpa using g4
  cases hrv : rt with
  | false => exact bad (e02.trans e3) (.inr (.inr (.inr hrv)))
  | true =>
    unfold F.xae.j4
    exact ⟨fun h => (by cases h), fun _ => j1 h3 e3 (by omega) (by omega) g4 hrv⟩
end
abbrev Rw := S_api_Row
abbrev cW (x : Rw) : List Value := x.cells
theorem cW_len (x : Rw) : (cW x).length = 7 := rfl
def keysZ (Z : List Rec) : List (ByteArray × Option Addr) := Z.map fun r => (keyB r.c, some ⟨r.p, 0, none⟩)
theorem keysZ_len (Z : List Rec) : (keysZ Z).length = Z.length := List.length_map _
theorem cB_lt : ∀ (x y : List UInt8), Lib.compareBytes x y = -1 -> x < y
  | [], [], h => by simp [Lib.compareBytes] at h
  | [], b :: y, _ => List.nil_lt_cons b y
  | a :: x, [], h => by simp [Lib.compareBytes] at h
  | a :: x, b :: y, h => by
    simp only [Lib.compareBytes] at h
    rcases u8_tri a b with g | g | g
    · exact List.cons_lt_cons_iff.2 (.inl g)
    · subst g
      simp only [u8_irr, if_false] at h
      exact List.cons_lt_cons_iff.2 (.inr ⟨rfl, cB_lt x y h⟩)
    · simp [g, u8_asym g] at h
theorem key_lt {a b : Cel} (ha : okC a = 0) (hb : okC b = 0) (h : cmpC a b = -1) : keyL a < keyL b :=
  cB_lt _ _ (by rw [key_cmp (ok_may ha) (ok_may hb) (ok_start ha) (ok_start hb)]; exact h)
section
variable {h h' : H} {n tn : Nat} {rs es : Sl} {T : Tb (Option Addr)} {Z : List Rec} {slots : Nat} {R : Nat -> Prop} {u t : Int}
theorem tk_has (ok : TOk T) {k : ByteArray} {v : Option Addr} (hg : getM T k = some v) : ∃ p ∈ P.tkL (T.row ++ T.elder), p.1 = k := by
  have go : ∀ (W : List (Pl (Option Addr))), valOf W k = some v -> ∃ p ∈ P.tkL W, p.1 = k := fun W hv => by
    obtain ⟨i, p, h1, h2, h3, h4⟩ := valOf_some hv
    exact ⟨(p.key, .pointer p.value), List.mem_map.2 ⟨p, List.mem_filter.2 ⟨List.mem_of_getElem? h1, by simp [h2]⟩, rfl⟩, kL_inj h3⟩
  unfold getM at hg
  rw [P.tkL_app]
  cases hv : valOf T.row k with
  | some w =>
    rw [hv] at hg; cases hg
    obtain ⟨p, h1, h2⟩ := go _ hv
    exact ⟨p, List.mem_append_left _ h1, h2⟩
  | none =>
    rw [hv] at hg
    obtain ⟨p, h1, h2⟩ := go _ hg
    exact ⟨p, List.mem_append_right _ h1, h2⟩
theorem all_eq (z : SZ h n tn rs es T Z slots R u t) : P.allL T = keysZ Z := by
  have hk : ∀ c : Cel, (keyB c).data.toList = keyL c := fun c => by simp [keyB]
  have hsort : (Z.map fun r => keyB r.c).Pairwise fun a b => a.data.toList < b.data.toList := by
    rw [List.pairwise_map]
    have := z.srt
    refine List.Pairwise.imp_of_mem ?_ this
    intro a b ha hb hab
    rw [hk, hk]
    exact key_lt (z.wf a ha).1 (z.wf b hb).1 hab
  have hn2 : (Z.map fun r => keyB r.c).Nodup := hsort.imp fun {a b} hab e => by subst e; exact List.lt_irrefl _ hab
  have hn1 := P.KU_of z.ok
  have hp : ((P.tkL (T.row ++ T.elder)).map (·.1)).Perm (Z.map fun r => keyB r.c) := (List.perm_ext_iff_of_nodup hn1 hn2).2 fun k => by
    constructor
    · intro hk'
      obtain ⟨⟨k2, v⟩, hm, rfl⟩ := List.mem_map.1 hk'
      obtain ⟨w, hw, _⟩ := P.tk_val z.ok hm
      obtain ⟨r, hr, e⟩ := z.all k2 w hw
      refine List.mem_map.2 ⟨r, hr, kL_inj ?_⟩
      rw [kL_keyB]; exact e.symm
    · intro hk'
      obtain ⟨r, hr, rfl⟩ := List.mem_map.1 hk'
      have hg := z.get r hr
      refine Classical.byContradiction fun hno => ?_
      have hlt := tk_has z.ok hg
      obtain ⟨p, hp1, hp2⟩ := hlt
      exact hno (List.mem_map.2 ⟨p, hp1, hp2⟩)
  unfold P.allL
  rw [sortT_perm hp, P.sortT_id hsort, List.map_map]
  refine List.map_congr_left fun r hr => ?_
  simp only [Function.comp, z.get r hr, Option.getD_some]
end
theorem st_cel {h : H} {n : Nat} {c d : Cel} {e : TypeId} {K : H -> Prop} (b : Blk h n c.cells.toArray e) (k : ∀ h', Blk h' n d.cells.toArray e -> Only (· = n) h h' -> h'.size = h.size -> K h') : stH h ⟨n, 0, none⟩ d.cells K := by
  refine stH_of b (Nat.le_refl 3) fun h' q1 q2 q3 => k h' ?_ q2 q3
  rw [writeA_all (by rfl)] at q1
  exact q1
theorem shut1 {d : Nat} {h : H} {K : H -> Prop} (hd : h[d]? = some (.deferred (some []))) (k : ∀ h', Only (· = d) h h' -> K h') : shuts [d] h K :=
  ⟨hd, k _ ⟨by simp [put], fun b hb hn => by simp only [put]; rw [Array.getElem?_setIfInBounds_ne (fun e => hn e.symm)]⟩⟩
theorem rng1_spec {h : H} {n4 n6 : Nat} {fr to c : Cel} {K : Value -> H -> Prop} (b4 : Cells h ⟨n4, 0, none⟩ fr.cells) (b6 : Cells h ⟨n6, 0, none⟩ to.cells) (k : ∀ h', Ext h h' -> K (.bool (decide (cmpC fr c <= 0) && decide (cmpC c to < 0))) h') :
    CV PP (.func (.func no_shard_Shard_Range_1) #[] #[.pointer (some ⟨n4, 0, none⟩), .pointer (some ⟨n6, 0, none⟩)]) [.agg c.cells.toArray] h K := by
  refine CV_func (fun a w => no_shard_Shard_Range_1_call a w) ?_
  have : F.xcr c ⟨n4, 0, none⟩ ⟨n6, 0, none⟩ h fun r h' => K (.bool r) h' := by
    unfold F.xcr
    refine new_of fun m h1 hm b1 e1 s1 => ⟨fr, b4.ext e1, c, Blk.cells b1, Compare_spec fun h2 e2 => ⟨fun g => ⟨c, (Blk.cells b1).ext e2, to, (b6.ext e1).ext e2, Compare_spec fun h3 e3 => ?_⟩, fun g => ?_⟩⟩
    · have := k h3 ((e1.trans e2).trans e3)
      rw [g, Bool.true_and] at this; exact this
    · have := k h2 (e1.trans e2)
      rw [g, Bool.false_and] at this; exact this
  have := F.xcr_ok this
  simp only [List.append_toArray, Array.empty_append, Array.append_empty]
  exact this.mono fun r h' ⟨r0, e, q⟩ => by subst e; exact q
def rowsZ (e : Int) (fr to : Cel) (Z : List Rec) : List Rw := (Z.filter fun r => inS e fr to (r.c, r.vs)).map fun r => rowS e (r.c, r.vs)
theorem rows_toS (e : Int) (fr to : Cel) (Z : List Rec) : rangeS (toS Z) e fr to = rowsZ e fr to Z := by
  unfold rangeS rowsZ toS
  rw [List.filter_map, List.map_map]
  rfl
theorem rows_snoc (e : Int) (fr to : Cel) {Z : List Rec} {i : Nat} {r : Rec} (h : Z[i]? = some r) : rowsZ e fr to (Z.take (i + 1)) = rowsZ e fr to (Z.take i) ++ (if inS e fr to (r.c, r.vs) then [rowS e (r.c, r.vs)] else []) := by
  obtain ⟨h1, h2⟩ := List.getElem?_eq_some_iff.1 h
  unfold rowsZ
  rw [List.take_succ_eq_append_getElem h1, h2, List.filter_append, List.map_append]
  congr 1
  by_cases hi : inS e fr to (r.c, r.vs) <;> simp [hi]
theorem rows_pre (e : Int) (fr to : Cel) (Z : List Rec) (i : Nat) : (rowsZ e fr to (Z.take i)) <+: rowsZ e fr to Z := by
  unfold rowsZ
  exact ((List.take_prefix i Z).filter _).map _
structure RI (h hL h' : H) (n2 n4 n6 n8 n10 n12 ka ma b : Nat) (r : Sl) (L : List (ByteArray × Option Addr)) (ep most : Int) (fr to : Cel) (rows : List Rw) : Prop where
  ext : Ext h h'
  b2 : Blk h' n2 #[.int .i64 ep] tn_int
  b4 : Blk h' n4 fr.cells.toArray tn_api_Cell
  b6 : Blk h' n6 to.cells.toArray tn_api_Cell
  b8 : Blk h' n8 #[.int .i64 most] tn_int
  b12 : Blk h' n12 #[.func (.func no_shard_Shard_Range_1) #[] #[.pointer (some ⟨n4, 0, none⟩), .pointer (some ⟨n6, 0, none⟩)]] tn_func_api_Cell_bool
  sq : P.SeqH h' ka ma b r L
  dfr : h'[hL.size]? = some (.deferred (some []))
  out : ∃ o, Blk h' n10 #[o.enc] tn_Slapi_Row ∧ Owns h' o tn_api_Row 7 (rows.flatMap cW) ∧ ∀ x, o.blk = some x -> hL.size + 2 <= x
  len : rows.length <= most.toNat
  sz : hL.size + 1 <= h'.size
  lt : n2 < hL.size ∧ n4 < hL.size ∧ n6 < hL.size ∧ n8 < hL.size ∧ n10 < hL.size ∧ n12 < hL.size ∧ (∀ m, SQF ka ma b r m -> m < hL.size ∧ m ≠ n10) ∧ n2 ≠ n10 ∧ n4 ≠ n10 ∧ n6 ≠ n10 ∧ n8 ≠ n10 ∧ n12 ≠ n10 ∧ h.size <= n10
section
variable {h hL h' h'' : H} {n2 n4 n6 n8 n10 n12 ka ma b : Nat} {r : Sl} {L : List (ByteArray × Option Addr)} {ep most : Int} {fr to : Cel} {rows : List Rw}
theorem RI.only {S : Nat -> Prop} (v : RI h hL h' n2 n4 n6 n8 n10 n12 ka ma b r L ep most fr to rows) (o : Only S h' h'') (hS : ∀ m, S m -> hL.size < m ∧ ∀ o : Sl, Blk h' n10 #[o.enc] tn_Slapi_Row -> o.blk ≠ some m) : RI h hL h'' n2 n4 n6 n8 n10 n12 ka ma b r L ep most fr to rows := by
  obtain ⟨l2, l4, l6, l8, l10, l12, lq, q⟩ := v.lt
  have no : ∀ m, m <= hL.size -> ¬ S m := fun m hm h => by have := (hS m h).1; omega
  obtain ⟨ou, o1, o2, o3⟩ := v.out
  have hle : h.size <= hL.size := by obtain ⟨_, _, _, _, _, hq⟩ := q; omega
  exact ⟨v.ext.step o fun m hm => no m (by omega), o.block v.b2 (no _ (by omega)), o.block v.b4 (no _ (by omega)), o.block v.b6 (no _ (by omega)), o.block v.b8 (no _ (by omega)), o.block v.b12 (no _ (by omega)), v.sq.only o fun m hm => no m (by have := (lq m hm).1; omega), o.block v.dfr (no _ (by omega)),
    ⟨ou, o.block o1 (no _ (by omega)), o2.only o fun m hm hs => (hS m hs).2 ou o1 hm, o3⟩, v.len, by have := o.size; have := v.sz; omega, v.lt⟩
theorem RI.e (v : RI h hL h' n2 n4 n6 n8 n10 n12 ka ma b r L ep most fr to rows) (e : Ext h' h'') : RI h hL h'' n2 n4 n6 n8 n10 n12 ka ma b r L ep most fr to rows := v.only e fun _ f => f.elim
end
theorem Range_spec {h : H} {n : Nat} {S : SL} {slots : Nat} {R : Nat -> Prop} {ep most : Int} {fr to : Cel} {Q : Sl -> H -> Prop} (s : SH h n S slots R)
    (k : ∀ r h', Owns h' r tn_api_Row 7 (((rangeS S ep fr to).take most.toNat).flatMap cW) -> Mine h r -> Ext h h' -> Q r h') : F.xaj (some ⟨n, 0, none⟩) ep fr to most h Q := by
  obtain ⟨tn, rs, es, T, Z, rfl, z⟩ := s
  unfold F.xaj
  refine new_of fun n2 h1 hn2 b2 e1 s1 => new_of fun n4 h3 hn4 b4 e3 s3 => new_of fun n6 h5 hn6 b6 e5 s5 => new_of fun n8 h7 hn8 b8 e7 s7 => new_of fun n10 h9 hn10 b10 e9 s9 => new_of fun n12 h11 hn12 b12 e11 s11 => ?_
  refine stH_of b12 (by simp) fun h13 b13 o13 s13 => ?_
  have x2 : Blk h13 n2 #[.int .i64 ep] tn_int := o13.block (((((e3.trans e5).trans e7).trans e9).trans e11).block b2 fun f => f) (by omega)
  have x4 : Blk h13 n4 fr.cells.toArray tn_api_Cell := o13.block ((((e5.trans e7).trans e9).trans e11).block b4 fun f => f) (by omega)
  have x6 : Blk h13 n6 to.cells.toArray tn_api_Cell := o13.block (((e7.trans e9).trans e11).block b6 fun f => f) (by omega)
  have x8 : Blk h13 n8 #[.int .i64 most] tn_int := o13.block ((e9.trans e11).block b8 fun f => f) (by omega)
  have x10 : Blk h13 n10 #[(⟨none, 0, 0⟩ : Sl).enc] tn_Slapi_Row := o13.block (e11.block b10 fun f => f) (by omega)
  have e013 : Ext h h13 := (((((e1.trans e3).trans e5).trans e7).trans e9).trans e11).step o13 fun m hm hb => by omega
  have z13 := z.ext e013
  simp only [nn_some, add_lit, Nat.zero_add, Nat.add_zero]
  rw [ldP_iff z13.cs3]
  have hcnt := z.count
  have hzl := z.len
  refine P.All_spec z13.th z13.ok (by omega) fun hL ka ma b r sq eL hmine _ => ?_
  rw [all_eq z13] at sq
  have hLs := eL.size
  have hgt : ∀ {Y : List Rec} {i : Nat} {x : ByteArray × Option Addr}, (keysZ Y)[i]? = some x -> ∃ q, Y[i]? = some q ∧ x = (keyB q.c, some ⟨q.p, 0, none⟩) := fun {Y i x} hx => by
    unfold keysZ at hx
    rw [List.getElem?_map] at hx
    cases hy : Y[i]? with
    | none => rw [hy] at hx; cases hx
    | some q => rw [hy] at hx; cases hx; exact ⟨q, rfl, rfl⟩
  -- the end
  have fin : ∀ (h' : H) (rows : List Rw), RI h hL h' n2 n4 n6 n8 n10 n12 ka ma b r (keysZ Z) ep most fr to rows -> rows = (rangeS (toS Z) ep fr to).take most.toNat -> F.xaj.j1 Q (hL.size :: ([] : List Nat)) ⟨n10, 0, none⟩ h' := fun h' rows v hrows => by
    obtain ⟨o, o1, o2, o3⟩ := v.out
    unfold F.xaj.j1
    refine ldL_of (Blk.cell (i := 0) o1 rfl) (shut1 v.dfr fun h9 o9 => ?_)
    rw [hrows] at o2
    refine k o h9 (o2.only o9 fun m hm e => by have := o3 m hm; omega) (fun x hx => by have := o3 x hx; have := e013.size; omega) (v.ext.step o9 fun m hm e => by have := e013.size; omega)
  refine P.range_seq (I := fun i h' => RI h hL h' n2 n4 n6 n8 n10 n12 ka ma b r (keysZ Z) ep most fr to (rowsZ ep fr to (Z.take i)))
    (E := fun j h' => j = 0 ∧ ∃ i, RI h hL h' n2 n4 n6 n8 n10 n12 ka ma b r (keysZ Z) ep most fr to (rowsZ ep fr to (Z.take i)) ∧ most <= ((rowsZ ep fr to (Z.take i)).length : Int))
    (fun i h' h'' v o => v.only o fun m hm => ⟨by omega, fun ou hou hb => ?_⟩) (fun j h' h'' v o => ⟨v.1, v.2.elim fun i hi => ⟨i, hi.1.only o fun m hm => ⟨by omega, fun ou hou hb => ?_⟩, hi.2⟩⟩) (fun i h' v => v.sq) ?_ ?_ (fun h' v => ?_) (fun j h' v => ?_)
  · obtain ⟨o', o1, o2, o3⟩ := v.out
    have heq := o1.symm.trans hou
    have : o' = ou := enc_inj.1 (by simpa using heq)
    subst this
    have := o3 m hb; omega
  · obtain ⟨o', o1, o2, o3⟩ := hi.1.out
    have heq := o1.symm.trans hou
    have : o' = ou := enc_inj.1 (by simpa using heq)
    subst this
    have := o3 m hb; omega
  · have ep0 : Ext hL (hL.push (.deferred (some []))) := .push _ _
    have eH := eL.trans ep0
    refine ⟨e013.trans eH, eH.block x2 fun f => f, eH.block x4 fun f => f, eH.block x6 fun f => f, eH.block x8 fun f => f, eH.block b13 fun f => f, sq.only ep0 fun m hm f => f, by simp, ⟨_, eH.block x10 fun f => f, by simpa [rowsZ] using Owns.nil _ tn_api_Row 7, fun x hx => by simp [Sl.blk] at hx⟩, by simp [rowsZ], by simp, ?_⟩
    refine ⟨by omega, by omega, by omega, by omega, by omega, by omega, fun m hm => ⟨sq.lt m hm, ?_⟩, by omega, by omega, by omega, by omega, by omega, by omega⟩
    have := hmine m hm; omega
  · intro X i x h5 K J hX v hx hxi kK kJ
    obtain ⟨q, hq, rfl⟩ := hgt hxi
    have hqz : q ∈ Z := List.mem_of_getElem? hq
    obtain ⟨o, o1, o2, o3⟩ := v.out
    have hlo := own_len cW_len (by omega) o2
    refine ldL_of (Blk.cell (i := 0) o1 rfl) (ldI_of (Blk.cell (i := 0) v.b8 rfl) ⟨fun g => ?_, fun g => ?_⟩)
    · have g := of_decide_eq_true g
      exact kJ 0 h5 ⟨rfl, i, v, by rw [← hlo]; exact g⟩ hx
    · have g := of_decide_eq_false g
      have hok := (z.wf q hqz).1
      have hv := (z.wf q hqz).2
      refine Cell_spec (by show (keyL q.c).toArray.size < _; have := key_size hok; simp; omega) fun h6 e6 => ?_
      rw [show (keyB q.c).data.toList = keyL q.c from by simp [keyB], cell_back (ok_may hok) (ok_start hok)]
      refine new_of fun m7 h7 hm7 b7 e7 s7 => ?_
      have b7' : Blk h7 m7 zeroC.cells.toArray tn_api_Cell := b7
      refine st_cel b7' (d := q.c) fun h8 b8' o8 s8 => ?_
      have e58 : Ext h5 h8 := (e6.trans e7).step o8 fun m hm hb => by have := e6.size; omega
      have v8 := v.e e58
      refine ldI_of (Blk.cell (i := 0) v8.b2 rfl) ?_
      have zq := z.ext v8.ext
      refine at_spec (zq.ch q hqz) hv.rise (by have := z.vlen hqz; omega) fun h9 e9 => ?_
      refine new_of fun m10 h10 hm10 bb10 e10 s10 => ?_
      have bb10' : Blk h10 m10 zA.cells.toArray tn_api_Agg := bb10
      refine C.st_agg bb10' fun h11' b11 o11 s11' => ?_
      have e8b : Ext h8 h11' := (e9.trans e10).step o11 fun m hm hb => by have := e9.size; omega
      have e5b := e58.trans e8b
      have v11 := v.e e5b
      have x11 : h11'[hL.size + 1]? = some X := e5b.block hx fun f => f
      have b8b : Blk h11' m7 q.c.cells.toArray tn_api_Cell := e8b.block b8' fun f => f
      have hsn := rows_snoc ep fr to hq
      -- nothing is told
      have skip : ∀ h12', Ext h11' h12' -> inS ep fr to (q.c, q.vs) = false -> K h12' := fun h12' e12 hno => by
        refine kK h12' ?_ (e12.block x11 fun f => f)
        rw [hsn, hno]
        simp only [Bool.false_eq_true, if_false, List.append_nil]
        exact v11.e e12
      have lay : ∀ (h12 : H), Ext h11' h12 -> inS ep fr to (q.c, q.vs) = true -> F.xaj.j2 Q K J (hL.size + 1) ⟨n10, 0, none⟩ ⟨m7, 0, none⟩ ⟨m10, 0, none⟩ true h12 := fun h12 e12 hyes => by
        unfold F.xaj.j2
        refine ⟨fun _ => ?_, fun h => by cases h⟩
        have v12 := v11.e e12
        have e512 := e5b.trans e12
        have o1' : Blk h12 n10 #[o.enc] tn_Slapi_Row := e512.block o1 fun f => f
        refine ldL_of (Blk.cell (i := 0) o1' rfl) ⟨q.c, (Blk.cells b8b).ext e12, (atV q.vs ep).1, (Blk.cells b11).ext e12, ?_⟩
        have hsz : h5.size <= h12.size := e512.size
        have hrl : (rowsZ ep fr to (Z.take i)).length <= 1048576 := by
          unfold rowsZ
          have := List.length_filter_le (fun r : Rec => inS ep fr to (r.c, r.vs)) (Z.take i)
          rw [List.length_map]
          rw [List.length_take] at this
          omega
        have hh5 : hL.size + 1 < h5.size := (Array.getElem?_eq_some_iff.1 hx).1
        refine newL_of fun n14 h14 hn14 b14 e14 s14 => ?_
        refine app_list (L := rowsZ ep fr to (Z.take i)) (M := [rowS ep (q.c, q.vs)]) cW_len (by omega) el_Slapi_Row ((o2.ext e512).ext e14) (blk_reads b14 rfl) (fun x => ones_S_api_Row x) (by simp only [List.length_singleton]; omega) fun r15 h15 w15 o15 n15 => ?_
        have x14 : Blk h14 n10 #[o.enc] tn_Slapi_Row := e14.block o1' fun f => f
        have l10 := v.lt.2.2.2.2.1
        have hob : o.blk ≠ some n10 := fun e => by have := o3 _ e; omega
        have x15 : Blk h15 n10 #[o.enc] tn_Slapi_Row := o15.block x14 hob
        refine stH_of x15 (by simp) fun h16 b16 o16 s16 => ?_
        have r15n : ∀ y, r15.blk = some y -> hL.size + 2 <= y := fun y hy => by
          rcases n15 with n15 | ⟨y', n15, n16⟩
          · exact o3 y (by rw [← n15]; exact hy)
          · rw [n15] at hy; cases hy
            have := e14.size; omega
        have v14 := v12.e e14
        obtain ⟨_, _, _, _, _, _, lq, d2, d4, d6, d8, d12, dh⟩ := v.lt
        have lts := v.lt
        have no : ∀ m, m <= hL.size + 1 -> ¬ (o.blk = some m) := fun m hm e => by have := o3 m e; omega
        refine kK h16 ?_ (o16.block (o15.block (e14.block (e12.block x11 fun f => f) fun f => f) (no _ (Nat.le_refl _))) (by omega))
        have kp : ∀ {m : Nat} {y : Obj}, m <= hL.size -> m ≠ n10 -> h14[m]? = some y -> h16[m]? = some y := fun hm hne hy => o16.block (o15.block hy (no _ (by omega))) hne
        have o14 : Only (fun m => o.blk = some m ∨ m = n10) h14 h16 := (o15.mono fun _ _ e => .inl e).trans o16 fun _ _ e => .inr e
        refine ⟨v14.ext.step o14 fun m hm e => ?_, kp (by omega) d2 v14.b2, kp (by omega) d4 v14.b4, kp (by omega) d6 v14.b6, kp (by omega) d8 v14.b8, kp (by omega) d12 v14.b12, v14.sq.only o14 fun m hm e => ?_, kp (Nat.le_refl _) (by omega) v14.dfr, ⟨r15, b16, ?_, r15n⟩, ?_, ?_, lts⟩
        · have hle : h.size <= hL.size := by have := e013.size; omega
          rcases e with e | e
          · have := o3 m e; omega
          · omega
        · rcases e with e | e
          · have := o3 m e; have := (lq m hm).1; omega
          · exact (lq m hm).2 e
        · rw [hsn, hyes]
          exact w15.only o16 fun m hm e => by have := r15n m hm; omega
        · rw [hsn, hyes, List.length_append]
          simp only [if_true, List.length_singleton]
          rw [hlo] at g; omega
        · have := o14.size; have := v14.sz; omega
      refine ⟨fun g2 => ?_, fun g2 => ?_⟩
      · refine ⟨_, Blk.cell (i := 0) v11.b12 rfl, q.c, Blk.cells b8b, rng1_spec (Blk.cells v11.b4) (Blk.cells v11.b6) fun h12 e12 => ⟨_, rfl, ?_⟩⟩
        have hin : inS ep fr to (q.c, q.vs) = (decide (cmpC fr q.c <= 0) && decide (cmpC q.c to < 0)) := by
          unfold inS; rw [show (atV (q.c, q.vs).2 ep).2 = true from g2, Bool.true_and]
        rw [← hin]
        cases hi : inS ep fr to (q.c, q.vs) with
        | true => exact lay h12 e12 hi
        | false =>
          unfold F.xaj.j2
          exact ⟨fun h => (by cases h), fun _ => skip h12 e12 hi⟩
      · unfold F.xaj.j2
        refine ⟨fun h => (by cases h), fun _ => skip h11' (.refl _) ?_⟩
        unfold inS; rw [show (atV (q.c, q.vs).2 ep).2 = false from g2, Bool.false_and]
  · refine fin h' _ v ?_
    rw [keysZ_len, List.take_length, rows_toS]
    have hl := v.len
    rw [keysZ_len, List.take_length] at hl
    exact (List.take_of_length_le hl).symm
  · obtain ⟨rfl, i, v, hm⟩ := v
    refine ⟨_, rfl, fun _ => fin h' _ v ?_⟩
    rw [rows_toS]
    have hl := v.len
    obtain ⟨tl, htl⟩ := rows_pre ep fr to Z i
    rw [← htl]
    have : most.toNat = (rowsZ ep fr to (Z.take i)).length := by omega
    rw [this, List.take_left]
section
variable {W : List Ver -> Prop} {h h' : H} {n tn : Nat} {rs es : Sl} {T : Tb (Option Addr)} {Z : List Rec} {slots : Nat} {R : Nat -> Prop} {u t : Int}
theorem not_sh {h : H} {m : Nat} {c : Array Value} {e : TypeId} (b : Blk h m c e) (he : ¬ ShE e) : ¬ ShTy h m := fun ⟨e', h1, c', h2⟩ => he (by
  have := b.symm.trans h2
  simp at this
  rw [this.2]; exact h1)
end
section
variable {W W' : List Ver -> Prop} {h h' : H} {n tn : Nat} {rs es : Sl} {T : Tb (Option Addr)} {Z : List Rec} {slots : Nat} {R R' : Nat -> Prop} {u t : Int}
theorem SZG.turn (z : SZG W h n tn rs es T Z slots R u t) (hw : ∀ r ∈ Z, W r.vs -> W' r.vs) (hr : ∀ b, b < h.size -> R b -> R' b) : SZG W' h n tn rs es T Z slots R' u t := by
  obtain ⟨l1, l2, l3⟩ := z.f_lt
  exact { z with wf := fun r hr => ⟨(z.wf r hr).1, hw r hr (z.wf r hr).2⟩, rn := hr _ l1 z.rn, rt := hr _ (l2 _ (.inl rfl)) z.rt, rr := fun b hb => hr _ (l2 _ (.inr (.inl hb))) (z.rr b hb), re := fun b hb => hr _ (l2 _ (.inr (.inr hb))) (z.re b hb), rp := fun r hm => ⟨hr _ (l3 r hm).1 (z.rp r hm).1, fun x hx => hr _ ((l3 r hm).2 x hx) ((z.rp r hm).2 x hx)⟩ }
end
abbrev oneA (v : Int) : S_api_Agg := ⟨1, v, v, v⟩
theorem one_spec {h : H} {v : Int} {Q : S_api_Agg -> H -> Prop} (k : ∀ h', Ext h h' -> Q (oneA v) h') : F.xbw v h Q := by
  unfold F.xbw
  refine new_of fun m h1 hm b1 e1 s1 => ?_
  have b1' : Blk h1 m zA.cells.toArray tn_api_Agg := b1
  exact C.st_agg b1' (d := oneA v) fun h2 b2 o2 s2 => ⟨_, b2.cells, k h2 (e1.step o2 fun x hx hb => by omega)⟩
theorem right_one (a b c : Int) : RightIs ⟨1, a, b, c⟩ (decide (b = a ∧ c = a)) := fun h Q k => by
  unfold F.xbj
  refine new_of fun m h1 hm b1 e1 s1 => ?_
  have c0 : cellH h1 ⟨m, 0, none⟩ = some (.int .i64 1) := Blk.cells b1 0 _ rfl
  have c1 : cellH h1 ⟨m, 1, none⟩ = some (.int .i64 a) := Blk.cells b1 1 _ rfl
  have c2 : cellH h1 ⟨m, 2, none⟩ = some (.int .i64 b) := Blk.cells b1 2 _ rfl
  have c3 : cellH h1 ⟨m, 3, none⟩ = some (.int .i64 c) := Blk.cells b1 3 _ rfl
  simp only [add_lit, Nat.zero_add, Nat.add_zero]
  rw [ldI_iff c0]
  refine ⟨fun g => by have := of_decide_eq_true g; omega, fun _ => ?_⟩
  rw [ldI_iff c0]
  refine ⟨fun _ => ?_, fun g => by simp at g⟩
  rw [ldI_iff c2, ldI_iff c1]
  have k := k h1 e1
  refine ⟨fun g => ?_, fun g => ?_⟩
  · have g : b = a := by simpa using g
    rw [ldI_iff c3, ldI_iff c1]
    have : decide (b = a ∧ c = a) = (c == a) := by
      by_cases h : c = a <;> simp [g, h]
    rw [this] at k; exact k
  · have g : ¬ b = a := by simpa using g
    have : decide (b = a ∧ c = a) = false := by simp [g]
    rw [this] at k; exact k
theorem right_one' (v : Int) : RightIs (oneA v) true := by
  have := right_one v v v
  simpa using this
abbrev cA : Cel := ⟨0, ⟨#[97]⟩, 0⟩
theorem rowAt {h : H} {s : Sl} {A : List Rw} (rd : Reads h s 7 (A.flatMap cW)) {i : Nat} {x : Rw} (hx : A[i]? = some x) {K : Addr -> Prop} (k : ∀ a, Cells h a (cW x) -> K a) : idxA s (i : Int) 7 K := by
  obtain ⟨p, p1, p2, p3⟩ := rd_at cW_len (by omega) rd hx
  have hl := rd_len cW_len (by omega) rd
  exact idxR_of (i := i) p1 (by have := (List.getElem?_eq_some_iff.1 hx).1; omega) rfl (k _ p3)
structure St where
  x : S_spatelaw7_Step
  E : List Int
  C : List Cel
open Go Go.Proofs.YtjjchpaomgmmdaaGreat.V Go.Proofs.YtjjchpaomgmmdaaGreat.V.M
section
variable {α : Type} {key : α -> Cel}
theorem sortK_irr {S : List α} (hs : SortK key S) : S.Pairwise (· ≠ ·) := hs.imp fun h e => by subst e; rw [cC_self] at h; cases h
theorem sortK_ext : ∀ {A B : List α}, SortK key A -> SortK key B -> (∀ x, x ∈ A ↔ x ∈ B) -> A = B
  | [], [], _, _, _ => rfl
  | [], b :: B, _, _, h => by have := (h b).2 (List.mem_cons_self ..); cases this
  | a :: A, [], _, _, h => by have := (h a).1 (List.mem_cons_self ..); cases this
  | a :: A, b :: B, ha, hb, h => by
    have ha' := List.pairwise_cons.1 ha
    have hb' := List.pairwise_cons.1 hb
    have hab : a = b := by
      rcases List.mem_cons.1 ((h a).1 (List.mem_cons_self ..)) with h1 | h1
      · exact h1
      · rcases List.mem_cons.1 ((h b).2 (List.mem_cons_self ..)) with h2 | h2
        · exact h2.symm
        · have e1 := hb'.1 a h1
          have e2 := ha'.1 b h2
          rw [cC_anti, e2] at e1; cases e1
    subst hab
    have hA : a ∉ A := fun hm => by have := ha'.1 a hm; rw [cC_self] at this; cases this
    have hB : a ∉ B := fun hm => by have := hb'.1 a hm; rw [cC_self] at this; cases this
    rw [sortK_ext ha'.2 hb'.2 fun x => ⟨fun hx => ?_, fun hx => ?_⟩]
    · rcases List.mem_cons.1 ((h x).1 (List.mem_cons_of_mem _ hx)) with h1 | h1
      · subst h1; exact absurd hx hA
      · exact h1
    · rcases List.mem_cons.1 ((h x).2 (List.mem_cons_of_mem _ hx)) with h1 | h1
      · subst h1; exact absurd hx hB
      · exact h1
end
def rt (n : Nat) (c : Cel) : Nat := hashM c.Key % n
theorem rt_lt {n : Nat} (h : 0 < n) (c : Cel) : rt n c < n := Nat.mod_lt _ h
def partS (n k : Nat) (S : SL) : SL := S.filter fun x => decide (rt n x.1 = k)
theorem part_mem {n k : Nat} {S : SL} {x : Cel × List Ver} : x ∈ partS n k S ↔ x ∈ S ∧ rt n x.1 = k := by unfold partS; rw [List.mem_filter]; simp
theorem sort_setS {S : SL} (h : SortS S) (c : Cel) (vs : List Ver) : SortS (setS S c vs) := sort_set (key := fun x : Cel × List Ver => x.1) h
theorem part_set {n k : Nat} {S : SL} (h : SortS S) (c : Cel) (vs : List Ver) : partS n k (setS S c vs) = if rt n c = k then setS (partS n k S) c vs else partS n k S := by
  have hp : SortS (partS n k S) := List.Pairwise.filter _ h
  have hq : SortS (partS n k (setS S c vs)) := List.Pairwise.filter _ (sort_setS h c vs)
  have hm : ∀ x, x ∈ partS n k (setS S c vs) ↔ (x = (c, vs) ∨ (x ∈ S ∧ x.1 ≠ c)) ∧ rt n x.1 = k := fun x => by rw [part_mem, mem_set (key := fun x : Cel × List Ver => x.1) h]
  split
  · rename_i hc
    refine sortK_ext (key := fun x : Cel × List Ver => x.1) hq (sort_setS hp c vs) fun x => ?_
    rw [hm, mem_set (key := fun x : Cel × List Ver => x.1) hp, part_mem]
    constructor
    · rintro ⟨h1 | h1, h2⟩
      · exact .inl h1
      · exact .inr ⟨⟨h1.1, h2⟩, h1.2⟩
    · rintro (h1 | h1)
      · subst h1; exact ⟨.inl rfl, hc⟩
      · exact ⟨.inr ⟨h1.1.1, h1.2⟩, h1.1.2⟩
  · rename_i hc
    refine sortK_ext (key := fun x : Cel × List Ver => x.1) hq hp fun x => ?_
    rw [hm, part_mem]
    constructor
    · rintro ⟨h1 | h1, h2⟩
      · subst h1; exact absurd h2 hc
      · exact ⟨h1.1, h2⟩
    · rintro ⟨h1, h2⟩
      exact ⟨.inr ⟨h1, fun e => hc (by rw [← e]; exact h2)⟩, h2⟩
theorem part_get {n : Nat} {S : SL} (c : Cel) : getS (partS n (rt n c) S) c = getS S c := by
  unfold getS getK partS
  rw [List.find?_filter]
  congr 2
  funext x
  by_cases h : cmpC x.1 c = 0
  · have := cC_zero.1 h
    simp [this, cC_self]
  · simp [h]
theorem part_range {n k : Nat} {S : SL} (e : Int) (fr to : Cel) : rangeS (partS n k S) e fr to = (rangeS S e fr to).filter fun r => decide (rt n r.Cell = k) := by
  unfold rangeS partS
  rw [List.filter_map, List.filter_filter, List.filter_filter]
  congr 2
  funext x
  simp only [Function.comp, rowS]
  exact Bool.and_comm _ _
abbrev SortR (X : List S_api_Row) : Prop := SortK (fun r : S_api_Row => r.Cell) X
theorem range_sort {S : SL} (h : SOk S) (e : Int) (fr to : Cel) : SortR (rangeS S e fr to) := by
  unfold rangeS SortR SortK
  rw [List.pairwise_map]
  exact List.Pairwise.filter _ h.sort
theorem take_filter {α : Type} {X : List α} {m : Nat} {q : α -> Bool} {x : α} (hx : x ∈ X.take m) (hq : q x = true) : x ∈ (X.filter q).take m := by
  have e : X.filter q = (X.take m).filter q ++ (X.drop m).filter q := by rw [← List.filter_append, List.take_append_drop]
  rw [e, List.take_append]
  refine List.mem_append_left _ ?_
  rw [List.take_of_length_le (Nat.le_trans (List.length_filter_le _ _) (by rw [List.length_take]; omega))]
  exact List.mem_filter.2 ⟨hx, hq⟩
theorem filter_take {α : Type} {X : List α} {m : Nat} {p : α -> Bool} (h : ∀ x ∈ X.take m, p x = true) : (X.filter p).take m = X.take m := by
  have e : X.filter p = X.take m ++ (X.drop m).filter p := by
    conv => lhs; rw [← List.take_append_drop m X, List.filter_append]
    rw [List.filter_eq_self.2 h]
  rw [e, List.take_append]
  by_cases hm : m <= X.length
  · rw [show m - (X.take m).length = 0 by rw [List.length_take]; omega, List.take_zero, List.append_nil, List.take_take, Nat.min_self]
  · rw [List.drop_eq_nil_of_le (by omega), List.filter_nil, List.take_nil, List.append_nil, List.take_take, Nat.min_self]
theorem mAll_mem {Ls : List (List S_api_Row)} {x : S_api_Row} : x ∈ mR Ls ↔ ∃ l ∈ Ls, x ∈ l := by
  unfold mR mAll
  induction Ls with
  | nil => simp
  | cons l Ls ih => rw [List.foldr_cons, List.mem_merge, ih]; simp
theorem leC_trans (a b c : S_api_Row) (h1 : leC a b = true) (h2 : leC b c = true) : leC a c = true := by
  unfold leC at *
  exact decide_eq_true (cC_le_trans (of_decide_eq_true h1) (of_decide_eq_true h2))
theorem leC_total (a b : S_api_Row) : (leC a b || leC b a) = true := by
  unfold leC
  have := cC_anti a.Cell b.Cell
  have := cC_range a.Cell b.Cell
  simp only [Bool.or_eq_true, decide_eq_true_eq]
  omega
theorem mAll_le {Ls : List (List S_api_Row)} (h : ∀ l ∈ Ls, l.Pairwise fun a b => leC a b = true) : (mR Ls).Pairwise fun a b => leC a b = true := by
  unfold mR mAll
  induction Ls with
  | nil => simp
  | cons l Ls ih =>
    rw [List.foldr_cons]
    exact List.pairwise_merge leC_trans leC_total _ _ (h l (List.mem_cons_self ..)) (ih fun x hx => h x (List.mem_cons_of_mem _ hx))
theorem mAll_perm : ∀ Ls : List (List S_api_Row), (mR Ls).Perm Ls.flatten
  | [] => .refl _
  | l :: Ls => by
    unfold mR mAll
    rw [List.foldr_cons, List.flatten_cons]
    exact (List.merge_perm_append leC).trans ((mAll_perm Ls).append_left l)
theorem sort_le {X : List S_api_Row} (h : SortR X) : X.Pairwise fun a b => leC a b = true := h.imp fun hh => by unfold leC; rw [hh]; rfl
theorem scan_law {X : List S_api_Row} (hX : SortR X) {n : Nat} (hn : 0 < n) (m : Nat) : (mR ((List.range n).map fun k => (X.filter fun r => decide (rt n r.Cell = k)).take m)).take m = X.take m := by
  classical
  generalize hL : ((List.range n).map fun k => (X.filter fun r => decide (rt n r.Cell = k)).take m) = Ls
  have hmem : ∀ x, x ∈ mR Ls ↔ ∃ k, k < n ∧ x ∈ (X.filter fun r => decide (rt n r.Cell = k)).take m := fun x => by
    rw [mAll_mem, ← hL]
    constructor
    · rintro ⟨l, hl, hx⟩
      obtain ⟨k, hk, rfl⟩ := List.mem_map.1 hl
      exact ⟨k, List.mem_range.1 hk, hx⟩
    · rintro ⟨k, hk, hx⟩
      exact ⟨_, List.mem_map.2 ⟨k, List.mem_range.2 hk, rfl⟩, hx⟩
  have sub : ∀ x, x ∈ mR Ls -> x ∈ X := fun x hx => by
    obtain ⟨k, _, hk⟩ := (hmem x).1 hx
    exact (List.mem_filter.1 (List.mem_of_mem_take hk)).1
  -- nothing stands in it twice
  have nd : (mR Ls).Nodup := by
    refine (mAll_perm Ls).nodup_iff.2 ?_
    unfold List.Nodup
    rw [List.pairwise_flatten]
    refine ⟨fun l hl => ?_, ?_⟩
    · rw [← hL] at hl
      obtain ⟨k, _, rfl⟩ := List.mem_map.1 hl
      exact List.Pairwise.sublist ((List.take_sublist _ _).trans List.filter_sublist) (sortK_irr hX)
    · rw [← hL, List.pairwise_map]
      refine List.Pairwise.imp ?_ List.nodup_range
      intro a b hab
      refine fun x h1 y h2 he => hab ?_
      subst he
      have h1 := (List.mem_filter.1 (List.mem_of_mem_take h1)).2
      have h2 := (List.mem_filter.1 (List.mem_of_mem_take h2)).2
      rw [decide_eq_true_eq] at h1 h2
      rw [← h1, ← h2]
  have inj : ∀ a b, a ∈ X -> b ∈ X -> a.Cell = b.Cell -> a = b := fun a b ha hb he => by
    have h1 := getK_mem (key := fun r : S_api_Row => r.Cell) hX ha
    have h2 := getK_mem (key := fun r : S_api_Row => r.Cell) hX hb
    rw [he] at h1
    rw [h1] at h2
    exact Option.some.inj h2
  have srt : SortR (mR Ls) := by
    have h1 : (mR Ls).Pairwise fun a b => leC a b = true := mAll_le fun l hl => by
      rw [← hL] at hl
      obtain ⟨k, _, rfl⟩ := List.mem_map.1 hl
      exact List.Pairwise.sublist ((List.take_sublist _ _).trans List.filter_sublist) (sort_le hX)
    have h2 := List.Pairwise.and h1 nd
    refine h2.imp_of_mem ?_
    intro a b ha hb ⟨hl, hne⟩
    have hl : cmpC a.Cell b.Cell <= 0 := of_decide_eq_true hl
    rcases cC_range a.Cell b.Cell with h | h | h
    · exact h
    · exact absurd (inj a b (sub a ha) (sub b hb) (cC_zero.1 h)) hne
    · omega
  have hf : mR Ls = X.filter fun r => decide (r ∈ mR Ls) := by
    refine sortK_ext (key := fun r : S_api_Row => r.Cell) srt (List.Pairwise.filter _ hX) fun x => ?_
    rw [List.mem_filter, decide_eq_true_eq]
    exact ⟨fun h => ⟨sub x h, h⟩, fun h => h.2⟩
  rw [hf]
  refine filter_take fun x hx => decide_eq_true ((hmem x).2 ⟨rt n x.Cell, rt_lt hn _, take_filter hx (decide_eq_true rfl)⟩)
theorem sum_zero {f : Nat -> Nat} : ∀ n, (∀ k, k < n -> f k = 0) -> ((List.range n).map f).sum = 0
  | 0, _ => rfl
  | n + 1, h => by rw [List.range_succ, List.map_append, List.sum_append, sum_zero n fun k hk => h k (by omega)]; simp [h n (by omega)]
theorem sum_one {f g : Nat -> Nat} {j d : Nat} : ∀ n, (∀ k, k < n -> f k = g k + if k = j then d else 0) -> j < n -> ((List.range n).map f).sum = ((List.range n).map g).sum + d
  | 0, _, h => by omega
  | n + 1, h, hj => by
    rw [List.range_succ, List.map_append, List.sum_append, List.map_append, List.sum_append]
    by_cases hn : j < n
    · rw [sum_one n (fun k hk => h k (by omega)) hn]
      have := h n (by omega)
      rw [if_neg (by omega)] at this
      simp [this]; omega
    · have hjn : j = n := by omega
      have e : (List.range n).map f = (List.range n).map g := List.map_congr_left fun k hk => by
        have hk := List.mem_range.1 hk
        rw [h k (by omega), if_neg (by omega)]; rfl
      have := h n (by omega)
      rw [if_pos hjn.symm] at this
      simp [e, this]; omega
theorem part_cons {n k : Nat} {x : Cel × List Ver} {S : SL} : partS n k (x :: S) = if rt n x.1 = k then x :: partS n k S else partS n k S := by
  unfold partS; rw [List.filter_cons]
  by_cases h : rt n x.1 = k <;> simp [h]
theorem sum_parts {n : Nat} (hn : 0 < n) (f : Cel × List Ver -> Nat) : ∀ S : SL, ((List.range n).map fun k => ((partS n k S).map f).sum).sum = (S.map f).sum
  | [] => sum_zero n fun k _ => rfl
  | x :: S => by
    rw [sum_one (g := fun k => ((partS n k S).map f).sum) (j := rt n x.1) (d := f x) n (fun k hk => ?_) (rt_lt hn _), sum_parts hn f S, List.map_cons, List.sum_cons]
    · omega
    · show ((partS n k (x :: S)).map f).sum = ((partS n k S).map f).sum + if k = rt n x.1 then f x else 0
      rw [part_cons]
      by_cases h : rt n x.1 = k
      · rw [if_pos h, if_pos h.symm, List.map_cons, List.sum_cons]; omega
      · rw [if_neg h, if_neg (fun e => h e.symm)]; rfl
end Go.Proofs.YtjjchpaomgmmdaaGreat.V.S
namespace Go.Proofs.YtjjchpaomgmmdaaGreat.V
open Go
set_option linter.unusedVariables false
set_option linter.unusedSimpArgs false
section
variable {T : Type} {P : Program} {enc : TypeId × Value -> T} {w : World} {base : Nat} {spare : Nat -> Bool} {held : Bool} {fuel : Nat}
theorem cells_of {a : Addr} {n : Nat} {cs : List Value} (h : w.cells? base a n = some cs) : cs.length = n ∧ ∀ j v, cs[j]? = some v -> w.cell? (a.add j) = some v := by
  obtain ⟨h1, h2, h3⟩ := World.cells?_some h
  refine ⟨h2, fun j v hv => ?_⟩
  have hj : j < n := by rw [← h2]; exact (List.getElem?_eq_some_iff.1 hv).1
  rw [h3 j hj, hv]
theorem open_slice {t e : TypeId} {k : Nat} {v : Value} {x : DataW T × List MemPlace} (G : List Value -> Prop) (ht : P.underlying t = some (.slice e)) (hk : P.cellsOf e = k) (hk0 : 0 < k) (h : DataW.trod enc P w base spare held fuel t [v] = some x)
    (hG : ∀ n cs y, DataW.trod enc P w base spare held n e cs = some y -> cs.length = k -> G cs) :
    ∃ s : Sl, v = s.enc ∧ s.len <= s.cap ∧ s.cap <= maxLen ∧ ∃ CS : List (List Value), CS.length = s.len ∧ (∀ c ∈ CS, c.length = k ∧ G c) ∧ Reads w.heap s k CS.flatten ∧ (CS ≠ [] -> ∀ b, s.blk = some b -> b < w.heap.size) := by
  rcases DataW.trod_slice ht h with ⟨h0, _⟩ | ⟨a, len, cap, elems, rest, n, _, h0, _, hb, hl, hm, hlen, hel, _, _⟩
  · simp at h0; subst h0
    exact ⟨⟨none, 0, 0⟩, rfl, Nat.le_refl _, Nat.zero_le _, [], rfl, (fun c hc => by cases hc), ⟨by simp, fun _ => ⟨rfl, rfl⟩, fun i v hv => by simp at hv⟩, fun h => absurd rfl h⟩
  · simp at h0; subst h0
    rw [hk] at hel
    have each : ∀ i, i < len -> ∃ cs, w.cells? base (a.add (i * k)) k = some cs ∧ G cs := fun i hi => by
      have hx := hel i hi
      rw [List.getElem?_eq_getElem (by omega), Option.bind_eq_some_iff] at hx
      obtain ⟨cs, hc, ht'⟩ := hx
      exact ⟨cs, hc, hG _ _ _ ht' (cells_of hc).1⟩
    obtain ⟨CS, hCS, hall⟩ : ∃ CS : List (List Value), CS.length = len ∧ ∀ i c, CS[i]? = some c -> w.cells? base (a.add (i * k)) k = some c ∧ G c := by
      clear hel h
      have : ∀ m, m <= len -> ∃ CS : List (List Value), CS.length = m ∧ ∀ i c, CS[i]? = some c -> w.cells? base (a.add (i * k)) k = some c ∧ G c := fun m => by
        induction m with
        | zero => intro _; exact ⟨[], rfl, fun i c hc => by simp at hc⟩
        | succ m ih =>
          intro hm2
          obtain ⟨CS, h1, h2⟩ := ih (by omega)
          obtain ⟨c, h3, h4⟩ := each m (by omega)
          refine ⟨CS ++ [c], by simp [h1], fun i d hd => ?_⟩
          by_cases hi : i < CS.length
          · rw [List.getElem?_append_left hi] at hd; exact h2 i d hd
          · rw [List.getElem?_append_right (by omega)] at hd
            have hi2 : i - CS.length = 0 := by
              have := (List.getElem?_eq_some_iff.1 hd).1
              simp at this; omega
            rw [hi2] at hd; simp at hd; subst hd
            have : i = m := by omega
            subst this; exact ⟨h3, h4⟩
      exact this len (Nat.le_refl _)
    have hlen' : ∀ c ∈ CS, c.length = k ∧ G c := fun c hc => by
      obtain ⟨i, hi⟩ := List.mem_iff_getElem?.1 hc
      exact ⟨(cells_of (hall i c hi).1).1, (hall i c hi).2⟩
    have hspot : 0 < len -> a.spot = none ∧ a.block < w.heap.size := fun h0 => by
      obtain ⟨c, hc⟩ : ∃ c, CS[0]? = some c := ⟨_, List.getElem?_eq_getElem (by omega)⟩
      obtain ⟨h1, h2⟩ := cells_of (hall 0 c hc).1
      obtain ⟨v, hv⟩ : ∃ v, c[0]? = some v := ⟨_, List.getElem?_eq_getElem (by omega)⟩
      have hcell : cellH w.heap ((a.add (0 * k)).add 0) = some v := h2 0 v hv
      have e0 : ∀ p : Addr, p.add 0 = p := fun p => by unfold Addr.add; split <;> simp_all
      rw [Nat.zero_mul, e0, e0] at hcell
      unfold cellH at hcell
      split at hcell
      · rename_i hh
        refine ⟨?_, (Array.getElem?_eq_some_iff.1 hh).1⟩
        cases hs : a.spot with
        | none => rfl
        | some s => rw [hs] at hcell; simp at hcell
      · cases hcell
    refine ⟨⟨some a, len, cap⟩, rfl, hl, hm, CS, hCS, hlen', ⟨?_, (fun h => by cases h), fun i v hv => ?_⟩, fun hne b hb => ?_⟩
    · rw [← hCS]
      have : ∀ (L : List (List Value)), (∀ c ∈ L, c.length = k) -> L.flatten.length = L.length * k := fun L => by
        induction L with
        | nil => intro _; simp
        | cons c r ih => intro hL; simp [hL c (by simp), ih fun c hc => hL c (List.mem_cons_of_mem _ hc), Nat.add_mul]; omega
      exact this CS fun c hc => (hlen' c hc).1
    · have : ∀ (L : List (List Value)) (m : Nat), (∀ c ∈ L, c.length = k) -> (∀ i c, L[i]? = some c -> ∀ j v, c[j]? = some v -> w.cell? (a.add ((m + i) * k + j)) = some v) -> ∀ i v, L.flatten[i]? = some v -> w.cell? (a.add (m * k + i)) = some v := fun L => by
        induction L with
        | nil => intro m _ _ i v hv; simp at hv
        | cons c r ih =>
          intro m hL hc i v hv
          have hcl := hL c (by simp)
          rw [List.flatten_cons] at hv
          by_cases hi : i < c.length
          · rw [List.getElem?_append_left hi] at hv
            exact hc 0 c rfl i v hv
          · rw [List.getElem?_append_right (by omega)] at hv
            have := ih (m + 1) (fun c hc => hL c (List.mem_cons_of_mem _ hc)) (fun i d hd j v hj => by
              have := hc (i + 1) d (by simpa using hd) j v hj
              rwa [show m + (i + 1) = m + 1 + i from by omega] at this) _ v hv
            rwa [show (m + 1) * k + (i - c.length) = m * k + i from by rw [Nat.add_mul]; omega] at this
      have hlt : 0 < len := by
        rcases Nat.eq_zero_or_pos len with h0 | h0
        · have : CS = [] := List.eq_nil_of_length_eq_zero (by omega)
          subst this; simp at hv
        · exact h0
      obtain ⟨hsp, _⟩ := hspot hlt
      refine ⟨a, rfl, hsp, ?_⟩
      have := this CS 0 (fun c hc => (hlen' c hc).1) (fun i c hc j v hj => by
        have h1 := (cells_of (hall i c hc).1).2 j v hj
        obtain ⟨ab, ao, asp⟩ := a
        simp only at hsp; subst hsp
        rw [add_lit, add_lit] at h1
        rw [add_lit, Nat.zero_add, ← Nat.add_assoc]; exact h1) i v hv
      rw [Nat.zero_mul, Nat.zero_add] at this
      exact this
    · simp [Sl.blk] at hb
      subst hb
      have : 0 < len := by
        rw [← hCS]; exact List.length_pos_iff.2 hne
      exact (hspot this).2
end
end Go.Proofs.YtjjchpaomgmmdaaGreat.V
namespace Go.Proofs.YtjjchpaomgmmdaaGreat.V.S
open Go Go.Proofs.YtjjchpaomgmmdaaGreat.V
set_option linter.unusedVariables false
set_option linter.unusedSimpArgs false
section
variable {T : Type} {enc : TypeId × Value -> T} {w : World} {base : Nat} {spare : Nat -> Bool} {held : Bool} {fuel : Nat}
theorem gen_open {α : Type} (f : α -> List Value) (ok : α -> Prop) {t e : TypeId} {k : Nat} {v : Value} {y : DataW T × List MemPlace} (hf : ∀ x, (f x).length = k) (ht : PP.underlying t = some (.slice e)) (hk : PP.cellsOf e = k) (hk0 : 0 < k) (h : DataW.trod enc PP w base spare held fuel t [v] = some y)
    (hG : ∀ n cs y, DataW.trod enc PP w base spare held n e cs = some y -> cs.length = k -> ∃ x, cs = f x ∧ ok x) :
    ∃ (s : Sl) (L : List α), v = s.enc ∧ Reads w.heap s k (L.flatMap f) ∧ s.len <= s.cap ∧ (L ≠ [] -> ∀ b, s.blk = some b -> b < w.heap.size) ∧ (∀ x ∈ L, ok x) ∧ L.length <= 9223372036854775807 := by
  obtain ⟨s, h1, h2, h3, CS, h4, h5, h6, h7⟩ := open_slice (fun cs => ∃ x : α, cs = f x ∧ ok x) ht hk hk0 h fun n cs y hy hl => hG n cs y hy hl
  have : ∀ (L : List (List Value)), (∀ c ∈ L, c.length = k ∧ ∃ x : α, c = f x ∧ ok x) -> ∃ S : List α, L = S.map f ∧ ∀ x ∈ S, ok x := fun L => by
    induction L with
    | nil => intro _; exact ⟨[], rfl, fun n hn => by cases hn⟩
    | cons c r ih =>
      intro hL
      obtain ⟨E, h1, h2⟩ := ih fun c hc => hL c (List.mem_cons_of_mem _ hc)
      obtain ⟨_, n, rfl, hn⟩ := hL c (by simp)
      refine ⟨n :: E, by rw [h1]; rfl, fun m hm => ?_⟩
      rcases List.mem_cons.1 hm with e | e
      · subst e; exact hn
      · exact h2 m e
  obtain ⟨S, rfl, hS⟩ := this CS h5
  have hr : Reads w.heap s k (S.flatMap f) := by rw [List.flatMap_def]; exact h6
  refine ⟨s, S, h1, hr, h2, fun hn b hb => h7 (by simpa using hn) b hb, hS, ?_⟩
  have := rd_len hf hk0 hr
  simp only [maxLen] at h3; omega
end
set_option maxRecDepth 20000
theorem row_cell {h : H} {a : Addr} {x : Rw} (c : Cells h a (cW x)) : Cells h (a.add 0) x.Cell.cells := fun i v hv => by
  have hi : i < 3 := (List.getElem?_eq_some_iff.1 hv).1
  have := c i v (by
    match i, hi, hv with
    | 0, _, hv => exact hv
    | 1, _, hv => exact hv
    | 2, _, hv => exact hv)
  have e : (a.add 0).add i = a.add i := by simp [Addr.add]
  rw [e]; exact this
end Go.Proofs.YtjjchpaomgmmdaaGreat.V.S
namespace Go.Proofs.YtjjchpaomgmmdaaGreat.V
open Go
set_option linter.unusedVariables false
set_option linter.unusedSimpArgs false
abbrev cS8 (s : Sl) : List Value := [s.enc]
theorem cS8_len (s : Sl) : (cS8 s).length = 1 := rfl
theorem own_typ {h h' : H} {s r : Sl} {e e' : TypeId} {k k' : Nat} {cs ds : List Value} (w : Owns h r e k cs) (o : Only (fun b => s.blk = some b) h h') (ws : Owns h s e' k' ds) (he : e ≠ e') : Owns h' r e k cs := w.only o fun y hy hb => by
  obtain ⟨_, ⟨q1, q2, q3⟩ | ⟨b', c', q1, q2, _⟩⟩ := w
  · simp [Sl.blk, q1] at hy
  · simp [Sl.blk, q1] at hy
    subst hy
    exact own_neG ws q2 (fun e => he e.symm) hb
section
variable {α : Type} {f : α -> List Value} {kk : Nat} {e : TypeId} {base h h' : H} {Z : List (Sl × List α)}
end
end Go.Proofs.YtjjchpaomgmmdaaGreat.V
namespace Go.Proofs.YtjjchpaomgmmdaaGreat.V.S
open Go Go.Proofs.YtjjchpaomgmmdaaGreat.V
set_option linter.unusedVariables false
set_option linter.unusedSimpArgs false
set_option maxRecDepth 20000
theorem SH.turn {h : H} {n : Nat} {S : SL} {slots : Nat} {R R' : Nat -> Prop} (s : SH h n S slots R) (hr : ∀ b, b < h.size -> R b -> R' b) : SH h n S slots R' := by
  obtain ⟨tn, rs, es, T, Z, hZ, z⟩ := s
  exact ⟨tn, rs, es, T, Z, hZ, z.turn (fun r hr h => h) hr⟩
theorem own_nsh {h : H} {t : Sl} {e : TypeId} {k : Nat} {cs : List Value} (w : Owns h t e k cs) (he : ¬ ShE e) {b : Nat} (hb : t.blk = some b) : ¬ ShTy h b := by
  obtain ⟨_, ⟨q1, _, _⟩ | ⟨b', c', q1, q2, _⟩⟩ := w
  · simp [Sl.blk, q1] at hb
  · simp [Sl.blk, q1] at hb
    subst hb
    exact not_sh q2 he
open Go Go.Proofs.YtjjchpaomgmmdaaGreat.V Go.Proofs.YtjjchpaomgmmdaaGreat.V.M
abbrev tSt : TypeId := tn_store_Store
abbrev tPs : TypeId := tp_shard_Shard
abbrev cQ (q : Nat) : List Value := [.pointer (some ⟨q, 0, none⟩)]
theorem cQ_len (q : Nat) : (cQ q).length = 1 := rfl
theorem st_sh : ¬ ShE tSt := by unfold ShE; decide
theorem ps_sh : ¬ ShE tPs := by unfold ShE; decide
theorem sty_lt {h : H} {b : Nat} (t : ShTy h b) : b < h.size := by
  obtain ⟨e, _, c, hc⟩ := t
  exact block_lt hc
structure TS (h : H) (p : Nat) (l : Sl) (ps : List Nat) (S : SL) (slots : Nat) (R : Nat -> Prop) : Prop where
  ok : SOk S
  n1 : 1 <= ps.length
  n2 : ps.length <= 16
  sb : Blk h p #[l.enc] tSt
  own : Owns h l tPs 1 (ps.flatMap cQ)
  lt : ∀ b, R b -> b < h.size
  ex : ∃ Rk : Nat -> Nat -> Prop, (∀ k q, ps[k]? = some q -> SH h q (partS ps.length k S) slots (Rk k)) ∧ (∀ k b, k < ps.length -> Rk k b -> R b) ∧ (∀ j k b, j < ps.length -> k < ps.length -> Rk j b -> Rk k b -> j = k)
section
variable {h h' : H} {p : Nat} {l : Sl} {ps : List Nat} {S : SL} {slots : Nat} {R : Nat -> Prop}
theorem TS.keep {P : Nat -> Prop} (t : TS h p l ps S slots R) (o : Only P h h') (hn : ∀ b, R b -> ShTy h b -> ¬ P b) (h1 : ¬ P p) (h2 : ∀ b, l.blk = some b -> ¬ P b) : TS h' p l ps S slots R := by
  obtain ⟨Rk, e1, e2, e3⟩ := t.ex
  exact ⟨t.ok, t.n1, t.n2, o.block t.sb h1, t.own.only o fun b hb => h2 b hb, fun b hb => Nat.lt_of_lt_of_le (t.lt b hb) o.size, Rk, fun k q hq => (e1 k q hq).keep o fun b hb ht => hn b (e2 k b (List.getElem?_eq_some_iff.1 hq).1 hb) ht, e2, e3⟩
theorem TS.ext (t : TS h p l ps S slots R) (e : Ext h h') : TS h' p l ps S slots R := t.keep e (fun _ _ _ f => f) (fun f => f) fun _ _ f => f
theorem TS.len (t : TS h p l ps S slots R) : l.len = ps.length := own_len cQ_len (by omega) t.own
theorem TS.ldl (t : TS h p l ps S slots R) {K : Sl -> Prop} (k : K l) : ldL h ⟨p, 0, none⟩ K := (ldL_iff (t.sb.cell (i := 0) rfl)).2 k
theorem TS.at (t : TS h p l ps S slots R) {i q : Nat} (hq : ps[i]? = some q) {K : Option Addr -> Prop} (k : K (some ⟨q, 0, none⟩)) : idxA l (i : Int) 1 fun a => ldP h a K := by
  obtain ⟨r, r1, r2, r3⟩ := rd_at cQ_len (by omega) t.own.reads hq
  have hl := t.len
  refine idxR_of (i := i) r1 (by have := (List.getElem?_eq_some_iff.1 hq).1; omega) rfl ?_
  rw [Nat.mul_one] at r3 ⊢
  exact ldP_of (by have := r3 0 _ rfl; exact this) k
theorem TS.sh (t : TS h p l ps S slots R) {i q : Nat} (hq : ps[i]? = some q) : ∃ R0, SH h q (partS ps.length i S) slots R0 := by
  obtain ⟨Rk, e1, _⟩ := t.ex
  exact ⟨_, e1 i q hq⟩
theorem TS.op (t : TS h p l ps S slots R) {i q : Nat} (hq : ps[i]? = some q) : ∃ R0 : Nat -> Prop, SH h q (partS ps.length i S) slots R0 ∧ (∀ b, h.size <= b -> R0 b) ∧ (∀ b, R0 b -> R b ∨ h.size <= b) ∧
    ∀ h' S', SortS S' -> SH h' q (partS ps.length i S') slots R0 -> SOnly R0 h h' -> (∀ j, j < ps.length -> j ≠ i -> partS ps.length j S' = partS ps.length j S) ->
      ∃ R', TS h' p l ps S' slots R' ∧ SOnly R h h' ∧ ∀ b, R' b -> R b ∨ h.size <= b := by
  obtain ⟨Rk, e1, e2, e3⟩ := t.ex
  have hi : i < ps.length := (List.getElem?_eq_some_iff.1 hq).1
  refine ⟨fun b => Rk i b ∨ h.size <= b, (e1 i q hq).turn fun b _ hb => .inl hb, fun b hb => .inr hb, fun b hb => hb.imp (e2 i b hi) id, fun h' S' srt sh' o oth => ?_⟩
  have o' : SOnly R h h' := o.mono fun b hb g => ⟨g.1.elim (e2 i b hi) (fun x => by omega), g.2⟩
  have hsz := o.size
  refine ⟨fun b => R b ∨ (h.size <= b ∧ b < h'.size), ⟨⟨srt, fun x hx => ?_⟩, t.n1, t.n2, o.block t.sb (fun g => not_sh t.sb st_sh g.2), t.own.only o fun b hb g => own_nsh t.own ps_sh hb g.2, fun b hb => ?_, fun j b => if j = i then (Rk i b ∨ h.size <= b) ∧ b < h'.size else Rk j b, fun k q' hq' => ?_, fun k b hk hb => ?_, fun j k b hj hk h1 h2 => ?_⟩, o', fun b hb => hb.imp id (·.1)⟩
  · -- each of them is fine
    have hlt := rt_lt (show 0 < ps.length by omega) x.1
    have hm : x ∈ partS ps.length (rt ps.length x.1) S' := part_mem.2 ⟨hx, rfl⟩
    by_cases hr : rt ps.length x.1 = i
    · rw [hr] at hm; exact sh'.ok.ok x hm
    · rw [oth _ hlt hr] at hm; exact t.ok.ok x (part_mem.1 hm).1
  · rcases hb with hb | hb
    · have := t.lt b hb; omega
    · exact hb.2
  · by_cases hk : k = i
    · subst hk
      rw [hq] at hq'; cases hq'
      simp only [if_pos]
      exact sh'.turn fun b hb hr => ⟨hr, hb⟩
    · have hkl := (List.getElem?_eq_some_iff.1 hq').1
      simp only [if_neg hk]
      rw [oth k hkl hk]
      refine (e1 k q' hq').keep o fun b hb ht g => g.1.elim (fun x => hk (e3 k i b hkl hi hb x)) fun x => ?_
      have := sty_lt ht; omega
  · by_cases hki : k = i
    · simp only [if_pos hki] at hb
      rcases hb.1 with g | g
      · exact .inl (e2 i b hi g)
      · exact .inr ⟨g, hb.2⟩
    · simp only [if_neg hki] at hb
      exact .inl (e2 k b hk hb)
  · have old : ∀ k, k < ps.length -> Rk k b -> b < h.size := fun k hk g => t.lt b (e2 k b hk g)
    by_cases hji : j = i
    · by_cases hki : k = i
      · omega
      · simp only [if_pos hji] at h1
        simp only [if_neg hki] at h2
        have := old k hk h2
        rcases h1.1 with g | g
        · rw [hji]; exact (e3 k i b hk hi h2 g).symm
        · omega
    · by_cases hki : k = i
      · simp only [if_neg hji] at h1
        simp only [if_pos hki] at h2
        have := old j hj h1
        rcases h2.1 with g | g
        · rw [hki]; exact e3 j i b hj hi h1 g
        · omega
      · simp only [if_neg hji] at h1
        simp only [if_neg hki] at h2
        exact e3 j k b hj hk h1 h2
abbrev KeyOk (c : Cel) : Prop := c.Key.size <= 9223372036854775807
theorem rt_wrap {n x : Nat} (h0 : 0 < n) (hn : n <= 16) : IntKind.wrap .u64 (n : Int) = (n : Int) ∧ IntKind.wrap .i64 (Int.tmod (x : Int) (n : Int)) = ((x % n : Nat) : Int) := by
  have := Nat.mod_lt x h0
  refine ⟨by rw [wrap_u64]; omega, ?_⟩
  rw [← Int.ofNat_tmod, w64 (by omega) (by omega)]
theorem TRoute {c : Cel} {Q : Int -> H -> Prop} (t : TS h p l ps S slots R) (hk : KeyOk c) (k : ∀ h', Ext h h' -> Q ((rt ps.length c : Nat) : Int) h') : F.xbm (some ⟨p, 0, none⟩) c.Key h Q := by
  unfold F.xbm
  simp only [nn_some, add_lit, Nat.add_zero]
  have h1 := t.n1
  refine t.ldl (Hash_spec hk fun h5 e5 => ⟨(t.ext e5).sb.cell (i := 0) rfl, ?_⟩)
  obtain ⟨q1, q2⟩ := rt_wrap (x := hashM c.Key) (show 0 < ps.length by omega) t.n2
  rw [t.len, q1]
  refine ⟨by omega, ?_⟩
  rw [q2]
  exact k h5 e5
theorem TS.has (t : TS h p l ps S slots R) (c : Cel) : ∃ q, ps[rt ps.length c]? = some q := ⟨_, List.getElem?_eq_getElem (rt_lt (by have := t.n1; omega) c)⟩
theorem TOf {c : Cel} {q : Nat} {Q : Option Addr -> H -> Prop} (t : TS h p l ps S slots R) (hk : KeyOk c) (hq : ps[rt ps.length c]? = some q) (k : ∀ h', Ext h h' -> Q (some ⟨q, 0, none⟩) h') : F.xbz (some ⟨p, 0, none⟩) c h Q := by
  unfold F.xbz
  refine new_of fun m h1 hm b1 e1 s1 => ?_
  have t1 := t.ext e1
  have c1 : cellH h1 ⟨m, 1, none⟩ = some (.string c.Key) := Blk.cells b1 1 _ rfl
  simp only [nn_some, add_lit, Nat.add_zero, Nat.zero_add]
  refine t1.ldl ((ldS_iff c1).2 (TRoute t1 hk fun h9 e9 => ⟨(t1.ext e9).sb.cell (i := 0) rfl, (t1.ext e9).at hq (k h9 (e1.trans e9))⟩))
end
theorem part_nil (n k : Nat) : partS n k [] = [] := rfl
theorem TNew {h : H} {m sl : Int} {Q : Option Addr -> Int -> H -> Prop} (k0 : (m < 1 ∨ m > 16 ∨ sl < 2 ∨ sl > 1048576) -> Q none 1 h)
    (k1 : 1 <= m -> m <= 16 -> 2 <= sl -> sl <= 1048576 -> ∀ h' p l ps R, (ps.length : Int) = m -> TS h' p l ps [] sl.toNat R -> Ext h h' -> (∀ b, R b -> h.size <= b) -> h.size <= p -> Mine h l -> Q (some ⟨p, 0, none⟩) 0 h') : F.xai m sl h Q := by
  have bad : (m < 1 ∨ m > 16 ∨ sl < 2 ∨ sl > 1048576) -> F.xai.j3 Q m sl true h := fun g => by
    unfold F.xai.j3
    exact ⟨fun _ => k0 g, fun g => by cases g⟩
  unfold F.xai
  refine ⟨fun g => bad (by have := of_decide_eq_true g; omega), fun g1 => ⟨fun g => bad (by have := of_decide_eq_true g; omega), fun g2 => ⟨fun g => bad (by have := of_decide_eq_true g; omega), fun g3 => ?_⟩⟩⟩
  have g1 := of_decide_eq_false g1
  have g2 := of_decide_eq_false g2
  have g3 := of_decide_eq_false g3
  unfold F.xai.j3
  refine ⟨fun g => k0 (by have := of_decide_eq_true g; omega), fun g4 => ?_⟩
  have g4 := of_decide_eq_false g4
  unfold F.xai.j1
  refine new_of fun p h1 hp b1 e1 s1 => ⟨m.toNat + 1, ?_⟩
  have key : ∀ (d i : Nat) (hh : H) (l : Sl) (ps : List Nat) (Rk : Nat -> Nat -> Prop), i <= m.toNat -> m.toNat - i < d -> ps.length = i -> Blk hh p #[l.enc] tSt -> Owns hh l tPs 1 (ps.flatMap cQ) -> Mine h l -> Ext h hh ->
      (∀ k q, ps[k]? = some q -> SH hh q [] sl.toNat (Rk k)) -> (∀ k b, k < i -> Rk k b -> h.size <= b ∧ b < hh.size) -> (∀ j k b, j < i -> k < i -> Rk j b -> Rk k b -> j = k) -> F.xai.l2 Q d sl ⟨p, 0, none⟩ m (i : Int) hh := by
    intro d
    induction d with
    | zero => intro i _ _ _ _ _ hm; omega
    | succ d ih =>
      intro i hh l ps Rk hi hm hl b w mi e hs hb hd
      unfold F.xai.l2
      refine ⟨fun g => ?_, fun g => ?_⟩
      · have g := of_decide_eq_true g
        refine New_spec (R := fun b => hh.size <= b) (fun g => by omega) (fun _ hb => hb) fun _ _ h4 q sh4 e4 hq => ⟨fun g => by simp at g, fun _ => ?_⟩
        have b4 : Blk h4 p #[l.enc] tSt := e4.block b fun f => f
        simp only [add_lit, Nat.add_zero]
        refine (ldL_iff (b4.cell (i := 0) rfl)).2 ?_
        refine newL_of fun m2 h10 hm2 b10 e10 s10 => ?_
        have r10 : Reads h10 ⟨some ⟨m2, 0, none⟩, 1, 1⟩ 1 ([q].flatMap cQ) := blk_reads (by simpa using b10) rfl
        have w10 := (w.ext e4).ext e10
        refine app_list (L := ps) (M := [q]) cQ_len (by omega) el_Sl_shard_Shard w10 r10 (fun x v hv => by simp at hv; subst hv; rfl) (by simp only [List.length_singleton]; omega) fun r3 h12 w3 o3 n3 => ?_
        have hsz4 := e4.size
        have hsz10 := e10.size
        have hsz3 := o3.size
        have hsz := e.size
        have m3 : Mine h r3 := fun y hy => by
          rcases n3 with n3 | ⟨b', n3, n4⟩
          · exact mi y (by rw [← n3]; exact hy)
          · rw [n3] at hy; cases hy; omega
        have e12 : Ext h h12 := ((e.trans e4).trans e10).mine mi o3
        have b12 : Blk h12 p #[l.enc] tSt := o3.block (e10.block b4 fun f => f) fun hb' => own_ne w10 (e10.block b4 fun f => f) (by decide) hb'
        refine stH_of b12 (by simp) fun h14 b14 o14 s14 => ?_
        rw [writeA_all (by simp)] at b14
        have w14 : Owns h14 r3 tPs 1 ((ps ++ [q]).flatMap cQ) := w3.only o14 fun y hy hf => own_ne w3 b12 (by decide) (by rw [hy, hf])
        rw [w64 (by omega) (by omega)]
        have hsz14 := o14.size
        -- a shard stays
        have stay : ∀ {q' : Nat} {R' : Nat -> Prop}, SH h10 q' [] sl.toNat R' -> SH h14 q' [] sl.toNat R' := fun s => (s.oth o3 w10 ps_sh).keep o14 fun x _ ht e => by subst e; exact not_sh b12 st_sh ht
        refine ih (i + 1) h14 r3 (ps ++ [q]) (fun k b => if k = i then hh.size <= b ∧ b < h14.size else Rk k b) (by omega) (by omega) (by simp [hl]) b14 w14 m3 (e12.step o14 fun x hx e => by omega) (fun k q' hq' => ?_) (fun k b hk hr => ?_) fun j k b hj hk h1 h2 => ?_
        · by_cases hk : k = i
          · subst hk
            rw [List.getElem?_append_right (by omega), hl, Nat.sub_self] at hq'
            cases hq'
            simp only [if_pos]
            exact (stay (sh4.ext e10)).turn fun b hb hr => ⟨hr, hb⟩
          · simp only [if_neg hk]
            have hlt : k < ps.length := by
              have := (List.getElem?_eq_some_iff.1 hq').1
              rw [List.length_append, List.length_singleton] at this
              omega
            rw [List.getElem?_append_left hlt] at hq'
            exact stay (((hs k q' hq').ext e4).ext e10)
        · by_cases hki : k = i
          · simp only [if_pos hki] at hr; exact ⟨by omega, hr.2⟩
          · simp only [if_neg hki] at hr
            have := hb k b (by omega) hr
            exact ⟨this.1, by omega⟩
        · by_cases hji : j = i
          · by_cases hki : k = i
            · omega
            · simp only [if_pos hji] at h1
              simp only [if_neg hki] at h2
              have := hb k b (by omega) h2; omega
          · by_cases hki : k = i
            · simp only [if_neg hji] at h1
              simp only [if_pos hki] at h2
              have := hb j b (by omega) h1; omega
            · simp only [if_neg hji] at h1
              simp only [if_neg hki] at h2
              exact hd j k b (by omega) (by omega) h1 h2
      · have g := of_decide_eq_false g
        refine k1 (by omega) (by omega) (by omega) (by omega) hh p l ps (fun b => ∃ k, k < i ∧ Rk k b) (by omega) ⟨⟨List.Pairwise.nil, fun x hx => by cases hx⟩, by omega, by omega, b, w, fun x ⟨k, hk, hx⟩ => (hb k x hk hx).2, Rk, fun k q hq => by rw [part_nil]; exact hs k q hq, fun k b hk hr => ⟨k, by omega, hr⟩, fun j k b hj hk => hd j k b (by omega) (by omega)⟩ e (fun x ⟨k, hk, hx⟩ => (hb k x hk hx).1) (by omega) mi
  exact key _ 0 h1 ⟨none, 0, 0⟩ [] (fun _ _ => False) (by omega) (by omega) rfl b1 (by simpa using Owns.nil h1 tPs 1) (by intro x hx; simp [Sl.blk] at hx) e1 (fun k q hq => by simp at hq) (fun k b hk => by omega) fun j k b hj => by omega
section
variable {n k : Nat} {S : SL}
theorem put_part (hs : SortS S) (e : Int) (c : Cel) (a : S_api_Agg) : partS n (rt n c) (putS S e c a) = putS (partS n (rt n c) S) e c a := by unfold putS; rw [part_set hs, if_pos rfl, part_get]
theorem put_other (hs : SortS S) (e : Int) (c : Cel) (a : S_api_Agg) (hk : k ≠ rt n c) : partS n k (putS S e c a) = partS n k S := by unfold putS; rw [part_set hs, if_neg (fun g => hk g.symm)]
theorem sum_le {f g : Nat -> Nat} : ∀ n, (∀ k, k < n -> f k <= g k) -> ((List.range n).map f).sum <= ((List.range n).map g).sum
  | 0, _ => Nat.le_refl _
  | n + 1, h => by
    rw [List.range_succ, List.map_append, List.sum_append, List.map_append, List.sum_append]
    have := sum_le n fun k hk => h k (by omega)
    have := h n (by omega)
    simp; omega
theorem sum_ones {α : Type} (L : List α) : (L.map fun _ => 1).sum = L.length := by
  induction L with
  | nil => rfl
  | cons a L ih => simp only [List.map_cons, List.sum_cons, List.length_cons]; omega
theorem len_parts (hn : 0 < n) (S : SL) : ((List.range n).map fun k => (partS n k S).length).sum = S.length := by
  have h := sum_parts hn (fun _ => 1) S
  simp only [sum_ones] at h
  exact h
def partX (n : Nat) (k : Int) (S : SL) : SL := if 0 <= k ∧ k < n then partS n k.toNat S else []
theorem partX_nat (hk : k < n) : partX n (k : Int) S = partS n k S := by unfold partX; rw [if_pos (by omega)]; rfl
end
section
variable {h h' : H} {p : Nat} {l : Sl} {ps : List Nat} {S : SL} {slots : Nat} {R : Nat -> Prop}
theorem TPut {e : Int} {x : S_api_Row} {b : Bool} {Q : Int -> H -> Prop} (t : TS h p l ps S slots R) (hk : KeyOk x.Cell) (hrt : RightIs x.Agg b)
    (k0 : putE (partS ps.length (rt ps.length x.Cell) S) slots e x.Cell x.Agg b ≠ 0 -> ∀ h', Ext h h' -> Q (putE (partS ps.length (rt ps.length x.Cell) S) slots e x.Cell x.Agg b) h')
    (k1 : putE (partS ps.length (rt ps.length x.Cell) S) slots e x.Cell x.Agg b = 0 -> ∀ h' R', TS h' p l ps (putS S e x.Cell x.Agg) slots R' -> SOnly R h h' -> (∀ b, R' b -> R b ∨ h.size <= b) -> Q 0 h') : F.xbv (some ⟨p, 0, none⟩) e x h Q := by
  unfold F.xbv
  refine new_of fun m h1 hm b1 e1 s1 => ?_
  have t1 := t.ext e1
  obtain ⟨q, hq⟩ := t.has x.Cell
  refine ⟨x.Cell, row_cell (Blk.cells b1), x, Blk.cells b1, TOf t1 hk hq fun h7 e7 => ⟨(Blk.cells b1).ext e7, ?_⟩⟩
  have t7 := t1.ext e7
  have e17 := e1.trans e7
  obtain ⟨R0, sh, hR, hRR, fin⟩ := t7.op hq
  refine Put_spec sh hrt hR (fun g h' e' => k0 g h' (e17.trans e')) fun g h' sh' o => ?_
  obtain ⟨R', t', o', hR'⟩ := fin h' (putS S e x.Cell x.Agg) (sort_setS t.ok.sort _ _) (by rw [put_part t.ok.sort]; exact sh') o fun j hj hne => put_other t.ok.sort _ _ _ hne
  exact k1 g h' R' t' (SOnly.trans (SOnly.of e17) o') fun b hb => (hR' b hb).imp id fun x => Nat.le_trans e17.size x
theorem TIs {i : Int} {Q : Bool -> H -> Prop} (t : TS h p l ps S slots R) (k : Q (decide (0 <= i ∧ i < ps.length)) h) : F.xcn (some ⟨p, 0, none⟩) i h Q := by
  unfold F.xcn
  refine ⟨fun g => ?_, fun g => ?_⟩
  · have g := of_decide_eq_true g
    simp only [nn_some, add_lit, Nat.add_zero]
    refine t.ldl ?_
    rw [t.len]
    rw [show decide (0 <= i ∧ i < (ps.length : Int)) = decide (i < (ps.length : Int)) by rw [decide_eq_decide]; omega] at k
    exact k
  · have g := of_decide_eq_false g
    rw [decide_eq_false (by omega)] at k
    exact k
theorem TS.nth (t : TS h p l ps S slots R) {i : Int} (hi : 0 <= i ∧ i < ps.length) : ∃ q, ps[i.toNat]? = some q ∧ ((i.toNat : Nat) : Int) = i := ⟨_, List.getElem?_eq_getElem (by omega), by omega⟩
theorem TUnits {i : Int} {Q : Int -> H -> Prop} (t : TS h p l ps S slots R) (k : Q (unitsS (partX ps.length i S) : Int) h) : F.xbt (some ⟨p, 0, none⟩) i h Q := by
  unfold F.xbt
  refine TIs t ?_
  by_cases hi : 0 <= i ∧ i < ps.length
  · unfold partX at k
    rw [if_pos hi] at k
    rw [decide_eq_true hi]
    obtain ⟨q, hq, hin⟩ := t.nth hi
    refine ⟨fun g => by simp at g, fun _ => ?_⟩
    simp only [nn_some, add_lit, Nat.add_zero]
    refine t.ldl ?_
    rw [← hin]
    refine t.at hq ?_
    simp only [nn_some, add_lit, Nat.add_zero]
    obtain ⟨R0, sh⟩ := t.sh hq
    exact Units_spec sh k
  · unfold partX at k
    rw [if_neg hi] at k
    rw [decide_eq_false hi]
    exact ⟨fun _ => k, fun g => by cases g⟩
end
section
variable {h h' : H} {p : Nat} {l : Sl} {ps : List Nat} {S : SL} {slots : Nat} {R : Nat -> Prop}
theorem TScan {e most : Int} {fr to : Cel} {Q : Sl -> H -> Prop} (t : TS h p l ps S slots R) (hS : S.length < 100000)
    (k : ∀ r h', Owns h' r tn_api_Row 7 (((rangeS S e fr to).take most.toNat).flatMap cW) -> Mine h r -> Ext h h' -> Q r h') : F.xbi (some ⟨p, 0, none⟩) e fr to most h Q := by
  unfold F.xbi
  refine new_of fun n2 h1 hm b1 e1 s1 => new_of fun n4 h3 hm2 b3 e3 s3 => ?_
  have t3 := (t.ext e1).ext e3
  have e13 := e1.trans e3
  have n16 := t.n2
  simp only [nn_some, add_lit, Nat.add_zero]
  refine t3.ldl ⟨ps.length + 1, ?_⟩
  rw [t.len]
  have key : ∀ (d i : Nat) (hh : H) (l8 : Sl) (ss : List Sl), i <= ps.length -> ps.length - i < d -> ss.length = i -> Ext h3 hh -> Owns hh l8 tn_Slapi_Row 1 (ss.flatMap V.cS8) -> Mine h3 l8 ->
      (∀ (j : Nat) s, ss[j]? = some s -> Owns hh s tn_api_Row 7 (((rangeS (partS ps.length j S) e fr to).take most.toNat).flatMap cW)) -> F.xbi.l1 Q d e most ⟨n2, 0, none⟩ ⟨n4, 0, none⟩ l8 l (ps.length : Int) (i : Int) hh := by
    intro d
    induction d with
    | zero => intro i _ _ _ _ hm; omega
    | succ d ih =>
      intro i hh l8 ss hi hm hl ee w mi rows
      unfold F.xbi.l1
      refine ⟨fun g => ?_, fun g => ?_⟩
      · have g := of_decide_eq_true g
        obtain ⟨q, hq⟩ : ∃ q, ps[i]? = some q := ⟨_, List.getElem?_eq_getElem (by omega)⟩
        have te := t3.ext ee
        obtain ⟨R0, sh⟩ := te.sh hq
        refine te.at hq ⟨fr, ((Blk.cells b1).ext e3).ext ee, to, (Blk.cells b3).ext ee, Range_spec sh fun r h18 w18 m18 e18 => ?_⟩
        refine newL_of fun m2 h20 hm2 b20 e20 s20 => ?_
        have r20 : Reads h20 ⟨some ⟨m2, 0, none⟩, 1, 1⟩ 1 ([r].flatMap V.cS8) := blk_reads (by simpa using b20) rfl
        have w20 := (w.ext e18).ext e20
        refine app_list (L := ss) (M := [r]) V.cS8_len (by omega) el_SlSlapi_Row w20 r20 (fun x v hv => by simp at hv; subst hv; rfl) (by simp only [List.length_singleton]; omega) fun r3 h22 w3 o3 n3 => ?_
        have hsz18 := e18.size
        have hsz20 := e20.size
        have hsz := ee.size
        have m3 : Mine h3 r3 := fun y hy => by
          rcases n3 with n3 | ⟨b', n3, n4⟩
          · exact mi y (by rw [← n3]; exact hy)
          · rw [n3] at hy; cases hy; omega
        rw [w64 (by omega) (by omega)]
        refine ih (i + 1) h22 r3 (ss ++ [r]) (by omega) (by omega) (by simp [hl]) (((ee.trans e18).trans e20).mine mi o3) w3 m3 fun j s hs => ?_
        rcases Nat.lt_or_ge j ss.length with hj | hj
        · rw [List.getElem?_append_left hj] at hs
          exact V.own_typ (((rows j s hs).ext e18).ext e20) o3 w20 (by decide)
        · have hj2 : j = ss.length := by
            have := (List.getElem?_eq_some_iff.1 hs).1
            rw [List.length_append, List.length_singleton] at this; omega
          subst hj2
          rw [List.getElem?_append_right (by omega), Nat.sub_self] at hs
          cases hs
          rw [hl]
          exact V.own_typ (w18.ext e20) o3 w20 (by decide)
      · have g := of_decide_eq_false g
        have hin : i = ps.length := by omega
        subst hin
        have npos : 0 < ps.length := by have := t.n1; omega
        have hX := range_sort t.ok e fr to
        generalize hLs : ((List.range ps.length).map fun k => ((rangeS S e fr to).filter fun r => decide (rt ps.length r.Cell = k)).take most.toNat) = Ls
        have law := scan_law hX npos most.toNat
        rw [hLs] at law
        have hLl : Ls.length = ps.length := by rw [← hLs]; simp
        have hLj : ∀ (j : Nat) (A : List S_api_Row), Ls[j]? = some A -> A = (rangeS (partS ps.length j S) e fr to).take most.toNat := fun j A hA => by
          rw [← hLs] at hA
          have hj := (List.getElem?_eq_some_iff.1 hA).1
          rw [List.length_map, List.length_range] at hj
          rw [List.getElem?_map, List.getElem?_range hj] at hA
          simp only [Option.map_some, Option.some.injEq] at hA
          rw [← hA, part_range]
        have tb : TB hh l8 ss Ls := ⟨w.reads, by rw [hl, hLl], fun j s A hs hA => by rw [hLj j A hA]; exact ⟨(rows j s hs).reads, (rows j s hs).le_cap⟩⟩
        have hlen : (mR Ls).length < 100000 := by
          have h1 : (mR Ls).length = (Ls.map List.length).sum := mAll_len
          have h2 : (Ls.map List.length).sum <= S.length := by
            rw [← hLs, List.map_map, ← len_parts npos S]
            refine sum_le _ fun k hk => ?_
            simp only [Function.comp]
            rw [← part_range, List.length_take]
            have : (rangeS (partS ps.length k S) e fr to).length <= (partS ps.length k S).length := by unfold rangeS; rw [List.length_map]; exact List.length_filter_le _ _
            omega
          omega
        refine Rows_spec tb (by omega) hlen fun r h24 w24 m24 e24 => ?_
        rw [law] at w24
        exact k r h24 w24 (fun y hy => by have := m24 y hy; have := ee.size; have := e13.size; omega) ((e13.trans ee).trans e24)
  exact key _ 0 h3 ⟨none, 0, 0⟩ [] (by omega) (by omega) rfl (.refl _) (by simpa using Owns.nil h3 tn_Slapi_Row 1) (fun y hy => by simp [Sl.blk] at hy) fun j s hs => by simp at hs
end
end Go.Proofs.YtjjchpaomgmmdaaGreat.V.S
