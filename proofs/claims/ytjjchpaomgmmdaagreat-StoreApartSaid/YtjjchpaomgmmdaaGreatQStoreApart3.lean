/- Parts of the proof of StoreApart; no condition. -/
import Derived.Shelf.SlLaysM
import Derived.Shelf.SortM.Plain
import Derived.Shelf.SortM.SortNone
import Derived.Sort.KeysCollected
import Derived.Sort.OwnSorted
import Derived.Test.YtjjchpaomgmmdaaGreatProg
import Derived.Test.YtjjchpaomgmmdaaGreatQStoreApart2
namespace Go.Proofs.YtjjchpaomgmmdaaGreat.V.M
open Go Go.Proofs.YtjjchpaomgmmdaaGreat.V
set_option linter.unusedVariables false
set_option linter.unusedSimpArgs false
section
variable {α : Type} (le : α -> α -> Bool)
def mAll (Ls : List (List α)) : List α := Ls.foldr (fun l m => List.merge l m le) []
variable {le}
theorem merge_nil (m : List α) : List.merge [] m le = m := by simp [List.merge]
theorem merge_nil' (l : List α) : List.merge l [] le = l := by cases l <;> simp [List.merge]
theorem merge_cons (x y : α) (l m : List α) : List.merge (x :: l) (y :: m) le = if le x y then x :: List.merge l (y :: m) le else y :: List.merge (x :: l) m le := by
  rw [List.merge]
theorem mAll_head : ∀ {Ls : List (List α)} {y : α} {r : List α}, mAll le Ls = y :: r -> ∃ (j : Nat) (t : List α), Ls[j]? = some (y :: t)
  | [], y, r, h => by simp [mAll] at h
  | l :: Ls, y, r, h => by
    have hm : List.merge l (mAll le Ls) le = y :: r := h
    cases l with
    | nil =>
      rw [merge_nil] at hm
      obtain ⟨j, t, hj⟩ := mAll_head hm
      exact ⟨j + 1, t, by simpa using hj⟩
    | cons a l =>
      cases hq : mAll le Ls with
      | nil =>
        rw [hq, merge_nil'] at hm
        cases hm
        exact ⟨0, _, rfl⟩
      | cons b m =>
        rw [hq, merge_cons] at hm
        split at hm
        · cases hm; exact ⟨0, _, rfl⟩
        · cases hm
          obtain ⟨j, t, hj⟩ := mAll_head hq
          exact ⟨j + 1, t, by simpa using hj⟩
theorem mAll_none : ∀ {Ls : List (List α)}, (∀ l ∈ Ls, l = []) -> mAll le Ls = []
  | [], _ => rfl
  | l :: Ls, h => by
    have h1 := h l (by simp)
    subst h1
    show List.merge [] (mAll le Ls) le = []
    rw [mAll_none fun l hl => h l (by simp [hl])]
    exact merge_nil _
theorem mAll_pick : ∀ {Ls : List (List α)} {k : Nat} {x : α} {t : List α}, Ls[k]? = some (x :: t) -> (∀ (j : Nat) y s, j < k -> Ls[j]? = some (y :: s) -> le y x = false) -> (∀ (j : Nat) y s, k < j -> Ls[j]? = some (y :: s) -> le x y = true) ->
    mAll le Ls = x :: mAll le (Ls.set k t)
  | [], k, x, t, h, _, _ => by simp at h
  | l :: Ls, 0, x, t, h, _, h2 => by
    simp at h
    subst h
    show List.merge (x :: t) (mAll le Ls) le = x :: List.merge t (mAll le Ls) le
    cases hq : mAll le Ls with
    | nil => rw [merge_nil', merge_nil']
    | cons y r =>
      obtain ⟨j, s, hj⟩ := mAll_head hq
      rw [merge_cons, if_pos (h2 (j + 1) y s (by omega) (by simpa using hj))]
  | l :: Ls, k + 1, x, t, h, h1, h2 => by
    have ih := mAll_pick (Ls := Ls) (k := k) (x := x) (t := t) (by simpa using h) (fun j y s hj hy => h1 (j + 1) y s (by omega) (by simpa using hy)) (fun j y s hj hy => h2 (j + 1) y s (by omega) (by simpa using hy))
    show List.merge l (mAll le Ls) le = x :: List.merge l (mAll le (Ls.set k t)) le
    rw [ih]
    cases l with
    | nil => rw [merge_nil, merge_nil]
    | cons y s =>
      rw [merge_cons, if_neg (by rw [h1 0 y s (by omega) rfl]; simp)]
theorem mAll_len : ∀ {Ls : List (List α)}, (mAll le Ls).length = (Ls.map List.length).sum
  | [] => rfl
  | l :: Ls => by
    show (List.merge l (mAll le Ls) le).length = _
    rw [List.length_merge, mAll_len]; simp
end
section
variable {α : Type} [Inhabited α]
abbrev g (A : List α) (i : Nat) : α := A.getD i default
def swp (A : List α) (i j : Nat) : List α := (A.set i (g A j)).set j (g A i)
theorem swp_len (A : List α) (i j : Nat) : (swp A i j).length = A.length := by simp [swp]
theorem g_set {A : List α} {i j : Nat} {x : α} (h : i < A.length) : g (A.set i x) j = if i = j then x else g A j := by
  simp only [g, List.getD_eq_getElem?_getD, List.getElem?_set]
  by_cases e : i = j
  · subst e; simp [h]
  · simp [e]
theorem g_swp {A : List α} {i j k : Nat} (hi : i < A.length) (hj : j < A.length) : g (swp A i j) k = if k = j then g A i else if k = i then g A j else g A k := by
  unfold swp
  rw [g_set (by simpa using hj), g_set hi]
  by_cases e : j = k
  · subst e; simp
  · rw [if_neg e, if_neg (show ¬ k = j from fun h => e h.symm)]
    by_cases e2 : i = k
    · rw [if_pos e2, if_pos e2.symm]
    · rw [if_neg e2, if_neg (show ¬ k = i from fun h => e2 h.symm)]
theorem swp_perm {A : List α} {i j : Nat} (hi : i < A.length) (hj : j < A.length) : (swp A i j).Perm A := by
  have e1 : g A j = A[j] := by simp [g, List.getD_eq_getElem?_getD, hj]
  have e2 : g A i = A[i] := by simp [g, List.getD_eq_getElem?_getD, hi]
  unfold swp
  rw [e1, e2]
  exact List.set_set_perm hi hj
variable (lt : α -> α -> Bool)
def dn : Nat -> List α -> Nat -> Nat -> List α × Nat
  | 0, A, n, i => (A, i)
  | m + 1, A, n, i =>
    if n <= 2 * i + 1 then (A, i)
    else if lt (g A (if 2 * i + 2 < n ∧ lt (g A (2 * i + 2)) (g A (2 * i + 1)) = true then 2 * i + 2 else 2 * i + 1)) (g A i) = true then
      dn m (swp A i (if 2 * i + 2 < n ∧ lt (g A (2 * i + 2)) (g A (2 * i + 1)) = true then 2 * i + 2 else 2 * i + 1)) n (if 2 * i + 2 < n ∧ lt (g A (2 * i + 2)) (g A (2 * i + 1)) = true then 2 * i + 2 else 2 * i + 1)
    else (A, i)
def HP (A : List α) (n s : Nat) : Prop := ∀ c, 0 < c -> c < n -> s <= (c - 1) / 2 -> lt (g A c) (g A ((c - 1) / 2)) = false
structure Ord : Prop where
  asym : ∀ a b, lt a b = true -> lt b a = false
  trans : ∀ a b c, lt b a = false -> lt c b = false -> lt c a = false
variable {lt}
theorem dn_law (o : Ord lt) : ∀ (m : Nat) (A : List α) (n i s : Nat), n <= A.length -> i < n -> s <= i -> n - i <= m ->
    (∀ c, 0 < c -> c < n -> s <= (c - 1) / 2 -> (c - 1) / 2 ≠ i -> lt (g A c) (g A ((c - 1) / 2)) = false) ->
    (∀ c, 0 < c -> c < n -> (c - 1) / 2 = i -> 0 < i -> s <= (i - 1) / 2 -> lt (g A c) (g A ((i - 1) / 2)) = false) ->
    HP lt (dn lt m A n i).1 n s ∧ (dn lt m A n i).1.Perm A ∧ (dn lt m A n i).1.length = A.length ∧ ∀ k, n <= k -> g (dn lt m A n i).1 k = g A k
  | 0, A, n, i, s, hn, hi, hs, hm, h1, h2 => by omega
  | m + 1, A, n, i, s, hn, hi, hs, hm, h1, h2 => by
    unfold dn
    by_cases hl : n <= 2 * i + 1
    · rw [if_pos hl]
      exact ⟨fun c c0 cn cs => h1 c c0 cn cs (by omega), .refl _, rfl, fun _ _ => rfl⟩
    · rw [if_neg hl]
      generalize hj : (if 2 * i + 2 < n ∧ lt (g A (2 * i + 2)) (g A (2 * i + 1)) = true then 2 * i + 2 else 2 * i + 1) = j
      have hj2 : (j = 2 * i + 1 ∨ j = 2 * i + 2) ∧ j < n ∧ (∀ c, (c = 2 * i + 1 ∨ c = 2 * i + 2) -> c < n -> lt (g A c) (g A j) = false) := by
        have irr : ∀ a, lt a a = false := fun a => by
          cases h : lt a a with
          | false => rfl
          | true => have := o.asym a a h; rw [h] at this; cases this
        split at hj
        · rename_i h
          subst hj
          refine ⟨.inr rfl, h.1, fun c hc hcn => ?_⟩
          rcases hc with rfl | rfl
          · exact o.asym _ _ h.2
          · exact irr _
        · rename_i h
          subst hj
          refine ⟨.inl rfl, by omega, fun c hc hcn => ?_⟩
          rcases hc with rfl | rfl
          · exact irr _
          · cases h2 : lt (g A (2 * i + 2)) (g A (2 * i + 1)) with
            | false => rfl
            | true => exact absurd ⟨hcn, h2⟩ h
      obtain ⟨ja, jb, jc⟩ := hj2
      have jp : (j - 1) / 2 = i := by omega
      by_cases ht : lt (g A j) (g A i) = true
      · rw [if_pos ht]
        have hiA : i < A.length := by omega
        have hjA : j < A.length := by omega
        have gs : ∀ k, g (swp A i j) k = if k = j then g A i else if k = i then g A j else g A k := fun k => g_swp hiA hjA
        obtain ⟨r1, r2, r3, r4⟩ := dn_law o m (swp A i j) n j s (by rw [swp_len]; exact hn) jb (by omega) (by omega) (fun c c0 cn cs cp => by
          rw [gs, gs, if_neg (fun h => by subst h; omega : ¬ (c - 1) / 2 = j)]
          by_cases e1 : c = j
          · subst e1
            rw [if_pos rfl, if_pos jp]
            exact o.asym _ _ ht
          · rw [if_neg e1]
            by_cases e2 : c = i
            · subst e2
              rw [if_pos rfl, if_neg (by omega)]
              exact h2 j (by omega) jb jp c0 cs
            · rw [if_neg e2]
              by_cases e3 : (c - 1) / 2 = i
              · rw [if_pos e3]
                exact jc c (by omega) cn
              · rw [if_neg e3]
                exact h1 c c0 cn cs e3) (fun c c0 cn cp j0 js => by
          rw [gs, gs, if_neg (by omega), if_neg (by omega), jp, if_neg (by omega), if_pos rfl, ← cp]
          exact h1 c c0 cn (by omega) (by omega))
        exact ⟨r1, r2.trans (swp_perm hiA hjA), by rw [r3, swp_len], fun k hk => by rw [r4 k hk, gs, if_neg (by omega), if_neg (by omega)]⟩
      · rw [if_neg ht]
        have ht' : lt (g A j) (g A i) = false := by simpa using ht
        refine ⟨fun c c0 cn cs => ?_, .refl _, rfl, fun _ _ => rfl⟩
        by_cases e : (c - 1) / 2 = i
        · rw [e]
          exact o.trans _ _ _ ht' (jc c (by omega) cn)
        · exact h1 c c0 cn cs e
theorem hp_root (o : Ord lt) {A : List α} {n : Nat} (h : HP lt A n 0) : ∀ c, c < n -> lt (g A c) (g A 0) = false := by
  intro c
  induction c using Nat.strongRecOn with
  | _ c ih =>
    intro hc
    by_cases h0 : c = 0
    · subst h0
      cases h : lt (g A 0) (g A 0) with
      | false => rfl
      | true => have := o.asym _ _ h; rw [h] at this; cases this
    · exact o.trans _ _ _ (ih ((c - 1) / 2) (by omega) (by omega)) (h c (by omega) hc (by omega))
end
abbrev Rw8 := S_api_Row
abbrev cW (x : Rw8) : List Value := x.cells
theorem cW_len (x : Rw8) : (cW x).length = 7 := rfl
abbrev cF (x : S_merge_front) : List Value := x.cells
theorem cF_len (x : S_merge_front) : (cF x).length = 2 := rfl
structure Fr where
  f : S_merge_front
  R : List Rw8
instance : Inhabited S_api_Row := ⟨⟨⟨0, ⟨#[]⟩, 0⟩, ⟨0, 0, 0, 0⟩⟩⟩
instance : Inhabited Fr := ⟨⟨⟨⟨none, 0, 0⟩, 0⟩, []⟩⟩
def hdF (a : Fr) : Rw8 := a.R.headD default
def or2 (a b : Int) : Int := if a ≠ 0 then a else b
def ltF (a b : Fr) : Bool := decide (or2 (cmpC (hdF a).Cell (hdF b).Cell) (cmpI a.f.list b.f.list) < 0)
theorem cmpI_val (a b : Int) : (a < b ∧ cmpI a b = -1) ∨ (a = b ∧ cmpI a b = 0) ∨ (b < a ∧ cmpI a b = 1) := by
  unfold cmpI
  by_cases h1 : a < b
  · simp [h1]
  · by_cases h2 : b < a
    · right; right; simp [h1, h2]
    · right; left; simp [h1, h2]; omega
theorem ltF_iff {a b : Fr} : ltF a b = true ↔ cmpC (hdF a).Cell (hdF b).Cell = -1 ∨ (cmpC (hdF a).Cell (hdF b).Cell = 0 ∧ a.f.list < b.f.list) := by
  unfold ltF or2
  rw [decide_eq_true_eq]
  have h1 := cC_range (hdF a).Cell (hdF b).Cell
  have h2 := cmpI_val a.f.list b.f.list
  split
  · omega
  · omega
theorem ltF_ord : Ord ltF where
  asym a b h := by
    cases hb : ltF b a with
    | false => rfl
    | true =>
      rw [ltF_iff] at h hb
      have := cC_anti (hdF a).Cell (hdF b).Cell
      omega
  trans a b c h1 h2 := by
    cases hc : ltF c a with
    | false => rfl
    | true =>
      have n1 : ¬ ltF b a = true := by rw [h1]; simp
      have n2 : ¬ ltF c b = true := by rw [h2]; simp
      rw [ltF_iff] at n1 n2 hc
      have ra := cC_range (hdF b).Cell (hdF a).Cell
      have rb := cC_range (hdF c).Cell (hdF b).Cell
      have a1 := cC_anti (hdF b).Cell (hdF a).Cell
      have a2 := cC_anti (hdF c).Cell (hdF b).Cell
      have a3 := cC_anti (hdF c).Cell (hdF a).Cell
      have l1 : cmpC (hdF a).Cell (hdF b).Cell <= 0 := by omega
      have l2 : cmpC (hdF b).Cell (hdF c).Cell <= 0 := by omega
      have l3 := cC_le_trans l1 l2
      rcases hc with hc | ⟨hc, hl⟩
      · omega
      · have e1 : (hdF c).Cell = (hdF a).Cell := cC_zero.1 hc
        rw [e1] at rb a2 l2 n2
        by_cases hz : cmpC (hdF b).Cell (hdF a).Cell = 0
        · omega
        · omega
theorem add0 (a : Addr) : a.add 0 = a := by unfold Addr.add; simp
theorem Cells.pre {h : H} {a : Addr} {x y : List Value} (c : Cells h a (x ++ y)) : Cells h a x := fun i v hv => c i v (by rw [List.getElem?_append_left (List.getElem?_eq_some_iff.1 hv).1]; exact hv)
section
variable {h0 hk h h' : H} {n : Nat} {s : Sl} {G : List Fr}
theorem or2_spec {n : Nat} {a b : Int} {Q : Int -> H -> Prop} (bl : Blk h n #[.int .i64 a, .int .i64 b] 3) (k : Q (or2 a b) h) : F.xam ⟨some ⟨n, 0, none⟩, 2, 2⟩ h Q := by
  unfold F.xam
  unfold or2 at k
  refine ⟨3, ?_⟩
  have c0 : cellH h ⟨n, 0, none⟩ = some (.int .i64 a) := bl.cell rfl
  have c1 : cellH h ⟨n, 1, none⟩ = some (.int .i64 b) := bl.cell rfl
  unfold F.xam.l1
  refine ⟨fun _ => ?_, fun g => by simp at g⟩
  refine idxA_of (i := 0) rfl (by simp) rfl ?_
  rw [Nat.zero_mul, ldI_iff c0, bne_iff_ne, bne_eq_false_iff_eq]
  refine ⟨fun g => by rw [if_pos g] at k; exact k, fun g => ?_⟩
  rw [if_neg (by simpa using g)] at k
  rw [show IntKind.wrap .i64 (0 + 1) = ((1 : Nat) : Int) from by decide]
  unfold F.xam.l1
  refine ⟨fun _ => ?_, fun g => by simp at g⟩
  refine idxA_of (i := 1) rfl (by simp) rfl ?_
  rw [Nat.one_mul, ldI_iff c1, bne_iff_ne, bne_eq_false_iff_eq]
  refine ⟨fun g => k, fun g => ?_⟩
  rw [show IntKind.wrap .i64 (((1 : Nat) : Int) + 1) = ((2 : Nat) : Int) from by decide]
  unfold F.xam.l1
  refine ⟨fun g => by simp at g, fun _ => ?_⟩
  rw [g] at k; exact k
structure Keep (hk h : H) : Prop where
  w : ∀ {r : Sl} {e : TypeId} {k : Nat} {cs : List Value}, Owns hk r e k cs -> e ≠ tn_merge_front -> e ≠ tn_merge_fronts -> Owns h r e k cs
theorem Keep.refl (h : H) : Keep h h := ⟨fun w _ _ => w⟩
theorem own_ne {h : H} {s : Sl} {n : Nat} {cs : List Value} {k : Nat} {c : Array Value} {e e' : TypeId} (w : Owns h s e k cs) (b : Blk h n c e') (he : e ≠ e') : s.blk ≠ some n := fun hb => by
  obtain ⟨_, ⟨q1, q2, q3⟩ | ⟨b', c', q1, q2, _⟩⟩ := w
  · simp [Sl.blk, q1] at hb
  · simp [Sl.blk, q1] at hb
    subst hb
    unfold Blk at q2 b
    rw [q2] at b; cases b; exact he rfl
theorem Keep.ext {hk h h' : H} (k : Keep hk h) (e : Ext h h') : Keep hk h' := ⟨fun w h1 h2 => (k.w w h1 h2).ext e⟩
theorem Keep.blk {hk h h' : H} {n : Nat} {c : Array Value} {e' : TypeId} (k : Keep hk h) (o : Only (· = n) h h') (b : Blk h n c e') (he : e' = tn_merge_front ∨ e' = tn_merge_fronts) : Keep hk h' := ⟨fun w h1 h2 =>
  (k.w w h1 h2).only o fun y hy hf => own_ne (k.w w h1 h2) b (fun e => by rcases he with he | he; exact h1 (e.trans he); exact h2 (e.trans he)) (by rw [hy, hf])⟩
theorem Keep.own {hk h h' : H} {s : Sl} {m : Nat} {ds : List Value} (k : Keep hk h) (o : Only (fun b => s.blk = some b) h h') (ws : Owns h s tn_merge_front m ds) : Keep hk h' := ⟨fun w h1 h2 =>
  (k.w w h1 h2).only o fun y hy hf => by
    obtain ⟨_, ⟨q1, q2, q3⟩ | ⟨b', c', q1, q2, _⟩⟩ := ws
    · simp [Sl.blk, q1] at hf
    · simp [Sl.blk, q1] at hf
      subst hf
      exact own_ne (k.w w h1 h2) q2 h1 hy⟩
structure FS (h0 hk h : H) (n : Nat) (s : Sl) (G : List Fr) : Prop where
  var : Blk h n #[s.enc] tn_merge_fronts
  own : Owns h s tn_merge_front 2 ((G.map (·.f)).flatMap cF)
  mine : Mine h0 s
  lo : h0.size <= n
  ext : Ext h0 h
  rows : ∀ f ∈ G, f.R ≠ [] -> Reads h0 f.f.rows 7 (f.R.flatMap cW)
  kp : Keep hk h
theorem g_mem {i : Nat} (hi : i < G.length) : G[i]? = some (g G i) := by simp [g, List.getD_eq_getElem?_getD, hi]
theorem FS.at (v : FS h0 hk h n s G) {i : Nat} (hi : i < G.length) {K : Addr -> Prop} (k : ∀ a, Cells h a (cF (g G i).f) -> K a) : idxA s (i : Int) 2 K := by
  obtain ⟨b, p1, p2⟩ := own_at cF_len (by omega) v.own (i := i) (x := (g G i).f) (by rw [List.getElem?_map, g_mem hi]; rfl)
  have hl := own_len cF_len (by omega) v.own
  rw [List.length_map] at hl
  exact idxA_of (i := i) p1 (by rw [hl]; exact hi) rfl (k _ p2)
theorem FS.e (v : FS h0 hk h n s G) (e : Ext h h') : FS h0 hk h' n s G := ⟨e.block v.var (fun f => f), v.own.ext e, v.mine, v.lo, v.ext.trans e, v.rows, v.kp.ext e⟩
theorem hd_cell (v : FS h0 hk h n s G) {i : Nat} (hi : i < G.length) (hne : (g G i).R ≠ []) {K : Cel -> Prop} (k : K (hdF (g G i)).Cell) : idxA (g G i).f.rows 0 7 fun a => ld_S_api_Cell h (a.add 0) K := by
  have rd := v.rows _ (List.mem_of_getElem? (g_mem hi)) hne
  obtain ⟨x, t, hx⟩ : ∃ x t, (g G i).R = x :: t := by
    cases hR : (g G i).R with
    | nil => exact absurd hR hne
    | cons x t => exact ⟨x, t, rfl⟩
  have rd' := rd.only v.ext fun _ _ f => f
  rw [hx] at rd'
  obtain ⟨p, p1, p2, p3⟩ := rd_at cW_len (by omega) rd' (i := 0) (x := x) rfl
  have hl := rd_len cW_len (by omega) rd'
  refine idxR_of (i := 0) p1 (by rw [hl]; simp) rfl ?_
  rw [add0]
  have : hdF (g G i) = x := by unfold hdF; rw [hx]; rfl
  rw [this] at k
  exact ⟨x.Cell, Cells.pre p3, k⟩
theorem Less_spec {i j : Nat} {Q : Bool -> H -> Prop} (v : FS h0 hk h n s G) (hi : i < G.length) (hj : j < G.length) (ni : (g G i).R ≠ []) (nj : (g G j).R ≠ []) (k : ∀ h', Ext h h' -> Q (ltF (g G i) (g G j)) h') : F.xbt s (i : Int) (j : Int) h Q := by
  unfold F.xbt
  have c0 : ∀ {a : Addr} {x : S_merge_front}, Cells h a (cF x) -> cellH h (a.add 0) = some x.rows.enc := fun c => c 0 _ rfl
  have c1 : ∀ {a : Addr} {x : S_merge_front}, Cells h a (cF x) -> cellH h (a.add 1) = some (.int .i64 x.list) := fun c => c 1 _ rfl
  refine v.at hi fun a1 d1 => (ldL_iff (c0 d1)).2 (hd_cell v hi ni (v.at hj fun a2 d2 => (ldL_iff (c0 d2)).2 (hd_cell v hj nj ?_)))
  refine v.at hi fun a3 d3 => (ldI_iff (c1 d3)).2 (v.at hj fun a4 d4 => (ldI_iff (c1 d4)).2 ?_)
  refine Compare_spec fun h1 e1 => ⟨e1.cell (c1 d4) (fun f => f), e1.cell (c1 d3) (fun f => f), cmpInt_spec ?_⟩
  refine newL_of fun m h2 hm b2 e2 s2 => or2_spec b2 (k h2 (e1.trans e2))
theorem Swap_spec {i j : Nat} {Q : H -> Prop} (v : FS h0 hk h n s G) (hi : i < G.length) (hj : j < G.length) (k : ∀ h', FS h0 hk h' n s (swp G i j) -> Q h') : F.xbv s (i : Int) (j : Int) h Q := by
  unfold F.xbv
  have hl := own_len cF_len (by omega) v.own
  rw [List.length_map] at hl
  refine v.at hj fun a1 d1 => ⟨_, d1, v.at hi fun a2 d2 => ⟨_, d2, ?_⟩⟩
  obtain ⟨b, p1, p2⟩ := own_at cF_len (by omega) v.own (i := i) (x := (g G i).f) (by rw [List.getElem?_map, g_mem hi]; rfl)
  refine idxA_of (i := i) p1 (by rw [hl]; exact hi) rfl ?_
  refine own_setAt (i := i) (x := (g G j).f) cF_len v.own p1 (by simpa using hi) fun h1 w1 o1 s1 => ?_
  refine idxA_of (i := j) p1 (by rw [hl]; exact hj) rfl ?_
  refine own_setAt (i := j) (x := (g G i).f) cF_len w1 p1 (by simpa using hj) fun h2 w2 o2 s2 => ?_
  have o : Only (fun b => s.blk = some b) h h2 := o1.trans o2 fun _ _ e => e
  have hnb : s.blk ≠ some n := fun hb => by
    obtain ⟨_, ⟨q1, _⟩ | ⟨b', c', q1, q2, _⟩⟩ := v.own
    · rw [q1] at p1; cases p1
    · simp [Sl.blk, q1] at hb
      subst hb
      have := v.var
      unfold Blk at q2 this
      rw [q2] at this; cases this
  refine k h2 ⟨o.block v.var hnb, ?_, v.mine, v.lo, v.ext.mine v.mine o, fun f hf => v.rows f ((swp_perm hi hj).mem_iff.1 hf), v.kp.own o v.own⟩
  have : (swp G i j).map (·.f) = (((G.map (·.f)).set i (g G j).f).set j (g G i).f) := by unfold swp; rw [List.map_set, List.map_set]
  rw [this]; exact w2
theorem FS.ldv (v : FS h0 hk h n s G) {K : Sl -> Prop} (k : K s) : ldL h ⟨n, 0, none⟩ K := (ldL_iff (v.var.cell (i := 0) rfl)).2 k
theorem down_loop {n0 i0 : Nat} {Q : Bool -> H -> Prop} : ∀ (m i : Nat) (h : H) (G : List Fr), n0 <= G.length -> n0 < 1000000 -> i < 1000000 -> n0 - i <= m -> FS h0 hk h n s G -> (∀ j, j < n0 -> (g G j).R ≠ []) ->
    (∀ h', FS h0 hk h' n s (dn ltF m G n0 i).1 -> Q (decide ((((dn ltF m G n0 i).2 : Nat) : Int) > (i0 : Int))) h') ->
    F.xab.l2 Q (m + 1) (some ⟨n, 0, none⟩) (i0 : Int) (n0 : Int) (i : Int) h := by
  intro m
  induction m with
  | zero =>
    intro i h G hn hn0 hi hm v ne k
    unfold F.xab.l2
    rw [w64 (n := 2 * (i : Int)) (by omega) (by omega), w64 (n := 2 * (i : Int) + 1) (by omega) (by omega)]
    refine ⟨fun _ => ?_, fun g => by simp at g; omega⟩
    unfold F.xab.j6 F.xab.j1
    refine ⟨fun _ => k h v, fun g => (by cases g)⟩
  | succ m ih =>
    intro i h G hn hn0 hi hm v ne k
    unfold F.xab.l2
    rw [w64 (n := 2 * (i : Int)) (by omega) (by omega), w64 (n := 2 * (i : Int) + 1) (by omega) (by omega)]
    unfold dn at k
    refine ⟨fun g1 => ?_, fun g1 => ?_⟩
    · rw [if_pos (by simp at g1; omega)] at k
      unfold F.xab.j6 F.xab.j1
      exact ⟨fun _ => k h v, fun g => (by cases g)⟩
    · have hlt : ¬ n0 <= 2 * i + 1 := by simp at g1; omega
      rw [if_neg hlt] at k
      rw [decide_eq_false (show ¬ 2 * (i : Int) + 1 < 0 by omega)]
      unfold F.xab.j6
      refine ⟨fun g => (by cases g), fun _ => ?_⟩
      unfold F.xab.j3
      rw [w64 (n := 2 * (i : Int) + 1 + 1) (by omega) (by omega)]
      have q1 : (2 * (i : Int) + 1) = ((2 * i + 1 : Nat) : Int) := by omega
      have q2 : (2 * (i : Int) + 1 + 1) = ((2 * i + 2 : Nat) : Int) := by omega
      rw [q2, q1]
      -- the lesser child
      have j4 : ∀ (j : Nat) (h : H), FS h0 hk h n s G -> j < n0 -> (if 2 * i + 2 < n0 ∧ ltF (g G (2 * i + 2)) (g G (2 * i + 1)) = true then 2 * i + 2 else 2 * i + 1) = j -> F.xab.j4 Q (F.xab.l2 Q (m + 1)) (some ⟨n, 0, none⟩) (i0 : Int) (n0 : Int) (i : Int) (j : Int) h := by
        intro j h v hj hje
        rw [hje] at k
        have hji : j = 2 * i + 1 ∨ j = 2 * i + 2 := by rw [← hje]; split <;> omega
        unfold F.xab.j4
        refine ⟨_, rfl, v.ldv (Less_spec v (by omega) (by omega) (ne j hj) (ne i (by omega)) fun h1 e1 => ⟨fun g => ?_, fun g => ⟨_, rfl, ?_⟩⟩)⟩
        · rw [if_neg (by simpa using g)] at k
          unfold F.xab.j1
          exact k h1 (v.e e1)
        · rw [if_pos (by simpa using g)] at k
          have v1 := v.e e1
          refine v1.ldv (Swap_spec v1 (by omega) (by omega) fun h2 v2 => ?_)
          exact ih j h2 _ (by rw [swp_len]; exact hn) hn0 (by omega) (by omega) v2 (fun q hq => by
            rw [g_swp (by omega) (by omega)]
            split
            · exact ne i (by omega)
            · split
              · exact ne j hj
              · exact ne q hq) k
      have j5 : ∀ (b : Bool) (h : H), FS h0 hk h n s G -> (b = decide (2 * i + 2 < n0 ∧ ltF (g G (2 * i + 2)) (g G (2 * i + 1)) = true)) -> F.xab.j5 Q (F.xab.l2 Q (m + 1)) (some ⟨n, 0, none⟩) (i0 : Int) (n0 : Int) (i : Int) ((2 * i + 1 : Nat) : Int) ((2 * i + 2 : Nat) : Int) b h := by
        intro b h v hb
        unfold F.xab.j5
        refine ⟨fun g => ?_, fun g => ?_⟩
        · rw [hb] at g
          have hc := of_decide_eq_true g
          exact j4 _ h v hc.1 (if_pos hc)
        · rw [hb] at g
          have hc := of_decide_eq_false g
          exact j4 _ h v (by omega) (if_neg hc)
      refine ⟨fun gg => ⟨_, rfl, v.ldv ?_⟩, fun gg => j5 _ h v ?_⟩
      · have hc : 2 * i + 2 < n0 := by simp at gg; omega
        refine Less_spec v (by omega) (by omega) (ne _ hc) (ne _ (by omega)) fun h1 e1 => j5 _ h1 (v.e e1) ?_
        cases ltF (g G (2 * i + 2)) (g G (2 * i + 1)) <;> simp [hc]
      · have hc : ¬ 2 * i + 2 < n0 := by simp at gg; omega
        simp [hc]
theorem down_spec {n0 i0 : Nat} {Q : Bool -> H -> Prop} (v : FS h0 hk h n s G) (hn : n0 <= G.length) (hn0 : n0 < 1000000) (hi : i0 < 1000000) (ne : ∀ j, j < n0 -> (g G j).R ≠ []) (k : ∀ h', FS h0 hk h' n s (dn ltF (n0 - i0) G n0 i0).1 -> ∀ b, Q b h') :
    F.xab (some ⟨n, 0, none⟩) (i0 : Int) (n0 : Int) h Q := by
  unfold F.xab
  exact ⟨n0 - i0 + 1, down_loop (n0 - i0) i0 h G hn hn0 hi (Nat.le_refl _) v ne fun h' v' => k h' v' _⟩
end
section
variable {h0 hk h h' : H} {n : Nat} {s : Sl} {G : List Fr}
abbrev Heap (G : List Fr) : Prop := HP ltF G G.length 0
theorem Init_loop {Q : H -> Prop} : ∀ (m : Nat) (i : Nat) (h : H) (G : List Fr), G.length < 1000000 -> i <= G.length / 2 -> i < m -> FS h0 hk h n s G -> (∀ f ∈ G, f.R ≠ []) -> HP ltF G G.length i ->
    (∀ h' G', FS h0 hk h' n s G' -> G'.Perm G -> Heap G' -> Q h') -> F.xbl.l1 Q m (some ⟨n, 0, none⟩) (G.length : Int) ((i : Int) - 1) h := by
  intro m
  induction m with
  | zero => intro i h G _ _ hm; omega
  | succ m ih =>
    intro i h G hn hi hm v ne hp k
    unfold F.xbl.l1
    refine ⟨fun g => ?_, fun g => ?_⟩
    · have hi0 : 0 < i := by simp at g; omega
      have e1 : ((i : Int) - 1) = ((i - 1 : Nat) : Int) := by omega
      rw [e1]
      have law := dn_law ltF_ord (G.length - (i - 1)) G G.length (i - 1) (i - 1) (Nat.le_refl _) (by omega) (Nat.le_refl _) (Nat.le_refl _) (fun c c0 cn cs cp => hp c c0 cn (by omega)) (fun c c0 cn cp c1 c2 => by omega)
      refine down_spec v (Nat.le_refl _) hn (by omega) (fun j hj => ne _ (List.mem_of_getElem? (g_mem hj))) fun h1 v1 b => ?_
      rw [w64 (by omega) (by omega)]
      obtain ⟨r1, r2, r3, r4⟩ := law
      have := ih (i - 1) h1 (dn ltF (G.length - (i - 1)) G G.length (i - 1)).1 (by rw [r3]; exact hn) (by rw [r3]; omega) (by omega) v1 (fun f hf => ne f (r2.mem_iff.1 hf)) (by rw [r3]; exact r1) fun h' G' v' p' hp' => k h' G' v' (p'.trans r2) hp'
      rw [r3] at this
      exact this
    · have : i = 0 := by simp at g; omega
      subst this
      exact k h G v (.refl _) hp
theorem tdiv2 {a : Nat} : Int.tdiv (a : Int) 2 = ((a / 2 : Nat) : Int) := by
  rw [Int.tdiv_eq_ediv_of_nonneg (by omega)]; omega
theorem Init_spec {Q : H -> Prop} (v : FS h0 hk h n s G) (ne : ∀ f ∈ G, f.R ≠ []) (hn : G.length < 1000000) (k : ∀ h' G', FS h0 hk h' n s G' -> G'.Perm G -> Heap G' -> Q h') : F.xbl (some ⟨n, 0, none⟩) h Q := by
  unfold F.xbl
  refine ⟨_, rfl, v.ldv ?_⟩
  unfold F.xbr
  have hl := own_len cF_len (by omega) v.own
  rw [List.length_map] at hl
  rw [hl]
  refine ⟨by decide, G.length / 2 + 1, ?_⟩
  rw [tdiv2, w64 (n := ((G.length / 2 : Nat) : Int)) (by omega) (by omega), w64 (by omega) (by omega)]
  exact Init_loop (G.length / 2 + 1) (G.length / 2) h G hn (by omega) (by omega) v ne (fun c c0 cn cs => by omega) k
theorem Pop_method {Q : Value -> H -> Prop} (v : FS h0 hk h n s G) (hG : 0 < G.length) (hn : G.length < 1000000) (k : ∀ u h' s', FS h0 hk h' n s' G.dropLast -> Q u h') : F.xcl (some ⟨n, 0, none⟩) h Q := by
  unfold F.xcl
  have hl := own_len cF_len (by omega) v.own
  rw [List.length_map] at hl
  refine ⟨_, rfl, v.ldv ?_⟩
  rw [hl, w64 (by omega) (by omega)]
  have e1 : ((G.length : Int) - 1) = ((G.length - 1 : Nat) : Int) := by omega
  rw [e1]
  refine v.at (by omega) fun a1 d1 => ⟨_, d1, ?_⟩
  refine new_of fun m h1 hm b1 x1 s1 => ?_
  refine stH_of b1 (by simp [S_merge_front.cells]) fun h2 b2 o2 s2 => ?_
  rw [writeA_all (by simp [S_merge_front.cells])] at b2
  have x2 : Ext h h2 := x1.step o2 fun y hy e => by omega
  have v2 := v.e x2
  have hcap : s.len <= s.cap ∧ s.cap <= maxLen ∧ ∃ b, s.ptr = some ⟨b, 0, none⟩ := by
    obtain ⟨_, ⟨q1, q2, q3⟩ | ⟨b', c', q1, q2, q3, q4, q5, q6⟩⟩ := v.own
    · omega
    · exact ⟨q4, q5, b', q1⟩
  refine ⟨slcut s 0 (G.length - 1) 2, ⟨by omega, by omega, by omega, by simp⟩, ⟨_, rfl, ?_⟩⟩
  refine stH_of v2.var (by simp) fun h3 b3 o3 s3 => ?_
  rw [writeA_all (by simp)] at b3
  have hmn : m ≠ n := by have := block_lt v.var; omega
  have b2' : Blk h3 m _ _ := o3.block b2 (fun e => hmn e)
  refine ⟨_, fun j u hu => by rw [add_lit, Nat.zero_add]; exact b2'.cell (by simpa using hu), ?_⟩
  have hnb : s.blk ≠ some n := fun hb => by
    obtain ⟨_, ⟨q1, q2, q3⟩ | ⟨b', c', q1, q2, _⟩⟩ := v2.own
    · simp [Sl.blk, q1] at hb
    · simp [Sl.blk, q1] at hb
      subst hb
      have := v2.var
      unfold Blk at q2 this
      rw [q2] at this; cases this
  have hb0 := hcap.2.2
  obtain ⟨b, hb⟩ := hb0
  have hcut : slcut s 0 (G.length - 1) 2 = ⟨some ⟨b, 0, none⟩, G.length - 1, s.cap⟩ := by
    unfold slcut
    rw [if_neg (by omega), hb]
    simp [add_lit]
  rw [hcut] at b3
  have w2 := v2.own
  refine k _ h3 _ ⟨b3, ?_, fun y hy => v.mine y (by simp [Sl.blk] at hy ⊢; simp [hb, hy]), v.lo, v2.ext.step o3 fun y hy e => by have := v.lo; omega, fun f hf => v.rows f (List.dropLast_subset _ hf), v2.kp.blk o3 v2.var (.inr rfl)⟩
  have w3 := w2.only o3 fun y hy e => hnb (by rw [← e]; exact hy)
  obtain ⟨r1, ⟨q1, q2, q3⟩ | ⟨b', c', q1, q2, q3, q4, q5, q6⟩⟩ := w3
  · omega
  · rw [hb] at q1
    cases q1
    have hfl : ((G.map (·.f)).flatMap cF).length = G.length * 2 := by rw [flat_len _ 2 cF_len]; simp
    have hdl : ((G.dropLast.map (·.f)).flatMap cF) = ((G.map (·.f)).flatMap cF).take ((G.length - 1) * 2) := by
      have hne : G ≠ [] := by intro e; subst e; simp at hG
      have hGs := List.dropLast_concat_getLast hne
      have hfd : ((G.dropLast.map (·.f)).flatMap cF).length = (G.length - 1) * 2 := by rw [flat_len _ 2 cF_len]; simp
      have e : ((G.map (·.f)).flatMap cF) = ((G.dropLast.map (·.f)).flatMap cF) ++ (([G.getLast hne].map (·.f)).flatMap cF) := by rw [← List.flatMap_append, ← List.map_append, hGs]
      rw [e, List.take_left' hfd]
    refine ⟨by rw [hdl]; simp [hfl], .inr ⟨b, c', rfl, q2, q3, by show G.length - 1 <= s.cap; omega, q5, ?_⟩⟩
    rw [hdl, List.length_take, hfl, Nat.min_eq_left (by omega)]
    rw [hfl] at q6
    rw [← q6, List.take_take, Nat.min_eq_left (by omega)]
theorem dropLast_g {A : List Fr} {c : Nat} (h : c < A.length - 1) : g A.dropLast c = g A c := by
  simp only [g, List.getD_eq_getElem?_getD]
  rw [List.getElem?_dropLast, if_pos h]
theorem Pop_spec {Q : Value -> H -> Prop} (v : FS h0 hk h n s G) (hG : 0 < G.length) (hn : G.length < 1000000) (hp : ∀ c, 0 < c -> c < G.length -> (c - 1) / 2 ≠ 0 -> ltF (g G c) (g G ((c - 1) / 2)) = false) (ne : ∀ j, 0 < j -> j < G.length -> (g G j).R ≠ [])
    (k : ∀ u h' s' G', FS h0 hk h' n s' G' -> (g G 0 :: G').Perm G -> Heap G' -> Q u h') : F.xci (some ⟨n, 0, none⟩) h Q := by
  unfold F.xci
  have hl := own_len cF_len (by omega) v.own
  rw [List.length_map] at hl
  refine ⟨_, rfl, v.ldv ?_⟩
  unfold F.xbr
  rw [hl]
  refine ⟨_, rfl, v.ldv ?_⟩
  rw [w64 (by omega) (by omega)]
  have e1 : ((G.length : Int) - 1) = ((G.length - 1 : Nat) : Int) := by omega
  rw [e1]
  have q0 : (0 : Int) = ((0 : Nat) : Int) := rfl
  rw [q0]
  refine Swap_spec v (by omega) (by omega) fun h1 v1 => ?_
  have hgs : ∀ k, g (swp G 0 (G.length - 1)) k = if k = G.length - 1 then g G 0 else if k = 0 then g G (G.length - 1) else g G k := fun k => g_swp (by omega) (by omega)
  have hsl := swp_len G 0 (G.length - 1)
  have key : ∀ (A : List Fr), A.length = G.length -> A.Perm (swp G 0 (G.length - 1)) -> (∀ c, G.length - 1 <= c -> g A c = g (swp G 0 (G.length - 1)) c) -> HP ltF A (G.length - 1) 0 -> (g G 0 :: A.dropLast).Perm G ∧ Heap A.dropLast := by
    intro A hA hperm hback hhp
    constructor
    · have hne : A ≠ [] := by intro e; rw [e] at hA; simp at hA; omega
      have hlast : A.getLast hne = g G 0 := by
        have : g A (G.length - 1) = g G 0 := by rw [hback _ (Nat.le_refl _), hgs, if_pos rfl]
        rw [List.getLast_eq_getElem, ← this]
        simp [g, List.getD_eq_getElem?_getD, hA, hG]
        rw [List.getElem?_eq_getElem (by omega)]; rfl
      have h1 : (A.dropLast ++ [g G 0]).Perm G := by
        rw [← hlast, List.dropLast_concat_getLast hne]
        exact hperm.trans (swp_perm (by omega) (by omega))
      exact (List.perm_append_singleton _ _).symm.trans h1
    · intro c c0 cn cs
      rw [List.length_dropLast, hA] at cn
      rw [dropLast_g (by omega), dropLast_g (by omega)]
      exact hhp c c0 cn cs
  refine down_spec v1 (by omega) (by omega) (by omega) (fun j hj => by
    rw [hgs, if_neg (by omega)]
    split
    · exact ne _ (by omega) (by omega)
    · exact ne j (by omega) (by omega)) fun h2 v2 b => ?_
  by_cases h1n : G.length = 1
  · have hd : (dn ltF (G.length - 1 - 0) (swp G 0 (G.length - 1)) (G.length - 1) 0).1 = swp G 0 (G.length - 1) := by
      rw [h1n]; rfl
    rw [hd] at v2
    obtain ⟨r1, r2⟩ := key _ hsl (.refl _) (fun _ _ => rfl) (fun c c0 cn cs => by omega)
    exact Pop_method v2 (by omega) (by omega) fun u h3 s3 v3 => k u h3 s3 _ v3 r1 r2
  · obtain ⟨r1, r2, r3, r4⟩ := dn_law ltF_ord (G.length - 1 - 0) (swp G 0 (G.length - 1)) (G.length - 1) 0 0 (by omega) (by omega) (Nat.le_refl _) (by omega) (fun c c0 cn cs cp => by
      rw [hgs, hgs, if_neg (by omega), if_neg (by omega), if_neg (by omega), if_neg (by omega)]
      exact hp c c0 (by omega) cp) (fun c c0 cn cp c1 c2 => by omega)
    obtain ⟨t1, t2⟩ := key _ (by omega) r2 r4 r1
    exact Pop_method v2 (by omega) (by omega) fun u h3 s3 v3 => k u h3 s3 _ v3 t1 t2
theorem Fix_spec {Q : H -> Prop} (v : FS h0 hk h n s G) (hG : 0 < G.length) (hn : G.length < 1000000) (ne : ∀ f ∈ G, f.R ≠ []) (h1 : ∀ c, 0 < c -> c < G.length -> (c - 1) / 2 ≠ 0 -> ltF (g G c) (g G ((c - 1) / 2)) = false)
    (k : ∀ h' G', FS h0 hk h' n s G' -> G'.Perm G -> Heap G' -> Q h') : F.xco (some ⟨n, 0, none⟩) 0 h Q := by
  unfold F.xco
  have hl := own_len cF_len (by omega) v.own
  rw [List.length_map] at hl
  refine ⟨_, rfl, v.ldv ?_⟩
  unfold F.xbr
  rw [hl]
  have q0 : (0 : Int) = ((0 : Nat) : Int) := rfl
  rw [q0]
  obtain ⟨r1, r2, r3, r4⟩ := dn_law ltF_ord (G.length - 0) G G.length 0 0 (Nat.le_refl _) hG (Nat.le_refl _) (by omega) (fun c c0 cn cs cp => h1 c c0 cn cp) (fun c c0 cn cp c1 c2 => by omega)
  refine down_spec v (Nat.le_refl _) hn (by omega) (fun j hj => ne _ (List.mem_of_getElem? (g_mem hj))) fun h2 v2 b => ?_
  have kk := k h2 _ v2 r2 (by unfold Heap; rw [r3]; exact r1)
  refine ⟨fun _ => ?_, fun _ => kk⟩
  unfold F.xak
  refine ⟨1, ?_⟩
  unfold F.xak.l1
  refine ⟨by decide, fun _ => ?_, fun g => absurd g (by decide)⟩
  unfold F.xak.j3
  exact ⟨fun _ => kk, fun g => (by cases g)⟩
end
theorem el_fronts : El PP tn_merge_fronts tn_merge_front 2 32 (.agg (⟨(⟨none, 0, 0⟩ : Sl), 0⟩ : S_merge_front).cells.toArray) := el_merge_fronts
theorem tk_snoc {α : Type} {l : List α} {i : Nat} {x : α} (h : l[i]? = some x) : l.take (i + 1) = l.take i ++ [x] := by rw [List.take_add_one, h]; rfl
def leC (a b : Rw8) : Bool := decide (cmpC a.Cell b.Cell <= 0)
abbrev mR (Ls : List (List Rw8)) : List Rw8 := mAll leC Ls
structure GR (G : List Fr) (Rem : List (List Rw8)) : Prop where
  a : ∀ f ∈ G, ∃ k : Nat, f.f.list = (k : Int) ∧ Rem[k]? = some f.R ∧ f.R ≠ []
  b : ∀ (k : Nat) R, Rem[k]? = some R -> R ≠ [] -> ∃ f ∈ G, f.f.list = (k : Int) ∧ f.R = R
  nd : (G.map (·.f.list)).Nodup
  cap : ∀ f ∈ G, f.f.rows.len <= f.f.rows.cap
theorem GR.perm {G G' : List Fr} {Rem : List (List Rw8)} (r : GR G Rem) (p : G'.Perm G) : GR G' Rem :=
  ⟨fun f hf => r.a f (p.mem_iff.1 hf), fun k R h1 h2 => by obtain ⟨f, hf, h⟩ := r.b k R h1 h2; exact ⟨f, p.mem_iff.2 hf, h⟩, (p.map _).nodup_iff.2 r.nd, fun f hf => r.cap f (p.mem_iff.1 hf)⟩
theorem GR.ne {G : List Fr} {Rem : List (List Rw8)} (r : GR G Rem) : ∀ f ∈ G, f.R ≠ [] := fun f hf => by obtain ⟨k, _, _, h⟩ := r.a f hf; exact h
theorem GR.snoc {G : List Fr} {Rem : List (List Rw8)} {s : Sl} {R : List Rw8} (r : GR G Rem) (hR : R ≠ []) (hc : s.len <= s.cap) : GR (G ++ [⟨⟨s, (Rem.length : Int)⟩, R⟩]) (Rem ++ [R]) := by
  refine ⟨fun f hf => ?_, fun k R' h1 h2 => ?_, ?_, fun f hf => ?_⟩
  · rcases List.mem_append.1 hf with hf | hf
    · obtain ⟨k, h1, h2, h3⟩ := r.a f hf
      exact ⟨k, h1, by rw [List.getElem?_append_left (List.getElem?_eq_some_iff.1 h2).1]; exact h2, h3⟩
    · simp at hf; subst hf
      exact ⟨Rem.length, rfl, by simp, hR⟩
  · by_cases hk : k < Rem.length
    · rw [List.getElem?_append_left hk] at h1
      obtain ⟨f, hf, h⟩ := r.b k R' h1 h2
      exact ⟨f, by simp [hf], h⟩
    · have hkl := (List.getElem?_eq_some_iff.1 h1).1
      simp at hkl
      have : k = Rem.length := by omega
      subst this
      simp at h1; subst h1
      exact ⟨⟨⟨s, (Rem.length : Int)⟩, R⟩, by simp, rfl, rfl⟩
  · rw [List.map_append, List.nodup_append]
    refine ⟨r.nd, by simp, fun a ha b hb => ?_⟩
    simp only [List.map_cons, List.map_nil, List.mem_singleton] at hb
    subst hb
    obtain ⟨f, hf, rfl⟩ := List.mem_map.1 ha
    obtain ⟨k, h1, h2, _⟩ := r.a f hf
    have := (List.getElem?_eq_some_iff.1 h2).1
    omega
  · rcases List.mem_append.1 hf with hf | hf
    · exact r.cap f hf
    · simp at hf; subst hf; exact hc
theorem GR.skip {G : List Fr} {Rem : List (List Rw8)} (r : GR G Rem) : GR G (Rem ++ [[]]) := by
  refine ⟨fun f hf => ?_, fun k R' h1 h2 => ?_, r.nd, r.cap⟩
  · obtain ⟨k, h1, h2, h3⟩ := r.a f hf
    exact ⟨k, h1, by rw [List.getElem?_append_left (List.getElem?_eq_some_iff.1 h2).1]; exact h2, h3⟩
  · by_cases hk : k < Rem.length
    · rw [List.getElem?_append_left hk] at h1
      exact r.b k R' h1 h2
    · have hkl := (List.getElem?_eq_some_iff.1 h1).1
      simp at hkl
      have : k = Rem.length := by omega
      subst this
      simp at h1
      exact (h2 h1).elim
theorem GR.pick {G : List Fr} {Rem : List (List Rw8)} (r : GR G Rem) (hG : 0 < G.length) (hp : Heap G) : ∃ (k : Nat) (x : Rw8) (t : List Rw8), (g G 0).f.list = (k : Int) ∧ Rem[k]? = some (x :: t) ∧ (g G 0).R = x :: t ∧ mR Rem = x :: mR (Rem.set k t) := by
  have hm := List.mem_of_getElem? (g_mem hG)
  obtain ⟨k, h1, h2, h3⟩ := r.a _ hm
  obtain ⟨x, t, hx⟩ : ∃ x t, (g G 0).R = x :: t := by
    cases hR : (g G 0).R with
    | nil => exact absurd hR h3
    | cons x t => exact ⟨x, t, rfl⟩
  have hroot := hp_root ltF_ord hp
  have other : ∀ (j : Nat) y s, Rem[j]? = some (y :: s) -> ¬ (cmpC y.Cell x.Cell = -1 ∨ (cmpC y.Cell x.Cell = 0 ∧ (j : Int) < (k : Int))) := fun j y s hj hlt => by
    obtain ⟨f, hf, e1, e2⟩ := r.b j _ hj (by simp)
    obtain ⟨c, hc⟩ := List.mem_iff_getElem?.1 hf
    have hcl := (List.getElem?_eq_some_iff.1 hc).1
    have hgc : g G c = f := by
      have := g_mem hcl; rw [hc] at this; exact (Option.some.inj this).symm
    have := hroot c hcl
    rw [hgc] at this
    have hn : ¬ ltF f (g G 0) = true := by rw [this]; simp
    rw [ltF_iff, e1, h1] at hn
    have d1 : hdF f = y := by unfold hdF; rw [e2]; rfl
    have d2 : hdF (g G 0) = x := by unfold hdF; rw [hx]; rfl
    rw [d1, d2] at hn
    exact hn hlt
  refine ⟨k, x, t, h1, by rw [h2, hx], hx, mAll_pick (by rw [h2, hx]) (fun j y s hj hy => ?_) (fun j y s hj hy => ?_)⟩
  · have := other j y s hy
    have hr := cC_range y.Cell x.Cell
    unfold leC
    exact decide_eq_false (by omega)
  · have := other j y s hy
    have hr := cC_range y.Cell x.Cell
    have ha := cC_anti y.Cell x.Cell
    unfold leC
    exact decide_eq_true (by omega)
theorem GR.turn {G : List Fr} {Rem : List (List Rw8)} {k : Nat} {x : Rw8} {t : List Rw8} {s : Sl} (r : GR G Rem) (hG : 0 < G.length) (h1 : (g G 0).f.list = (k : Int)) (h2 : Rem[k]? = some (x :: t)) (ht : t ≠ []) (hc : s.len <= s.cap) : GR (G.set 0 ⟨⟨s, (k : Int)⟩, t⟩) (Rem.set k t) := by
  have hkl := (List.getElem?_eq_some_iff.1 h2).1
  have hm0 := g_mem hG
  have uniq : ∀ c, c < G.length -> (g G c).f.list = (k : Int) -> c = 0 := fun c hc he => by
    have a1 : (G.map (·.f.list))[0]? = some (k : Int) := by rw [List.getElem?_map, hm0]; simp only [Option.map_some, h1]
    have a2 : (G.map (·.f.list))[c]? = some (k : Int) := by rw [List.getElem?_map, g_mem hc]; simp only [Option.map_some, he]
    exact ((List.getElem?_inj (by simpa using hc) r.nd).1 (a2.trans a1.symm))
  refine ⟨fun f hf => ?_, fun j R' g1 g2 => ?_, ?_, fun f hf => ?_⟩
  · obtain ⟨c, hc⟩ := List.mem_iff_getElem?.1 hf
    rw [List.getElem?_set] at hc
    by_cases e : 0 = c
    · rw [if_pos e, if_pos hG] at hc; cases hc
      exact ⟨k, rfl, by simp [hkl], ht⟩
    · rw [if_neg e] at hc
      have hcl := (List.getElem?_eq_some_iff.1 hc).1
      obtain ⟨j, q1, q2, q3⟩ := r.a f (List.mem_of_getElem? hc)
      have hgc : g G c = f := by have := g_mem hcl; rw [hc] at this; exact (Option.some.inj this).symm
      refine ⟨j, q1, ?_, q3⟩
      rw [List.getElem?_set, if_neg (fun e2 => e (uniq c hcl (by rw [hgc, q1, e2])).symm)]; exact q2
  · rw [List.getElem?_set] at g1
    by_cases e : k = j
    · subst e
      rw [if_pos rfl, if_pos hkl] at g1; cases g1
      exact ⟨_, List.mem_iff_getElem?.2 ⟨0, by rw [List.getElem?_set, if_pos rfl, if_pos hG]⟩, rfl, rfl⟩
    · rw [if_neg e] at g1
      obtain ⟨f, hf, q1, q2⟩ := r.b j R' g1 g2
      obtain ⟨c, hc⟩ := List.mem_iff_getElem?.1 hf
      have hcl := (List.getElem?_eq_some_iff.1 hc).1
      have hgc : g G c = f := by have := g_mem hcl; rw [hc] at this; exact (Option.some.inj this).symm
      refine ⟨f, List.mem_iff_getElem?.2 ⟨c, ?_⟩, q1, q2⟩
      rw [List.getElem?_set, if_neg (fun e2 => ?_)]
      · exact hc
      · subst e2; rw [hgc, q1] at h1; omega
  · have : (G.set 0 ⟨⟨s, (k : Int)⟩, t⟩).map (·.f.list) = G.map (·.f.list) := by
      rw [List.map_set]
      apply List.ext_getElem?; intro c
      rw [List.getElem?_set]
      by_cases e : 0 = c
      · subst e
        rw [if_pos rfl, if_pos (by simpa using hG), List.getElem?_map, hm0]; simp only [Option.map_some, h1]
      · rw [if_neg e]
    rw [this]; exact r.nd
  · rcases List.mem_or_eq_of_mem_set hf with hf | rfl
    · exact r.cap f hf
    · exact hc
theorem GR.gone {G G' : List Fr} {Rem : List (List Rw8)} {k : Nat} {x : Rw8} {f0 : Fr} (r : GR G Rem) (hG : 0 < G.length) (h1 : (g G 0).f.list = (k : Int)) (h2 : Rem[k]? = some [x]) (p : (f0 :: G').Perm (G.set 0 f0)) : GR G' (Rem.set k []) := by
  have hkl := (List.getElem?_eq_some_iff.1 h2).1
  obtain ⟨a, G1, rfl⟩ : ∃ a G1, G = a :: G1 := by
    cases G with
    | nil => simp at hG
    | cons a G1 => exact ⟨a, G1, rfl⟩
  have hp : G'.Perm G1 := by
    have : (f0 :: G').Perm (f0 :: G1) := p
    exact this.cons_inv
  have h1' : a.f.list = (k : Int) := h1
  have nd := r.nd
  simp only [List.map_cons, List.nodup_cons] at nd
  have r1 : GR G1 (Rem.set k []) := by
    refine ⟨fun f hf => ?_, fun j R' g1 g2 => ?_, nd.2, fun f hf => r.cap f (by simp [hf])⟩
    · obtain ⟨j, q1, q2, q3⟩ := r.a f (by simp [hf])
      refine ⟨j, q1, ?_, q3⟩
      rw [List.getElem?_set, if_neg (fun e => nd.1 (List.mem_map.2 ⟨f, hf, by rw [q1, ← e, h1']⟩))]; exact q2
    · rw [List.getElem?_set] at g1
      by_cases e : k = j
      · subst e
        rw [if_pos rfl, if_pos hkl] at g1; cases g1
        exact absurd rfl g2
      · rw [if_neg e] at g1
        obtain ⟨f, hf, q1, q2⟩ := r.b j R' g1 g2
        rcases List.mem_cons.1 hf with rfl | hf
        · rw [h1'] at q1; omega
        · exact ⟨f, hf, q1, q2⟩
  exact r1.perm hp
theorem GR.nil {Rem : List (List Rw8)} (r : GR [] Rem) : mR Rem = [] := mAll_none fun l hl => by
  obtain ⟨k, hk⟩ := List.mem_iff_getElem?.1 hl
  cases hl2 : l with
  | nil => rfl
  | cons a t =>
    obtain ⟨f, hf, _⟩ := r.b k l hk (by rw [hl2]; simp)
    cases hf
abbrev cS8 (s : Sl) : List Value := [s.enc]
theorem cS8_len (s : Sl) : (cS8 s).length = 1 := rfl
section
variable {h0 hk h h' : H} {n : Nat} {s : Sl} {G : List Fr}
theorem FS.put {hk2 : H} {s' : Sl} {G' : List Fr} {K : H -> Prop} (v : FS h0 hk h n s G) (w : Owns h' s' tn_merge_front 2 ((G'.map (·.f)).flatMap cF)) (b : Blk h' n #[s.enc] tn_merge_fronts) (e : Ext h0 h') (m : Mine h0 s') (hr : ∀ f ∈ G', f.R ≠ [] -> Reads h0 f.f.rows 7 (f.R.flatMap cW)) (kp : Keep hk2 h')
    (k : ∀ h2, FS h0 hk2 h2 n s' G' -> Only (· = n) h' h2 -> K h2) : stH h' ⟨n, 0, none⟩ [s'.enc] K := by
  refine stH_of b (by simp) fun h2 b2 o2 s2 => k h2 ⟨?_, w.only o2 fun y hy hf => own_ne w b (by decide) (by rw [hy, hf]), m, v.lo, e.step o2 fun y hy hf => by have := v.lo; omega, hr, kp.blk o2 b (.inr rfl)⟩ o2
  rw [writeA_all (by simp)] at b2; exact b2
theorem FS.re (v : FS h0 hk h n s G) : FS h0 h h n s G := ⟨v.var, v.own, v.mine, v.lo, v.ext, v.rows, .refl _⟩
theorem root_row (v : FS h0 hk h n s G) (hG : 0 < G.length) {x : Rw8} {t : List Rw8} (hx : (g G 0).R = x :: t) {K : Rw8 -> Prop} (k : K x) : idxA (g G 0).f.rows 0 7 fun a => ld_S_api_Row h a K := by
  have rd := v.rows _ (List.mem_of_getElem? (g_mem hG)) (by rw [hx]; simp)
  have rd' := rd.only v.ext fun _ _ f => f
  rw [hx] at rd'
  obtain ⟨p, p1, p2, p3⟩ := rd_at cW_len (by omega) rd' (i := 0) (x := x) rfl
  have hl := rd_len cW_len (by omega) rd'
  exact idxR_of (i := 0) p1 (by rw [hl]; simp) rfl ⟨x, p3, k⟩
theorem Rows_main {n : Nat} {most : Int} {All : List Rw8} {Q : Sl -> H -> Prop} (hA : All.length < 100000)
    (k : ∀ r h', Owns h' r tn_api_Row 7 ((All.take most.toNat).flatMap cW) -> Mine h0 r -> Ext h0 h' -> Q r h') : ∀ (d : Nat) (h : H) (s : Sl) (G : List Fr) (Rem : List (List Rw8)) (r : Sl) (out : List Rw8), (mR Rem).length < d -> FS h0 h h n s G -> G.length < 100000 -> Heap G -> GR G Rem ->
    Owns h r tn_api_Row 7 (out.flatMap cW) -> Mine h0 r -> out ++ mR Rem = All -> out.length <= most.toNat -> F.xag.l2 Q d most ⟨n, 0, none⟩ r h := by
  intro d
  induction d with
  | zero => intro h s G Rem r out hm; omega
  | succ d ih =>
    intro h s G Rem r out hm v hGl hp gr w m hall hout
    have hl := own_len cF_len (by omega) v.own
    rw [List.length_map] at hl
    have hlr := own_len cW_len (by omega) w
    have hol : out.length <= All.length := by rw [← hall]; simp
    unfold F.xag.l2
    refine v.ldv ?_
    simp only [decide_eq_true_eq, decide_eq_false_iff_not]
    rw [hl]
    refine ⟨fun gg => ?_, fun gg => ?_⟩
    · have hG : 0 < G.length := by omega
      unfold F.xag.j4
      refine ⟨fun g2 => ?_, fun g2 => ?_⟩
      · have hlt : out.length < most.toNat := by rw [hlr] at g2; simp at g2; omega
        obtain ⟨kk, x, t, h1, h2, h3, h4⟩ := gr.pick hG hp
        have hkl := (List.getElem?_eq_some_iff.1 h2).1
        unfold F.xag.j3
        have c0 : ∀ {hh : H} {a : Addr} {y : S_merge_front}, Cells hh a (cF y) -> cellH hh (a.add 0) = some y.rows.enc := fun c => c 0 _ rfl
        have q0 : (0 : Int) = ((0 : Nat) : Int) := rfl
        refine v.ldv ?_
        conv in idxA s 0 2 => rw [q0]
        refine v.at hG fun a1 d1 => (ldL_iff (c0 d1)).2 (root_row v hG h3 ?_)
        refine newL_of fun m1 h5 hm1 b5 e5 s5 => ?_
        have r5 : Reads h5 ⟨some ⟨m1, 0, none⟩, 1, 1⟩ 7 ([x].flatMap cW) := blk_reads (by simpa using b5) rfl
        refine app_list (L := out) (M := [x]) cW_len (by omega) el_Slapi_Row (w.ext e5) r5 (fun x => ones_S_api_Row x) (by simp only [List.length_singleton]; omega) fun r6 h6 w6 o6 n6 => ?_
        have hs5 := e5.size
        have m6 : Mine h0 r6 := fun y hy => by
          rcases n6 with n6 | ⟨b', n6, n7⟩
          · exact m y (by rw [← n6]; exact hy)
          · rw [n6] at hy; cases hy; have := v.ext.size; omega
        have e6 : Ext h0 h6 := (v.ext.trans e5).mine m o6
        have v5 := v.e e5
        have v6 : FS h0 h6 h6 n s G := ⟨o6.block v5.var (fun hb => own_ne (w.ext e5) v5.var (by decide) hb), v5.own.only o6 (fun y hy hb => by
          obtain ⟨_, ⟨q1, q2, q3⟩ | ⟨b', c', q1, q2, _⟩⟩ := v5.own
          · simp [Sl.blk, q1] at hy
          · simp [Sl.blk, q1] at hy
            subst hy
            exact own_ne (w.ext e5) q2 (by decide) hb), v.mine, v.lo, e6, v.rows, .refl _⟩
        refine v6.ldv (v6.ldv ?_)
        conv in idxA s 0 2 => rw [q0]
        refine v6.at hG fun a2 d2 => (ldL_iff (c0 d2)).2 ?_
        have hmem := List.mem_of_getElem? (g_mem hG)
        have rd0 := v.rows _ hmem (by rw [h3]; simp)
        have hrl := rd_len cW_len (by omega) rd0
        have hcap := gr.cap _ hmem
        refine cutL_of (lo := 1) (hi := (g G 0).f.rows.len) rfl rfl (by rw [hrl, h3]; simp) hcap ?_
        have rdc := cut_reads (lo := 1) (hi := (g G 0).f.rows.len) cW_len (by omega) rd0 (by rw [hrl, h3]; simp) (by rw [hrl]; exact Nat.le_refl _) hcap
        have hdrop : (((g G 0).R.drop 1).take ((g G 0).f.rows.len - 1)) = t := by
          rw [h3, hrl, h3]; simp
        rw [hdrop] at rdc
        have hcl : (slcut (g G 0).f.rows 1 (g G 0).f.rows.len 7).len = t.length := rd_len cW_len (by omega) rdc
        have hcc : (slcut (g G 0).f.rows 1 (g G 0).f.rows.len 7).len <= (slcut (g G 0).f.rows 1 (g G 0).f.rows.len 7).cap := by unfold slcut; simp only; omega
        generalize hsc : slcut (g G 0).f.rows 1 (g G 0).f.rows.len 7 = sc at rdc hcl hcc
        -- the root's rows are one less
        obtain ⟨b, p1, p2⟩ := own_at cF_len (by omega) v6.own (i := 0) (x := (g G 0).f) (by rw [List.getElem?_map, g_mem hG]; rfl)
        conv in idxA s 0 2 => rw [q0]
        refine idxA_of (i := 0) p1 (by rw [hl]; exact hG) rfl ?_
        rw [show ((⟨b, 0 * 2, none⟩ : Addr).add 0) = ⟨b, 0, none⟩ from by rw [add_lit]]
        have hfl : ((G.map (·.f)).flatMap cF).length = G.length * 2 := by rw [flat_len _ 2 cF_len]; simp
        refine own_set (o := 0) v6.own p1 (by rw [hfl]; simp; omega) fun h7 w7 o7 s7 => ?_
        have hset : ((G.map (·.f)).flatMap cF).take 0 ++ [sc.enc] ++ ((G.map (·.f)).flatMap cF).drop (0 + [sc.enc].length) = (((G.set 0 ⟨⟨sc, (kk : Int)⟩, t⟩).map (·.f)).flatMap cF) := by
          obtain ⟨a, G1, rfl⟩ : ∃ a G1, G = a :: G1 := by
            cases G with
            | nil => simp at hG
            | cons a G1 => exact ⟨a, G1, rfl⟩
          have h1' : a.f.list = (kk : Int) := h1
          simp [S_merge_front.cells, h1']
        rw [hset] at w7
        have hgs : ∀ c, g (G.set 0 ⟨⟨sc, (kk : Int)⟩, t⟩) c = if 0 = c then ⟨⟨sc, (kk : Int)⟩, t⟩ else g G c := fun c => g_set hG
        have v7 : FS h0 h7 h7 n s (G.set 0 ⟨⟨sc, (kk : Int)⟩, t⟩) := ⟨o7.block v6.var fun hb => own_ne v6.own v6.var (by decide) hb, w7, v.mine, v.lo, e6.mine v.mine o7, fun f hf hR => by
          rcases List.mem_or_eq_of_mem_set hf with hf | rfl
          · exact v.rows f hf hR
          · exact rdc, .refl _⟩
        have w6' : Owns h7 r6 tn_api_Row 7 ((out ++ [x]).flatMap cW) := w6.only o7 fun y hy hb => by
          obtain ⟨_, ⟨q1, q2, q3⟩ | ⟨b', c', q1, q2, _⟩⟩ := w6
          · simp [Sl.blk, q1] at hy
          · simp [Sl.blk, q1] at hy
            subst hy
            exact own_ne v6.own q2 (by decide) hb
        have hlen : (G.set 0 ⟨⟨sc, (kk : Int)⟩, t⟩).length = G.length := by simp
        refine v7.ldv ?_
        conv in idxA s 0 2 => rw [q0]
        refine v7.at (by rw [hlen]; exact hG) fun a3 d3 => ?_
        rw [hgs, if_pos rfl] at d3
        refine (ldL_iff (c0 d3)).2 ?_
        rw [hcl]
        have hrem : (mR (Rem.set kk t)).length < d := by rw [h4] at hm; simp at hm; omega
        have hall' : (out ++ [x]) ++ mR (Rem.set kk t) = All := by rw [List.append_assoc, List.singleton_append, ← h4]; exact hall
        have hp' : ∀ c, 0 < c -> c < (G.set 0 ⟨⟨sc, (kk : Int)⟩, t⟩).length -> (c - 1) / 2 ≠ 0 -> ltF (g (G.set 0 ⟨⟨sc, (kk : Int)⟩, t⟩) c) (g (G.set 0 ⟨⟨sc, (kk : Int)⟩, t⟩) ((c - 1) / 2)) = false := fun c c0 cn cp => by
          rw [hgs, hgs, if_neg (by omega), if_neg (by omega)]
          exact hp c c0 (by rw [hlen] at cn; exact cn) (by omega)
        refine ⟨fun g3 => ?_, fun g3 => ?_⟩
        · have ht : t = [] := List.eq_nil_of_length_eq_zero (by simpa using g3)
          subst ht
          refine Pop_spec v7 (by rw [hlen]; exact hG) (by rw [hlen]; omega) hp' (fun j j0 jn => ?_) fun u h8 s8 G8 v8 p8 hp8 => ?_
          · rw [hgs, if_neg (by omega)]
            exact gr.ne _ (List.mem_of_getElem? (g_mem (by rw [hlen] at jn; exact jn)))
          · rw [hgs, if_pos rfl] at p8
            have gr8 := gr.gone hG h1 h2 p8
            have hl8 : G8.length + 1 = G.length := by have := p8.length_eq; simp at this; omega
            refine ih h8 s8 G8 (Rem.set kk []) r6 (out ++ [x]) hrem v8.re (by omega) hp8 gr8 (v8.kp.w w6' (by decide) (by decide)) m6 hall' (by simp; omega)
        · have ht : t ≠ [] := fun e => by subst e; simp at g3
          have gr7 := gr.turn hG h1 h2 ht hcc
          refine Fix_spec v7 (by rw [hlen]; exact hG) (by rw [hlen]; omega) gr7.ne hp' fun h8 G8 v8 p8 hp8 => ?_
          have hl8 : G8.length = G.length := by have := p8.length_eq; simp at this; omega
          refine ih h8 s G8 (Rem.set kk t) r6 (out ++ [x]) hrem v8.re (by omega) hp8 (gr7.perm p8) (v8.kp.w w6' (by decide) (by decide)) m6 hall' (by simp; omega)
      · have : out.length = most.toNat := by rw [hlr] at g2; simp at g2; omega
        refine k r h ?_ m v.ext
        rw [← hall, ← this, List.take_left']
        · exact w
        · rfl
    · have hG : G = [] := List.eq_nil_of_length_eq_zero (by omega)
      subst hG
      have hnil := gr.nil
      unfold F.xag.j4
      refine ⟨fun g2 => (by cases g2), fun _ => k r h ?_ m v.ext⟩
      rw [hnil, List.append_nil] at hall
      rw [← hall, List.take_of_length_le hout]; exact w
end
theorem w64s {n : Nat} (h : n < 9000000000000000000) : IntKind.wrap .i64 ((n : Int) + 1) = ((n + 1 : Nat) : Int) := by rw [w64 (by omega) (by omega)]; omega
section
variable {h0 h h' : H}
structure TB (h : H) (p : Sl) (ss : List Sl) (Ls : List (List Rw8)) : Prop where
  tb : Reads h p 1 (ss.flatMap cS8)
  len : ss.length = Ls.length
  row : ∀ (i : Nat) s R, ss[i]? = some s -> Ls[i]? = some R -> Reads h s 7 (R.flatMap cW) ∧ s.len <= s.cap
theorem TB.at {p : Sl} {ss : List Sl} {Ls : List (List Rw8)} (t : TB h0 p ss Ls) (e : Ext h0 h) {i : Nat} {s : Sl} (hs : ss[i]? = some s) {K : Sl -> Prop} (k : K s) : idxA p (i : Int) 1 fun a => ldL h a K := by
  obtain ⟨q, r1, r2, r3⟩ := rd_at cS8_len (by omega) (t.tb.only e fun _ _ f => f) hs
  have hl := rd_len cS8_len (by omega) t.tb
  exact idxR_of (i := i) r1 (by have := (List.getElem?_eq_some_iff.1 hs).1; omega) rfl ((ldL_iff r3.one).2 k)
theorem Rows_spec {most : Int} {p1 : Sl} {ss : List Sl} {Ls : List (List Rw8)} {Q : Sl -> H -> Prop} (t : TB h p1 ss Ls) (hs : ss.length < 90000) (hn : (mR Ls).length < 100000)
    (k : ∀ r h', Owns h' r tn_api_Row 7 (((mR Ls).take most.toNat).flatMap cW) -> Mine h r -> Ext h h' -> Q r h') : F.xag most p1 h Q := by
  unfold F.xag
  have hl := rd_len cS8_len (by omega) t.tb
  refine new_of fun n h1 hn1 b1 e1 s1 => ⟨ss.length + 1, ?_⟩
  rw [hl]
  have key : ∀ (d i : Nat) (h' : H) (s : Sl) (G : List Fr), i <= ss.length -> ss.length - i < d -> FS h h' h' n s G -> GR G (Ls.take i) -> G.length <= i -> F.xag.l1 Q d most ⟨n, 0, none⟩ p1 (ss.length : Int) (i : Int) h' := by
    intro d
    induction d with
    | zero => intro i h' s G _ hm; omega
    | succ d ih =>
      intro i h' s G hi hm v gr hGi
      have hlG := own_len cF_len (by omega) v.own
      rw [List.length_map] at hlG
      unfold F.xag.l1
      simp only [decide_eq_true_eq, decide_eq_false_iff_not]
      refine ⟨fun gg => ?_, fun gg => ?_⟩
      · obtain ⟨sl, hsl⟩ : ∃ sl, ss[i]? = some sl := ⟨_, List.getElem?_eq_getElem (by omega)⟩
        obtain ⟨R, hR⟩ : ∃ R, Ls[i]? = some R := ⟨_, List.getElem?_eq_getElem (by have := t.len; omega)⟩
        obtain ⟨rd, hcap⟩ := t.row i sl R hsl hR
        have hlr := rd_len cW_len (by omega) rd
        have hli : (Ls.take i).length = i := by have := t.len; rw [List.length_take]; omega
        refine t.at v.ext hsl ?_
        refine ⟨fun g2 => v.ldv ?_, fun g2 => ?_⟩
        · have hRn : R ≠ [] := fun e => by subst e; rw [hlr] at g2; simp at g2
          refine newL_of fun m2 h2 hm2 b2 e2 s2 => ?_
          have r2 : Reads h2 ⟨some ⟨m2, 0, none⟩, 1, 1⟩ 2 ([(⟨sl, (i : Int)⟩ : S_merge_front)].flatMap cF) := blk_reads (by simpa using b2) rfl
          have v2 := v.e e2
          refine app_list (L := G.map (·.f)) (M := [⟨sl, (i : Int)⟩]) cF_len (by omega) el_fronts v2.own r2 (fun x => ones_S_merge_front x) (by simp only [List.length_singleton, List.length_map]; omega) fun r3 h3 w3 o3 n3 => ?_
          have m3 : Mine h r3 := fun y hy => by
            rcases n3 with n3 | ⟨b', n3, n4⟩
            · exact v.mine y (by rw [← n3]; exact hy)
            · rw [n3] at hy; cases hy; have := v2.ext.size; omega
          have e3 : Ext h h3 := v2.ext.mine v2.mine o3
          have b3 : Blk h3 n #[s.enc] tn_merge_fronts := o3.block v2.var fun hb => own_ne v2.own v2.var (by decide) hb
          have gr' := gr.snoc (s := sl) hRn hcap
          rw [← tk_snoc hR, hli] at gr'
          refine FS.put (hk2 := h3) (G' := G ++ [⟨⟨sl, (i : Int)⟩, R⟩]) v2 (by rw [List.map_append]; exact w3) b3 e3 m3 (fun f hf hfr => ?_) (.refl _) fun h4 v4 o4 => ?_
          · rcases List.mem_append.1 hf with hf | hf
            · exact v.rows f hf hfr
            · rw [List.mem_singleton] at hf; subst hf; exact rd
          · rw [w64s (by omega)]
            exact ih (i + 1) h4 r3 _ (by omega) (by omega) v4.re gr' (by rw [List.length_append]; simp only [List.length_singleton]; omega)
        · have hRn : R = [] := by
            cases R with
            | nil => rfl
            | cons a b => rw [hlr] at g2; simp at g2
          subst hRn
          have gr' := gr.skip
          rw [← tk_snoc hR] at gr'
          rw [w64s (by omega)]
          exact ih (i + 1) h' s G (by omega) (by omega) v gr' (by omega)
      · have hiL : i = ss.length := by omega
        rw [hiL, t.len, List.take_length] at gr
        refine Init_spec v gr.ne (by omega) fun h2 G2 v2 p2 hp2 => ⟨(mR Ls).length + 1, ?_⟩
        have hl2 := p2.length_eq
        exact Rows_main (All := mR Ls) hn k _ h2 s G2 Ls _ [] (by omega) v2.re (by omega) hp2 (gr.perm p2) (by simpa using Owns.nil h2 tn_api_Row 7) (.nil _ _ _) rfl (by simp)
  exact key _ 0 h1 ⟨none, 0, 0⟩ [] (by omega) (by omega) ⟨b1, by simpa using Owns.nil h1 tn_merge_front 2, .nil _ _ _, by omega, e1, fun f hf => (by cases hf), .refl _⟩ ⟨fun f hf => (by cases hf), fun k R hk => (by simp at hk), .nil, fun f hf => (by cases hf)⟩ (by simp)
end
end Go.Proofs.YtjjchpaomgmmdaaGreat.V.M
namespace Go.Proofs.YtjjchpaomgmmdaaGreat.V
open Go
set_option linter.unusedVariables false
set_option linter.unusedSimpArgs false
theorem Blk.cells {h : H} {n : Nat} {cs : List Value} {e : TypeId} (b : Blk h n cs.toArray e) : Cells h ⟨n, 0, none⟩ cs := fun i v hv => by
  rw [add_lit, Nat.zero_add]
  exact b.cell (by simpa using hv)
section
variable {P : Program} {h : H}
end
end Go.Proofs.YtjjchpaomgmmdaaGreat.V
namespace Go.Proofs.YtjjchpaomgmmdaaGreat.V.C
open Go Go.Proofs.YtjjchpaomgmmdaaGreat.V
set_option linter.unusedVariables false
set_option linter.unusedSimpArgs false
set_option maxRecDepth 20000
abbrev Ver := S_chain_version_api_Agg
theorem ver_len (x : Ver) : x.cells.length = 6 := rfl
def Ch (h : H) (p : Nat) (L : List Ver) (B : Option Nat) : Prop :=
  ∃ s : Sl, Blk h p #[s.enc] tn_chain_Chain_api_Agg ∧ Owns h s tn_chain_version_api_Agg 6 (L.flatMap (·.cells)) ∧ s.blk = B ∧ B ≠ some p
theorem Ch.len {h : H} {s : Sl} {L : List Ver} (o : Owns h s tn_chain_version_api_Agg 6 (L.flatMap (·.cells))) : s.len = L.length := by
  have := o.1
  rw [flat_len _ 6 ver_len] at this
  omega
theorem Ch.at {h : H} {s : Sl} {L : List Ver} (o : Owns h s tn_chain_version_api_Agg 6 (L.flatMap (·.cells))) {i : Nat} {x : Ver} (hx : L[i]? = some x) :
    ∃ b, s.ptr = some ⟨b, 0, none⟩ ∧ cellH h ⟨b, i * 6, none⟩ = some (.int .i64 x.epoch) ∧ Cells h ⟨b, i * 6 + 1, none⟩ x.value.cells ∧ cellH h ⟨b, i * 6 + 5, none⟩ = some (.bool x.dead) ∧ Cells h ⟨b, i * 6, none⟩ x.cells := by
  obtain ⟨b, h1, h2⟩ := own_at (f := fun x : Ver => x.cells) ver_len (by omega) o hx
  have e : ∀ j v, x.cells[j]? = some v -> cellH h ⟨b, i * 6 + j, none⟩ = some v := fun j v hv => by
    have := h2 j v hv
    rwa [add_lit] at this
  refine ⟨b, h1, e 0 _ rfl, fun j v hv => ?_, e 5 _ rfl, h2⟩
  rw [add_lit]
  match j, hv with
  | 0, hv => exact e 1 v hv
  | 1, hv => exact e 2 v hv
  | 2, hv => exact e 3 v hv
  | 3, hv => exact e 4 v hv
  | j + 4, hv => simp [S_api_Agg.cells] at hv
theorem Ch.only {S : Nat -> Prop} {h h' : H} {p : Nat} {L : List Ver} {B : Option Nat} (c : Ch h p L B) (o : Only S h h') (hp : ¬ S p) (hB : ∀ b, B = some b -> ¬ S b) : Ch h' p L B := by
  obtain ⟨s, h1, h2, h3, h4⟩ := c
  exact ⟨s, o.block h1 hp, h2.only o (by rw [h3]; exact hB), h3, h4⟩
theorem Ch.ext {h h' : H} {p : Nat} {L : List Ver} {B : Option Nat} (c : Ch h p L B) (o : Ext h h') : Ch h' p L B := c.only o (fun f => f) fun _ _ f => f
theorem Ch.lt {h : H} {p : Nat} {L : List Ver} {B : Option Nat} (c : Ch h p L B) : p < h.size := by obtain ⟨s, h1, _⟩ := c; exact block_lt h1
theorem Ch.ltB {h : H} {p : Nat} {L : List Ver} {B : Option Nat} (c : Ch h p L B) : ∀ b, B = some b -> b < h.size := fun b hb => by
  obtain ⟨s, h1, h2, h3, _⟩ := c; exact h2.blk_lt (by rw [h3]; exact hb)
def lastE (L : List Ver) : Int := match L.getLast? with | some x => x.epoch | none => 0
def mayM (L : List Ver) (e : Int) : Int := if e < 1 ∨ e > 1099511627776 then 1 else if L ≠ [] ∧ e < lastE L then 32 else 0
def layM (L : List Ver) (x : Ver) : List Ver := if L ≠ [] ∧ lastE L = x.epoch then L.dropLast ++ [x] else L ++ [x]
def layN (L : List Ver) (x : Ver) : Int := if L ≠ [] ∧ lastE L = x.epoch then 0 else 1
theorem last_get {L : List Ver} (h : L ≠ []) : L[L.length - 1]? = some (L.getLast h) := by
  rw [← List.getLast?_eq_getElem?, List.getLast?_eq_some_getLast h]
theorem New_spec {h : H} {Q : Option Addr -> H -> Prop} (k : ∀ p h', p = h.size -> Ch h' p [] none -> Ext h h' -> Q (some ⟨p, 0, none⟩) h') : F.xce h Q := by
  unfold F.xce
  refine new_of fun n h' e1 e2 e3 e4 => k n h' e1 ⟨⟨none, 0, 0⟩, e2, Owns.nil _ _ _, rfl, by simp⟩ e3
theorem may_spec {h : H} {p : Nat} {L : List Ver} {B : Option Nat} {e : Int} {Q : Int -> H -> Prop} (c : Ch h p L B) (hL : L.length < 4294967296) (k : Q (mayM L e) h) : F.xar (some ⟨p, 0, none⟩) e h Q := by
  obtain ⟨s, hb, ho, hB, hne⟩ := c
  have hl := Ch.len ho
  have hc0 : cellH h ⟨p, 0, none⟩ = some s.enc := hb.cell rfl
  unfold mayM at k
  simp only [F.xar, F.xar.j1, F.xar.j2, nn_some, add_lit, Nat.add_zero, ldL_iff hc0, decide_eq_true_eq, decide_eq_false_iff_not, hl]
  refine ⟨fun g => ⟨fun _ => by rw [if_pos (.inl g)] at k; exact k, fun h => by cases h⟩, fun g => ⟨fun g2 => by rw [if_pos (.inr g2)] at k; exact k, fun g2 => ?_⟩⟩
  rw [if_neg (by omega)] at k
  by_cases hn : L = []
  · subst hn
    simp at k ⊢
    exact k
  · have hpos : 0 < L.length := List.length_pos_iff.2 hn
    obtain ⟨b, h1, h2, _⟩ := Ch.at ho (last_get hn)
    refine ⟨fun _ => ?_, fun h => by omega⟩
    refine idxA_of (i := L.length - 1) h1 (by omega) (by rw [w64 (by omega) (by omega)]; omega) ?_
    simp only [add_lit, Nat.add_zero]
    rw [ldI_iff h2]
    have hle : lastE L = (L.getLast hn).epoch := by unfold lastE; rw [List.getLast?_eq_some_getLast hn]
    rw [← hle]
    by_cases hlt : e < lastE L
    · rw [if_pos ⟨hn, hlt⟩] at k; exact ⟨fun _ => k, fun h => absurd hlt h⟩
    · rw [if_neg (fun h => hlt h.2)] at k; exact ⟨fun h => absurd h hlt, fun _ => k⟩
abbrev FP (p : Nat) (B : Option Nat) : Nat -> Prop := fun b => b = p ∨ B = some b
def Kin (n : Nat) (B B' : Option Nat) : Prop := B' = B ∨ B' = none ∨ ∃ b, B' = some b ∧ n <= b
theorem lay_spec {h : H} {p : Nat} {L : List Ver} {B : Option Nat} {x : Ver} {Q : Int -> H -> Prop} (c : Ch h p L B) (hL : L.length < 4294967296)
    (k : ∀ h' B', Ch h' p (layM L x) B' -> Only (FP p B) h h' -> Kin h.size B B' -> Q (layN L x) h') : F.xaq (some ⟨p, 0, none⟩) x h Q := by
  have hp := c.lt
  unfold F.xaq
  refine new_of fun n h1 e1 e2 e3 e4 => ?_
  have c1 := c.ext e3
  obtain ⟨s, hb, ho, hB, hne⟩ := c1
  have hl := Ch.len ho
  have hc0 : cellH h1 ⟨p, 0, none⟩ = some s.enc := hb.cell rfl
  have hx0 : cellH h1 ⟨n, 0, none⟩ = some (.int .i64 x.epoch) := e2.cell rfl
  have hxc : Cells h1 ⟨n, 0, none⟩ x.cells := fun j v hv => by rw [add_lit, Nat.zero_add]; exact e2.cell (by simpa using hv)
  -- the new version is appended
  have happ : ¬ (L ≠ [] ∧ lastE L = x.epoch) -> F.xaq.j1 Q (some ⟨p, 0, none⟩) ⟨n, 0, none⟩ h1 := fun hno => by
    unfold F.xaq.j1
    simp only [nn_some, add_lit, Nat.add_zero]
    rw [ldL_iff hc0]
    refine ⟨x, hxc, ?_⟩
    refine newL_of fun n2 h2 f1 f2 f3 f4 => ?_
    refine ⟨f3.cell hc0 (fun f => f), ?_⟩
    refine app_of (ys := x.cells) el_Slchain_version_api_Agg (ho.only f3 (fun _ _ f => f)) (blk_reads (by simpa using f2) rfl) (ones_S_chain_version_api_Agg x) (by simp only; omega) fun r h3 r1 r2 r3 r4 => ?_
    have hb3 : Blk h3 p #[s.enc] tn_chain_Chain_api_Agg := r3.block (f3.block hb (fun f => f)) (by rw [hB]; exact hne)
    refine stH_of hb3 (by simp) fun h4 g1 g2 g3 => ?_
    have hr1 : r.blk ≠ some p := by
      rcases r4 with r4 | ⟨b, r4, r5⟩
      · rw [r4, hB]; exact hne
      · rw [r4]; intro e; cases e; omega
    have hm : layM L x = L ++ [x] := if_neg hno
    have hn : layN L x = 1 := if_neg hno
    rw [← hn]
    refine k h4 r.blk ⟨r, g1, ?_, rfl, hr1⟩ ?_ ?_
    · rw [hm, List.flatMap_append]
      exact (by simpa using r1 : Owns h3 r tn_chain_version_api_Agg 6 (L.flatMap (·.cells) ++ x.cells)).only g2 (fun b hb e => hr1 (by rw [hb, e])) |> (by simpa using ·)
    · refine (((e3.only (S := FP p B)).ext f3).trans r3 fun m _ e => .inr (by rw [← hB]; exact e)).trans g2 fun m _ e => .inl e
    · rcases r4 with r4 | ⟨b, r4, r5⟩
      · exact .inl (by rw [r4, hB])
      · exact .inr (.inr ⟨b, r4, by omega⟩)
  -- the newest version is written anew
  have hset : L ≠ [] ∧ lastE L = x.epoch -> F.xaq.j2 Q (some ⟨p, 0, none⟩) ⟨n, 0, none⟩ (L.length : Int) true h1 := fun hyes => by
    have hpos : 0 < L.length := List.length_pos_iff.2 hyes.1
    obtain ⟨b, a1, a2, a3, a4, a5⟩ := Ch.at ho (last_get hyes.1)
    refine ⟨fun _ => ?_, fun h => by cases h⟩
    simp only [nn_some, add_lit, Nat.add_zero]
    rw [ldL_iff hc0]
    refine ⟨x, hxc, ?_⟩
    refine idxA_of (i := L.length - 1) a1 (by omega) (by rw [w64 (by omega) (by omega)]; omega) ?_
    have hfl := flat_len (·.cells) 6 ver_len L
    refine own_set ho a1 (by rw [hfl]; simp [S_chain_version_api_Agg.cells, S_api_Agg.cells]; omega) fun h4 g1 g2 g3 => ?_
    have hm : layM L x = L.dropLast ++ [x] := if_pos hyes
    have hn : layN L x = 0 := if_pos hyes
    rw [← hn]
    refine k h4 B ⟨s, g2.block hb (by rw [hB]; exact hne), ?_, hB, hne⟩ ((e3.only (S := FP p B)).trans g2 fun m _ e => .inr (by rw [← hB]; exact e)) (.inl rfl)
    rw [hm, List.flatMap_append]
    have e1 : (L.flatMap (·.cells)).take ((L.length - 1) * 6) = L.dropLast.flatMap (·.cells) := by
      have hd : L = L.dropLast ++ [L.getLast hyes.1] := (List.dropLast_concat_getLast hyes.1).symm
      have hdl := flat_len (·.cells) 6 ver_len L.dropLast
      rw [List.length_dropLast] at hdl
      conv => lhs; rw [hd, List.flatMap_append]
      rw [show ((L.dropLast ++ [L.getLast hyes.1]).length - 1) = L.length - 1 from by simp]
      rw [← hdl, List.take_left]
    have e2 : (L.flatMap (·.cells)).drop ((L.length - 1) * 6 + x.cells.length) = [] := by
      apply List.drop_eq_nil_of_le
      rw [hfl, ver_len]; omega
    rw [e1, e2] at g1
    simpa using g1
  simp only [nn_some, add_lit, Nat.add_zero, ldL_iff hc0, hl]
  by_cases hn : L = []
  · refine ⟨fun g => ?_, fun g => ⟨(fun h => by cases h), fun _ => happ fun h => h.1 hn⟩⟩
    rw [decide_eq_true_iff] at g; subst hn; simp at g
  · have hpos : 0 < L.length := List.length_pos_iff.2 hn
    refine ⟨fun g => ?_, fun g => by rw [decide_eq_false_iff_not] at g; omega⟩
    obtain ⟨b, a1, a2, a3, a4, a5⟩ := Ch.at ho (last_get hn)
    refine idxA_of (i := L.length - 1) a1 (by omega) (by rw [w64 (by omega) (by omega)]; omega) ?_
    simp only [add_lit, Nat.add_zero]
    rw [ldI_iff a2, ldI_iff hx0]
    have hle : lastE L = (L.getLast hn).epoch := by unfold lastE; rw [List.getLast?_eq_some_getLast hn]
    rw [← hle]
    by_cases he : lastE L = x.epoch
    · rw [show (lastE L == x.epoch) = true from by simp [he]]
      exact hset ⟨hn, he⟩
    · rw [show (lastE L == x.epoch) = false from by simp [he]]
      exact ⟨fun h => (by cases h), fun _ => happ fun h => he h.2⟩
abbrev zA : S_api_Agg := ⟨0, 0, 0, 0⟩
theorem st_agg {h : H} {n : Nat} {c d : S_api_Agg} {e : TypeId} {K : H -> Prop} (b : Blk h n c.cells.toArray e) (k : ∀ h', Blk h' n d.cells.toArray e -> Only (· = n) h h' -> h'.size = h.size -> K h') : stH h ⟨n, 0, none⟩ d.cells K := by
  refine stH_of b (Nat.le_refl 4) fun h' q1 q2 q3 => k h' ?_ q2 q3
  rw [writeA_all (by rfl)] at q1
  exact q1
theorem Kin.ge {n n' : Nat} {B B' : Option Nat} (k : Kin n' B B') (h : n <= n') : Kin n B B' := by
  rcases k with k | k | ⟨b, k, k2⟩
  · exact .inl k
  · exact .inr (.inl k)
  · exact .inr (.inr ⟨b, k, by omega⟩)
theorem Put_spec {h : H} {p : Nat} {L : List Ver} {B : Option Nat} {e : Int} {v : S_api_Agg} {Q : Int -> Int -> H -> Prop} (c : Ch h p L B) (hL : L.length < 4294967296)
    (k0 : mayM L e ≠ 0 -> ∀ h', Ext h h' -> Q 0 (mayM L e) h')
    (k1 : mayM L e = 0 -> ∀ h' B', Ch h' p (layM L ⟨e, v, false⟩) B' -> Only (FP p B) h h' -> Kin h.size B B' -> Q (layN L ⟨e, v, false⟩) 0 h') : F.xck (some ⟨p, 0, none⟩) e v h Q := by
  unfold F.xck
  refine new_of fun n h1 hn b1 e1 s1 => ?_
  refine may_spec (c.ext e1) hL ⟨fun g => k0 (by simpa using g) h1 e1, fun g => ⟨v, Blk.cells b1, ?_⟩⟩
  exact lay_spec (c.ext e1) hL fun h' B' q1 q2 q3 => k1 (by simpa using g) h' B' q1 ((e1.only (S := FP p B)).trans q2 fun m _ e => e) (q3.ge e1.size)
def newestM (L : List Ver) : S_api_Agg × Int × Bool := match L.getLast? with | some x => (x.value, x.epoch, !x.dead) | none => (zA, 0, false)
theorem Newest_spec {h : H} {p : Nat} {L : List Ver} {B : Option Nat} {Q : S_api_Agg -> Int -> Bool -> H -> Prop} (c : Ch h p L B) (hL : L.length < 4294967296)
    (k : ∀ h', Ext h h' -> Q (newestM L).1 (newestM L).2.1 (newestM L).2.2 h') : F.xbp (some ⟨p, 0, none⟩) h Q := by
  unfold F.xbp
  refine new_of fun n0 h0 hn0 b0 e0 s0 => ?_
  obtain ⟨s, hb, ho, hB, hne⟩ := c.ext e0
  have hl := Ch.len ho
  have hc0 : cellH h0 ⟨p, 0, none⟩ = some s.enc := hb.cell rfl
  simp only [nn_some, add_lit, Nat.add_zero, ldL_iff hc0, hl]
  have b0' : Blk h0 n0 zA.cells.toArray tn_api_Agg := b0
  by_cases hn : L = []
  · subst hn
    refine ⟨fun _ => ⟨zA, b0'.cells, st_agg b0' fun h1 b1 o1 s1 => ⟨zA, b1.cells, ?_⟩⟩, fun g => by simp at g⟩
    exact k h1 (e0.step o1 fun m hm hb => by omega)
  · have hpos : 0 < L.length := List.length_pos_iff.2 hn
    refine ⟨fun g => by rw [beq_iff_eq] at g; omega, fun _ => ?_⟩
    obtain ⟨b, a1, a2, a3, a4, a5⟩ := Ch.at ho (last_get hn)
    refine idxA_of (i := L.length - 1) a1 (by omega) (by rw [w64 (by omega) (by omega)]; omega) ?_
    refine ⟨_, a5, ?_⟩
    refine new_of fun n h1 hn1 e2 e3 e4 => ?_
    refine ⟨a5.ext e3, e3.cell hc0 (fun f => f), e3.cell hc0 (fun f => f), ?_⟩
    refine stH_of e2 (Nat.le_refl 6) fun h2 f1 f2 f3 => ?_
    rw [writeA_all (by rfl)] at f1
    have f1c := Blk.cells f1
    simp only [add_lit, Nat.zero_add, Nat.add_zero]
    have v4 : Cells h2 ⟨n, 1, none⟩ (L.getLast hn).value.cells := fun j v hv => by
      rw [add_lit]
      have q : ∀ i, i < 4 -> ((L.getLast hn).cells)[1 + i]? = ((L.getLast hn).value.cells)[i]? := fun i hi => by
        match i, hi with
        | 0, _ => rfl
        | 1, _ => rfl
        | 2, _ => rfl
        | 3, _ => rfl
      have hj : j < 4 := (List.getElem?_eq_some_iff.1 hv).1
      have := f1c (1 + j) v (by rw [q j hj]; exact hv)
      rwa [add_lit, Nat.zero_add] at this
    have c0 : cellH h2 ⟨n, 0, none⟩ = some (.int .i64 (L.getLast hn).epoch) := f1c 0 _ rfl
    have c5 : cellH h2 ⟨n, 5, none⟩ = some (.bool (L.getLast hn).dead) := f1c 5 _ rfl
    refine ⟨_, v4, ldI_of c0 (ldB_of c5 ?_)⟩
    have n0n : n0 ≠ n := by omega
    have b2 : Blk h2 n0 zA.cells.toArray tn_api_Agg := f2.block (e3.block b0' fun f => f) n0n
    refine st_agg b2 fun h3 b3 o3 s3 => ?_
    have z : Only (· = n0) h2 h3 := o3
    refine ⟨z.cell c5 (fun h => n0n h.symm), z.cell c0 (fun h => n0n h.symm), _, b3.cells, ?_⟩
    have hle : newestM L = ((L.getLast hn).value, (L.getLast hn).epoch, !(L.getLast hn).dead) := by unfold newestM; rw [List.getLast?_eq_some_getLast hn]
    have := k h3 (((e0.trans e3).step f2 fun m hm hb => by omega).step o3 fun m hm hb => by omega)
    rw [hle] at this
    exact this
theorem Kill_spec {h : H} {p : Nat} {L : List Ver} {B : Option Nat} {e : Int} {Q : Int -> Int -> H -> Prop} (c : Ch h p L B) (hL : L.length < 4294967296)
    (k0 : mayM L e ≠ 0 -> Q 0 (mayM L e) h)
    (k2 : mayM L e = 0 -> (newestM L).2.2 = false -> ∀ h', Ext h h' -> Q 0 44 h')
    (k1 : mayM L e = 0 -> (newestM L).2.2 = true -> ∀ h' B', Ch h' p (layM L ⟨e, zA, true⟩) B' -> Only (FP p B) h h' -> Kin h.size B B' -> Q (layN L ⟨e, zA, true⟩) 0 h') : F.xcn (some ⟨p, 0, none⟩) e h Q := by
  unfold F.xcn
  refine may_spec c hL ⟨fun g => k0 (by simpa using g), fun g => Newest_spec c hL fun h1 e1 => ?_⟩
  refine new_of fun n h2 hn b2 e2 s2 => ?_
  have b2' : Blk h2 n zA.cells.toArray tn_api_Agg := b2
  refine st_agg b2' fun h3 b3 o3 s3 => ?_
  have e13 : Ext h h3 := (e1.trans e2).step o3 fun m hm hb => by have := e1.size; omega
  refine ⟨fun g2 => k2 (by simpa using g) (by simpa using g2) h3 e13, fun g2 => ?_⟩
  exact lay_spec (c.ext e13) hL fun h' B' q1 q2 q3 => k1 (by simpa using g) (by simpa using g2) h' B' q1 ((e13.only (S := FP p B)).trans q2 fun m _ e => e) (q3.ge e13.size)
abbrev Rise (L : List Ver) : Prop := L.Pairwise fun x y => x.epoch < y.epoch
def cntM (L : List Ver) (e : Int) : Nat := L.countP fun x => decide (x.epoch <= e)
theorem Rise.lt {L : List Ver} (r : Rise L) {i j : Nat} {x y : Ver} (hij : i < j) (hx : L[i]? = some x) (hy : L[j]? = some y) : x.epoch < y.epoch := by
  obtain ⟨hi, rfl⟩ := List.getElem?_eq_some_iff.1 hx
  obtain ⟨hj, rfl⟩ := List.getElem?_eq_some_iff.1 hy
  exact List.pairwise_iff_getElem.1 r i j hi hj hij
theorem cnt_eq {α : Type} (q : α -> Bool) : ∀ (L : List α) (i : Nat), i <= L.length -> (∀ t x, t < i -> L[t]? = some x -> q x = true) -> (∀ t x, i <= t -> L[t]? = some x -> q x = false) -> L.countP q = i
  | [], i, hi, _, _ => by simp at hi; simp [hi]
  | y :: r, 0, hi, h1, h2 => by
    rw [List.countP_cons, h2 0 y (by omega) rfl, cnt_eq q r 0 (by omega) (fun t x ht => by omega) (fun t x ht hx => h2 (t + 1) x (by omega) (by simpa using hx))]
    rfl
  | y :: r, i + 1, hi, h1, h2 => by
    simp at hi
    rw [List.countP_cons, h1 0 y (by omega) rfl, cnt_eq q r i hi (fun t x ht hx => h1 (t + 1) x (by omega) (by simpa using hx)) (fun t x ht hx => h2 (t + 1) x (by omega) (by simpa using hx))]
    rfl
theorem mid_eq {i j : Nat} (h : i + j < 4294967296) : IntKind.wrap .i64 (Int.fdiv (IntKind.wrap .u64 (IntKind.wrap .i64 ((i : Int) + j))) (2 ^ (min (1 : Int).toNat (IntKind.bits .u64)) : Int)) = ((i + j) / 2 : Nat) := by
  rw [w64 (n := (i : Int) + j) (by omega) (by omega)]
  have e1 : IntKind.wrap .u64 ((i : Int) + j) = ((i + j : Nat) : Int) := by
    unfold IntKind.wrap
    simp [IntKind.bits, IntKind.signed]
    omega
  rw [e1, show (2 ^ (min (1 : Int).toNat (IntKind.bits .u64)) : Int) = 2 from by simp [IntKind.bits], Int.fdiv_eq_ediv_of_nonneg _ (by omega), show (((i + j : Nat) : Int) / 2) = (((i + j) / 2 : Nat) : Int) from by omega, w64 (by omega) (by omega)]
theorem cmp_spec {h : H} {x : Ver} {e : Int} {K : Value -> H -> Prop} (k : ∀ h', Ext h h' -> K (.int .i64 (if x.epoch <= e then -1 else 1)) h') : CV PP (.func (.func no_chain_Chain_api_Agg_place_1) #[] #[]) [.agg x.cells.toArray, .int .i64 e] h K := by
  refine CV_func (fun a w => no_chain_Chain_api_Agg_place_1_call a w) ?_
  have : F.xcu x e h fun r h' => K (.int .i64 r) h' := by
    unfold F.xcu
    refine new_of fun n h1 e1 e2 e3 e4 => ?_
    simp only [add_lit, Nat.add_zero]
    rw [ldI_iff (e2.cell (v := .int .i64 x.epoch) rfl)]
    simp only [decide_eq_true_eq, decide_eq_false_iff_not]
    refine ⟨fun g => ?_, fun g => ?_⟩
    · have := k h1 e3; rw [if_pos g] at this; exact this
    · have := k h1 e3; rw [if_neg g] at this; exact this
  have := F.xcu_ok this
  simp only [List.append_toArray, Array.empty_append, Array.append_empty]
  exact this.mono fun r h' ⟨r0, e, q⟩ => by subst e; exact q
theorem bs_loop {s : Sl} {e : Int} {L : List Ver} {Q : Int -> Bool -> H -> Prop} (hr : Rise L) (hL : L.length < 1073741824) : ∀ (m i j : Nat) (h : H), Owns h s tn_chain_version_api_Agg 6 (L.flatMap (·.cells)) -> i <= j -> j <= L.length ->
    (∀ t x, t < i -> L[t]? = some x -> x.epoch <= e) -> (∀ t x, j <= t -> L[t]? = some x -> e < x.epoch) -> j - i < m -> (∀ r h', Ext h h' -> Q (cntM L e) r h') ->
    F.xbi.l1 Q m s e (.func (.func no_chain_Chain_api_Agg_place_1) #[] #[]) (L.length : Int) (i : Int) (j : Int) h
  | 0, i, j, h, _, _, _, _, _, hm, _ => by omega
  | m + 1, i, j, h, ho, hij, hj, hlo, hhi, hm, k => by
    unfold F.xbi.l1
    simp only [decide_eq_true_eq, decide_eq_false_iff_not]
    refine ⟨fun g => ⟨by omega, ?_⟩, fun g => ?_⟩
    · rw [mid_eq (by omega)]
      have hm1 : (i + j) / 2 < L.length := by omega
      obtain ⟨x, hx⟩ : ∃ x, L[(i + j) / 2]? = some x := ⟨_, List.getElem?_eq_getElem hm1⟩
      obtain ⟨b, a1, a2, a3, a4, a5⟩ := Ch.at ho hx
      have hl := Ch.len ho
      refine idxA_of (i := (i + j) / 2) a1 (by omega) rfl ?_
      refine ⟨x, a5, cmp_spec fun h' e1 => ⟨_, rfl, fun g2 => ?_, fun g2 => ?_⟩⟩
      · have hxe : x.epoch <= e := by
          by_cases hh : x.epoch <= e
          · exact hh
          · rw [if_neg hh] at g2; omega
        rw [w64 (by omega) (by omega), show (((i + j) / 2 : Nat) : Int) + 1 = (((i + j) / 2 + 1 : Nat) : Int) from by omega]
        refine bs_loop hr hL m _ j h' (ho.only e1 fun _ _ f => f) (by omega) hj (fun t y ht hy => ?_) hhi (by omega) fun r h2 e2 => k r h2 (e1.trans e2)
        by_cases ht2 : t = (i + j) / 2
        · subst ht2; rw [hx] at hy; cases hy; exact hxe
        · have := hr.lt (by omega) hy hx; omega
      · have hxe : ¬ x.epoch <= e := fun hh => by rw [if_pos hh] at g2; omega
        refine bs_loop hr hL m i _ h' (ho.only e1 fun _ _ f => f) (by omega) (by omega) hlo (fun t y ht hy => ?_) (by omega) fun r h2 e2 => k r h2 (e1.trans e2)
        by_cases ht2 : t = (i + j) / 2
        · subst ht2; rw [hx] at hy; cases hy; omega
        · have := hr.lt (show (i + j) / 2 < t by omega) hx hy; omega
    · have hij2 : i = j := by omega
      subst hij2
      have hc : cntM L e = i := cnt_eq _ L i hj (fun t x ht hx => by simpa using hlo t x ht hx) fun t x ht hx => by simpa using hhi t x ht hx
      rw [hc] at k
      refine ⟨fun g2 => ?_, fun g2 => k _ h (.refl _)⟩
      obtain ⟨x, hx⟩ : ∃ x, L[i]? = some x := ⟨_, List.getElem?_eq_getElem (by omega)⟩
      obtain ⟨b, a1, a2, a3, a4, a5⟩ := Ch.at ho hx
      have hl := Ch.len ho
      refine idxA_of (i := i) a1 (by omega) rfl ?_
      exact ⟨x, a5, cmp_spec fun h' e1 => ⟨_, rfl, k _ h' e1⟩⟩
theorem place_spec {h : H} {p : Nat} {L : List Ver} {B : Option Nat} {e : Int} {Q : Int -> H -> Prop} (c : Ch h p L B) (hr : Rise L) (hL : L.length < 1073741824)
    (k : ∀ h', Ext h h' -> Q ((cntM L e : Int) - 1) h') : F.xbj (some ⟨p, 0, none⟩) e h Q := by
  obtain ⟨s, hb, ho, hB, hne⟩ := c
  have hl := Ch.len ho
  have hc0 : cellH h ⟨p, 0, none⟩ = some s.enc := hb.cell rfl
  have hcl : cntM L e <= L.length := List.countP_le_length
  simp only [F.xbj, nn_some, add_lit, Nat.add_zero, ldL_iff hc0]
  unfold F.xbi
  refine ⟨L.length + 1, ?_⟩
  rw [hl]
  refine bs_loop hr hL _ 0 L.length h ho (by omega) (by omega) (fun t x ht => by omega) (fun t x ht hx => ?_) (by omega) fun r h' e1 => ?_
  · rw [List.getElem?_eq_none (by omega)] at hx; cases hx
  · rw [w64 (by omega) (by omega)]
    exact k h' e1
def atM (L : List Ver) (e : Int) : S_api_Agg × Bool := match (L.filter fun x => decide (x.epoch <= e)).getLast? with | some x => if x.dead then (zA, false) else (x.value, true) | none => (zA, false)
theorem rise_filter {L : List Ver} (hr : Rise L) (e : Int) : L.filter (fun x => decide (x.epoch <= e)) = L.take (cntM L e) := by
  unfold cntM
  induction L with
  | nil => rfl
  | cons y r ih =>
    have hr' := List.pairwise_cons.1 hr
    by_cases hy : y.epoch <= e
    · simp [hy, ih hr'.2]
    · have hno : ∀ x ∈ r, ¬ x.epoch <= e := fun x hx => by have := hr'.1 x hx; omega
      have h1 : r.filter (fun x => decide (x.epoch <= e)) = [] := by simp; intro x hx; have := hno x hx; omega
      have h2 : r.countP (fun x => decide (x.epoch <= e)) = 0 := by rw [List.countP_eq_length_filter, h1]; rfl
      simp [hy, h1, h2]
theorem at_last {L : List Ver} (hr : Rise L) (e : Int) : (L.filter fun x => decide (x.epoch <= e)).getLast? = if cntM L e = 0 then none else L[cntM L e - 1]? := by
  have hcl : cntM L e <= L.length := List.countP_le_length
  rw [rise_filter hr, List.getLast?_eq_getElem?, List.length_take, Nat.min_eq_left hcl]
  split
  · rename_i h0; rw [h0]; simp
  · rw [List.getElem?_take_of_lt (by omega)]
theorem At_spec {h : H} {p : Nat} {L : List Ver} {B : Option Nat} {e : Int} {Q : S_api_Agg -> Bool -> H -> Prop} (c : Ch h p L B) (hr : Rise L) (hL : L.length < 1073741824)
    (k : ∀ h', Ext h h' -> Q (atM L e).1 (atM L e).2 h') : F.xau (some ⟨p, 0, none⟩) e h Q := by
  unfold F.xau
  refine new_of fun n0 h0 hn0 b0 e0 s0 => ?_
  have b0' : Blk h0 n0 zA.cells.toArray tn_api_Agg := b0
  refine place_spec (c.ext e0) hr hL fun h1 e1 => ?_
  have e01 := e0.trans e1
  have b1 : Blk h1 n0 zA.cells.toArray tn_api_Agg := e1.block b0' fun f => f
  obtain ⟨s, hb, ho, hB, hne⟩ := c.ext e01
  have hl := Ch.len ho
  have hc0 : cellH h1 ⟨p, 0, none⟩ = some s.enc := hb.cell rfl
  have hcl : cntM L e <= L.length := List.countP_le_length
  have none_ : (atM L e) = (zA, false) -> F.xau.j1 Q ⟨n0, 0, none⟩ h1 := fun hn => by
    unfold F.xau.j1
    refine ⟨zA, b1.cells, st_agg b1 fun h2 b2 o2 s2 => ⟨zA, b2.cells, ?_⟩⟩
    have := k h2 (e01.step o2 fun m hm hb => by omega)
    rw [hn] at this; exact this
  unfold atM at none_ k
  rw [at_last hr e] at none_ k
  simp only [F.xau.j2, nn_some, add_lit, Nat.add_zero, ldL_iff hc0, decide_eq_true_eq, decide_eq_false_iff_not]
  refine ⟨fun g => ?_, fun g => ⟨(fun h => by cases h), fun _ => none_ (by rw [if_pos (by omega)])⟩⟩
  rw [if_neg (by omega)] at none_ k
  obtain ⟨x, hx⟩ : ∃ x, L[cntM L e - 1]? = some x := ⟨_, List.getElem?_eq_getElem (by omega)⟩
  rw [hx] at none_ k
  obtain ⟨b, a1, a2, a3, a4, a5⟩ := Ch.at ho hx
  refine idxA_of (i := cntM L e - 1) a1 (by omega) (by omega) ?_
  simp only [add_lit, Nat.add_zero]
  rw [ldB_iff a4]
  cases hd : x.dead with
  | true => exact ⟨(fun h => by cases h), fun _ => none_ (by simp [hd])⟩
  | false =>
    simp only [hd] at k
    refine ⟨fun _ => ?_, (fun h => by cases h)⟩
    refine idxA_of (i := cntM L e - 1) a1 (by omega) (by omega) ?_
    rw [add_lit]
    refine ⟨x.value, a3, st_agg b1 fun h2 b2 o2 s2 => ⟨_, b2.cells, ?_⟩⟩
    exact k h2 (e01.step o2 fun m hm hb => by omega)
end Go.Proofs.YtjjchpaomgmmdaaGreat.V.C
namespace Go.Proofs.YtjjchpaomgmmdaaGreat.V
open Go
set_option linter.unusedVariables false
set_option linter.unusedSimpArgs false
theorem i64_of {n : Int} (h : (Lit.int .i64 n).wf = true) : -9223372036854775808 <= n ∧ n < 9223372036854775808 := by
  simp [Lit.wf, IntKind.min, IntKind.max, IntKind.bits, IntKind.signed] at h
  omega
structure Pl (α : Type) where
  is_ : Nat
  key : ByteArray
  value : α
abbrev kL (k : ByteArray) : List UInt8 := k.data.toList
theorem kL_inj {a b : ByteArray} (h : kL a = kL b) : a = b := by
  obtain ⟨x⟩ := a
  obtain ⟨y⟩ := b
  congr 1
  exact Array.toList_inj.1 h
def hashL (l : List UInt8) : Nat := l.foldl (fun h c => ((h ^^^ c.toNat) * 1099511628211) % 18446744073709551616) 14695981039346656037
def hashM (k : ByteArray) : Nat := hashL (kL k)
section
variable {α : Type}
def probe (R : List (Pl α)) (key : ByteArray) : Nat -> Nat -> Option (Nat × Bool)
  | 0, _ => none
  | f + 1, i => match R[i]? with
    | none => none
    | some p => if p.is_ = 0 then some (i, false) else if p.is_ = 1 ∧ kL p.key = kL key then some (i, true) else probe R key f ((i + 1) % R.length)
def homeM (R : List (Pl α)) (key : ByteArray) : Nat := hashM key % R.length
def findM (R : List (Pl α)) (key : ByteArray) : Option (Nat × Bool) := if R.length = 0 then some (0, false) else probe R key (R.length + 1) (homeM R key)
def dist (n h i : Nat) : Nat := if h <= i then i - h else i + n - h
theorem dist_lt {n h i : Nat} (hh : h < n) (hi : i < n) : dist n h i < n := by unfold dist; split <;> omega
theorem ring_dist {n h i : Nat} (hh : h < n) (hi : i < n) : (h + dist n h i) % n = i := by
  unfold dist
  split
  · rw [show h + (i - h) = i from by omega, Nat.mod_eq_of_lt hi]
  · rw [show h + (i + n - h) = i + n from by omega, Nat.add_mod_right, Nat.mod_eq_of_lt hi]
theorem ring_val {n h k : Nat} (hh : h < n) (hk : k < n) : (h + k) % n = if h + k < n then h + k else h + k - n := by
  split
  · rename_i g; exact Nat.mod_eq_of_lt g
  · rename_i g
    rw [show h + k = (h + k - n) + n from by omega, Nat.add_mod_right, Nat.mod_eq_of_lt (by omega)]
    omega
theorem dist_ring {n h k : Nat} (hh : h < n) (hk : k < n) : dist n h ((h + k) % n) = k := by
  rw [ring_val hh hk]; unfold dist
  split <;> split <;> omega
theorem ring_lt {n h k : Nat} (hn : 0 < n) : (h + k) % n < n := Nat.mod_lt _ hn
theorem ring_succ {n h k : Nat} : ((h + k) % n + 1) % n = (h + (k + 1)) % n := by
  rw [Nat.add_mod ((h + k) % n), Nat.mod_mod, ← Nat.add_mod, Nat.add_assoc]
def Full (R : List (Pl α)) (i : Nat) : Prop := ∃ p, R[i]? = some p ∧ p.is_ ≠ 0
def Hit (R : List (Pl α)) (key : ByteArray) (i : Nat) : Prop := ∃ p, R[i]? = some p ∧ p.is_ = 1 ∧ kL p.key = kL key
def Empty (R : List (Pl α)) (i : Nat) : Prop := ∃ p, R[i]? = some p ∧ p.is_ = 0
theorem full_or_empty {R : List (Pl α)} {i : Nat} (h : i < R.length) : Full R i ∨ Empty R i := by
  by_cases e : R[i].is_ = 0
  · exact .inr ⟨_, List.getElem?_eq_getElem h, e⟩
  · exact .inl ⟨_, List.getElem?_eq_getElem h, e⟩
theorem Empty.lt {R : List (Pl α)} {i : Nat} (h : Empty R i) : i < R.length := by
  obtain ⟨p, h1, _⟩ := h; exact (List.getElem?_eq_some_iff.1 h1).1
theorem Hit.lt {R : List (Pl α)} {key : ByteArray} {i : Nat} (h : Hit R key i) : i < R.length := by
  obtain ⟨p, h1, _⟩ := h; exact (List.getElem?_eq_some_iff.1 h1).1
theorem probe_go {R : List (Pl α)} {key : ByteArray} {h : Nat} (hn : h < R.length) : ∀ (K f : Nat), (∀ k, k < K -> Full R ((h + k) % R.length) ∧ ¬ Hit R key ((h + k) % R.length)) -> ∀ j, j <= K -> probe R key (f + (K - j)) ((h + j) % R.length) = probe R key f ((h + K) % R.length) := by
  intro K f hk j hj
  obtain ⟨d, hd⟩ : ∃ d, K = j + d := ⟨K - j, by omega⟩
  subst hd
  induction d generalizing j with
  | zero => simp
  | succ d ih =>
    rw [show j + (d + 1) - j = d + 1 from by omega, ← Nat.add_assoc f d 1, probe]
    obtain ⟨⟨p, h1, h2⟩, h3⟩ := hk j (by omega)
    rw [h1]
    simp only [h2, if_false]
    rw [if_neg (fun hh => h3 ⟨p, h1, hh.1, hh.2⟩), ring_succ]
    have := ih (j + 1) (fun k hk2 => hk k (by omega)) (by omega)
    rw [show j + 1 + d - (j + 1) = d from by omega, show j + 1 + d = j + (d + 1) from by omega] at this
    exact this
theorem probe_hit {R : List (Pl α)} {key : ByteArray} {h K f : Nat} (hn : h < R.length) (hk : ∀ k, k < K -> Full R ((h + k) % R.length) ∧ ¬ Hit R key ((h + k) % R.length)) (hh : Hit R key ((h + K) % R.length)) (hf : K < f) : probe R key f h = some ((h + K) % R.length, true) := by
  have := probe_go hn K (f - K) hk 0 (by omega)
  rw [show f - K + (K - 0) = f from by omega, Nat.add_zero, Nat.mod_eq_of_lt hn] at this
  rw [this, show f - K = (f - K - 1) + 1 from by omega, probe]
  obtain ⟨p, h1, h2, h3⟩ := hh
  rw [h1]
  simp [h2, h3]
theorem probe_miss {R : List (Pl α)} {key : ByteArray} {h K f : Nat} (hn : h < R.length) (hk : ∀ k, k < K -> Full R ((h + k) % R.length) ∧ ¬ Hit R key ((h + k) % R.length)) (hh : Empty R ((h + K) % R.length)) (hf : K < f) : probe R key f h = some ((h + K) % R.length, false) := by
  have := probe_go hn K (f - K) hk 0 (by omega)
  rw [show f - K + (K - 0) = f from by omega, Nat.add_zero, Nat.mod_eq_of_lt hn] at this
  rw [this, show f - K = (f - K - 1) + 1 from by omega, probe]
  obtain ⟨p, h1, h2⟩ := hh
  rw [h1]
  simp [h2]
theorem least {P : Nat -> Prop} : ∀ m, (∃ k, k < m ∧ P k) -> ∃ k, k < m ∧ P k ∧ ∀ j, j < k -> ¬ P j
  | 0, ⟨k, h, _⟩ => by omega
  | m + 1, ⟨k, h, hp⟩ => by
    by_cases e : ∃ k, k < m ∧ P k
    · obtain ⟨k, h1, h2, h3⟩ := least m e
      exact ⟨k, by omega, h2, h3⟩
    · exact ⟨k, h, hp, fun j hj hpj => e ⟨j, by omega, hpj⟩⟩
def Chain (R : List (Pl α)) (key : ByteArray) (i : Nat) : Prop := ∀ k, k < dist R.length (homeM R key) i -> Full R ((homeM R key + k) % R.length)
theorem home_lt {R : List (Pl α)} {key : ByteArray} (h : 0 < R.length) : homeM R key < R.length := Nat.mod_lt _ h
theorem find_hit {R : List (Pl α)} {key : ByteArray} {i : Nat} (hh : Hit R key i) (hc : Chain R key i) (hu : ∀ j, Hit R key j -> j = i) : findM R key = some (i, true) := by
  have hlt := hh.lt
  have hn : 0 < R.length := by omega
  have hm := home_lt (R := R) (key := key) hn
  unfold findM
  rw [if_neg (by omega)]
  have hr := ring_dist hm hlt
  have hd := dist_lt hm hlt
  rw [probe_hit (K := dist R.length (homeM R key) i) hm (fun k hk => ⟨hc k hk, fun hk2 => ?_⟩) (by rw [hr]; exact hh) (by omega), hr]
  have := hu _ hk2
  have h2 := dist_ring hm (show k < R.length by omega)
  rw [this] at h2; omega
theorem find_miss {R : List (Pl α)} {key : ByteArray} (hn : ∀ j, ¬ Hit R key j) (hr : ∃ i, Empty R i) : ∃ i, findM R key = some (i, false) ∧ Empty R i ∧ Chain R key i := by
  obtain ⟨e, he⟩ := hr
  have hlt := he.lt
  have hm := home_lt (R := R) (key := key) (by omega)
  obtain ⟨K, h1, h2, h3⟩ := least (P := fun k => Empty R ((homeM R key + k) % R.length)) R.length ⟨dist R.length (homeM R key) e, dist_lt hm hlt, by rw [ring_dist hm hlt]; exact he⟩
  have full : ∀ k, k < K -> Full R ((homeM R key + k) % R.length) := fun k hk => (full_or_empty (ring_lt (by omega))).resolve_right (h3 k hk)
  refine ⟨(homeM R key + K) % R.length, ?_, h2, fun k hk => ?_⟩
  · unfold findM
    rw [if_neg (by omega)]
    exact probe_miss hm (fun k hk => ⟨full k hk, hn _⟩) h2 (by omega)
  · rw [dist_ring hm h1] at hk; exact full k hk
theorem find_nil {key : ByteArray} : findM ([] : List (Pl α)) key = some (0, false) := rfl
structure RowOk (R : List (Pl α)) : Prop where
  chain : ∀ (i : Nat) (p : Pl α), R[i]? = some p -> p.is_ = 1 -> Chain R p.key i
  uniq : ∀ (i j : Nat) (p q : Pl α), R[i]? = some p -> R[j]? = some q -> p.is_ = 1 -> q.is_ = 1 -> kL p.key = kL q.key -> i = j
theorem RowOk.hit {R : List (Pl α)} (r : RowOk R) {key : ByteArray} {i : Nat} (h : Hit R key i) : findM R key = some (i, true) := by
  obtain ⟨p, h1, h2, h3⟩ := h
  have hk := kL_inj h3
  refine find_hit ⟨p, h1, h2, h3⟩ (by rw [← hk]; exact r.chain i p h1 h2) fun j ⟨q, g1, g2, g3⟩ => r.uniq j i q p g1 h1 g2 h2 (g3.trans h3.symm)
theorem set_full {R : List (Pl α)} {i j : Nat} {p : Pl α} (h : Full R j) (hp : p.is_ ≠ 0) : Full (R.set i p) j := by
  obtain ⟨q, h1, h2⟩ := h
  by_cases e : i = j
  · subst e; exact ⟨p, by rw [List.getElem?_set, if_pos rfl, if_pos (List.getElem?_eq_some_iff.1 h1).1], hp⟩
  · exact ⟨q, by rw [List.getElem?_set, if_neg e]; exact h1, h2⟩
theorem set_chain {R : List (Pl α)} {i j : Nat} {p : Pl α} {key : ByteArray} (h : Chain R key j) (hp : p.is_ ≠ 0) : Chain (R.set i p) key j := by
  unfold Chain homeM at *
  rw [List.length_set]
  exact fun k hk => set_full (h k hk) hp
theorem set_get {R : List (Pl α)} {i j : Nat} {p q : Pl α} (h : (R.set i p)[j]? = some q) : (i = j ∧ q = p ∧ i < R.length) ∨ (i ≠ j ∧ R[j]? = some q) := by
  rw [List.getElem?_set] at h
  split at h
  · rename_i e
    split at h
    · exact .inl ⟨e, (Option.some.inj h).symm, by assumption⟩
    · cases h
  · rename_i e; exact .inr ⟨e, h⟩
theorem RowOk.put {R : List (Pl α)} (r : RowOk R) {p : Pl α} {i : Nat} (h1 : p.is_ = 1) (hc : Chain R p.key i) (hn : ∀ j, ¬ Hit R p.key j) : RowOk (R.set i p) := by
  refine ⟨fun j q hq hq1 => ?_, fun j k q s hq hs hq1 hs1 he => ?_⟩
  · rcases set_get hq with ⟨rfl, rfl, _⟩ | ⟨_, hq⟩
    · exact set_chain hc (by omega)
    · exact set_chain (r.chain j q hq hq1) (by omega)
  · rcases set_get hq with ⟨rfl, rfl, _⟩ | ⟨_, gq⟩
    · rcases set_get hs with ⟨rfl, _, _⟩ | ⟨_, gs⟩
      · rfl
      · exact absurd ⟨s, gs, hs1, he.symm⟩ (hn k)
    · rcases set_get hs with ⟨rfl, rfl, _⟩ | ⟨_, gs⟩
      · exact absurd ⟨q, gq, hq1, he⟩ (hn j)
      · exact r.uniq j k q s gq gs hq1 hs1 he
theorem RowOk.anew {R : List (Pl α)} (r : RowOk R) {p q : Pl α} {i : Nat} (h0 : R[i]? = some p) (hp : p.is_ = 1) (h1 : q.is_ = 1) (hk : kL q.key = kL p.key) : RowOk (R.set i q) := by
  have hk' := kL_inj hk
  refine ⟨fun j s hs hs1 => ?_, fun j k s t hs ht hs1 ht1 he => ?_⟩
  · rcases set_get hs with ⟨rfl, rfl, _⟩ | ⟨_, hs⟩
    · rw [hk']; exact set_chain (r.chain i p h0 hp) (by omega)
    · exact set_chain (r.chain j s hs hs1) (by omega)
  · rcases set_get hs with ⟨rfl, rfl, _⟩ | ⟨_, gs⟩
    · rcases set_get ht with ⟨rfl, _, _⟩ | ⟨_, gt⟩
      · rfl
      · exact r.uniq i k p t h0 gt hp ht1 (hk.symm.trans he)
    · rcases set_get ht with ⟨rfl, rfl, _⟩ | ⟨_, gt⟩
      · exact r.uniq j i s p gs h0 hs1 hp (he.trans hk)
      · exact r.uniq j k s t gs gt hs1 ht1 he
theorem RowOk.gone {R : List (Pl α)} (r : RowOk R) {q : Pl α} {i : Nat} (h1 : q.is_ ≠ 1) (h0 : q.is_ ≠ 0) : RowOk (R.set i q) := by
  refine ⟨fun j s hs hs1 => ?_, fun j k s t hs ht hs1 ht1 he => ?_⟩
  · rcases set_get hs with ⟨rfl, rfl, _⟩ | ⟨_, hs⟩
    · exact absurd hs1 h1
    · exact set_chain (r.chain j s hs hs1) h0
  · rcases set_get hs with ⟨rfl, rfl, _⟩ | ⟨_, hs⟩
    · exact absurd hs1 h1
    · rcases set_get ht with ⟨rfl, rfl, _⟩ | ⟨_, ht⟩
      · exact absurd ht1 h1
      · exact r.uniq j k s t hs ht hs1 ht1 he
def cntT (R : List (Pl α)) : Nat := R.countP fun p => decide (p.is_ = 1)
theorem cntT_set : ∀ (R : List (Pl α)) (i : Nat) (p q : Pl α), R[i]? = some q -> cntT (R.set i p) + (if q.is_ = 1 then 1 else 0) = cntT R + (if p.is_ = 1 then 1 else 0)
  | [], i, p, q, h => by simp at h
  | x :: r, 0, p, q, h => by
    simp at h; subst h
    simp only [List.set_cons_zero, cntT, List.countP_cons]
    by_cases h1 : x.is_ = 1 <;> by_cases h2 : p.is_ = 1 <;> simp [h1, h2]
  | x :: r, i + 1, p, q, h => by
    have := cntT_set r i p q (by simpa using h)
    simp only [List.set_cons_succ, cntT, List.countP_cons] at *
    omega
theorem room_of {R : List (Pl α)} (h01 : ∀ p ∈ R, p.is_ <= 1) (h : cntT R < R.length) : ∃ i, Empty R i := by
  apply Classical.byContradiction
  intro hn
  have : cntT R = R.length := by
    unfold cntT
    rw [List.countP_eq_length]
    intro p hp
    obtain ⟨i, hi, rfl⟩ := List.mem_iff_getElem.1 hp
    have := h01 _ hp
    have : ¬ R[i].is_ = 0 := fun e => hn ⟨i, _, List.getElem?_eq_getElem hi, e⟩
    simp; omega
  omega
def valOf (R : List (Pl α)) (key : ByteArray) : Option α := (R.find? fun p => decide (p.is_ = 1 ∧ kL p.key = kL key)).map (·.value)
theorem valOf_hit {R : List (Pl α)} (r : RowOk R) {key : ByteArray} {i : Nat} {p : Pl α} (h0 : R[i]? = some p) (h1 : p.is_ = 1) (h2 : kL p.key = kL key) : valOf R key = some p.value := by
  unfold valOf
  cases hf : R.find? fun p => decide (p.is_ = 1 ∧ kL p.key = kL key) with
  | none =>
    rw [List.find?_eq_none] at hf
    have := hf p (List.mem_of_getElem? h0)
    simp [h1, h2] at this
  | some q =>
    have hq : q.is_ = 1 ∧ kL q.key = kL key := by simpa only [decide_eq_true_eq] using List.find?_some hf
    have hm := List.mem_of_find?_eq_some hf
    obtain ⟨j, hj⟩ := List.mem_iff_getElem?.1 hm
    have := r.uniq j i q p hj h0 hq.1 h1 (by rw [hq.2]; exact h2.symm)
    subst this
    rw [h0] at hj; cases hj; rfl
theorem valOf_none {R : List (Pl α)} {key : ByteArray} (h : ∀ j, ¬ Hit R key j) : valOf R key = none := by
  unfold valOf
  rw [Option.map_eq_none_iff, List.find?_eq_none]
  intro p hp
  obtain ⟨j, hj⟩ := List.mem_iff_getElem?.1 hp
  intro hh
  simp only [decide_eq_true_eq] at hh
  exact h j ⟨p, hj, hh.1, hh.2⟩
theorem valOf_some {R : List (Pl α)} {key : ByteArray} {v : α} (h : valOf R key = some v) : ∃ (i : Nat) (p : Pl α), R[i]? = some p ∧ p.is_ = 1 ∧ kL p.key = kL key ∧ p.value = v := by
  unfold valOf at h
  obtain ⟨p, hp, rfl⟩ := Option.map_eq_some_iff.1 h
  have hq : p.is_ = 1 ∧ kL p.key = kL key := by simpa only [decide_eq_true_eq] using List.find?_some hp
  obtain ⟨j, hj⟩ := List.mem_iff_getElem?.1 (List.mem_of_find?_eq_some hp)
  exact ⟨j, p, hj, hq.1, hq.2, rfl⟩
theorem hit_or (R : List (Pl α)) (key : ByteArray) : (∃ i, Hit R key i) ∨ ∀ j, ¬ Hit R key j := by
  by_cases h : ∃ i, Hit R key i
  · exact .inl h
  · exact .inr fun j hj => h ⟨j, hj⟩
theorem valOf_set {R : List (Pl α)} {i : Nat} {p q : Pl α} (r' : RowOk (R.set i q)) (r : RowOk R) (h0 : R[i]? = some p) (key : ByteArray) (hp : ¬ (p.is_ = 1 ∧ kL p.key = kL key)) : valOf (R.set i q) key = if q.is_ = 1 ∧ kL q.key = kL key then some q.value else valOf R key := by
  have hi := (List.getElem?_eq_some_iff.1 h0).1
  have hg : (R.set i q)[i]? = some q := by rw [List.getElem?_set, if_pos rfl, if_pos hi]
  split
  · rename_i h; exact valOf_hit r' hg h.1 h.2
  · rename_i h
    rcases hit_or R key with ⟨j, s, g1, g2, g3⟩ | hn
    · have hij : i ≠ j := fun e => by subst e; rw [h0] at g1; cases g1; exact hp ⟨g2, g3⟩
      rw [valOf_hit r g1 g2 g3, valOf_hit r' (i := j) (by rw [List.getElem?_set, if_neg hij]; exact g1) g2 g3]
    · rw [valOf_none hn, valOf_none]
      intro j ⟨s, g1, g2, g3⟩
      rcases set_get g1 with ⟨rfl, rfl, _⟩ | ⟨_, g1⟩
      · exact h ⟨g2, g3⟩
      · exact hn j ⟨s, g1, g2, g3⟩
end
structure Tb (α : Type) where
  row : List (Pl α)
  elder : List (Pl α)
  moved : Nat
  count : Nat
section
variable {α : Type} (z : α)
def goneP : Pl α := ⟨2, ⟨#[]⟩, z⟩
def emptP : Pl α := ⟨0, ⟨#[]⟩, z⟩
def move1 (T : Tb α) : Option (Tb α) := match T.elder[T.moved]? with
  | none => none
  | some p => if p.is_ = 1 then (match findM T.row p.key with
    | none => none
    | some r => some ⟨T.row.set r.1 p, T.elder.set T.moved (goneP z), T.moved + 1, T.count⟩) else some ⟨T.row, T.elder, T.moved + 1, T.count⟩
def moveN : Nat -> Tb α -> Option (Tb α)
  | 0, T => some T
  | n + 1, T => if T.moved < T.elder.length then (match move1 z T with
    | none => none
    | some T' => moveN n T') else some T
def finT (T : Tb α) : Tb α := if T.moved = T.elder.length then ⟨T.row, [], 0, T.count⟩ else T
def moveM (T : Tb α) (n : Int) : Option (Tb α) := (moveN z n.toNat T).map finT
def leftT (T : Tb α) : Nat := T.elder.length - T.moved
def whereM (T : Tb α) (key : ByteArray) : Option (Option (Bool × Nat)) := match findM T.row key with
  | none => none
  | some (i, true) => some (some (false, i))
  | some (_, false) => match findM T.elder key with
    | none => none
    | some (i, true) => some (some (true, i))
    | some (_, false) => some none
def growT (T : Tb α) : Tb α := ⟨List.replicate (2 * T.row.length) (emptP z), T.row, 0, T.count⟩
def layP (T : Tb α) (key : ByteArray) (v : α) : Option (Tb α) := match findM T.row key with
  | none => none
  | some (i, _) => some ⟨T.row.set i ⟨1, key, v⟩, T.elder, T.moved, T.count + 1⟩
def newP (R : List (Pl α)) (i : Nat) (v : α) : List (Pl α) := match R[i]? with
  | none => R
  | some p => R.set i ⟨p.is_, p.key, v⟩
def putM' (T : Tb α) (key : ByteArray) (v : α) : Option (Tb α) := match whereM T key with
  | none => none
  | some (some (false, i)) => some ⟨newP T.row i v, T.elder, T.moved, T.count⟩
  | some (some (true, i)) => some ⟨T.row, newP T.elder i v, T.moved, T.count⟩
  | some none => if 4 * (T.count + 1) > 3 * T.row.length then (match moveM z T (T.elder.length : Int) with
      | none => none
      | some T2 => layP (growT z T2) key v) else layP T key v
def putM (T : Tb α) (key : ByteArray) (v : α) : Option (Tb α) := match moveM z T 4 with
  | none => none
  | some T1 => putM' z T1 key v
def getM (T : Tb α) (key : ByteArray) : Option α := match valOf T.row key with
  | some v => some v
  | none => valOf T.elder key
end
section
variable {α : Type} {z : α}
structure TOk (T : Tb α) : Prop where
  row : RowOk T.row
  row01 : ∀ p ∈ T.row, p.is_ <= 1
  pos : 2 <= T.row.length
  elder : RowOk T.elder
  eroom : T.elder ≠ [] -> ∃ i, Empty T.elder i
  behind : ∀ (i : Nat) (p : Pl α), i < T.moved -> T.elder[i]? = some p -> p.is_ ≠ 1
  mle : T.moved <= T.elder.length
  apart : ∀ (i j : Nat) (p q : Pl α), T.row[i]? = some p -> T.elder[j]? = some q -> p.is_ = 1 -> q.is_ = 1 -> kL p.key ≠ kL q.key
  cnt : cntT T.row + cntT T.elder = T.count
  load : leftT T + 4 * T.count <= 3 * T.row.length
def Rest (T : Tb α) : Prop := T.elder = [] ∨ T.moved < T.elder.length
theorem TOk.room {T : Tb α} (t : TOk T) (h : cntT T.row < T.row.length) : ∃ i, Empty T.row i := room_of t.row01 h
theorem TOk.cnt_row {T : Tb α} (t : TOk T) : cntT T.row < T.row.length := by
  have := t.cnt
  have := t.load
  have := t.pos
  omega
theorem move1_ok {T : Tb α} (t : TOk T) (hm : T.moved < T.elder.length) : ∃ T', move1 z T = some T' ∧ TOk T' ∧ T'.moved = T.moved + 1 ∧ T'.elder.length = T.elder.length ∧ T'.row.length = T.row.length ∧ T'.count = T.count ∧ ∀ key, getM T' key = getM T key := by
  obtain ⟨p, hp⟩ : ∃ p, T.elder[T.moved]? = some p := ⟨_, List.getElem?_eq_getElem hm⟩
  unfold move1
  rw [hp]
  simp only
  have hload := t.load
  by_cases h1 : p.is_ = 1
  · rw [if_pos h1]
    have hno : ∀ j, ¬ Hit T.row p.key j := fun j ⟨q, g1, g2, g3⟩ => t.apart j T.moved q p g1 hp g2 h1 g3
    obtain ⟨i, f1, f2, f3⟩ := find_miss hno (t.room t.cnt_row)
    rw [f1]
    have hi := f2.lt
    obtain ⟨e, he1, he2⟩ := f2
    have r1 := t.row.put h1 f3 hno (i := i)
    have r2 : RowOk (T.elder.set T.moved (goneP z)) := t.elder.gone (by simp [goneP]) (by simp [goneP])
    refine ⟨_, rfl, ⟨r1, fun q hq => ?_, by simpa using t.pos, r2, fun hne => ?_, fun j q hj hq => ?_, by simp; omega, fun a b q s hq hs hq1 hs1 => ?_, ?_, ?_⟩, rfl, by simp, by simp, rfl, fun key => ?_⟩
    · obtain ⟨j, hj⟩ := List.mem_iff_getElem?.1 hq
      rcases set_get hj with ⟨_, rfl, _⟩ | ⟨_, hj⟩
      · omega
      · exact t.row01 q (List.mem_of_getElem? hj)
    · obtain ⟨j, q, g1, g2⟩ := t.eroom (fun e => by rw [e] at hm; simp at hm)
      have : T.moved ≠ j := fun e => by subst e; rw [hp] at g1; cases g1; omega
      exact ⟨j, q, by rw [List.getElem?_set, if_neg this]; exact g1, g2⟩
    · rcases set_get hq with ⟨_, rfl, _⟩ | ⟨hne, hq⟩
      · simp [goneP]
      · exact t.behind j q (by simp at hj; omega) hq
    · rcases set_get hs with ⟨_, rfl, _⟩ | ⟨hne, gs⟩
      · simp [goneP] at hs1
      · rcases set_get hq with ⟨_, rfl, _⟩ | ⟨_, gq⟩
        · exact fun e => hne (t.elder.uniq T.moved b q s hp gs hq1 hs1 e)
        · exact t.apart a b q s gq gs hq1 hs1
    · have c1 := cntT_set T.row i p e he1
      have c2 := cntT_set T.elder T.moved (goneP z) p hp
      have := t.cnt
      rw [if_pos h1, if_neg (by omega)] at c1
      rw [if_pos h1, if_neg (by simp [goneP])] at c2
      show cntT (T.row.set i p) + cntT (T.elder.set T.moved (goneP z)) = T.count
      omega
    · show (T.elder.set T.moved (goneP z)).length - (T.moved + 1) + 4 * T.count <= 3 * (T.row.set i p).length
      unfold leftT at hload
      simp; omega
    · have v1 := valOf_set r1 t.row he1 key (by omega)
      show (match valOf (T.row.set i p) key with | some v => some v | none => valOf (T.elder.set T.moved (goneP z)) key) = getM T key
      unfold getM
      by_cases hk : kL p.key = kL key
      · have hrow : valOf T.row key = none := valOf_none (R := T.row) (fun j hj => hno j (by obtain ⟨q, g1, g2, g3⟩ := hj; exact ⟨q, g1, g2, g3.trans hk.symm⟩))
        have hel : valOf T.elder key = some p.value := valOf_hit t.elder hp h1 hk
        rw [v1, if_pos ⟨h1, hk⟩, hrow, hel]
      · rw [v1, if_neg (fun h => hk h.2), valOf_set r2 t.elder hp key (fun h => hk h.2), if_neg (by simp [goneP])]
  · rw [if_neg h1]
    refine ⟨_, rfl, ⟨t.row, t.row01, t.pos, t.elder, t.eroom, fun j q hj hq => ?_, by show T.moved + 1 <= T.elder.length; omega, t.apart, t.cnt, ?_⟩, rfl, rfl, rfl, rfl, fun key => rfl⟩
    · by_cases e : j = T.moved
      · subst e; rw [hp] at hq; cases hq; exact h1
      · exact t.behind j q (by simp at hj; omega) hq
    · show T.elder.length - (T.moved + 1) + 4 * T.count <= 3 * T.row.length
      unfold leftT at hload
      omega
theorem moveN_ok : ∀ (n : Nat) {T : Tb α}, TOk T -> ∃ T', moveN z n T = some T' ∧ TOk T' ∧ leftT T' = leftT T - n ∧ T'.row.length = T.row.length ∧ T'.count = T.count ∧ ∀ key, getM T' key = getM T key
  | 0, T, t => ⟨T, rfl, t, rfl, rfl, rfl, fun _ => rfl⟩
  | n + 1, T, t => by
    unfold moveN
    by_cases hm : T.moved < T.elder.length
    · rw [if_pos hm]
      obtain ⟨T1, a1, a2, a3, a4, a5, a6, a7⟩ := move1_ok (z := z) t hm
      rw [a1]
      obtain ⟨T2, b1, b2, b3, b4, b5, b6⟩ := moveN_ok n a2
      refine ⟨T2, b1, b2, ?_, by omega, by omega, fun key => (b6 key).trans (a7 key)⟩
      unfold leftT at *; omega
    · rw [if_neg hm]
      refine ⟨T, rfl, t, ?_, rfl, rfl, fun _ => rfl⟩
      unfold leftT; omega
theorem RowOk.nil : RowOk ([] : List (Pl α)) := ⟨fun i p h => by simp at h, fun i j p q h => by simp at h⟩
theorem fin_ok {T : Tb α} (t : TOk T) : TOk (finT T) ∧ Rest (finT T) ∧ leftT (finT T) = leftT T ∧ (finT T).row = T.row ∧ (finT T).count = T.count ∧ ∀ key, getM (finT T) key = getM T key := by
  unfold finT
  by_cases h : T.moved = T.elder.length
  · rw [if_pos h]
    have hno : ∀ key j, ¬ Hit T.elder key j := fun key j ⟨q, g1, g2, g3⟩ => t.behind j q (by rw [h]; exact (List.getElem?_eq_some_iff.1 g1).1) g1 g2
    have hc : cntT T.elder = 0 := by
      unfold cntT
      rw [List.countP_eq_zero]
      intro p hp
      obtain ⟨j, hj⟩ := List.mem_iff_getElem?.1 hp
      have := t.behind j p (by rw [h]; exact (List.getElem?_eq_some_iff.1 hj).1) hj
      simpa using this
    have hload := t.load
    have hcnt := t.cnt
    refine ⟨⟨t.row, t.row01, t.pos, RowOk.nil, fun h => absurd rfl h, fun i p hi => by simp at hi, Nat.le_refl _, fun i j p q _ hq => by simp at hq, by show cntT T.row + cntT [] = _; rw [show cntT ([] : List (Pl α)) = 0 from rfl]; show _ = T.count; omega, ?_⟩, .inl rfl, ?_, rfl, rfl, fun key => ?_⟩
    · show 0 - 0 + 4 * T.count <= 3 * T.row.length
      omega
    · unfold leftT; simp; omega
    · unfold getM
      rw [valOf_none (hno key)]
      rw [valOf_none (R := []) (fun j ⟨q, g1, _⟩ => by simp at g1)]
  · rw [if_neg h]
    have := t.mle
    exact ⟨t, .inr (by omega), rfl, rfl, rfl, fun _ => rfl⟩
theorem move_ok {T : Tb α} (t : TOk T) (n : Int) : ∃ T', moveM z T n = some T' ∧ TOk T' ∧ Rest T' ∧ leftT T' = leftT T - n.toNat ∧ T'.row.length = T.row.length ∧ T'.count = T.count ∧ ∀ key, getM T' key = getM T key := by
  obtain ⟨T1, a1, a2, a3, a4, a5, a6⟩ := moveN_ok (z := z) n.toNat t
  obtain ⟨b1, b2, b3, b4, b5, b6⟩ := fin_ok a2
  refine ⟨finT T1, by unfold moveM; rw [a1]; rfl, b1, b2, by omega, by rw [b4]; exact a4, by omega, fun key => (b6 key).trans (a6 key)⟩
theorem where_ok {T : Tb α} (t : TOk T) (key : ByteArray) : (∃ i, whereM T key = some (some (false, i)) ∧ Hit T.row key i) ∨ (∃ i, whereM T key = some (some (true, i)) ∧ Hit T.elder key i ∧ ∀ j, ¬ Hit T.row key j) ∨ (whereM T key = some none ∧ (∀ j, ¬ Hit T.row key j) ∧ ∀ j, ¬ Hit T.elder key j) := by
  unfold whereM
  rcases hit_or T.row key with ⟨i, hi⟩ | hn
  · rw [t.row.hit hi]; exact .inl ⟨i, rfl, hi⟩
  · obtain ⟨i, f1, _, _⟩ := find_miss hn (t.room t.cnt_row)
    rw [f1]
    simp only
    rcases hit_or T.elder key with ⟨j, hj⟩ | hne
    · rw [t.elder.hit hj]; exact .inr (.inl ⟨j, rfl, hj, hn⟩)
    · by_cases he : T.elder = []
      · rw [he, find_nil]; exact .inr (.inr ⟨rfl, hn, fun j ⟨q, g, _⟩ => by simp at g⟩)
      · obtain ⟨j, g1, _, _⟩ := find_miss hne (t.eroom he)
        rw [g1]; exact .inr (.inr ⟨rfl, hn, hne⟩)
theorem get_row {T : Tb α} (t : TOk T) {key : ByteArray} {i : Nat} {p : Pl α} (h : T.row[i]? = some p) (h1 : p.is_ = 1) (h2 : kL p.key = kL key) : getM T key = some p.value := by
  unfold getM; rw [valOf_hit t.row h h1 h2]
theorem get_elder {T : Tb α} (t : TOk T) {key : ByteArray} {i : Nat} {p : Pl α} (hn : ∀ j, ¬ Hit T.row key j) (h : T.elder[i]? = some p) (h1 : p.is_ = 1) (h2 : kL p.key = kL key) : getM T key = some p.value := by
  unfold getM; rw [valOf_none hn, valOf_hit t.elder h h1 h2]
theorem get_none {T : Tb α} {key : ByteArray} (hn : ∀ j, ¬ Hit T.row key j) (hne : ∀ j, ¬ Hit T.elder key j) : getM T key = none := by
  unfold getM; rw [valOf_none hn, valOf_none hne]
theorem newP_eq {R : List (Pl α)} {i : Nat} {p : Pl α} {v : α} (h : R[i]? = some p) : newP R i v = R.set i ⟨p.is_, p.key, v⟩ := by unfold newP; rw [h]
theorem lay_ok {T : Tb α} (t : TOk T) (hr : Rest T) {key : ByteArray} {v : α} (hn : ∀ j, ¬ Hit T.row key j) (hne : ∀ j, ¬ Hit T.elder key j) (hl : leftT T + 4 * (T.count + 1) <= 3 * T.row.length) :
    ∃ T', layP T key v = some T' ∧ TOk T' ∧ Rest T' ∧ T'.row.length = T.row.length ∧ T'.count = T.count + 1 ∧ leftT T' = leftT T ∧ ∀ k, getM T' k = if kL k = kL key then some v else getM T k := by
  obtain ⟨i, f1, f2, f3⟩ := find_miss hn (t.room t.cnt_row)
  unfold layP
  rw [f1]
  obtain ⟨e, he1, he2⟩ := f2
  have hi := (List.getElem?_eq_some_iff.1 he1).1
  have r1 : RowOk (T.row.set i ⟨1, key, v⟩) := t.row.put rfl f3 hn
  refine ⟨_, rfl, ⟨r1, fun q hq => ?_, by simpa using t.pos, t.elder, t.eroom, t.behind, t.mle, fun a b q s hq hs hq1 hs1 => ?_, ?_, by simpa [leftT] using hl⟩, hr, by simp, rfl, rfl, fun k => ?_⟩
  · obtain ⟨j, hj⟩ := List.mem_iff_getElem?.1 hq
    rcases set_get hj with ⟨_, rfl, _⟩ | ⟨_, hj⟩
    · exact Nat.le_refl _
    · exact t.row01 q (List.mem_of_getElem? hj)
  · rcases set_get hq with ⟨_, rfl, _⟩ | ⟨_, gq⟩
    · exact fun h => hne b ⟨s, hs, hs1, h.symm⟩
    · exact t.apart a b q s gq hs hq1 hs1
  · have c1 := cntT_set T.row i ⟨1, key, v⟩ e he1
    have := t.cnt
    rw [if_neg (by omega), if_pos rfl] at c1
    show cntT (T.row.set i ⟨1, key, v⟩) + cntT T.elder = T.count + 1
    omega
  · have v1 := valOf_set r1 t.row he1 k (by omega)
    show (match valOf (T.row.set i ⟨1, key, v⟩) k with | some v => some v | none => valOf T.elder k) = _
    rw [v1]
    by_cases hk : kL k = kL key
    · rw [if_pos ⟨rfl, hk.symm⟩, if_pos hk]
    · rw [if_neg (fun h => hk h.2.symm), if_neg hk]; rfl
theorem repl_get {n i : Nat} {p q : Pl α} (h : (List.replicate n p)[i]? = some q) : q = p ∧ i < n := by
  rw [List.getElem?_replicate] at h
  split at h
  · exact ⟨(Option.some.inj h).symm, by assumption⟩
  · cases h
theorem grow_ok {T : Tb α} (t : TOk T) (he : T.elder = []) (hf : 3 * T.row.length < 4 * (T.count + 1)) : TOk (growT z T) ∧ (growT z T).row.length = 2 * T.row.length ∧ (growT z T).count = T.count ∧ leftT (growT z T) = T.row.length ∧ (∀ key, getM (growT z T) key = getM T key) ∧ ∀ key j, ¬ Hit (growT z T).row key j := by
  have hno : ∀ key j, ¬ Hit (growT z T).row key j := fun key j ⟨q, g1, g2, _⟩ => by
    obtain ⟨rfl, _⟩ := repl_get g1
    simp [emptP] at g2
  have hcnt := t.cnt
  have hload := t.load
  have hpos := t.pos
  have he0 : cntT T.elder = 0 := by rw [he]; rfl
  refine ⟨⟨⟨fun i p h h1 => ?_, fun i j p q h h2 h1 => ?_⟩, fun p hp => ?_, by show 2 <= (List.replicate _ _).length; simp; omega, t.row, fun _ => t.room t.cnt_row, fun i p hi => by simp [growT] at hi, by simp [growT], fun i j p q h h2 h1 => ?_, ?_, ?_⟩, by simp [growT], rfl, by simp [growT, leftT], fun key => ?_, hno⟩
  · obtain ⟨rfl, _⟩ := repl_get h
    simp [emptP] at h1
  · obtain ⟨rfl, _⟩ := repl_get h
    simp [emptP] at h1
  · have := List.eq_of_mem_replicate hp
    subst this; simp [emptP]
  · obtain ⟨rfl, _⟩ := repl_get h
    simp [emptP] at h1
  · have : cntT (List.replicate (2 * T.row.length) (emptP z)) = 0 := by
      unfold cntT
      rw [List.countP_eq_zero]
      intro p hp
      have := List.eq_of_mem_replicate hp
      subst this; simp [emptP]
    show cntT (List.replicate (2 * T.row.length) (emptP z)) + cntT T.row = T.count
    omega
  · show T.row.length - 0 + 4 * T.count <= 3 * (List.replicate (2 * T.row.length) (emptP z)).length
    simp; omega
  · unfold getM
    rw [valOf_none (hno key), he]
    show valOf T.row key = _
    rw [valOf_none (R := []) (fun j ⟨q, g1, _⟩ => by simp at g1)]
    cases valOf T.row key <;> rfl
theorem put'_ok {T : Tb α} (t : TOk T) (hr : Rest T) (key : ByteArray) (v : α) (hlow : leftT T + 4 * (T.count + 1) <= 3 * T.row.length ∨ (T.elder = [] ∧ 4 * (T.count + 1) > 3 * T.row.length)) :
    ∃ T', putM' z T key v = some T' ∧ TOk T' ∧ Rest T' ∧ (∀ k, getM T' k = if kL k = kL key then some v else getM T k) ∧ T'.count = T.count + (if (getM T key).isSome then 0 else 1) ∧
      ((getM T key = none ∧ 4 * (T.count + 1) > 3 * T.row.length ∧ T'.row.length = 2 * T.row.length ∧ leftT T' = T.row.length) ∨ ((getM T key).isSome = true ∨ 4 * (T.count + 1) <= 3 * T.row.length) ∧ T'.row.length = T.row.length ∧ leftT T' = leftT T) := by
  unfold putM'
  rcases where_ok t key with ⟨i, w, p, h1, h2, h3⟩ | ⟨i, w, ⟨p, h1, h2, h3⟩, hn⟩ | ⟨w, hn, hne⟩
  · rw [w]
    simp only
    rw [newP_eq h1]
    have r1 : RowOk (T.row.set i ⟨p.is_, p.key, v⟩) := t.row.anew h1 h2 h2 rfl
    have hg := get_row t h1 h2 h3
    refine ⟨_, rfl, ⟨r1, fun q hq => ?_, by simpa using t.pos, t.elder, t.eroom, t.behind, t.mle, fun a b q s hq hs hq1 hs1 => ?_, ?_, by simpa [leftT] using t.load⟩, hr, fun k => ?_, by rw [hg]; rfl, .inr ⟨.inl (by rw [hg]; rfl), by simp, rfl⟩⟩
    · obtain ⟨j, hj⟩ := List.mem_iff_getElem?.1 hq
      rcases set_get hj with ⟨_, rfl, _⟩ | ⟨_, hj⟩
      · show p.is_ <= 1; omega
      · exact t.row01 q (List.mem_of_getElem? hj)
    · rcases set_get hq with ⟨_, rfl, _⟩ | ⟨_, gq⟩
      · exact t.apart i b p s h1 hs h2 hs1
      · exact t.apart a b q s gq hs hq1 hs1
    · have c1 := cntT_set T.row i ⟨p.is_, p.key, v⟩ p h1
      have := t.cnt
      show cntT (T.row.set i ⟨p.is_, p.key, v⟩) + cntT T.elder = T.count
      simp only at c1; omega
    · show (match valOf (T.row.set i ⟨p.is_, p.key, v⟩) k with | some v => some v | none => valOf T.elder k) = _
      by_cases hk : kL k = kL key
      · rw [if_pos hk, valOf_hit r1 (i := i) (p := ⟨p.is_, p.key, v⟩) (by rw [List.getElem?_set, if_pos rfl, if_pos (List.getElem?_eq_some_iff.1 h1).1]) h2 (h3.trans hk.symm)]
      · rw [if_neg hk, valOf_set r1 t.row h1 k (fun h => hk (h.2.symm.trans h3)), if_neg (fun h => hk (h.2.symm.trans h3))]; rfl
  · rw [w]
    simp only
    rw [newP_eq h1]
    have r1 : RowOk (T.elder.set i ⟨p.is_, p.key, v⟩) := t.elder.anew h1 h2 h2 rfl
    have hg := get_elder t hn h1 h2 h3
    have hil := (List.getElem?_eq_some_iff.1 h1).1
    refine ⟨_, rfl, ⟨t.row, t.row01, t.pos, r1, fun hne => ?_, fun j q hj hq => ?_, by simpa using t.mle, fun a b q s hq hs hq1 hs1 => ?_, ?_, by simpa [leftT] using t.load⟩, ?_, fun k => ?_, by rw [hg]; rfl, .inr ⟨.inl (by rw [hg]; rfl), rfl, by simp [leftT]⟩⟩
    · obtain ⟨j, q, g1, g2⟩ := t.eroom (fun e => by rw [e] at h1; simp at h1)
      have : i ≠ j := fun e => by subst e; rw [h1] at g1; cases g1; omega
      exact ⟨j, q, by rw [List.getElem?_set, if_neg this]; exact g1, g2⟩
    · rcases set_get hq with ⟨rfl, rfl, _⟩ | ⟨_, gq⟩
      · exact t.behind i p hj h1
      · exact t.behind j q hj gq
    · rcases set_get hs with ⟨_, rfl, _⟩ | ⟨_, gs⟩
      · exact t.apart a i q p hq h1 hq1 h2
      · exact t.apart a b q s hq gs hq1 hs1
    · have c1 := cntT_set T.elder i ⟨p.is_, p.key, v⟩ p h1
      have := t.cnt
      show cntT T.row + cntT (T.elder.set i ⟨p.is_, p.key, v⟩) = T.count
      simp only at c1; omega
    · rcases hr with hr | hr
      · rw [hr] at h1; simp at h1
      · exact .inr (by simpa using hr)
    · show (match valOf T.row k with | some v => some v | none => valOf (T.elder.set i ⟨p.is_, p.key, v⟩) k) = _
      by_cases hk : kL k = kL key
      · rw [if_pos hk, valOf_none (fun j ⟨q, g1, g2, g3⟩ => hn j ⟨q, g1, g2, g3.trans hk⟩), valOf_hit r1 (i := i) (p := ⟨p.is_, p.key, v⟩) (by rw [List.getElem?_set, if_pos rfl, if_pos hil]) h2 (h3.trans hk.symm)]
      · rw [if_neg hk, valOf_set r1 t.elder h1 k (fun h => hk (h.2.symm.trans h3)), if_neg (fun h => hk (h.2.symm.trans h3))]; rfl
  · rw [w]
    have hg := get_none hn hne
    simp only
    by_cases hb : 4 * (T.count + 1) > 3 * T.row.length
    · rw [if_pos hb]
      have he : T.elder = [] := by
        rcases hlow with h | h
        · omega
        · exact h.1
      obtain ⟨T1, m1, m2, m3, m4, m5, m6, m7⟩ := move_ok (z := z) t (T.elder.length : Int)
      rw [m1]
      have he1 : T1.elder = [] := by
        rcases m3 with h | h
        · exact h
        · unfold leftT at m4
          rw [he] at m4
          simp at m4
          omega
      obtain ⟨g1, g2, g3, g4, g5, g6⟩ := grow_ok (z := z) m2 he1 (by omega)
      have hpos := t.pos
      have hld := t.load
      have hel : ∀ j, ¬ Hit (growT z T1).elder key j := fun j hj => by
        obtain ⟨q, a1, a2, a3⟩ := hj
        have : getM T1 key = some q.value := get_row m2 a1 a2 a3
        rw [m7, hg] at this; cases this
      obtain ⟨T2, l1, l2, l3, l4, l5, l6, l7⟩ := lay_ok (v := v) g1 (.inr (by show (growT z T1).moved < T1.row.length; show 0 < T1.row.length; omega)) (g6 key) hel (by rw [g2, g3, g4]; omega)
      simp only
      rw [l1]
      refine ⟨T2, rfl, l2, l3, fun k => ?_, by rw [hg, l5, g3, m6]; rfl, .inl ⟨hg, hb, by rw [l4, g2, m5], by rw [l6, g4, m5]⟩⟩
      rw [l7, g5, m7]
    · rw [if_neg hb]
      have hl : leftT T + 4 * (T.count + 1) <= 3 * T.row.length := by
        rcases hlow with h | h
        · exact h
        · omega
      obtain ⟨T2, l1, l2, l3, l4, l5, l6, l7⟩ := lay_ok (v := v) t hr hn hne hl
      exact ⟨T2, l1, l2, l3, l7, by rw [hg, l5]; rfl, .inr ⟨.inr (by omega), l4, l6⟩⟩
theorem put_ok {T : Tb α} (t : TOk T) (key : ByteArray) (v : α) :
    ∃ T', putM z T key v = some T' ∧ TOk T' ∧ Rest T' ∧ (∀ k, getM T' k = if kL k = kL key then some v else getM T k) ∧ T'.count = T.count + (if (getM T key).isSome then 0 else 1) ∧
      ((getM T key = none ∧ 4 * (T.count + 1) > 3 * T.row.length ∧ T'.row.length = 2 * T.row.length ∧ leftT T' = T.row.length ∧ leftT T < 4) ∨ ((getM T key).isSome = true ∨ 4 * (T.count + 1) <= 3 * T.row.length) ∧ T'.row.length = T.row.length ∧ leftT T' = leftT T - 4) := by
  obtain ⟨T1, m1, m2, m3, m4, m5, m6, m7⟩ := move_ok (z := z) t 4
  have hld := t.load
  have hlow : leftT T1 + 4 * (T1.count + 1) <= 3 * T1.row.length ∨ (T1.elder = [] ∧ 4 * (T1.count + 1) > 3 * T1.row.length) := by
    rw [m5, m6, m4]
    by_cases hb : 4 * (T.count + 1) > 3 * T.row.length
    · refine .inr ⟨?_, hb⟩
      rcases m3 with h | h
      · exact h
      · unfold leftT at m4; unfold leftT at hld; simp at m4; omega
    · refine .inl ?_
      simp; omega
  obtain ⟨T2, p1, p2, p3, p4, p5, p6⟩ := put'_ok (z := z) m2 m3 key v hlow
  unfold putM
  rw [m1]
  refine ⟨T2, p1, p2, p3, fun k => ?_, by rw [p5, m6, m7], ?_⟩
  · rw [p4, m7]
  · rw [m7, m6, m5, m4] at p6
    rcases p6 with ⟨a, b, c, d⟩ | ⟨a, b, c⟩
    · exact .inl ⟨a, b, c, d, by omega⟩
    · exact .inr ⟨a, b, by simpa using c⟩
def newT (z : α) : Tb α := ⟨List.replicate 8 (emptP z), [], 0, 0⟩
theorem new_ok (z : α) : TOk (newT z) ∧ Rest (newT z) ∧ ∀ key, getM (newT z) key = none := by
  have hno : ∀ key j, ¬ Hit (newT z).row key j := fun key j ⟨q, g1, g2, _⟩ => by
    obtain ⟨rfl, _⟩ := repl_get g1
    simp [emptP] at g2
  refine ⟨⟨⟨fun i p h h1 => ?_, fun i j p q h h2 h1 => ?_⟩, fun p hp => ?_, by simp [newT], RowOk.nil, fun h => absurd rfl h, fun i p hi => by simp [newT] at hi, Nat.le_refl _, fun i j p q h h2 => by simp [newT] at h2, ?_, by simp [newT, leftT]⟩, .inl rfl, fun key => get_none (hno key) fun j ⟨q, g1, _⟩ => by simp [newT] at g1⟩
  · obtain ⟨rfl, _⟩ := repl_get h
    simp [emptP] at h1
  · obtain ⟨rfl, _⟩ := repl_get h
    simp [emptP] at h1
  · have := List.eq_of_mem_replicate hp
    subst this; simp [emptP]
  · show cntT (List.replicate 8 (emptP z)) + cntT [] = 0
    rfl
end
open Go Go.Proofs
set_option maxRecDepth 100000
def srtRen : Go.Shelf.Ren := ⟨fun | 6 => 124 | 8 => 145 | 9 => 144 | 19 => 162 | 20 => 163 | 21 => 153 | 22 => 154 | 23 => 155 | 24 => 156 | 25 => 157 | 26 => 158 | 27 => 159 | 28 => 160 | 29 => 161 | 36 => 167 | 31 => 168 | 32 => 169 | 37 => 170 | 38 => 171 | 39 => 172 | 41 => 181 | n => n, fun | 27 => 22 | 29 => 9 | 3 => 3 | 32 => 177 | 26 => 22 | 0 => 0 | 44 => 223 | 46 => 90 | 4 => 4 | 36 => 216 | 35 => 215 | 41 => 166 | 5 => 5 | 9 => 9 | 53 => 227 | 57 => 231 | 63 => 238 | 64 => 239 | n => n, fun n => n⟩
theorem srt : SlLaysM.n6 Tryz.prog srtRen := { mixed := by kernel_rfl, f6 := ⟨Tryz.f124.name, by decide, Tryz.func124.trans (congrArg some (by kernel_rfl))⟩, f8 := Tryz.func145.trans (congrArg some (by kernel_rfl)), f9 := ⟨Tryz.f144.name, by decide, Tryz.func144.trans (congrArg some (by kernel_rfl))⟩, f19 := Tryz.func162.trans (congrArg some (by kernel_rfl)), f20 := Tryz.func163.trans (congrArg some (by kernel_rfl)), f21 := ⟨Tryz.f153.name, by decide, Tryz.func153.trans (congrArg some (by kernel_rfl))⟩, f22 := ⟨Tryz.f154.name, by decide, Tryz.func154.trans (congrArg some (by kernel_rfl))⟩, f23 := ⟨Tryz.f155.name, by decide, Tryz.func155.trans (congrArg some (by kernel_rfl))⟩, f24 := ⟨Tryz.f156.name, by decide, Tryz.func156.trans (congrArg some (by kernel_rfl))⟩, f25 := ⟨Tryz.f157.name, by decide, Tryz.func157.trans (congrArg some (by kernel_rfl))⟩, f26 := ⟨Tryz.f158.name, by decide, Tryz.func158.trans (congrArg some (by kernel_rfl))⟩, f27 := ⟨Tryz.f159.name, by decide, Tryz.func159.trans (congrArg some (by kernel_rfl))⟩, f28 := ⟨Tryz.f160.name, by decide, Tryz.func160.trans (congrArg some (by kernel_rfl))⟩, f29 := ⟨Tryz.f161.name, by decide, Tryz.func161.trans (congrArg some (by kernel_rfl))⟩, f31 := Tryz.func168.trans (congrArg some (by kernel_rfl)), f32 := Tryz.func169.trans (congrArg some (by kernel_rfl)), f36 := ⟨Tryz.f167.name, by decide, Tryz.func167.trans (congrArg some (by kernel_rfl))⟩, f37 := ⟨Tryz.f170.name, by decide, Tryz.func170.trans (congrArg some (by kernel_rfl))⟩, f38 := ⟨Tryz.f171.name, by decide, Tryz.func171.trans (congrArg some (by kernel_rfl))⟩, f39 := ⟨Tryz.f172.name, by decide, Tryz.func172.trans (congrArg some (by kernel_rfl))⟩, f41 := ⟨Tryz.f181.name, by decide, Tryz.func181.trans (congrArg some (by kernel_rfl))⟩, t0 := Tryz.underlying0, a0 := Tryz.isAgg0, z0 := Tryz.sizeOf0, v0 := Tryz.zeroValue0, t3 := Tryz.underlying3, a3 := Tryz.isAgg3, z3 := Tryz.sizeOf3, v3 := Tryz.zeroValue3, t4 := Tryz.underlying4, a4 := Tryz.isAgg4, z4 := Tryz.sizeOf4, v4 := Tryz.zeroValue4, t5 := Tryz.underlying5, a5 := Tryz.isAgg5, z5 := Tryz.sizeOf5, v5 := Tryz.zeroValue5, t9 := Tryz.underlying9, a9 := Tryz.isAgg9, z9 := Tryz.sizeOf9, v9 := Tryz.zeroValue9, t26 := Tryz.underlying22, a26 := Tryz.isAgg22, z26 := Tryz.sizeOf22, v26 := Tryz.zeroValue22, t27 := Tryz.underlying22, a27 := Tryz.isAgg22, z27 := Tryz.sizeOf22, v27 := Tryz.zeroValue22, t29 := Tryz.underlying9, a29 := Tryz.isAgg9, z29 := Tryz.sizeOf9, v29 := Tryz.zeroValue9, t32 := Tryz.underlying177, a32 := Tryz.isAgg177, z32 := Tryz.sizeOf177, v32 := Tryz.zeroValue177, t35 := Tryz.underlying215, a35 := Tryz.isAgg215, z35 := Tryz.sizeOf215, v35 := Tryz.zeroValue215, t36 := Tryz.underlying216, a36 := Tryz.isAgg216, z36 := Tryz.sizeOf216, v36 := Tryz.zeroValue216, t41 := Tryz.underlying166, a41 := Tryz.isAgg166, z41 := Tryz.sizeOf166, v41 := Tryz.zeroValue166, t44 := Tryz.underlying223, a44 := Tryz.isAgg223, z44 := Tryz.sizeOf223, v44 := Tryz.zeroValue223, t46 := Tryz.underlying90, a46 := Tryz.isAgg90, z46 := Tryz.sizeOf90, v46 := Tryz.zeroValue90, t53 := Tryz.underlying227, a53 := Tryz.isAgg227, z53 := Tryz.sizeOf227, v53 := Tryz.zeroValue227, t57 := Tryz.underlying231, a57 := Tryz.isAgg231, z57 := Tryz.sizeOf231, v57 := Tryz.zeroValue231, t63 := Tryz.underlying238, a63 := Tryz.isAgg238, z63 := Tryz.sizeOf238, v63 := Tryz.zeroValue238, t64 := Tryz.underlying239, a64 := Tryz.isAgg239, z64 := Tryz.sizeOf239, v64 := Tryz.zeroValue239 }
open Go Go.Sort
noncomputable def sortT (ss : List ByteArray) : List ByteArray := ((ss.map fun s => s.data.toList).mergeSort fun x y => decide (x <= y)).map fun l => ⟨l.toArray⟩
theorem sortT_len (ss : List ByteArray) : (sortT ss).length = ss.length := by simp [sortT]
theorem enc_str (s : ByteArray) : encStr s.data.toList = .string s := by simp [encStr]
theorem flat_str (ss : List ByteArray) : ss.flatMap cT = (ss.map fun s => s.data.toList).map encStr := by
  rw [List.map_map]
  induction ss with
  | nil => rfl
  | cons a r ih => rw [List.flatMap_cons, ih]; simp [enc_str]
theorem flat_sort (ss : List ByteArray) : (sortT ss).flatMap cT = ((ss.map fun s => s.data.toList).mergeSort fun x y => decide (x <= y)).map encStr := by
  rw [flat_str, sortT, List.map_map, List.map_map]
  congr 1
theorem sort_fn {h : H} {s : Sl} {ss : List ByteArray} {f : Nat} {K : Value -> H -> Prop} (hf : srtRen.f 6 = f) (ow : Owns h s 9 1 (ss.flatMap cT)) (hl : ss.length < 4611686018427387904)
    (k : ∀ h', Owns h' s 9 1 ((sortT ss).flatMap cT) -> Only (fun b => s.blk = some b) h h' -> K (.tuple #[]) h') : Fn Tryz.prog f [s.enc].toArray h K := fun w hw => by
  subst hw
  subst hf
  obtain ⟨hlen, ⟨h1, h2, h3⟩ | ⟨g, c, h1, h2, h3, h4, h5, h6⟩⟩ := id ow
  · obtain ⟨sp, sl, sc⟩ := s
    simp only at h1 h2 h3
    subst h1; subst h2; subst h3
    have hs : ss = [] := by
      have := hlen
      rw [flat_len cT 1 cT_len] at this
      simp only at this
      exact List.eq_nil_of_length_eq_zero (by omega)
    subst hs
    have hc := AnyM.slices_Sort_string_none srt none 0 w
    refine callsIn_wide.2 (hc.mono fun e w' ⟨he, hn⟩ => ?_)
    subst he
    subst hn
    refine ⟨_, rfl, Like.refl _, k _ ?_ (.refl _)⟩
    have : sortT [] = [] := by simp [sortT]
    rw [this]
    exact ow
  · obtain ⟨sp, sl, sc⟩ := s
    simp only at h1 h3 h4 h5
    subst h1
    have hsl : sl = ss.length := by
      have := hlen
      rw [flat_len cT 1 cT_len] at this
      simp only at this
      omega
    subst hsl
    have htk : c.toList.take (ss.map fun s => s.data.toList).length = (ss.map fun s => s.data.toList).map encStr := by
      rw [← flat_str, List.length_map]
      rw [flat_len cT 1 cT_len, Nat.mul_one] at h6
      exact h6
    have hH := holds_of_block (w := w) (ss := ss.map fun s => s.data.toList) h2 htk
    have hc := AnyM.slices_Sort_string srt g 0 sc (ss.map fun s => s.data.toList) w hH (Array.getElem?_eq_some_iff.1 h2).1 (by simpa using hl)
    rw [List.length_map] at hc
    refine callsIn_wide.2 (hc.mono fun e w' ⟨he, n, os, hn⟩ => ?_)
    subst he
    have hg : w.grownBy w' (some g) := by rw [hn]; exact grownBy_sorted _
    have hso := heap_sorted (n := n) (os := os) ((ss.map fun s => s.data.toList).mergeSort fun x y => decide (x <= y)).toArray h2
    rw [← hn] at hso
    refine ⟨_, rfl, ⟨hg.os, hg.tape, hg.output, by rw [hn]; exact Nat.le_add_right _ _⟩, k _ ⟨?_, .inr ⟨g, _, rfl, hso, ?_, h4, h5, ?_⟩⟩ ((heap_ext hg).mono fun b _ e => by simpa [Sl.blk] using e)⟩
    · rw [flat_len cT 1 cT_len, sortT_len]
    · simp only [putCells]; simpa using h3
    · rw [flat_len cT 1 cT_len, Nat.mul_one, sortT_len, flat_sort]
      have hlm : ((ss.map fun s => s.data.toList).mergeSort fun x y => decide (x <= y)).length = ss.length := by simp
      have := take_putCells c ((ss.map fun s => s.data.toList).mergeSort fun x y => decide (x <= y)) (by rw [hlm]; omega)
      rw [hlm] at this
      exact this
set_option maxRecDepth 20000
def hstep (h : Nat) (c : UInt8) : Nat := ((h ^^^ c.toNat) * 1099511628211) % 18446744073709551616
theorem hash_step {x : Nat} (c : UInt8) (hx : x < 18446744073709551616) : IntKind.wrap .u64 ((bitsOf .xor .u64 (x : Int) (IntKind.wrap .u64 (c.toNat : Int))) * 1099511628211) = ((hstep x c : Nat) : Int) := by
  have hb : c.toNat < 256 := c.toNat_lt
  have e2 : IntKind.wrap .u64 (c.toNat : Int) = ((c.toNat : Nat) : Int) := by rw [wrap_u64]; omega
  rw [e2]
  simp only [bitsOf]
  rw [BitVec.ofInt_natCast, BitVec.ofInt_natCast, BitVec.toNat_xor, BitVec.toNat_ofNat, BitVec.toNat_ofNat, wrap_u64, wrap_u64]
  have e3 : x % 2 ^ (IntKind.bits .u64) = x := Nat.mod_eq_of_lt (by simpa [IntKind.bits] using hx)
  have e4 : c.toNat % 2 ^ (IntKind.bits .u64) = c.toNat := Nat.mod_eq_of_lt (by simp [IntKind.bits]; omega)
  rw [e3, e4]
  have hlt : x ^^^ c.toNat < 2 ^ 64 := Nat.xor_lt_two_pow (by omega) (by omega)
  unfold hstep
  generalize x ^^^ c.toNat = y at *
  omega
theorem hstep_lt (h : Nat) (c : UInt8) : hstep h c < 18446744073709551616 := Nat.mod_lt _ (by omega)
theorem hashL_eq (l : List UInt8) : hashL l = l.foldl hstep 14695981039346656037 := rfl
theorem hash_loop {h : H} {s : Sl} {l : List UInt8} {z : Nat} {Q : Int -> H -> Prop} (rd : Reads h s 1 (l.flatMap cU)) (hl : l.length <= 9223372036854775807) (k : Q (z : Int) h) :
    ∀ (m i : Nat) (x : Nat), i <= l.length -> l.length - i < m -> x < 18446744073709551616 -> (l.drop i).foldl hstep x = z -> F.xbc.l1 Q m (x : Int) s (s.len : Int) (i : Int) h
  | 0, i, x, h1, h2, _, _ => by omega
  | m + 1, i, x, h1, h2, hlt, hx => by
    unfold F.xbc.l1
    have hlen := rd_len cU_len (by omega) rd
    rw [hlen]
    simp only [decide_eq_true_eq, decide_eq_false_iff_not]
    refine ⟨fun g => ?_, fun g => ?_⟩
    · obtain ⟨c, hc⟩ : ∃ c, l[i]? = some c := ⟨_, List.getElem?_eq_getElem (by omega)⟩
      obtain ⟨p, q1, q2, q3⟩ := rd_at cU_len (by omega) rd hc
      refine idxR_of q1 (by omega) rfl ?_
      rw [ldI_iff (by have := q3.one; rwa [Nat.mul_one] at this ⊢), hash_step c hlt, w64 (by omega) (by omega)]
      have := hash_loop rd hl k m (i + 1) (hstep x c) (by omega) (by omega) (hstep_lt x c) (by
        rw [← hx, List.drop_eq_getElem_cons (show i < l.length by omega), List.foldl_cons]
        have : l[i] = c := by have := (List.getElem?_eq_some_iff.1 hc).2; exact this
        rw [this])
      rw [hlen] at this
      exact this
    · have : i = l.length := by omega
      subst this
      rw [List.drop_length] at hx
      cases hx
      exact k
theorem Hash_spec {h : H} {key : ByteArray} {Q : Int -> H -> Prop} (hk : key.size <= 9223372036854775807) (k : ∀ h', Ext h h' -> Q ((hashM key : Nat) : Int) h') : F.xbc key h Q := by
  unfold F.xbc
  refine cvtL_of Tryz.underlying9 el_Sluint8.slice Tryz.underlying5 fun r h' rd hc e _ => ?_
  refine ⟨key.data.toList.length + 1, ?_⟩
  have := hash_loop (Q := Q) (z := hashM key) rd (by rw [← size_data]; exact hk) (k h' e) (key.data.toList.length + 1) 0 14695981039346656037 (by omega) (by omega) (by omega) (by rw [List.drop_zero]; unfold hashM; rw [hashL_eq])
  exact this
abbrev SmallK (k : ByteArray) : Prop := k.size <= 9223372036854775807
abbrev BIG : Nat := 1099511627776
theorem probe_lt {α : Type} {R : List (Pl α)} {key : ByteArray} : ∀ (f i : Nat) (r : Nat × Bool), probe R key f i = some r -> r.1 < R.length
  | 0, i, r, h => by cases h
  | f + 1, i, r, h => by
    unfold probe at h
    cases hp : R[i]? with
    | none => rw [hp] at h; cases h
    | some p =>
      have hi := (List.getElem?_eq_some_iff.1 hp).1
      rw [hp] at h
      simp only at h
      split at h
      · cases h; exact hi
      · split at h
        · cases h; exact hi
        · exact probe_lt f _ r h
theorem find_lt {α : Type} {R : List (Pl α)} {key : ByteArray} {r : Nat × Bool} (h0 : R ≠ []) (h : findM R key = some r) : r.1 < R.length := by
  unfold findM at h
  rw [if_neg (fun e => h0 (List.eq_nil_of_length_eq_zero e))] at h
  exact probe_lt _ _ _ h
def WB (h : H) (n : Nat) (e : TypeId) : Prop := ∃ c, Blk h n c e
theorem WB.ne {h : H} {a b : Nat} {e e' : TypeId} (x : WB h a e) (y : WB h b e') (n : e ≠ e') : a ≠ b := fun hab => by
  obtain ⟨c, hc⟩ := x
  obtain ⟨d, hd⟩ := y
  subst hab
  unfold Blk at hc hd
  rw [hc] at hd
  simp at hd
  exact n hd.2
theorem Owns.typ {h : H} {s : Sl} {e : TypeId} {size : Nat} {cs : List Value} (o : Owns h s e size cs) {b : Nat} (hb : s.blk = some b) : WB h b e := by
  obtain ⟨_, ⟨h1, _⟩ | ⟨b', c', h1, h2, _⟩⟩ := o
  · simp [Sl.blk, h1] at hb
  · simp [Sl.blk, h1] at hb; subst hb; exact ⟨c', h2⟩
def KB {α : Type} (R : List (Pl α)) : Prop := ∀ (i : Nat) (p : Pl α), R[i]? = some p -> SmallK p.key
theorem KB.set {α : Type} {R : List (Pl α)} (k : KB R) {i : Nat} {p : Pl α} (hp : SmallK p.key) : KB (R.set i p) := fun j q hq => by
  rcases set_get hq with ⟨_, rfl, _⟩ | ⟨_, hq⟩
  · exact hp
  · exact k j q hq
def FT (n : Nat) (rs es : Sl) (b : Nat) : Prop := b = n ∨ rs.blk = some b ∨ es.blk = some b
structure Stp (h : H) (n : Nat) (rs es : Sl) (h' : H) (rs' es' : Sl) : Prop where
  only : Only (FT n rs es) h h'
  new : ∀ b, FT n rs' es' b -> FT n rs es b ∨ h.size <= b
theorem Stp.refl (h : H) (n : Nat) (rs es : Sl) : Stp h n rs es h rs es := ⟨.refl _, fun b hb => .inl hb⟩
theorem Stp.trans {h h' h'' : H} {n : Nat} {rs es rs' es' rs'' es'' : Sl} (a : Stp h n rs es h' rs' es') (b : Stp h' n rs' es' h'' rs'' es'') : Stp h n rs es h'' rs'' es'' :=
  ⟨a.only.trans b.only fun m hm hf => (a.new m hf).resolve_right (by omega), fun m hm => by
    rcases b.new m hm with h1 | h1
    · exact a.new m h1
    · exact .inr (Nat.le_trans a.only.size h1)⟩
theorem Stp.ext {h h' h'' : H} {n : Nat} {rs es rs' es' : Sl} (a : Stp h n rs es h' rs' es') (e : Ext h' h'') : Stp h n rs es h'' rs' es' := ⟨a.only.ext e, a.new⟩
theorem Stp.of_ext {h h' : H} {n : Nat} {rs es : Sl} (e : Ext h h') : Stp h n rs es h' rs es := ⟨e.only, fun b hb => .inl hb⟩
theorem made3 (a b c : Value) (n : Nat) : (madeCells #[a, b, c] (n * 3)).toList = (List.replicate n [a, b, c]).flatten := by
    apply List.ext_getElem?
    intro j
    have hfl : (List.replicate n [a, b, c]).flatten = (List.replicate n ()).flatMap fun _ => [a, b, c] := by
      rw [List.flatMap, List.map_replicate]
    rw [hfl]
    by_cases hj : j < n * 3
    · have hd : j = (j / 3) * 3 + j % 3 := by omega
      have hu : (List.replicate n ())[j / 3]? = some () := by rw [List.getElem?_replicate, if_pos (by omega)]
      have := flat_get (fun _ : Unit => [a, b, c]) 3 (fun _ => rfl) (List.replicate n ()) (j / 3) () hu (j % 3) (by omega)
      rw [← hd] at this
      rw [this]
      simp only [madeCells, Array.getElem?_toList]
      have hm : j % 3 < 3 := by omega
      simp [hj]
      rcases (show j % 3 = 0 ∨ j % 3 = 1 ∨ j % 3 = 2 by omega) with h | h | h <;> simp [h]
    · rw [List.getElem?_eq_none (by simp [size_madeCells]; omega), List.getElem?_eq_none (by rw [flat_len _ 3 (fun _ => rfl)]; simp; omega)]
theorem KB.nil {α : Type} : KB ([] : List (Pl α)) := fun i p hp => by simp at hp
theorem set3 {cs : List Value} {o : Nat} {a b v : Value} (ha : cs[o]? = some a) (hb : cs[o + 1]? = some b) : cs.take (o + 2) ++ [v] ++ cs.drop (o + 2 + [v].length) = cs.take o ++ [a, b, v] ++ cs.drop (o + [a, b, v].length) := by
  rw [List.take_add_one (i := o + 1), List.take_add_one (i := o), ha, hb]
  simp
theorem put_only (h : H) (l : Nat) (o : Obj) : Only (· = l) h (put h l o) := ⟨by simp [put], fun b hb hn => by
  unfold put
  rw [Array.getElem?_setIfInBounds_ne (fun e => hn e.symm)]⟩
theorem putAt_ {h : H} {l : Nat} {o o' : Obj} (hl : h[l]? = some o') : (put h l o)[l]? = some o := by
  have := (Array.getElem?_eq_some_iff.1 hl).1
  unfold put
  rw [Array.getElem?_setIfInBounds_self_of_lt this]
theorem nodup_len : ∀ {E L : List Nat}, E.Nodup -> (∀ e ∈ E, e ∈ L) -> E.length <= L.length
  | [], L, _, _ => Nat.zero_le _
  | e :: E, L, h, hs => by
    rw [List.nodup_cons] at h
    have he := hs e (by simp)
    have := nodup_len (E := E) (L := L.erase e) h.2 fun x hx => (List.mem_erase_of_ne (show x ≠ e from fun hxe => h.1 (by rw [← hxe]; exact hx))).2 (hs x (by simp [hx]))
    rw [List.length_erase_of_mem he] at this
    have hpos : 0 < L.length := List.length_pos_of_mem he
    simp only [List.length_cons]; omega
structure KG (h : H) (o b : Nat) (M D : List (ByteArray × Value)) (h' : H) : Prop where
  ext : Ext h h'
  box : ∃ s : Sl, Blk h' o #[s.enc] tn_Slstring ∧ Owns h' s 9 1 ((D.map (·.1)).flatMap cT) ∧ ∀ n, s.blk = some n -> o + 4 <= n
  dfr : h'[o + 1]? = some (.deferred (some []))
  it : ItH h' (o + 3) b M D
  size : o + 3 < h'.size
theorem KG.only {h h' h'' : H} {o b : Nat} {M D : List (ByteArray × Value)} (k : KG h o b M D h') (ho : h.size <= o) (hb : b < o) (e : Only (· = o + 2) h' h'') : KG h o b M D h'' := by
  obtain ⟨s, s1, s2, s3⟩ := k.box
  exact ⟨k.ext.step e fun n hn hf => by omega, ⟨s, e.block s1 (by omega), s2.only e fun n hn hf => by have := s3 n hn; omega, s3⟩, e.block k.dfr (by omega), k.it.only e (by omega) (by omega), by have := k.size; have := e.size; omega⟩
theorem put_new {M : List (ByteArray × Value)} {k : ByteArray} {v : Value} (h : k ∉ M.map (·.1)) : putK M k v = M ++ [(k, v)] := by
  unfold putK
  have : (M.findIdx? fun p => k == p.1) = none := by
    rw [List.findIdx?_eq_none_iff]
    intro p hp
    exact ba_ne fun e => h (List.mem_map.2 ⟨p, hp, e.symm⟩)
  rw [this]
theorem getK_mem {M : List (ByteArray × Value)} {k : ByteArray} {v : Value} (hn : (M.map (·.1)).Nodup) (h : (k, v) ∈ M) : getK M k = some v := by
  induction M with
  | nil => cases h
  | cons p M ih =>
    rw [List.map_cons, List.nodup_cons] at hn
    unfold getK
    rw [List.find?_cons]
    rcases List.mem_cons.1 h with rfl | h
    · simp [ba_self]
    · have : ¬ k = p.1 := fun e => hn.1 (List.mem_map.2 ⟨(k, v), h, e⟩)
      rw [ba_ne this]
      exact ih hn.2 h
theorem sortT_perm {A B : List ByteArray} (h : A.Perm B) : sortT A = sortT B := by
  unfold sortT
  rw [show ((A.map fun s => s.data.toList).mergeSort fun x y => decide (x <= y)) = ((B.map fun s => s.data.toList).mergeSort fun x y => decide (x <= y)) from mergeSort_of_perm (h.map _)]
theorem sortT_mem {A : List ByteArray} {k : ByteArray} : k ∈ sortT A ↔ k ∈ A := by
  unfold sortT
  rw [List.mem_map]
  constructor
  · rintro ⟨l, hl, rfl⟩
    have := (List.mergeSort_perm _ _).mem_iff.1 hl
    obtain ⟨s, hs, rfl⟩ := List.mem_map.1 this
    simpa using hs
  · intro h
    exact ⟨k.data.toList, (List.mergeSort_perm _ _).mem_iff.2 (List.mem_map.2 ⟨k, h, rfl⟩), by simp⟩
def SQF (ka ma b : Nat) (r : Sl) (n : Nat) : Prop := n = ka ∨ n = ma ∨ n = b ∨ r.blk = some n
end Go.Proofs.YtjjchpaomgmmdaaGreat.V
namespace Go.Proofs.YtjjchpaomgmmdaaGreat.V.P
open Go Go.Proofs.YtjjchpaomgmmdaaGreat.V
set_option linter.unusedVariables false
set_option linter.unusedSimpArgs false
set_option maxRecDepth 20000
abbrev nilA : Option Addr := none
abbrev cP (p : Pl (Option Addr)) : List Value := [.int .u8 (p.is_ : Int), .string p.key, .pointer p.value]
theorem cP_len (p : Pl (Option Addr)) : (cP p).length = 3 := rfl
theorem home_spec {h : H} {s : Sl} {α : Type} {R : List (Pl α)} {key : ByteArray} {Q : Int -> H -> Prop} (hs : s.len = R.length) (h0 : 0 < R.length) (hb : R.length <= BIG) (hk : SmallK key) (k : ∀ h', Ext h h' -> Q ((homeM R key : Nat) : Int) h') : F.xcq s key h Q := by
  unfold F.xcq
  refine Hash_spec hk fun h1 e1 => ?_
  have hw : IntKind.wrap .u64 (s.len : Int) = ((R.length : Nat) : Int) := by rw [wrap_u64, hs]; simp only [BIG] at hb; omega
  rw [hw]
  refine ⟨by omega, ?_⟩
  rw [← Int.ofNat_tmod]
  have hl := home_lt (R := R) (key := key) h0
  unfold homeM at hl
  rw [w64 (by omega) (by simp only [BIG] at hb; omega)]
  exact k h1 e1
theorem probe_loop {h : H} {s : Sl} {R : List (Pl (Option Addr))} {key : ByteArray} {Q : Int -> Bool -> H -> Prop} (rd : Reads h s 3 (R.flatMap cP)) (hb : R.length <= BIG) :
    ∀ (f i : Nat) (r : Nat × Bool), probe R key f i = some r -> Q ((r.1 : Nat) : Int) r.2 h -> F.xah.l1 Q f s key (i : Int) h
  | 0, i, r, hp, k => by cases hp
  | f + 1, i, r, hp, k => by
    unfold probe at hp
    unfold F.xah.l1
    have hlen := rd_len cP_len (by omega) rd
    cases hpi : R[i]? with
    | none => rw [hpi] at hp; cases hp
    | some p =>
      have hi := (List.getElem?_eq_some_iff.1 hpi).1
      rw [hpi] at hp
      simp only at hp
      obtain ⟨a, q1, q2, q3⟩ := rd_at cP_len (by omega) rd hpi
      have c0 := q3 0 _ rfl
      have c1 := q3 1 _ rfl
      refine idxR_of q1 (by omega) rfl ?_
      rw [ldI_iff c0]
      simp only [bne_iff_ne, ne_eq, bne_eq_false_iff_eq, beq_iff_eq, beq_eq_false_iff_ne]
      by_cases h0 : p.is_ = 0
      · rw [if_pos h0] at hp
        cases hp
        exact ⟨fun g => absurd (by omega) g, fun _ => k⟩
      · rw [if_neg h0] at hp
        refine ⟨fun _ => ?_, fun g => absurd g (by omega)⟩
        refine idxR_of q1 (by omega) rfl ?_
        rw [ldI_iff c0]
        have next : ∀ (x : Bool), ¬ (x = true) -> ¬ (p.is_ = 1 ∧ kL p.key = kL key) -> F.xah.j3 Q (F.xah.l1 Q f) s key (i : Int) x h := fun x hx hn => by
          rw [if_neg hn] at hp
          unfold F.xah.j3
          refine ⟨fun g => absurd g hx, fun _ => ?_⟩
          unfold F.xah.j2
          simp only [BIG] at hb
          refine ⟨by omega, ?_⟩
          rw [w64 (by omega) (by omega), hlen, show (i : Int) + 1 = ((i + 1 : Nat) : Int) from by omega, ← Int.ofNat_tmod]
          exact probe_loop rd hb f _ r hp k
        refine ⟨fun g => ?_, fun g => ?_⟩
        · refine idxR_of q1 (by omega) rfl ?_
          rw [ldS_iff c1, toList_data, toList_data]
          by_cases hk : kL p.key = kL key
          · rw [if_pos ⟨by omega, hk⟩] at hp
            cases hp
            rw [show (p.key.data.toList == key.data.toList) = true from by simpa using hk]
            exact ⟨fun _ => k, fun h => by cases h⟩
          · rw [show (p.key.data.toList == key.data.toList) = false from by simpa using hk]
            exact next _ (by simp) fun h => hk h.2
        · exact next _ (by simp) fun h => g (by omega)
theorem find_spec {h : H} {s : Sl} {R : List (Pl (Option Addr))} {key : ByteArray} {Q : Int -> Bool -> H -> Prop} {r : Nat × Bool} (rd : Reads h s 3 (R.flatMap cP)) (hb : R.length <= BIG) (hk : SmallK key) (hf : findM R key = some r) (k : ∀ h', Ext h h' -> Q ((r.1 : Nat) : Int) r.2 h') : F.xah s key h Q := by
  unfold F.xah
  unfold findM at hf
  have hlen := rd_len cP_len (by omega) rd
  simp only [beq_iff_eq, beq_eq_false_iff_ne]
  by_cases h0 : R.length = 0
  · rw [if_pos h0] at hf
    cases hf
    exact ⟨fun _ => k h (.refl _), fun g => absurd (by omega) g⟩
  · rw [if_neg h0] at hf
    refine ⟨fun g => absurd g (by omega), fun _ => ?_⟩
    refine home_spec (R := R) hlen (by omega) hb hk fun h1 e1 => ?_
    exact ⟨R.length + 1, probe_loop (rd.ext e1) hb _ _ r hf (k h1 e1)⟩
structure TH (h : H) (n : Nat) (rs es : Sl) (T : Tb (Option Addr)) : Prop where
  tb : Blk h n #[rs.enc, es.enc, .int .i64 (T.moved : Int), .int .i64 (T.count : Int)] tn_table_Table_chain_Chain_api_Agg
  row : Owns h rs tn_table_place_chain_Chain_api_Agg 3 (T.row.flatMap cP)
  el : Owns h es tn_table_place_chain_Chain_api_Agg 3 (T.elder.flatMap cP)
  ne : ∀ b, rs.blk = some b -> es.blk ≠ some b
  kr : KB T.row
  ke : KB T.elder
  pos : T.row ≠ []
  br : T.row.length <= BIG
  be : T.elder.length <= BIG
  bc : T.count <= BIG
  bm : T.moved <= T.elder.length
section
variable {h h' : H} {n : Nat} {rs es : Sl} {T : Tb (Option Addr)}
theorem TH.c0 (t : TH h n rs es T) : cellH h ⟨n, 0, none⟩ = some rs.enc := t.tb.cell rfl
theorem TH.c1 (t : TH h n rs es T) : cellH h ⟨n, 1, none⟩ = some es.enc := t.tb.cell rfl
theorem TH.c2 (t : TH h n rs es T) : cellH h ⟨n, 2, none⟩ = some (.int .i64 (T.moved : Int)) := t.tb.cell rfl
theorem TH.c3 (t : TH h n rs es T) : cellH h ⟨n, 3, none⟩ = some (.int .i64 (T.count : Int)) := t.tb.cell rfl
theorem TH.nr (t : TH h n rs es T) : ∀ b, rs.blk = some b -> b ≠ n := fun b hb => (t.row.typ hb).ne ⟨_, t.tb⟩ (by decide)
theorem TH.nel (t : TH h n rs es T) : ∀ b, es.blk = some b -> b ≠ n := fun b hb => (t.el.typ hb).ne ⟨_, t.tb⟩ (by decide)
theorem TH.rlen (t : TH h n rs es T) : rs.len = T.row.length := own_len cP_len (by omega) t.row
theorem TH.elen (t : TH h n rs es T) : es.len = T.elder.length := own_len cP_len (by omega) t.el
theorem TH.lt (t : TH h n rs es T) : ∀ b, FT n rs es b -> b < h.size := fun b hb => by
  rcases hb with rfl | hb | hb
  · exact block_lt t.tb
  · exact t.row.blk_lt hb
  · exact t.el.blk_lt hb
theorem TH.only (t : TH h n rs es T) {S : Nat -> Prop} (o : Only S h h') (hn : ∀ b, FT n rs es b -> ¬ S b) : TH h' n rs es T :=
  ⟨o.block t.tb (hn n (.inl rfl)), t.row.only o fun b hb => hn b (.inr (.inl hb)), t.el.only o fun b hb => hn b (.inr (.inr hb)), t.ne, t.kr, t.ke, t.pos, t.br, t.be, t.bc, t.bm⟩
theorem TH.ext (t : TH h n rs es T) (e : Ext h h') : TH h' n rs es T := t.only e fun _ _ f => f
theorem TH.set_row (t : TH h n rs es T) {i b : Nat} {p : Pl (Option Addr)} {K : H -> Prop} (hp : rs.ptr = some ⟨b, 0, none⟩) (hi : i < T.row.length) (hk : SmallK p.key)
    (k : ∀ h', TH h' n rs es { T with row := T.row.set i p } -> Stp h n rs es h' rs es -> K h') : stH h ⟨b, i * 3, none⟩ (cP p) K :=
  own_setAt cP_len t.row hp hi fun h1 o1 e1 _ => k h1 ⟨e1.block t.tb fun hb => t.nr _ hb rfl, o1, t.el.only e1 fun b' hb hb' => t.ne b' hb' hb, t.ne, t.kr.set hk, t.ke, by
    have := t.pos; intro hnil; exact this (by simpa using hnil), by simpa using t.br, t.be, t.bc, t.bm⟩ ⟨e1.mono fun b' _ hb => .inr (.inl hb), fun b' hb => .inl hb⟩
theorem TH.set_el (t : TH h n rs es T) {i b : Nat} {p : Pl (Option Addr)} {K : H -> Prop} (hp : es.ptr = some ⟨b, 0, none⟩) (hi : i < T.elder.length) (hk : SmallK p.key)
    (k : ∀ h', TH h' n rs es { T with elder := T.elder.set i p } -> Stp h n rs es h' rs es -> K h') : stH h ⟨b, i * 3, none⟩ (cP p) K :=
  own_setAt cP_len t.el hp hi fun h1 o1 e1 _ => k h1 ⟨e1.block t.tb fun hb => t.nel _ hb rfl, t.row.only e1 fun b' hb hb' => t.ne b' hb hb', o1, t.ne, t.kr, t.ke.set hk, t.pos, t.br, by simpa using t.be, t.bc, by simpa using t.bm⟩ ⟨e1.mono fun b' _ hb => .inr (.inr hb), fun b' hb => .inl hb⟩
theorem TH.row_at (t : TH h n rs es T) {i : Nat} {p : Pl (Option Addr)} (hp : T.row[i]? = some p) : ∃ b, rs.ptr = some ⟨b, 0, none⟩ ∧ Cells h ⟨b, i * 3, none⟩ (cP p) := own_at cP_len (by omega) t.row hp
theorem TH.el_at (t : TH h n rs es T) {i : Nat} {p : Pl (Option Addr)} (hp : T.elder[i]? = some p) : ∃ b, es.ptr = some ⟨b, 0, none⟩ ∧ Cells h ⟨b, i * 3, none⟩ (cP p) := own_at cP_len (by omega) t.el hp
theorem TH.stn (t : TH h n rs es T) {j : Nat} {v : Value} {K : H -> Prop} (hj : j < 4)
    (k : ∀ h', Blk h' n ((#[rs.enc, es.enc, .int .i64 (T.moved : Int), .int .i64 (T.count : Int)] : Array Value).setIfInBounds j v) tn_table_Table_chain_Chain_api_Agg -> Only (· = n) h h' -> Owns h' rs tn_table_place_chain_Chain_api_Agg 3 (T.row.flatMap cP) -> Owns h' es tn_table_place_chain_Chain_api_Agg 3 (T.elder.flatMap cP) -> K h') : stH h ⟨n, j, none⟩ [v] K :=
  stH_of t.tb (by show j + 1 <= 4; omega) fun h1 b1 e1 _ => k h1 b1 e1 (t.row.only e1 fun b hb hn => t.nr b hb hn) (t.el.only e1 fun b hb hn => t.nel b hb hn)
theorem TH.st_moved (t : TH h n rs es T) {m : Nat} {x : Int} {K : H -> Prop} (hx : x = (m : Int)) (hm : m <= T.elder.length) (k : ∀ h', TH h' n rs es { T with moved := m } -> Stp h n rs es h' rs es -> K h') : stH h ⟨n, 2, none⟩ [.int .i64 x] K := by
  subst hx
  exact t.stn (by omega) fun h1 b1 e1 o1 o2 => k h1 ⟨b1, o1, o2, t.ne, t.kr, t.ke, t.pos, t.br, t.be, t.bc, hm⟩ ⟨e1.mono fun b _ hb => .inl hb, fun b hb => .inl hb⟩
theorem TH.st_count (t : TH h n rs es T) {m : Nat} {x : Int} {K : H -> Prop} (hx : x = (m : Int)) (hm : m <= BIG) (k : ∀ h', TH h' n rs es { T with count := m } -> Stp h n rs es h' rs es -> K h') : stH h ⟨n, 3, none⟩ [.int .i64 x] K := by
  subst hx
  exact t.stn (by omega) fun h1 b1 e1 o1 o2 => k h1 ⟨b1, o1, o2, t.ne, t.kr, t.ke, t.pos, t.br, t.be, hm, t.bm⟩ ⟨e1.mono fun b _ hb => .inl hb, fun b hb => .inl hb⟩
theorem Left_spec (t : TH h n rs es T) {Q : Int -> H -> Prop} (k : Q ((leftT T : Nat) : Int) h) : F.xcp (some ⟨n, 0, none⟩) h Q := by
  unfold F.xcp
  simp only [nn_some, add_lit, Nat.zero_add]
  rw [ldL_iff t.c1, ldI_iff t.c2, t.elen]
  have := t.bm
  have := t.be
  simp only [BIG] at this
  rw [w64 (by omega) (by omega)]
  rw [show ((leftT T : Nat) : Int) = (T.elder.length : Int) - (T.moved : Int) from by unfold leftT; omega] at k
  exact k
end
theorem Move_loop {n : Nat} {Q : Int -> H -> Prop} : ∀ (m : Nat) (h : H) (rs es : Sl) (T T1 : Tb (Option Addr)) (x1 : Int), TH h n rs es T -> moveN nilA x1.toNat T = some T1 -> x1 < 9223372036854775808 -> x1.toNat < m ->
    (∀ h' es', TH h' n rs es' (finT T1) -> Stp h n rs es h' rs es' -> Q ((leftT (finT T1) : Nat) : Int) h') -> F.xac.l1 Q m (some ⟨n, 0, none⟩) x1 h
  | 0, h, rs, es, T, T1, x1, t, hm, hx, hf, k => by omega
  | m + 1, h, rs, es, T, T1, x1, t, hm, hx, hf, k => by
    unfold F.xac.l1
    simp only [nn_some, add_lit, Nat.zero_add]
    rw [ldI_iff t.c2, ldL_iff t.c1, t.elen]
    have hbe := t.be
    simp only [BIG] at hbe
    have stop : ∀ C1, T1 = T -> F.xac.j5 Q C1 (some ⟨n, 0, none⟩) x1 false h := fun C1 e => by
      subst e
      unfold F.xac.j5
      refine ⟨(fun h => by cases h), fun _ => ?_⟩
      simp only [nn_some, add_lit, Nat.zero_add]
      rw [ldI_iff t.c2, ldL_iff t.c1, t.elen]
      simp only [beq_iff_eq, beq_eq_false_iff_ne]
      unfold F.xac.j6
      refine ⟨fun g => ?_, fun g => ?_⟩
      · refine t.stn (by omega) fun h1 b1 e1 o1 o2 => ?_
        have hfin : finT T1 = ⟨T1.row, [], 0, T1.count⟩ := by unfold finT; rw [if_pos (by omega)]
        refine stH_of b1 (by simp) fun h2 b2 e2 _ => ?_
        have t2 : TH h2 n rs ⟨none, 0, 0⟩ (finT T1) := by
          rw [hfin]
          exact ⟨b2, o1.only e2 fun b hb hn => t.nr b hb hn, Owns.nil _ _ _, fun b hb => by simp [Sl.blk], t.kr, fun i p hi => by simp at hi, t.pos, t.br, by simp, t.bc, by simp⟩
        have s2 : Stp h n rs es h2 rs ⟨none, 0, 0⟩ := ⟨(e1.mono fun b _ hb => .inl hb).trans (e2.mono fun b _ hb => .inl hb) fun _ _ hb => hb, fun b hb => by
          rcases hb with hb | hb | hb
          · exact .inl (.inl hb)
          · exact .inl (.inr (.inl hb))
          · simp [Sl.blk] at hb⟩
        exact Left_spec t2 (k h2 _ t2 s2)
      · have hfin : finT T1 = T1 := by unfold finT; rw [if_neg (by omega)]
        have t2 : TH h n rs es (finT T1) := by rw [hfin]; exact t
        exact Left_spec t2 (k h _ t2 (.refl _ _ _ _))
    by_cases hx0 : x1 > 0
    · refine ⟨fun _ => ?_, fun g => by simp at g; omega⟩
      obtain ⟨c, hc⟩ : ∃ c, x1.toNat = c + 1 := ⟨x1.toNat - 1, by omega⟩
      rw [hc] at hm
      unfold moveN at hm
      by_cases hlt : T.moved < T.elder.length
      · rw [if_pos hlt] at hm
        rw [show decide ((T.moved : Int) < (T.elder.length : Int)) = true from by simpa using hlt]
        unfold F.xac.j5
        refine ⟨fun _ => ?_, fun h => by cases h⟩
        unfold F.xac.j2
        simp only [nn_some, add_lit, Nat.zero_add]
        obtain ⟨p, hp⟩ : ∃ p, T.elder[T.moved]? = some p := ⟨_, List.getElem?_eq_getElem hlt⟩
        obtain ⟨be, q1, q2⟩ := t.el_at hp
        have step : ∀ (h1 : H) (T2 : Tb (Option Addr)), TH h1 n rs es T2 -> Stp h n rs es h1 rs es -> T2.moved = T.moved -> T2.elder.length = T.elder.length -> moveN nilA c { T2 with moved := T2.moved + 1 } = some T1 -> F.xac.j4 Q (F.xac.l1 Q m) (some ⟨n, 0, none⟩) x1 h1 := fun h1 T2 t2 s2 em el hm2 => by
          unfold F.xac.j4
          simp only [nn_some, add_lit, Nat.zero_add]
          rw [ldI_iff t2.c2]
          refine t2.st_moved (m := T2.moved + 1) (by rw [w64 (by omega) (by omega)]; omega) (by omega) fun h2 t3 s3 => ?_
          unfold F.xac.j3
          rw [w64 (by omega) (by omega)]
          refine Move_loop m h2 rs es _ T1 (x1 - 1) t3 ?_ (by omega) (by omega) fun h' es' t4 s4 => k h' es' t4 ((s2.trans s3).trans s4)
          rw [show (x1 - 1).toNat = c from by omega]
          exact hm2
        rw [ldL_iff t.c1, ldI_iff t.c2]
        refine idxA_of q1 (by rw [t.elen]; exact hlt) rfl ?_
        have c0 := q2 0 _ rfl
        have c1 := q2 1 _ rfl
        rw [ldI_iff c0]
        unfold move1 at hm
        rw [hp] at hm
        simp only at hm
        simp only [beq_iff_eq, beq_eq_false_iff_ne]
        by_cases h1 : p.is_ = 1
        · rw [if_pos h1] at hm
          refine ⟨fun _ => ?_, fun g => absurd (by omega) g⟩
          cases hfr : findM T.row p.key with
          | none => rw [hfr] at hm; cases hm
          | some r =>
            rw [hfr] at hm
            simp only at hm
            rw [ldL_iff t.c0, ldS_iff c1]
            refine find_spec t.row.reads t.br (t.ke _ p hp) hfr fun h1 e1 => ?_
            have t1 := t.ext e1
            rw [ldL_iff t1.c0]
            have q3 : Cells h1 ⟨be, T.moved * 3, none⟩ (cP p) := q2.ext e1
            refine ⟨⟨(p.is_ : Int), p.key, p.value⟩, q3, ?_⟩
            have hr := find_lt t.pos hfr
            obtain ⟨br, u1, _⟩ := t1.row_at (List.getElem?_eq_getElem hr)
            refine idxA_of u1 (by rw [t.rlen]; exact hr) rfl ?_
            refine t1.set_row u1 hr (t.ke _ p hp) fun h2 t2 s2 => ?_
            refine t2.set_el (p := goneP nilA) (i := T.moved) q1 hlt (by show (0 : Nat) <= _; decide) fun h3 t3 s3 => ?_
            exact step h3 _ t3 ((Stp.of_ext e1).trans (s2.trans s3)) rfl (by simp) hm
        · rw [if_neg h1] at hm
          refine ⟨fun g => absurd (by omega) h1, fun _ => ?_⟩
          exact step h T t (.refl _ _ _ _) rfl rfl hm
      · rw [if_neg hlt] at hm
        rw [show decide ((T.moved : Int) < (T.elder.length : Int)) = false from by simpa using hlt]
        exact stop _ (Option.some.inj hm).symm
    · refine ⟨fun g => by simp at g; omega, fun _ => stop _ ?_⟩
      rw [show x1.toNat = 0 from by omega] at hm
      exact (Option.some.inj hm).symm
theorem Move_spec {h : H} {n : Nat} {rs es : Sl} {T T' : Tb (Option Addr)} {x : Int} {Q : Int -> H -> Prop} (t : TH h n rs es T) (hm : moveM nilA T x = some T') (hx : x < 9223372036854775808)
    (k : ∀ h' es', TH h' n rs es' T' -> Stp h n rs es h' rs es' -> Q ((leftT T' : Nat) : Int) h') : F.xac (some ⟨n, 0, none⟩) x h Q := by
  unfold moveM at hm
  cases h1 : moveN nilA x.toNat T with
  | none => rw [h1] at hm; cases hm
  | some T1 =>
    rw [h1] at hm
    cases hm
    exact ⟨x.toNat + 1, Move_loop _ h rs es T T1 x t h1 hx (by omega) k⟩
theorem elP : El PP tn_Sltable_place_chain_Chain_api_Agg tn_table_place_chain_Chain_api_Agg 3 32 (.agg #[.int .u8 0, .string ⟨#[]⟩, .pointer none]) := el_Sltable_place_chain_Chain_api_Agg
theorem made_rows (n : Nat) : (madeCells (Value.agg #[.int .u8 0, .string ⟨#[]⟩, .pointer none]).cells (n * 3)).toList = (List.replicate n (emptP nilA)).flatMap cP := by
  have := made3 (.int .u8 0) (.string ⟨#[]⟩) (.pointer none) n
  rw [List.flatMap, List.map_replicate]
  exact this
theorem KB.repl (n : Nat) : KB (List.replicate n (emptP nilA)) := fun i p hp => by
  obtain ⟨rfl, _⟩ := repl_get hp
  show (0 : Nat) <= _; omega
theorem New_spec {h : H} {Q : Option Addr -> H -> Prop} (k : ∀ h' n rs, TH h' n rs ⟨none, 0, 0⟩ (newT nilA) -> Ext h h' -> (∀ b, FT n rs ⟨none, 0, 0⟩ b -> h.size <= b) -> Q (some ⟨n, 0, none⟩) h') : F.xcg h Q := by
  unfold F.xcg
  refine make_of (n := 8) elP (by omega) (by simp [maxLen]) fun b h1 hb o1 e1 => ?_
  rw [made_rows] at o1
  refine new_of fun n h2 hn b2 e2 _ => ?_
  refine k h2 n _ ⟨b2, o1.ext e2, Owns.nil _ _ _, fun b hb => by simp [Sl.blk], KB.repl 8, KB.nil, by simp [newT], by simp [newT, BIG], by simp [newT], by simp [newT], by simp [newT]⟩ (e1.trans e2) fun b' hb' => ?_
  rcases hb' with h1 | h1 | h1
  · have := e1.size; omega
  · simp [Sl.blk] at h1; omega
  · simp [Sl.blk] at h1
section
variable {h : H} {n : Nat} {rs es : Sl} {T : Tb (Option Addr)} {key : ByteArray}
theorem where_spec {Q : Option Addr -> H -> Prop} (t : TH h n rs es T) (ok : TOk T) (hk : SmallK key)
    (k1 : ∀ h' i b, Ext h h' -> Hit T.row key i -> rs.ptr = some ⟨b, 0, none⟩ -> Q (some ⟨b, i * 3, none⟩) h')
    (k2 : ∀ h' i b, Ext h h' -> Hit T.elder key i -> (∀ j, ¬ Hit T.row key j) -> es.ptr = some ⟨b, 0, none⟩ -> Q (some ⟨b, i * 3, none⟩) h')
    (k3 : ∀ h', Ext h h' -> (∀ j, ¬ Hit T.row key j) -> (∀ j, ¬ Hit T.elder key j) -> Q none h') : F.xcb (some ⟨n, 0, none⟩) key h Q := by
  unfold F.xcb
  simp only [nn_some, add_lit, Nat.zero_add]
  rw [ldL_iff t.c0]
  have w := where_ok ok key
  unfold whereM at w
  cases hf : findM T.row key with
  | none => rw [hf] at w; rcases w with ⟨i, w, _⟩ | ⟨i, w, _⟩ | ⟨w, _⟩ <;> cases w
  | some r =>
    rw [hf] at w
    obtain ⟨i, b⟩ := r
    refine find_spec t.row.reads t.br hk hf fun h1 e1 => ?_
    have t1 := t.ext e1
    rw [ldL_iff t1.c0, ldL_iff t1.c1]
    cases b with
    | true =>
      refine ⟨fun _ => ?_, fun h => by cases h⟩
      rcases w with ⟨j, w, wh⟩ | ⟨j, w, _⟩ | ⟨w, _⟩
      · simp at w; subst w
        obtain ⟨p, hp, _⟩ := id wh
        obtain ⟨b, u1, _⟩ := t1.row_at hp
        exact idxA_of u1 (by rw [t.rlen]; exact wh.lt) rfl (k1 h1 _ b e1 wh u1)
      · cases w
      · cases w
    | false =>
      refine ⟨fun h => (by cases h), fun _ => ?_⟩
      simp only at w
      cases hg : findM T.elder key with
      | none => rw [hg] at w; rcases w with ⟨i, w, _⟩ | ⟨i, w, _⟩ | ⟨w, _⟩ <;> cases w
      | some r =>
        rw [hg] at w
        obtain ⟨i, b⟩ := r
        refine find_spec t1.el.reads t.be hk hg fun h2 e2 => ?_
        have t2 := t1.ext e2
        rw [ldL_iff t2.c1]
        cases b with
        | true =>
          refine ⟨fun _ => ?_, fun h => by cases h⟩
          rcases w with ⟨j, w, _⟩ | ⟨j, w, wh, wn⟩ | ⟨w, _⟩
          · simp at w
          · simp at w; subst w
            obtain ⟨p, hp, _⟩ := id wh
            obtain ⟨b, u1, _⟩ := t2.el_at hp
            exact idxA_of u1 (by rw [t.elen]; exact wh.lt) rfl (k2 h2 _ b (e1.trans e2) wh wn u1)
          · cases w
        | false =>
          refine ⟨fun h => (by cases h), fun _ => ?_⟩
          rcases w with ⟨j, w, _⟩ | ⟨j, w, _⟩ | ⟨w, w1, w2⟩
          · simp at w
          · simp at w
          · exact k3 h2 (e1.trans e2) w1 w2
theorem Get_spec {Q : Option Addr -> Bool -> H -> Prop} (t : TH h n rs es T) (ok : TOk T) (hk : SmallK key) (k : ∀ h', Ext h h' -> Q ((getM T key).getD nilA) (getM T key).isSome h') : F.xcd (some ⟨n, 0, none⟩) key h Q := by
  unfold F.xcd
  refine where_spec t ok hk (fun h1 i b e1 hh hb => ?_) (fun h1 i b e1 hh hn hb => ?_) (fun h1 e1 hn hne => ?_)
  · obtain ⟨p, g1, g2, g3⟩ := hh
    obtain ⟨b', u1, u2⟩ := (t.ext e1).row_at g1
    rw [hb] at u1; cases u1
    refine ⟨fun _ => ?_, fun h => by cases h⟩
    rw [nn_some, ldP_iff (u2 2 _ rfl)]
    have := k h1 e1
    rw [get_row ok g1 g2 g3] at this
    exact this
  · obtain ⟨p, g1, g2, g3⟩ := hh
    obtain ⟨b', u1, u2⟩ := (t.ext e1).el_at g1
    rw [hb] at u1; cases u1
    refine ⟨fun _ => ?_, fun h => by cases h⟩
    rw [nn_some, ldP_iff (u2 2 _ rfl)]
    have := k h1 e1
    rw [get_elder ok hn g1 g2 g3] at this
    exact this
  · refine ⟨fun h => (by cases h), fun _ => ?_⟩
    have := k h1 e1
    rw [get_none hn hne] at this
    exact this
theorem st_val {f : List (Pl (Option Addr))} {s : Sl} {i b : Nat} {p : Pl (Option Addr)} {v : Option Addr} {K : H -> Prop} (ow : Owns h s tn_table_place_chain_Chain_api_Agg 3 (f.flatMap cP)) (hp : s.ptr = some ⟨b, 0, none⟩) (hi : f[i]? = some p)
    (k : ∀ h', Owns h' s tn_table_place_chain_Chain_api_Agg 3 ((newP f i v).flatMap cP) -> Only (fun b => s.blk = some b) h h' -> K h') : stH h ⟨b, i * 3 + 2, none⟩ [.pointer v] K := by
  have hl := (List.getElem?_eq_some_iff.1 hi).1
  refine own_set ow hp (by rw [flat_len cP 3 cP_len]; simp; omega) fun h1 o1 e1 _ => k h1 ?_ e1
  have ha := flat_get cP 3 cP_len f i p hi 0 (by omega)
  have hb := flat_get cP 3 cP_len f i p hi 1 (by omega)
  rw [set3 (v := .pointer v) ha hb] at o1
  rw [newP_eq hi, flat_set cP 3 cP_len f i ⟨p.is_, p.key, v⟩ hl]
  exact o1
theorem newP_len {f : List (Pl (Option Addr))} {i : Nat} {v : Option Addr} : (newP f i v).length = f.length := by unfold newP; split <;> simp
theorem newP_kb {f : List (Pl (Option Addr))} {i : Nat} {v : Option Addr} (k : KB f) : KB (newP f i v) := by
  unfold newP
  split
  · exact k
  · rename_i p hp; exact k.set (k i p hp)
theorem lay_spec {v : Option Addr} {T' : Tb (Option Addr)} {Q : H -> Prop} (t : TH h n rs es T) (hk : SmallK key) (hl : layP T key v = some T') (hc : T'.count <= BIG) (k : ∀ h', TH h' n rs es T' -> Stp h n rs es h' rs es -> Q h') : F.xbf.j1 Q (some ⟨n, 0, none⟩) key v h := by
  unfold F.xbf.j1
  unfold layP at hl
  simp only [nn_some, add_lit, Nat.zero_add]
  rw [ldL_iff t.c0]
  cases hf : findM T.row key with
  | none => rw [hf] at hl; cases hl
  | some r =>
    rw [hf] at hl
    cases hl
    refine find_spec t.row.reads t.br hk hf fun h1 e1 => ?_
    have t1 := t.ext e1
    rw [ldL_iff t1.c0]
    have hr := find_lt t.pos hf
    obtain ⟨br, u1, _⟩ := t1.row_at (List.getElem?_eq_getElem hr)
    refine idxA_of u1 (by rw [t.rlen]; exact hr) rfl ?_
    refine t1.set_row (p := ⟨1, key, v⟩) u1 hr hk fun h2 t2 s2 => ?_
    rw [ldI_iff t2.c3]
    have hb : T.count + 1 <= BIG := hc
    simp only [BIG] at hb
    refine t2.st_count (m := T.count + 1) (by show IntKind.wrap .i64 ((T.count : Int) + 1) = _; rw [w64 (by omega) (by omega)]; omega) hc fun h3 t3 s3 => ?_
    exact k h3 t3 (((Stp.of_ext e1).trans s2).trans s3)
theorem Put_spec {v : Option Addr} {T' : Tb (Option Addr)} {Q : H -> Prop} (t : TH h n rs es T) (ok : TOk T) (hk : SmallK key) (hp : putM nilA T key v = some T') (hb : T'.row.length <= BIG) (hc : T'.count <= BIG)
    (k : ∀ h' rs' es', TH h' n rs' es' T' -> Stp h n rs es h' rs' es' -> Q h') : F.xbf (some ⟨n, 0, none⟩) key v h Q := by
  unfold F.xbf
  obtain ⟨T1, m1, ok1, m3, m4, m5, m6, m7⟩ := move_ok (z := nilA) ok 4
  unfold putM at hp
  rw [m1] at hp
  simp only at hp
  unfold putM' at hp
  have w := where_ok ok1 key
  refine Move_spec t m1 (by omega) fun h1 es1 t1 s1 => ?_
  refine where_spec t1 ok1 hk (fun h2 i b e2 hh hb2 => ?_) (fun h2 i b e2 hh hn hb2 => ?_) (fun h2 e2 hn hne => ?_)
  · refine ⟨fun _ => ?_, fun h => by cases h⟩
    rw [nn_some]
    have hw : whereM T1 key = some (some (false, i)) := by
      unfold whereM; rw [ok1.row.hit hh]
    rw [hw] at hp
    simp only at hp
    cases hp
    obtain ⟨p, g1, g2, g3⟩ := hh
    have t2 := t1.ext e2
    refine st_val t2.row hb2 g1 fun h3 o3 e3 => ?_
    exact k h3 _ _ ⟨e3.block t2.tb fun hb => t2.nr _ hb rfl, o3, t2.el.only e3 fun b' hb hb' => t2.ne b' hb' hb, t2.ne, newP_kb t2.kr, t2.ke, by
      intro hnil
      have := congrArg List.length hnil
      rw [newP_len] at this
      exact t2.pos (List.eq_nil_of_length_eq_zero this), by rw [newP_len]; exact t2.br, t2.be, t2.bc, t2.bm⟩ ((s1.ext e2).trans ⟨e3.mono fun b' _ hb => .inr (.inl hb), fun b' hb => .inl hb⟩)
  · refine ⟨fun _ => ?_, fun h => by cases h⟩
    rw [nn_some]
    have hw : whereM T1 key = some (some (true, i)) := by
      rcases w with ⟨j, w, wh⟩ | ⟨j, w, wh, _⟩ | ⟨w, _, wn⟩
      · exact absurd wh (hn j)
      · obtain ⟨p, a1, a2, a3⟩ := hh
        obtain ⟨q, b1, b2, b3⟩ := wh
        rw [w, ok1.elder.uniq i j p q a1 b1 a2 b2 (a3.trans b3.symm)]
      · exact absurd hh (wn i)
    rw [hw] at hp
    simp only at hp
    cases hp
    obtain ⟨p, g1, g2, g3⟩ := hh
    have t2 := t1.ext e2
    refine st_val t2.el hb2 g1 fun h3 o3 e3 => ?_
    exact k h3 _ _ ⟨e3.block t2.tb fun hb => t2.nel _ hb rfl, t2.row.only e3 fun b' hb hb' => t2.ne b' hb hb', o3, t2.ne, t2.kr, newP_kb t2.ke, t2.pos, t2.br, by rw [newP_len]; exact t2.be, t2.bc, by rw [newP_len]; exact t2.bm⟩ ((s1.ext e2).trans ⟨e3.mono fun b' _ hb => .inr (.inr hb), fun b' hb => .inl hb⟩)
  · refine ⟨fun h => (by cases h), fun _ => ?_⟩
    have hw : whereM T1 key = some none := by
      rcases w with ⟨j, w, wh⟩ | ⟨j, w, wh, _⟩ | ⟨w, _, _⟩
      · exact absurd wh (hn j)
      · exact absurd wh (hne j)
      · exact w
    rw [hw] at hp
    simp only at hp
    have t2 := t1.ext e2
    have s2 := s1.ext e2
    simp only [nn_some, add_lit, Nat.zero_add]
    rw [ldI_iff t2.c3, ldL_iff t2.c0, t2.rlen]
    have hbc := t1.bc
    have hbr := t1.br
    simp only [BIG] at hbc hbr
    rw [w64 (n := (T1.count : Int) + 1) (by omega) (by omega), w64 (by omega) (by omega), w64 (by omega) (by omega)]
    simp only [decide_eq_true_eq, decide_eq_false_iff_not]
    by_cases hgr : 4 * (T1.count + 1) > 3 * T1.row.length
    · rw [if_pos hgr] at hp
      refine ⟨fun _ => ?_, fun g => absurd (by omega) g⟩
      rw [ldL_iff t2.c1, t2.elen]
      obtain ⟨T2, n1, ok2, n3, n4, n5, n6, n7⟩ := move_ok (z := nilA) ok1 (T1.elder.length : Int)
      rw [n1] at hp
      simp only at hp
      have hbe := t1.be
      simp only [BIG] at hbe
      refine Move_spec t2 n1 (by omega) fun h3 es3 t3 s3 => ?_
      rw [ldL_iff t3.c0, t3.rlen]
      have hlen2 : T'.row.length = 2 * T2.row.length := by
        unfold layP at hp
        cases hf : findM (growT nilA T2).row key with
        | none => rw [hf] at hp; cases hp
        | some r => rw [hf] at hp; cases hp; simp [growT]
      have hb2 : 2 * T2.row.length <= BIG := by omega
      simp only [BIG] at hb2
      rw [w64 (by omega) (by omega), show 2 * (T2.row.length : Int) = ((2 * T2.row.length : Nat) : Int) from by omega, ldL_iff t3.c0]
      refine make_of (n := 2 * T2.row.length) elP (by omega) (by simp only [maxLen]; omega) fun b h4 hb4 o4 e4 => ?_
      rw [made_rows] at o4
      have t4 := t3.ext e4
      refine ⟨t4.c0, ?_⟩
      have hr3 := fun b' hb => t3.lt b' (.inr (.inl hb))
      refine t4.stn (by omega) fun h5 b5 e5 p5 q5 => ?_
      have o5 : Owns h5 ⟨some ⟨b, 0, none⟩, 2 * T2.row.length, 2 * T2.row.length⟩ tn_table_place_chain_Chain_api_Agg 3 ((List.replicate (2 * T2.row.length) (emptP nilA)).flatMap cP) := o4.only e5 fun b' hb' hn' => by
        simp [Sl.blk] at hb'
        have := t3.lt n (.inl rfl)
        omega
      refine stH_of b5 (by simp) fun h6 b6 e6 _ => ?_
      have o6 := o5.only e6 fun b' hb' hn' => by
        simp [Sl.blk] at hb'
        have := t3.lt n (.inl rfl)
        omega
      have p6 := p5.only e6 fun b' hb' hn' => t4.nr b' hb' hn'
      refine stH_of b6 (by rw [writeA_size]; simp) fun h7 b7 e7 _ => ?_
      have o7 := o6.only e7 fun b' hb' hn' => by
        simp [Sl.blk] at hb'
        have := t3.lt n (.inl rfl)
        omega
      have p7 := p6.only e7 fun b' hb' hn' => t4.nr b' hb' hn'
      have t7 : TH h7 n ⟨some ⟨b, 0, none⟩, 2 * T2.row.length, 2 * T2.row.length⟩ rs (growT nilA T2) :=
        ⟨b7, o7, p7, fun b' hb' hb2 => by
          have := hr3 b' hb2
          simp [Sl.blk] at hb'
          omega, KB.repl _, t3.kr, by
          have := t3.pos
          intro hnil
          have h0 := congrArg List.length hnil
          have hl0 : T2.row.length ≠ 0 := fun e => this (List.eq_nil_of_length_eq_zero e)
          simp only [growT, List.length_replicate, List.length_nil] at h0
          omega, by simp [growT]; omega, t3.br, t3.bc, by simp [growT]⟩
      have s7 : Stp h3 n rs es3 h7 ⟨some ⟨b, 0, none⟩, 2 * T2.row.length, 2 * T2.row.length⟩ rs :=
        ⟨(((e4.only (S := FT n rs es3)).trans (e5.mono fun b' _ hb => .inl hb) fun _ _ hb => hb).trans (e6.mono fun b' _ hb => .inl hb) fun _ _ hb => hb).trans (e7.mono fun b' _ hb => .inl hb) fun _ _ hb => hb, fun b' hb' => by
          rcases hb' with h1 | h1 | h1
          · exact .inl (.inl h1)
          · simp [Sl.blk] at h1; exact .inr (by omega)
          · exact .inl (.inr (.inl h1))⟩
      exact lay_spec t7 hk hp hc fun h8 t8 s8 => k h8 _ _ t8 (((s2.trans s3).trans s7).trans s8)
    · rw [if_neg hgr] at hp
      refine ⟨fun g => absurd g (by omega), fun _ => ?_⟩
      exact lay_spec t2 hk hp hc fun h3 t3 s3 => k h3 _ _ t3 (s2.trans s3)
end
theorem keys_int_loop {h : H} {o b : Nat} {M : List (ByteArray × Value)} {R : LoopState -> Option Code -> Obj} {Q : Sl -> H -> Prop} (ho : h.size <= o) (hb : b < o) (hM : M.length < 1073741824) (hv : ∀ p ∈ M, ∃ v : Option Addr, p.2 = .pointer v)
    (k : ∀ (r : Sl) (h' : H) (D : List (ByteArray × Value)), D.Perm M -> Owns h' r 9 1 ((D.map (·.1)).flatMap cT) -> Ext h h' -> (∀ n, r.blk = some n -> h.size <= n) -> Q r h')
    (hy : yields PP R (o + 2) [] (fun bg1 l1 args h K1 J1 => ∃ (y1_7 : ByteArray), args = [(.string y1_7)] ∧
      bg1 h fun h3 => ldL h3 ⟨o, 0, none⟩ fun y4 => newL h3 #[(.string y1_7)] ty_9 1 fun s7 h6 => runL PP (Builtin.append_ #[tn_Slstring, tn_Slstring] tn_Slstring #[y4.enc, s7.enc]) h6 fun s9 h8 => stH h8 ⟨o, 0, none⟩ [s9.enc] fun h10 => K1 h10)) :
    ∀ (m : Nat) (D : List (ByteArray × Value)) (h' : H), KG h o b M D h' -> h'[o + 2]? = some (R .ready none) -> D.length <= M.length -> M.length - D.length < m ->
      F.xbq.l1 (rngEnd R (o + 2) [] (fun h11 => ldL h11 ⟨o, 0, none⟩ fun y12 => shuts ((o + 1) :: ([] : List Nat)) h11 fun h14 => Q y12 h14) (fun jj h15 => True)) m (.func (.yield (o + 2)) #[] #[]) ⟨o + 3, 0, none⟩ h'
  | 0, D, h', kg, hrd, hl, hm => by omega
  | m + 1, D, h', kg, hrd, hl, hm => by
    unfold F.xbq.l1
    refine nextM_of kg.it (fun hp => ?_) (fun h5 p it5 hpM e5 sz5 hen => ?_)
    · refine ⟨false, #[], rfl, (fun h => by cases h), fun _ => .inl ⟨hrd, ?_⟩⟩
      have kg2 := kg.only ho hb (put_only h' (o + 2) (R .exhausted none))
      obtain ⟨s, s1, s2, s3⟩ := kg2.box
      refine (ldL_iff (s1.cell (i := 0) rfl)).2 ?_
      refine ⟨kg2.dfr, ?_⟩
      have e6 := put_only (put h' (o + 2) (R .exhausted none)) (o + 1) (.deferred none)
      exact k s _ D hp (s2.only e6 fun n hn hf => by have := s3 n hn; omega) (kg2.ext.step e6 fun n hn hf => by omega) fun n hn => by have := s3 n hn; omega
    · refine ⟨true, #[.string p.1, p.2], rfl, fun _ => ?_, fun h => by cases h⟩
      obtain ⟨v, hpv⟩ := hv p hpM
      refine hen _ ⟨p.1, v, by rw [hpv], ?_⟩
      have hrd5 : h5[o + 2]? = some (R .ready none) := e5.block hrd (by omega)
      refine hy h5 _ _ hrd5 ⟨p.1, rfl, hrd5, ?_⟩
      obtain ⟨s, s1, s2, s3⟩ := kg.box
      have ep := put_only h5 (o + 2) (R .busy none)
      have s1' : Blk (put h5 (o + 2) (R .busy none)) o #[s.enc] tn_Slstring := ep.block (e5.block s1 (by omega)) (by omega)
      have s2' := (s2.only e5 fun n hn hf => by have := s3 n hn; omega).only ep fun n hn hf => by have := s3 n hn; omega
      rw [ldL_iff (s1'.cell (i := 0) rfl)]
      refine newL_of fun n6 h6 hn6 b6 e6 _ => ?_
      have sz := kg.size
      have szp : (put h5 (o + 2) (R .busy none)).size = h'.size := by simp [put]; omega
      have hDl : (D.map (·.1)).length < 1073741824 := by simp; omega
      refine app_list (f := cT) (M := [p.1]) cT_len (by omega) el_Slstring (s2'.ext e6) (blk_reads (size := 1) (m := 1) (show Blk h6 n6 (([p.1] : List ByteArray).flatMap cT).toArray 9 from b6) rfl) (fun x => one1 rfl) (by simp at hDl ⊢; omega) fun r7 h7 q1 q2 q3 => ?_
      have b7 : Blk h7 o #[s.enc] tn_Slstring := q2.block (e6.block s1' (fun f => f)) fun e => by have := s3 o e; omega
      have hr7 : ∀ n, r7.blk = some n -> o + 4 <= n := fun n hn => by
        rcases q3 with q3 | ⟨b', q3, q4⟩
        · exact s3 n (by rw [← q3]; exact hn)
        · rw [q3] at hn; cases hn
          have := e6.size; omega
      refine stH_of b7 (by simp) fun h8 b8 e8 _ => ?_
      rw [writeA_all (by simp)] at b8
      have oall : Only (fun n => n = o ∨ n = o + 2 ∨ n = o + 3 ∨ s.blk = some n) h' h8 :=
        (((e5.mono fun n _ e => .inr (.inr (.inl e))).trans (ep.mono fun n _ e => .inr (.inl e)) fun _ _ e => e).trans ((e6.only (S := fun b => s.blk = some b)).trans q2 fun _ _ e => e |> fun x => x) fun n _ e => .inr (.inr (.inr e))).trans e8 fun n _ e => .inl e
      have oit : Only (fun n => n = o ∨ n = o + 2 ∨ s.blk = some n) h5 h8 :=
        ((ep.mono fun n _ e => .inr (.inl e)).trans ((e6.only (S := fun b => s.blk = some b)).trans q2 fun _ _ e => e |> fun x => x) fun n _ e => .inr (.inr e)).trans e8 fun n _ e => .inl e
      have hrd8 : h8[o + 2]? = some (R .busy none) := e8.block (q2.block (e6.block (putAt_ hrd5) (fun f => f)) fun e => by have := s3 _ e; omega) (by omega)
      have kg8 : KG h o b M (D ++ [p]) h8 := ⟨kg.ext.step oall fun n hn hf => by
          rcases hf with hf | hf | hf | hf
          · omega
          · omega
          · omega
          · have := s3 n hf; omega, ⟨r7, b8, by
          rw [List.map_append]
          exact q1.only e8 fun n hn hf => by have := hr7 n hn; omega, hr7⟩, oall.block kg.dfr (by
          intro hf
          rcases hf with hf | hf | hf | hf
          · omega
          · omega
          · omega
          · have := s3 _ hf; omega), it5.only oit (by
          intro hf
          rcases hf with hf | hf | hf
          · omega
          · omega
          · have := s3 _ hf; omega) (by
          intro hf
          rcases hf with hf | hf | hf
          · omega
          · omega
          · have := s3 _ hf; omega), by have := oall.size; omega⟩
      refine ⟨hrd8, true, rfl, (fun h => by cases h), fun _ => ?_⟩
      have hlen : (D ++ [p]).length <= M.length := by
        obtain ⟨_, es, clock, since, seen, c0, hb1, rp, hr1, _, _, _, E, w1, w2, w3, w4⟩ := it5
        have l1 : E.length = (D ++ [p]).length := by simpa using congrArg List.length w4
        have l2 := rp.len
        have hnd : E.Nodup := nodup_of w3
        have l3 : (E.map (·.born)).length <= (es.toList.map (·.born)).length := nodup_len w3 fun x hx => by
          obtain ⟨e, he, rfl⟩ := List.mem_map.1 hx
          exact List.mem_map.2 ⟨e, w1 e he, rfl⟩
        simp only [List.length_map, Array.length_toList] at l3
        omega
      refine keys_int_loop ho hb hM hv k hy m (D ++ [p]) _ (kg8.only ho hb (put_only h8 (o + 2) (R .ready none))) (putAt_ hrd8) hlen (by simp only [List.length_append, List.length_singleton] at hlen ⊢; omega)
set_option maxHeartbeats 400000 in
theorem keys_int_spec {h : H} {a b : Nat} {M : List (ByteArray × Value)} {Q : Sl -> H -> Prop} (ba : Blk h a #[.map (some b)] tn_map_string_chain_Chain_api_Agg) (mp : MapH h b M) (hM : M.length < 1073741824) (hv : ∀ p ∈ M, ∃ v : Option Addr, p.2 = .pointer v)
    (k : ∀ (r : Sl) (h' : H) (D : List (ByteArray × Value)), D.Perm M -> Owns h' r 9 1 ((D.map (·.1)).flatMap cT) -> Ext h h' -> (∀ n, r.blk = some n -> h.size <= n) -> Q r h') : F.xcr ⟨none, 0, 0⟩ (.func (.func no_maps_Keys_map_string_chain_Chain_api_Agg_string_chain_Chain_api_Agg_1) #[] #[.pointer (some ⟨a, 0, none⟩)]) h Q := by
  unfold F.xcr
  refine new_of fun o h1 ho b1 e1 sz1 => ?_
  subst ho
  rw [show h1.size = h.size + 1 from sz1]
  intro R hR hy
  rw [sz1] at hy ⊢
  refine ⟨no_maps_Keys_map_string_chain_Chain_api_Agg_string_chain_Chain_api_Agg_1, #[], #[.pointer (some ⟨a, 0, none⟩)], rfl, fun args w => no_maps_Keys_map_string_chain_Chain_api_Agg_string_chain_Chain_api_Agg_1_call args w, ?_⟩
  have hblt := mp.lt
  have halt := block_lt ba
  have d1 : Ext h1 (h1.push (.deferred (some []))) := .push _ _
  have d2 : Ext (h1.push (.deferred (some []))) ((h1.push (.deferred (some []))).push (R .ready none)) := .push _ _
  have e3 : Ext h ((h1.push (.deferred (some []))).push (R .ready none)) := (e1.trans d1).trans d2
  have key : F.xbq (.func (.yield (h.size + 2)) #[] #[]) ⟨a, 0, none⟩ ((h1.push (.deferred (some []))).push (R .ready none)) (rngEnd R (h.size + 2) [] (fun h11 => ldL h11 ⟨h.size, 0, none⟩ fun y12 => shuts ((h.size + 1) :: ([] : List Nat)) h11 fun h14 => Q y12 h14) (fun jj h15 => True)) := by
    unfold F.xbq
    rw [ldM_iff ((show Blk _ a #[.map (some b)] tn_map_string_chain_Chain_api_Agg from e3.block ba (fun f => f)).cell (i := 0) rfl)]
    refine rangeM_of (kt := 9) (et := _) mt_map_string_chain_Chain_api_Agg (mp.only e3 (fun f => f)) fun h4 it4 e4 sz4 => ?_
    have hsz : ((h1.push (.deferred (some []))).push (R .ready none)).size = h.size + 3 := by simp; omega
    rw [hsz] at it4 sz4 ⊢
    refine ⟨_, rfl, M.length + 1, ?_⟩
    refine keys_int_loop (Nat.le_refl _) hblt hM hv k hy (M.length + 1) [] h4 ⟨e3.trans e4, ⟨⟨none, 0, 0⟩, e4.block (d2.block (d1.block b1 (fun f => f)) (fun f => f)) (fun f => f), Owns.nil _ _ _, fun n hn => by simp [Sl.blk] at hn⟩, e4.block (d2.block (by rw [← sz1]; simp) (fun f => f)) (fun f => f), it4, by omega⟩ (e4.block (by
      have : h.size + 2 = (h1.push (.deferred (some []))).size := by simp; omega
      rw [this, Array.getElem?_push, if_pos rfl]) (fun f => f)) (by simp) (by simp)
  exact (F.xbq_ok key).mono fun r h' ⟨_, q⟩ => q
theorem sorted_int_spec {h : H} {a b : Nat} {M : List (ByteArray × Value)} {Q : Sl -> H -> Prop} (ba : Blk h a #[.map (some b)] tn_map_string_chain_Chain_api_Agg) (mp : MapH h b M) (hM : M.length < 1073741824) (hv : ∀ p ∈ M, ∃ v : Option Addr, p.2 = .pointer v)
    (k : ∀ (r : Sl) (h' : H) (D : List (ByteArray × Value)), D.Perm M -> Owns h' r 9 1 ((sortT (D.map (·.1))).flatMap cT) -> Ext h h' -> (∀ n, r.blk = some n -> h.size <= n) -> Q r h') : F.xch (.func (.func no_maps_Keys_map_string_chain_Chain_api_Agg_string_chain_Chain_api_Agg_1) #[] #[.pointer (some ⟨a, 0, none⟩)]) h Q := by
  unfold F.xch F.xcx
  refine keys_int_spec ba mp hM hv fun r h1 D hp o1 e1 m1 => ?_
  refine sort_fn rfl o1 (by have := hp.length_eq; simp; omega) fun h2 o2 e2 => ⟨rfl, ?_⟩
  exact k r h2 D hp o2 (e1.step e2 fun n hn hf => by have := m1 n hf; omega) m1
def tkL (R : List (Pl (Option Addr))) : List (ByteArray × Value) := (R.filter fun p => decide (p.is_ = 1)).map fun p => (p.key, .pointer p.value)
theorem tkL_app (A B : List (Pl (Option Addr))) : tkL (A ++ B) = tkL A ++ tkL B := by simp [tkL]
theorem tkL_one {p : Pl (Option Addr)} (h : p.is_ = 1) : tkL [p] = [(p.key, .pointer p.value)] := by simp [tkL, h]
theorem tkL_no {p : Pl (Option Addr)} (h : p.is_ ≠ 1) : tkL [p] = [] := by simp [tkL, h]
def KU (W : List (Pl (Option Addr))) : Prop := ((tkL W).map (·.1)).Nodup
theorem KU_of {T : Tb (Option Addr)} (t : TOk T) : KU (T.row ++ T.elder) := by
  unfold KU tkL
  rw [List.map_map]
  unfold List.Nodup
  rw [List.pairwise_map, List.pairwise_filter, List.pairwise_append]
  have one : ∀ {R : List (Pl (Option Addr))}, RowOk R -> R.Pairwise fun a b => decide (a.is_ = 1) = true -> decide (b.is_ = 1) = true -> ((fun x : ByteArray × Value => x.1) ∘ fun p : Pl (Option Addr) => (p.key, Value.pointer p.value)) a ≠ ((fun x : ByteArray × Value => x.1) ∘ fun p : Pl (Option Addr) => (p.key, Value.pointer p.value)) b := fun {R} r => by
    rw [List.pairwise_iff_getElem]
    intro i j hi hj hij h1 h2 he
    have := r.uniq i j R[i] R[j] (List.getElem?_eq_getElem hi) (List.getElem?_eq_getElem hj) (by simpa using h1) (by simpa using h2) (congrArg kL he)
    omega
  refine ⟨one t.row, one t.elder, fun a ha b hb h1 h2 he => ?_⟩
  obtain ⟨i, hi⟩ := List.mem_iff_getElem?.1 ha
  obtain ⟨j, hj⟩ := List.mem_iff_getElem?.1 hb
  exact t.apart i j a b hi hj (by simpa using h1) (by simpa using h2) (congrArg kL he)
noncomputable def allL (T : Tb (Option Addr)) : List (ByteArray × Option Addr) := (sortT ((tkL (T.row ++ T.elder)).map (·.1))).map fun k => (k, (getM T k).getD nilA)
theorem tk_val {T : Tb (Option Addr)} (t : TOk T) {k : ByteArray} {v : Value} (h : (k, v) ∈ tkL (T.row ++ T.elder)) : ∃ n, getM T k = some n ∧ v = .pointer n := by
  unfold tkL at h
  obtain ⟨p, hp, he⟩ := List.mem_map.1 h
  cases he
  rw [List.mem_filter] at hp
  obtain ⟨hp, h1⟩ := hp
  have h1 : p.is_ = 1 := by simpa using h1
  refine ⟨p.value, ?_, rfl⟩
  rcases List.mem_append.1 hp with hp | hp
  · obtain ⟨i, hi⟩ := List.mem_iff_getElem?.1 hp
    exact get_row t hi h1 rfl
  · obtain ⟨i, hi⟩ := List.mem_iff_getElem?.1 hp
    exact get_elder t (fun j ⟨q, g1, g2, g3⟩ => t.apart j i q p g1 hi g2 h1 g3) hi h1 rfl
theorem tk_len {T : Tb (Option Addr)} (t : TOk T) : (tkL (T.row ++ T.elder)).length = T.count := by
  unfold tkL
  rw [List.length_map, ← List.countP_eq_length_filter, List.countP_append, ← t.cnt]
  rfl
structure SeqH (h : H) (ka ma b : Nat) (r : Sl) (L : List (ByteArray × Option Addr)) : Prop where
  kb : Blk h ka #[r.enc] tn_Slstring
  ko : Owns h r 9 1 ((L.map (·.1)).flatMap cT)
  mb : Blk h ma #[.map (some b)] tn_map_string_chain_Chain_api_Agg
  mp : ∃ M, MapH h b M ∧ ∀ p ∈ L, getK M p.1 = some (.pointer p.2)
  len : L.length < 1073741824
theorem SeqH.only {S : Nat -> Prop} {h h' : H} {ka ma b : Nat} {r : Sl} {L : List (ByteArray × Option Addr)} (s : SeqH h ka ma b r L) (o : Only S h h') (hn : ∀ n, SQF ka ma b r n -> ¬ S n) : SeqH h' ka ma b r L := by
  obtain ⟨M, m1, m2⟩ := s.mp
  exact ⟨o.block s.kb (hn _ (.inl rfl)), s.ko.only o fun n e => hn n (.inr (.inr (.inr e))), o.block s.mb (hn _ (.inr (.inl rfl))), ⟨M, m1.only o (hn _ (.inr (.inr (.inl rfl)))), m2⟩, s.len⟩
theorem SeqH.lt {h : H} {ka ma b : Nat} {r : Sl} {L : List (ByteArray × Option Addr)} (s : SeqH h ka ma b r L) : ∀ n, SQF ka ma b r n -> n < h.size := fun n hn => by
  obtain ⟨M, m1, m2⟩ := s.mp
  rcases hn with rfl | rfl | rfl | hn
  · exact block_lt s.kb
  · exact block_lt s.mb
  · exact m1.lt
  · exact s.ko.blk_lt hn
theorem all_row {h hs : H} {Q : Value -> H -> Prop} {s22 s28 : Sl} {x23 x24 : Int} {C1 : Addr -> Sl -> Int -> Int -> H -> Prop} {ma b : Nat} {pre R : List (Pl (Option Addr))} (hm0 : h.size <= ma) (hb0 : h.size <= b) (hmb : ma ≠ b) (hR : R.length <= BIG) (ku : KU (pre ++ R))
    (k : ∀ h', Ext h h' -> Only (· = b) hs h' -> Blk h' ma #[.map (some b)] tn_map_string_chain_Chain_api_Agg -> MapH h' b (tkL (pre ++ R)) -> C1 ⟨ma, 0, none⟩ s22 x23 (IntKind.wrap .i64 (x24 + 1)) h') (hrd : Reads h s28 3 (R.flatMap cP)) :
    ∀ (m i : Nat) (h' : H), Ext h h' -> Only (· = b) hs h' -> Blk h' ma #[.map (some b)] tn_map_string_chain_Chain_api_Agg -> MapH h' b (tkL (pre ++ R.take i)) -> i <= R.length -> R.length - i < m -> F.xad.l2 Q C1 m ⟨ma, 0, none⟩ s22 x23 x24 s28 (s28.len : Int) (i : Int) h'
  | 0, i, h', e, eo, bm, mp, hi, hm => by omega
  | m + 1, i, h', e, eo, bm, mp, hi, hm => by
    unfold F.xad.l2
    have hlen := rd_len cP_len (by omega) hrd
    rw [hlen]
    simp only [decide_eq_true_eq, decide_eq_false_iff_not]
    simp only [BIG] at hR
    refine ⟨fun g => ?_, fun g => ?_⟩
    · obtain ⟨p, hp⟩ : ∃ p, R[i]? = some p := ⟨_, List.getElem?_eq_getElem (by omega)⟩
      obtain ⟨a, q1, q2, q3⟩ := rd_at cP_len (by omega) (hrd.ext e) hp
      refine idxR_of q1 (by omega) rfl ?_
      refine ⟨⟨(p.is_ : Int), p.key, p.value⟩, q3, ?_⟩
      refine new_of fun n h1 hn b1 e1 _ => ?_
      refine stH_of b1 (by simp [S_table_place_chain_Chain_api_Agg.cells]) fun h2 b2 e2 _ => ?_
      rw [writeA_all (by simp [S_table_place_chain_Chain_api_Agg.cells])] at b2
      have x2 : Ext h' h2 := e1.step e2 fun j hj hf => by omega
      simp only [add_lit, Nat.zero_add]
      rw [ldI_iff (b2.cell (i := 0) rfl)]
      have htk : R.take (i + 1) = R.take i ++ [p] := by rw [List.take_add_one, hp]; rfl
      rw [w64 (by omega) (by omega), show (i : Int) + 1 = ((i + 1 : Nat) : Int) from by omega]
      simp only [beq_iff_eq, beq_eq_false_iff_ne]
      refine ⟨fun g1 => ?_, fun g1 => ?_⟩
      · have h1 : p.is_ = 1 := by have : (p.is_ : Int) = 1 := g1; omega
        have bm2 := x2.block bm (fun f => f)
        rw [ldM_iff ((show Blk h2 ma #[.map (some b)] tn_map_string_chain_Chain_api_Agg from bm2).cell (i := 0) rfl), ldS_iff (b2.cell (i := 1) rfl), ldP_iff (b2.cell (i := 2) rfl)]
        refine updM_of (kt := 9) (et := _) mt_map_string_chain_Chain_api_Agg Tryz.underlying9 (mp.only x2 (fun f => f)) fun h3 m3 e3 _ => ?_
        have hnew : p.key ∉ (tkL (pre ++ R.take i)).map (·.1) := fun hin => by
          have hs : R = R.take i ++ p :: R.drop (i + 1) := by
            have := List.take_append_drop i R
            rw [List.drop_eq_getElem_cons (show i < R.length by omega)] at this
            have hpe : R[i] = p := (List.getElem?_eq_some_iff.1 hp).2
            rw [hpe] at this
            exact this.symm
          unfold KU at ku
          rw [hs, ← List.append_assoc, tkL_app, List.map_append, List.nodup_append] at ku
          have : p.key ∈ (tkL (p :: R.drop (i + 1))).map (·.1) := by
            rw [show p :: R.drop (i + 1) = [p] ++ R.drop (i + 1) from rfl, tkL_app, tkL_one h1]
            simp
          exact ku.2.2 _ hin _ this rfl
        rw [put_new hnew] at m3
        have hM : tkL (pre ++ R.take (i + 1)) = tkL (pre ++ R.take i) ++ [(p.key, .pointer p.value)] := by rw [htk, ← List.append_assoc, tkL_app, tkL_one h1]
        have := all_row (Q := Q) hm0 hb0 hmb (by simp only [BIG]; omega) ku k hrd m (i + 1) h3 ((e.trans x2).step e3 fun j hj hf => by omega) ((eo.ext x2).trans e3 fun _ _ e => e) (e3.block bm2 hmb) (by rw [hM]; exact m3) (by omega) (by omega)
        rw [hlen] at this
        exact this
      · have h1 : p.is_ ≠ 1 := fun h => g1 (by show (p.is_ : Int) = 1; omega)
        have hM : tkL (pre ++ R.take (i + 1)) = tkL (pre ++ R.take i) := by rw [htk, ← List.append_assoc, tkL_app, tkL_no h1, List.append_nil]
        have := all_row (Q := Q) hm0 hb0 hmb (by simp only [BIG]; omega) ku k hrd m (i + 1) h2 (e.trans x2) (eo.ext x2) (x2.block bm (fun f => f)) (by rw [hM]; exact mp.only x2 (fun f => f)) (by omega) (by omega)
        rw [hlen] at this
        exact this
    · have hi' : i = R.length := by omega
      subst hi'
      rw [List.take_length] at mp
      exact k h' e eo bm mp
theorem All_spec {h : H} {n : Nat} {rs es : Sl} {T : Tb (Option Addr)} {Q : Value -> H -> Prop} (t : TH h n rs es T) (ok : TOk T) (hsm : T.count < 1073741824)
    (k : ∀ h' ka ma b r, SeqH h' ka ma b r (allL T) -> Ext h h' -> (∀ m, SQF ka ma b r m -> h.size <= m) -> (ka ≠ ma ∧ ka ≠ b ∧ ma ≠ b ∧ r.blk ≠ some ka ∧ r.blk ≠ some ma ∧ r.blk ≠ some b) -> Q (.func (.func no_table_Table_chain_Chain_api_Agg_All_1) #[] #[.pointer (some ⟨ka, 0, none⟩), .pointer (some ⟨ma, 0, none⟩)]) h') : F.xad (some ⟨n, 0, none⟩) h Q := by
  unfold F.xad
  simp only [nn_some, add_lit, Nat.zero_add]
  rw [ldI_iff t.c3]
  refine makeM_of (.inr ⟨⟨_, _, rfl⟩, mt_map_string_chain_Chain_api_Agg⟩) fun mp1 e1 => ?_
  generalize hb1 : h.push (.map #[] 0) = h1 at mp1 e1 ⊢
  refine ⟨_, rfl, ?_⟩
  refine new_of fun ma h2 hma b2 e2 sz2 => ?_
  have hs1 : h1.size = h.size + 1 := by rw [← hb1]; simp
  have hmb : ma ≠ h.size := by omega
  refine stH_of b2 (by simp) fun h3 b3 e3 _ => ?_
  rw [writeA_all (by simp)] at b3
  have x3 : Ext h h3 := (e1.trans e2).step e3 fun j hj hf => by omega
  have t3 := t.ext x3
  rw [ldL_iff t3.c0, ldL_iff t3.c1]
  refine newL_of fun sl h4 hsl b4 e4 _ => ?_
  have x4 := x3.trans e4
  have t4 := t.ext x4
  have mp4 : MapH h4 h.size [] := ((mp1.only e2 (fun f => f)).only e3 (fun e => hmb e.symm)).only e4 (fun f => f)
  have bm4 := e4.block b3 (fun f => f)
  have ku := KU_of ok
  refine ⟨3, ?_⟩
  have hbr := t.br
  have hbe := t.be
  have tail : ∀ h5, Only (· = h.size) h4 h5 -> Blk h5 ma #[.map (some h.size)] tn_map_string_chain_Chain_api_Agg -> MapH h5 h.size (tkL (T.row ++ T.elder)) -> F.xad.l1 Q 1 ⟨ma, 0, none⟩ ⟨some ⟨sl, 0, none⟩, 2, 2⟩ 2 2 h5 := fun h5 e5 b5 m5 => by
    unfold F.xad.l1
    refine ⟨fun g => by simp at g, fun _ => ?_⟩
    rw [ldM_iff ((show Blk h5 ma #[.map (some h.size)] tn_map_string_chain_Chain_api_Agg from b5).cell (i := 0) rfl)]
    unfold F.xas
    refine new_of fun kc h6 hkc b6 e6 _ => ?_
    have hML : (tkL (T.row ++ T.elder)).length < 1073741824 := by rw [tk_len ok]; exact hsm
    refine sorted_int_spec b6 (m5.only e6 (fun f => f)) hML (fun p hp => ?_) fun r h7 D hD o7 e7 m7 => ?_
    · obtain ⟨v, _, hv⟩ := tk_val ok (k := p.1) (v := p.2) hp
      exact ⟨v, hv⟩
    · refine new_of fun ka h8 hka b8 e8 _ => ?_
      refine stH_of b8 (by simp) fun h9 b9 e9 _ => ?_
      rw [writeA_all (by simp)] at b9
      have x5 : Ext h h5 := x4.step e5 fun j hj hf => by omega
      have x7 := (x5.trans e6).trans e7
      have x9 : Ext h h9 := (x7.trans e8).step e9 fun j hj hf => by have := x7.size; omega
      have hmlt := (mp4.lt)
      have s5 := e5.size
      have s6 := e6.size
      have s7 := e7.size
      have hml : ma < h4.size := block_lt bm4
      have hks : sortT (D.map (·.1)) = sortT ((tkL (T.row ++ T.elder)).map (·.1)) := sortT_perm (hD.map _)
      have hL : (allL T).map (·.1) = sortT ((tkL (T.row ++ T.elder)).map (·.1)) := by
        unfold allL; rw [List.map_map]; simp [Function.comp_def]
      have e59 : Only (· = ka) h5 h9 := ((e6.trans e7).trans e8).only.trans e9 fun _ _ e => e
      have hr9 : ∀ j, r.blk = some j -> h6.size <= j ∧ j < h7.size := fun j hj => ⟨m7 j hj, o7.blk_lt hj⟩
      refine k h9 ka ma h.size r ⟨b9, ?_, e59.block b5 (by omega), ⟨_, m5.only e59 (by omega), fun p hp => ?_⟩, ?_⟩ x9 (fun j hj => ?_) ⟨by omega, by omega, by omega, fun e => ?_, fun e => ?_, fun e => ?_⟩
      · rw [hL, ← hks]
        exact (o7.ext e8).only e9 fun j hj hf => by have := hr9 j hj; omega
      · unfold allL at hp
        obtain ⟨key, hkey, rfl⟩ := List.mem_map.1 hp
        rw [sortT_mem] at hkey
        obtain ⟨q, hq, rfl⟩ := List.mem_map.1 hkey
        obtain ⟨v, hv1, hv2⟩ := tk_val ok (k := q.1) (v := q.2) hq
        rw [getK_mem ku (v := q.2) hq, hv2, hv1]; rfl
      · have := congrArg List.length hL
        simp only [List.length_map, sortT_len] at this
        omega
      · rcases hj with rfl | rfl | rfl | hj
        · have := x7.size; omega
        · omega
        · omega
        · have := hr9 j hj; have := x5.size; omega
      · have := hr9 _ e; omega
      · have := hr9 _ e; omega
      · have := hr9 _ e; have := x5.size; omega
  have hidx : ∀ (h5 : H), Only (· = h.size) h4 h5 -> ∀ (i : Nat) (s : Sl), ([rs, es] : List Sl)[i]? = some s -> cellH h5 ⟨sl, i * 1, none⟩ = some s.enc := fun h5 e5 i s hs => by
    have b5 : Blk h5 sl #[rs.enc, es.enc] tn_Sltable_place_chain_Chain_api_Agg := e5.block b4 (by have := e3.size; omega)
    rw [Nat.mul_one]
    rcases i with _ | _ | i
    · simp at hs; subst hs; exact b5.cell rfl
    · simp at hs; subst hs; exact b5.cell rfl
    · simp at hs
  have second : ∀ h5, Only (· = h.size) h4 h5 -> Blk h5 ma #[.map (some h.size)] tn_map_string_chain_Chain_api_Agg -> MapH h5 h.size (tkL T.row) -> F.xad.l1 Q 2 ⟨ma, 0, none⟩ ⟨some ⟨sl, 0, none⟩, 2, 2⟩ 2 1 h5 := fun h5 e5 b5 m5 => by
    unfold F.xad.l1
    refine ⟨fun _ => ?_, fun g => by simp at g⟩
    refine idxA_of (b := sl) (i := 1) rfl (by simp) rfl ?_
    rw [ldL_iff (hidx h5 e5 1 es rfl)]
    refine ⟨T.elder.length + 1, ?_⟩
    have x5 : Ext h h5 := x4.step e5 fun j hj hf => by omega
    exact all_row (Q := Q) (h := h) (hs := h5) (pre := T.row) (R := T.elder) (C1 := F.xad.l1 Q 1) (by omega) (Nat.le_refl _) hmb hbe ku (fun h6 e6 o6 b6 m6 => by
      rw [w64 (by omega) (by omega)]
      exact tail h6 (e5.trans o6 fun _ _ e => e) b6 m6) t.el.reads _ 0 h5 x5 (.refl _) b5 (by simpa using m5) (by omega) (by omega)
  unfold F.xad.l1
  refine ⟨fun _ => ?_, fun g => by simp at g⟩
  refine idxA_of (b := sl) (i := 0) rfl (by simp) rfl ?_
  rw [ldL_iff (hidx h4 (.refl _) 0 rs rfl)]
  refine ⟨T.row.length + 1, ?_⟩
  refine all_row (Q := Q) (h := h) (hs := h4) (pre := []) (R := T.row) (C1 := F.xad.l1 Q 2) (by omega) (Nat.le_refl _) hmb hbr ?_ (fun h6 e6 o6 b6 m6 => ?_) t.row.reads _ 0 h4 x4 (.refl _) bm4 (by simpa [tkL] using mp4) (by omega) (by omega)
  · have := ku
    unfold KU at this
    rw [tkL_app, List.map_append, List.nodup_append] at this
    exact this.1
  · rw [w64 (by omega) (by omega)]
    exact second h6 o6 b6 m6
abbrev seqV (ka ma : Nat) : Value := .func (.func no_table_Table_chain_Chain_api_Agg_All_1) #[] #[.pointer (some ⟨ka, 0, none⟩), .pointer (some ⟨ma, 0, none⟩)]
theorem seq_core {h1 : H} {ka ma b l : Nat} {r : Sl} {L : List (ByteArray × Option Addr)} {js : List Code} {R : LoopState -> Option Code -> Obj} {BB : Nat -> ByteArray -> Option Addr -> H -> (H -> Prop) -> (Nat -> H -> Prop) -> Prop} {Kn : H -> Prop} {Kj : Nat -> H -> Prop} (I : Nat -> H -> Prop) (E : Nat -> H -> Prop) (hR : ∀ s p, ∃ r, R s p = .loop r)
    (hst : ∀ i h' h'', I i h' -> Only (· = l) h' h'' -> I i h'') (hstE : ∀ j h' h'', E j h' -> Only (· = l) h' h'' -> E j h'') (hown : ∀ i h', I i h' -> SeqH h' ka ma b r L)
    (hB : ∀ (X : Obj) (i : Nat) (x : ByteArray × Option Addr) (h5 : H) (K : H -> Prop) (J : Nat -> H -> Prop), (∃ r, X = .loop r) -> I i h5 -> h5[l]? = some X -> L[i]? = some x -> (∀ h2, I (i + 1) h2 -> h2[l]? = some X -> K h2) -> (∀ j h2, E j h2 -> h2[l]? = some X -> J j h2) -> BB l x.1 x.2 h5 K J)
    (hn : ∀ h', I L.length h' -> Kn h') (hj : ∀ j h', E j h' -> ∃ c, js[j]? = some c ∧ Kj j h')
    (hy : yields PP R l js (fun bg l args h' K J => ∃ (k : ByteArray), ∃ (v : Option Addr), args = [.string k, .pointer v] ∧ bg h' fun h5 => BB l k v h5 K J)) (h0 : I 0 h1) (hr : h1[l]? = some (R .ready none)) :
    F.xbo (.func (.yield l) #[] #[]) ⟨ka, 0, none⟩ ⟨ma, 0, none⟩ h1 (rngEnd R l js Kn Kj) := by
  unfold F.xbo
  have s0 := hown 0 h1 h0
  rw [ldL_iff (s0.kb.cell (i := 0) rfl)]
  have hlen := s0.len
  have hrl := own_len cT_len (by omega) s0.ko
  rw [List.length_map] at hrl
  refine ⟨L.length + 1, ?_⟩
  rw [hrl]
  have key : ∀ (m i : Nat) (h' : H), i <= L.length -> L.length - i < m -> I i h' -> h'[l]? = some (R .ready none) -> F.xbo.l1 (rngEnd R l js Kn Kj) m (.func (.yield l) #[] #[]) ⟨ma, 0, none⟩ r (L.length : Int) (i : Int) h' := by
    intro m
    induction m with
    | zero => intro i h' _ hm; omega
    | succ m ih =>
      intro i h' hi hm hI hrd
      unfold F.xbo.l1
      simp only [decide_eq_true_eq, decide_eq_false_iff_not]
      refine ⟨fun g => ?_, fun g => ?_⟩
      · obtain ⟨x, hx⟩ : ∃ x, L[i]? = some x := ⟨_, List.getElem?_eq_getElem (by omega)⟩
        have si := hown i h' hI
        obtain ⟨M, m1, m2⟩ := si.mp
        obtain ⟨bb, a1, a2⟩ := own_at cT_len (by omega) si.ko (i := i) (x := x.1) (by rw [List.getElem?_map, hx]; rfl)
        refine idxA_of (i := i) a1 (by omega) rfl ?_
        rw [ldS_iff (by have := a2.one; rwa [Nat.mul_one] at this ⊢), ldM_iff (si.mb.cell (i := 0) rfl)]
        refine lookM_of (kt := 9) (et := _) (z := .pointer none) mt_map_string_chain_Chain_api_Agg Tryz.underlying9 (fun w => by kernel_rfl) m1 ?_
        rw [m2 x (List.mem_of_getElem? hx)]
        refine ⟨x.2, rfl, ?_⟩
        refine hy h' _ _ hrd ⟨x.1, x.2, rfl, hrd, ?_⟩
        refine hB (R .busy none) i x _ _ _ (hR _ _) (hst i h' _ hI (put_only h' l _)) (putAt_ hrd) hx (fun h4 hI4 hb4 => ⟨hb4, true, rfl, (fun h => by cases h), fun _ => ?_⟩) (fun j h4 hE hb4 => ?_)
        · rw [show IntKind.wrap .i64 ((i : Int) + 1) = ((i + 1 : Nat) : Int) from by rw [w64 (by omega) (by omega)]; omega]
          exact ih (i + 1) _ (by omega) (by omega) (hst (i + 1) h4 _ hI4 (put_only h4 l _)) (putAt_ hb4)
        · obtain ⟨c, hc, _⟩ := hj j h4 hE
          refine ⟨c, hc, hb4, false, rfl, fun _ => ?_, fun h => by cases h⟩
          have hE2 := hstE j h4 _ hE (put_only h4 l (R .done (some c)))
          have hp := putAt_ (o := R .done (some c)) hb4
          obtain ⟨c', hc', hk⟩ := hj j _ (hstE j _ _ hE2 (put_only _ l (R .exhausted (some c))))
          exact .inr ⟨j, c, hc, hp, hk⟩
      · have : i = L.length := by omega
        subst this
        exact .inl ⟨hrd, hn _ (hst _ h' _ hI (put_only h' l _))⟩
  exact key _ 0 h1 (by omega) (by omega) h0 hr
theorem range_seq {h : H} {ka ma b : Nat} {r : Sl} {L : List (ByteArray × Option Addr)} {js : List Code} {BB : Nat -> ByteArray -> Option Addr -> H -> (H -> Prop) -> (Nat -> H -> Prop) -> Prop} {Kn : H -> Prop} {Kj : Nat -> H -> Prop} (I : Nat -> H -> Prop) (E : Nat -> H -> Prop)
    (hst : ∀ i h' h'', I i h' -> Only (· = h.size + 1) h' h'' -> I i h'') (hstE : ∀ j h' h'', E j h' -> Only (· = h.size + 1) h' h'' -> E j h'') (hown : ∀ i h', I i h' -> SeqH h' ka ma b r L)
    (h0 : I 0 (h.push (.deferred (some []))))
    (hB : ∀ (X : Obj) (i : Nat) (x : ByteArray × Option Addr) (h5 : H) (K : H -> Prop) (J : Nat -> H -> Prop), (∃ r, X = .loop r) -> I i h5 -> h5[h.size + 1]? = some X -> L[i]? = some x -> (∀ h2, I (i + 1) h2 -> h2[h.size + 1]? = some X -> K h2) -> (∀ j h2, E j h2 -> h2[h.size + 1]? = some X -> J j h2) -> BB (h.size + 1) x.1 x.2 h5 K J)
    (hn : ∀ h', I L.length h' -> Kn h') (hj : ∀ j h', E j h' -> ∃ c, js[j]? = some c ∧ Kj j h') :
    rng PP (seqV ka ma) h js (fun bg l args h' K J => ∃ (k : ByteArray), ∃ (v : Option Addr), args = [.string k, .pointer v] ∧ bg h' fun h5 => BB l k v h5 K J) Kn Kj := fun R hR hy => by
  refine ⟨no_table_Table_chain_Chain_api_Agg_All_1, #[], #[.pointer (some ⟨ka, 0, none⟩), .pointer (some ⟨ma, 0, none⟩)], rfl, fun a w => no_table_Table_chain_Chain_api_Agg_All_1_call a w, ?_⟩
  have := F.xbo_ok (seq_core I E hR hst hstE hown hB hn hj hy (h1 := (h.push (.deferred (some []))).push (R .ready none)) (hst 0 _ _ h0 (.push _ _)) (by rw [Array.getElem?_push, if_pos (by simp)]))
  exact this.mono fun r h' ⟨_, q⟩ => q
theorem sortT_id {A : List ByteArray} (h : A.Pairwise fun a b => a.data.toList < b.data.toList) : sortT A = A := by
  unfold sortT
  have hs : (A.map fun s => s.data.toList).Pairwise fun x y => (decide (x <= y)) = true := by
    rw [List.pairwise_map]
    exact h.imp fun h => by simpa using List.le_of_lt h
  rw [List.mergeSort_of_pairwise hs, List.map_map]
  conv => rhs; rw [← List.map_id A]
  exact List.map_congr_left fun s _ => rfl
end Go.Proofs.YtjjchpaomgmmdaaGreat.V.P
namespace Go.Proofs.YtjjchpaomgmmdaaGreat.V.S
open Go Go.Proofs.YtjjchpaomgmmdaaGreat.V
set_option linter.unusedVariables false
set_option linter.unusedSimpArgs false
set_option maxRecDepth 20000
section
variable {α : Type} {key : α -> Cel}
def setK (key : α -> Cel) : List α -> α -> List α
  | [], x => [x]
  | y :: r, x => if cmpC (key x) (key y) = -1 then x :: y :: r else if cmpC (key x) (key y) = 0 then x :: r else y :: setK key r x
def getK (key : α -> Cel) (S : List α) (c : Cel) : Option α := S.find? fun y => decide (cmpC (key y) c = 0)
abbrev SortK (key : α -> Cel) (S : List α) : Prop := S.Pairwise fun a b => cmpC (key a) (key b) = -1
theorem cC_self (a : Cel) : cmpC a a = 0 := cC_zero.2 rfl
theorem getK_some {S : List α} {c : Cel} {x : α} (h : getK key S c = some x) : x ∈ S ∧ key x = c :=
  ⟨List.mem_of_find?_eq_some h, cC_zero.1 (by have := List.find?_some h; simpa using this)⟩
theorem getK_none {S : List α} {c : Cel} (h : getK key S c = none) : ∀ x ∈ S, key x ≠ c := fun x hx e => by
  have := List.find?_eq_none.1 h x hx
  simp [cC_zero.2 e] at this
theorem getK_mem {S : List α} (hs : SortK key S) {x : α} (hx : x ∈ S) : getK key S (key x) = some x := by
  induction S with
  | nil => cases hx
  | cons y r ih =>
    have h := List.pairwise_cons.1 hs
    unfold getK
    rw [List.find?_cons]
    rcases List.mem_cons.1 hx with e | e
    · subst e; simp [cC_self]
    · have := h.1 x e
      have hn : ¬ cmpC (key y) (key x) = 0 := by omega
      simp only [hn, decide_false]
      exact ih h.2 e
theorem mem_set {x y : α} : ∀ {S : List α}, SortK key S -> (y ∈ setK key S x ↔ y = x ∨ (y ∈ S ∧ key y ≠ key x))
  | [], _ => by simp [setK]
  | z :: r, hs => by
    have h := List.pairwise_cons.1 hs
    have ih := mem_set (x := x) (y := y) h.2
    unfold setK
    split
    · rename_i h1
      have hall : ∀ w ∈ z :: r, key w ≠ key x := fun w hw e => by
        rcases List.mem_cons.1 hw with q | q
        · subst q; rw [e, cC_self] at h1; omega
        · have := cC_trans h1 (h.1 w q); rw [e, cC_self] at this; omega
      constructor
      · intro hy
        rcases List.mem_cons.1 hy with q | q
        · exact .inl q
        · exact .inr ⟨q, hall y q⟩
      · rintro (q | ⟨q, _⟩)
        · rw [q]; simp
        · exact List.mem_cons_of_mem _ q
    · rename_i h1
      split
      · rename_i h2
        have he := cC_zero.1 h2
        constructor
        · intro hy
          rcases List.mem_cons.1 hy with q | q
          · exact .inl q
          · refine .inr ⟨List.mem_cons_of_mem _ q, fun e => ?_⟩
            have := h.1 y q
            rw [e, ← he, cC_self] at this; omega
        · rintro (q | ⟨q, q2⟩)
          · rw [q]; simp
          · rcases List.mem_cons.1 q with q | q
            · subst q; exact absurd he.symm q2
            · exact List.mem_cons_of_mem _ q
      · rename_i h2
        have hne : key z ≠ key x := fun e => h2 (cC_zero.2 e.symm)
        rw [List.mem_cons, ih]
        constructor
        · rintro (q | q | ⟨q, q2⟩)
          · subst q; exact .inr ⟨by simp, hne⟩
          · exact .inl q
          · exact .inr ⟨List.mem_cons_of_mem _ q, q2⟩
        · rintro (q | ⟨q, q2⟩)
          · exact .inr (.inl q)
          · rcases List.mem_cons.1 q with q | q
            · exact .inl q
            · exact .inr (.inr ⟨q, q2⟩)
theorem sort_set {x : α} : ∀ {S : List α}, SortK key S -> SortK key (setK key S x)
  | [], _ => by simp [setK, SortK]
  | z :: r, hs => by
    have h := List.pairwise_cons.1 hs
    have ih := sort_set (x := x) h.2
    unfold setK
    split
    · rename_i h1
      refine List.pairwise_cons.2 ⟨fun w hw => ?_, hs⟩
      rcases List.mem_cons.1 hw with q | q
      · subst q; exact h1
      · exact cC_trans h1 (h.1 w q)
    · rename_i h1
      split
      · rename_i h2
        have he := cC_zero.1 h2
        exact List.pairwise_cons.2 ⟨fun w hw => by rw [he]; exact h.1 w hw, h.2⟩
      · rename_i h2
        refine List.pairwise_cons.2 ⟨fun w hw => ?_, ih⟩
        rcases (mem_set h.2).1 hw with q | ⟨q, _⟩
        · subst q
          have := cC_range (key w) (key z)
          have := cC_anti (key z) (key w)
          omega
        · exact h.1 w q
theorem pw_set {P : α -> α -> Prop} {x : α} : ∀ {S : List α}, SortK key S -> S.Pairwise P -> (∀ y ∈ S, key y ≠ key x -> P x y ∧ P y x) -> (setK key S x).Pairwise P
  | [], _, _, _ => by simp [setK]
  | z :: r, hs, hp, hx => by
    have h := List.pairwise_cons.1 hs
    have hp' := List.pairwise_cons.1 hp
    have ih := pw_set (x := x) h.2 hp'.2 fun y hy => hx y (List.mem_cons_of_mem _ hy)
    unfold setK
    split
    · rename_i h1
      refine List.pairwise_cons.2 ⟨fun w hw => (hx w hw fun e => ?_).1, hp⟩
      rcases List.mem_cons.1 hw with q | q
      · subst q; rw [e, cC_self] at h1; omega
      · have := cC_trans h1 (h.1 w q); rw [e, cC_self] at this; omega
    · rename_i h1
      split
      · rename_i h2
        have he := cC_zero.1 h2
        refine List.pairwise_cons.2 ⟨fun w hw => (hx w (List.mem_cons_of_mem _ hw) fun e => ?_).1, hp'.2⟩
        have := h.1 w hw
        rw [e, ← he, cC_self] at this; omega
      · rename_i h2
        have hne : key z ≠ key x := fun e => h2 (cC_zero.2 e.symm)
        refine List.pairwise_cons.2 ⟨fun w hw => ?_, ih⟩
        rcases (mem_set h.2).1 hw with q | ⟨q, _⟩
        · subst q; exact (hx z (by simp) hne).2
        · exact hp'.1 w q
theorem sum_set {x : α} (f : α -> Nat) : ∀ {S : List α}, SortK key S -> ((setK key S x).map f).sum + ((getK key S (key x)).map f).getD 0 = (S.map f).sum + f x
  | [], _ => by simp [setK, getK]
  | z :: r, hs => by
    have h := List.pairwise_cons.1 hs
    have ih := sum_set (x := x) f h.2
    unfold setK
    split
    · rename_i h1
      have hn : getK key (z :: r) (key x) = none := by
        unfold getK
        rw [List.find?_eq_none]
        intro w hw
        have : cmpC (key x) (key w) = -1 := by
          rcases List.mem_cons.1 hw with q | q
          · subst q; exact h1
          · exact cC_trans h1 (h.1 w q)
        have := cC_anti (key w) (key x)
        simp; omega
      rw [hn]; simp; omega
    · rename_i h1
      split
      · rename_i h2
        have he := cC_zero.1 h2
        have hs' : getK key (z :: r) (key x) = some z := by
          unfold getK; rw [List.find?_cons, ← he]; simp [cC_self]
        rw [hs']; simp; omega
      · rename_i h2
        have hne : ¬ cmpC (key z) (key x) = 0 := fun e => h2 (cC_zero.2 (cC_zero.1 e).symm)
        have hs' : getK key (z :: r) (key x) = getK key r (key x) := by
          unfold getK; rw [List.find?_cons]; simp [hne]
        rw [hs']; simp; omega
theorem map_set {β : Type} {key' : β -> Cel} (f : α -> β) (hk : ∀ x, key' (f x) = key x) {x : α} : ∀ (S : List α), (setK key S x).map f = setK key' (S.map f) (f x)
  | [] => rfl
  | z :: r => by
    have ih := map_set f hk (x := x) r
    show _ = setK key' (f z :: r.map f) (f x)
    unfold setK
    rw [hk, hk]
    split
    · rfl
    · split
      · rfl
      · rw [List.map_cons, ih]
theorem map_get {β : Type} {key' : β -> Cel} (f : α -> β) (hk : ∀ x, key' (f x) = key x) {c : Cel} : ∀ (S : List α), getK key' (S.map f) c = (getK key S c).map f
  | [] => rfl
  | z :: r => by
    have ih := map_get f hk (c := c) r
    unfold getK at ih ⊢
    rw [List.map_cons, List.find?_cons, List.find?_cons, hk, ih]
    split <;> simp_all
end
abbrev Ver := C.Ver
abbrev zA := C.zA
abbrev SL := List (Cel × List Ver)
def okC (c : Cel) : Int := if c.View < 0 ∨ c.View >= 4 then 23 else if (c.Key.size : Int) < 1 ∨ (c.Key.size : Int) > 32 then 21 else if c.Start < -2305843009213693952 ∨ c.Start > 2305843009213693952 then 22 else 0
theorem ok_may {c : Cel} (h : okC c = 0) : mayC c = 0 := by
  unfold okC at h
  unfold mayC
  split at h
  · cases h
  · rename_i h1
    rw [if_neg (by omega)]
    split at h
    · cases h
    · rename_i h2
      rw [if_neg (by omega)]
      split at h
      · cases h
      · rename_i h3; rw [if_neg h3]
theorem ok_start {c : Cel} (h : okC c = 0) : I64n c.Start := by
  unfold okC at h
  split at h
  · cases h
  · split at h
    · cases h
    · split at h
      · cases h
      · unfold I64n; omega
def keyB (c : Cel) : ByteArray := ⟨(keyL c).toArray⟩
theorem kL_keyB (c : Cel) : kL (keyB c) = keyL c := by simp [keyB, kL]
theorem key_size {c : Cel} (h : okC c = 0) : (keyL c).length <= 100 := by
  obtain ⟨h1, h2, h3⟩ := may_view (ok_may h)
  have := escL_len c.Key.data.toList
  have h4 : c.Key.data.toList.length = c.Key.size := (size_data).symm
  unfold keyL
  simp [beT_len]
  omega
theorem key_inj {a b : Cel} (ha : okC a = 0) (hb : okC b = 0) (h : keyL a = keyL b) : a = b := by
  have h1 := cell_back (ok_may ha) (ok_start ha)
  have h2 := cell_back (ok_may hb) (ok_start hb)
  rw [h, h2] at h1
  exact (congrArg Prod.fst h1).symm
abbrev alive (vs : List Ver) : Bool := (C.newestM vs).2.2
def unitsV (vs : List Ver) : Nat := vs.length + (if alive vs then 1 else 0)
def aliveN (vs : List Ver) : Nat := if alive vs then 1 else 0
def unitsS (S : SL) : Nat := (S.map fun x => unitsV x.2).sum
def thereS (S : SL) : Nat := (S.map fun x => aliveN x.2).sum
abbrev getS (S : SL) (c : Cel) : Option (List Ver) := (getK (·.1) S c).map (·.2)
abbrev setS (S : SL) (c : Cel) (vs : List Ver) : SL := setK (·.1) S (c, vs)
abbrev SortS (S : SL) : Prop := SortK (·.1) S
def atV (vs : List Ver) (e : Int) : S_api_Agg × Bool := if e = 0 then ((C.newestM vs).1, alive vs) else C.atM vs e
def atS (S : SL) (c : Cel) (e : Int) : S_api_Agg := if okC c ≠ 0 then zA else match getS S c with
  | some vs => (atV vs e).1
  | none => zA
def rowS (e : Int) (x : Cel × List Ver) : S_api_Row := ⟨x.1, (atV x.2 e).1⟩
def inS (e : Int) (fr to : Cel) (x : Cel × List Ver) : Bool := (atV x.2 e).2 && (decide (cmpC fr x.1 <= 0) && decide (cmpC x.1 to < 0))
def rangeS (S : SL) (e : Int) (fr to : Cel) : List S_api_Row := (S.filter (inS e fr to)).map (rowS e)
def needV (o : Option (List Ver)) (e : Int) : Int := match o with
  | none => 2
  | some vs => if (C.newestM vs).2.1 > e then 0 else if (C.newestM vs).2.1 = e ∧ alive vs = true then 0 else if (C.newestM vs).2.1 = e ∨ alive vs = true then 1 else 2
def needS (S : SL) (e : Int) (c : Cel) : Int := if okC c ≠ 0 then 0 else needV (getS S c) e
structure VOk (vs : List Ver) : Prop where
  ne : vs ≠ []
  rise : C.Rise vs
  dead : ∀ v ∈ vs, v.dead = true -> v.value = zA
  ep : ∀ v ∈ vs, 1 <= v.epoch ∧ v.epoch <= 1099511627776
structure SOk (S : SL) : Prop where
  sort : SortS S
  ok : ∀ x ∈ S, okC x.1 = 0 ∧ VOk x.2
theorem unitsV_pos {vs : List Ver} (h : vs ≠ []) : 1 <= unitsV vs := by
  have := List.length_pos_iff.2 h
  unfold unitsV; omega
theorem len_units {S : SL} (h : SOk S) : S.length <= unitsS S := by
  have : ∀ (S : SL), (∀ x ∈ S, x.2 ≠ []) -> S.length <= unitsS S := fun S => by
    induction S with
    | nil => intro _; simp [unitsS]
    | cons x r ih =>
      intro hx
      have h1 := ih fun y hy => hx y (by simp [hy])
      have h2 := unitsV_pos (hx x (by simp))
      unfold unitsS at h1 ⊢
      rw [List.map_cons, List.sum_cons, List.length_cons]; omega
  exact this S fun x hx => (h.ok x hx).2.ne
theorem ver_units {S : SL} {x : Cel × List Ver} (hx : x ∈ S) : x.2.length <= unitsS S := by
  induction S with
  | nil => cases hx
  | cons y r ih =>
    unfold unitsS at ih ⊢
    rw [List.map_cons, List.sum_cons]
    rcases List.mem_cons.1 hx with e | e
    · subst e; unfold unitsV; omega
    · have := ih e; omega
theorem alive_le (vs : List Ver) : aliveN vs <= unitsV vs := by unfold aliveN unitsV; omega
theorem there_le {S : SL} : thereS S <= unitsS S := by
  induction S with
  | nil => simp [thereS, unitsS]
  | cons y r ih =>
    unfold unitsS thereS at ih ⊢
    rw [List.map_cons, List.sum_cons, List.map_cons, List.sum_cons]
    have := alive_le y.2
    omega
end Go.Proofs.YtjjchpaomgmmdaaGreat.V.S
namespace Go.Proofs.YtjjchpaomgmmdaaGreat.V
open Go
set_option linter.unusedVariables false
set_option linter.unusedSimpArgs false
theorem range_at {α : Type} (f : Nat -> α) {n i : Nat} (hi : i < n) : ((List.range n).map f)[i]? = some (f i) := by simp [hi]
theorem own_neG {h : H} {s : Sl} {n : Nat} {cs : List Value} {k : Nat} {c : Array Value} {e e' : TypeId} (w : Owns h s e k cs) (b : Blk h n c e') (he : e ≠ e') : s.blk ≠ some n := fun hb => by
  obtain ⟨_, ⟨q1, _, _⟩ | ⟨b', c', q1, q2, _⟩⟩ := w
  · simp [Sl.blk, q1] at hb
  · simp [Sl.blk, q1] at hb
    subst hb
    have := q2.symm.trans b
    simp at this
    exact he this.2
section
variable {α : Type} {f : α -> List Value} {kk : Nat} {e : TypeId} {n : Nat} {h0 h h' : H} {A M : Nat -> Sl} {D T : Nat -> List α}
end
end Go.Proofs.YtjjchpaomgmmdaaGreat.V
namespace Go.Proofs.YtjjchpaomgmmdaaGreat.V.S
open Go Go.Proofs.YtjjchpaomgmmdaaGreat.V
set_option linter.unusedVariables false
set_option linter.unusedSimpArgs false
set_option maxRecDepth 20000
theorem key_spec {h : H} {c : Cel} {Q : ByteArray -> Int -> H -> Prop} (k0 : okC c ≠ 0 -> ∀ h', Ext h h' -> Q ⟨#[]⟩ (okC c) h') (k1 : okC c = 0 -> ∀ h', Ext h h' -> Q (keyB c) 0 h') : F.xae c h Q := by
  unfold F.xae
  refine new_of fun n h1 hn b1 e1 s1 => ?_
  have c0 : cellH h1 ⟨n, 0, none⟩ = some (.int .i64 c.View) := Blk.cells b1 0 _ rfl
  have c1 : cellH h1 ⟨n, 1, none⟩ = some (.string c.Key) := Blk.cells b1 1 _ rfl
  have c2 : cellH h1 ⟨n, 2, none⟩ = some (.int .i64 c.Start) := Blk.cells b1 2 _ rfl
  have j1 : okC c = 0 -> F.xae.j1 Q ⟨n, 0, none⟩ h1 := fun g => by
    unfold F.xae.j1
    refine ⟨c, Blk.cells b1, Key_spec (fun g2 => absurd (ok_may g) g2) fun _ h2 e2 => k1 g h2 (e1.trans e2)⟩
  have j4 : ∀ b : Bool, (b = true -> okC c = 22) -> (b = false -> okC c = 0) -> F.xae.j4 Q ⟨n, 0, none⟩ b h1 := fun b q1 q2 => by
    unfold F.xae.j4
    refine ⟨fun g => ?_, fun g => j1 (q2 g)⟩
    have := k0 (by rw [q1 g]; decide) h1 e1
    rw [q1 g] at this; exact this
  have j3 : ∀ b : Bool, (b = true -> okC c = 21) -> (b = false -> okC c = if c.Start < -2305843009213693952 ∨ c.Start > 2305843009213693952 then 22 else 0) -> F.xae.j3 Q ⟨n, 0, none⟩ b h1 := fun b q1 q2 => by
    unfold F.xae.j3
    simp only [add_lit, Nat.zero_add, Nat.add_zero]
    refine ⟨fun g => ?_, fun g => ?_⟩
    · have := k0 (by rw [q1 g]; decide) h1 e1
      rw [q1 g] at this; exact this
    · have hq := q2 g
      rw [ldI_iff c2]
      refine ⟨fun g2 => j4 true (fun _ => ?_) fun h => (by cases h), fun g2 => ?_⟩
      · have g2 := of_decide_eq_true g2
        rw [hq, if_pos (.inl g2)]
      · have g2 := of_decide_eq_false g2
        rw [ldI_iff c2]
        refine j4 _ (fun g3 => ?_) fun g3 => ?_
        · have g3 := of_decide_eq_true g3
          rw [hq, if_pos (.inr g3)]
        · have g3 := of_decide_eq_false g3
          rw [hq, if_neg (by omega)]
  have j2 : ∀ b : Bool, (b = true -> okC c = 23) -> (b = false -> okC c = if (c.Key.size : Int) < 1 ∨ (c.Key.size : Int) > 32 then 21 else if c.Start < -2305843009213693952 ∨ c.Start > 2305843009213693952 then 22 else 0) -> F.xae.j2 Q ⟨n, 0, none⟩ b h1 := fun b q1 q2 => by
    unfold F.xae.j2
    simp only [add_lit, Nat.zero_add, Nat.add_zero]
    refine ⟨fun g => ?_, fun g => ?_⟩
    · have := k0 (by rw [q1 g]; decide) h1 e1
      rw [q1 g] at this; exact this
    · have hq := q2 g
      rw [ldS_iff c1]
      refine ⟨fun g2 => j3 true (fun _ => ?_) fun h => (by cases h), fun g2 => ?_⟩
      · have g2 := of_decide_eq_true g2
        rw [hq, if_pos (.inl g2)]
      · have g2 := of_decide_eq_false g2
        rw [ldS_iff c1]
        refine j3 _ (fun g3 => ?_) fun g3 => ?_
        · have g3 := of_decide_eq_true g3
          rw [hq, if_pos (.inr g3)]
        · have g3 := of_decide_eq_false g3
          rw [hq, if_neg (by omega)]
  simp only [add_lit, Nat.zero_add, Nat.add_zero]
  rw [ldI_iff c0]
  refine ⟨fun g2 => j2 true (fun _ => ?_) fun h => (by cases h), fun g2 => ?_⟩
  · have g2 := of_decide_eq_true g2
    unfold okC; rw [if_pos (.inl g2)]
  · have g2 := of_decide_eq_false g2
    rw [ldI_iff c0]
    refine j2 _ (fun g3 => ?_) fun g3 => ?_
    · have g3 := of_decide_eq_true g3
      unfold okC; rw [if_pos (.inr g3)]
    · have g3 := of_decide_eq_false g3
      unfold okC; rw [if_neg (by omega)]
structure Rec where
  c : Cel
  vs : List Ver
  p : Nat
  B : Option Nat
abbrev toS (Z : List Rec) : SL := Z.map fun r => (r.c, r.vs)
def ShE (e : TypeId) : Prop := e = tn_shard_Shard ∨ e = tn_table_Table_chain_Chain_api_Agg ∨ e = tn_table_place_chain_Chain_api_Agg ∨ e = tn_chain_Chain_api_Agg ∨ e = tn_chain_version_api_Agg
def ShTy (h : H) (b : Nat) : Prop := ∃ e, ShE e ∧ WB h b e
structure SZG (W : List Ver -> Prop) (h : H) (n tn : Nat) (rs es : Sl) (T : Tb (Option Addr)) (Z : List Rec) (slots : Nat) (R : Nat -> Prop) (u t : Int) : Prop where
  sb : Blk h n #[.int .i64 u, .int .i64 t, .int .i64 (slots : Int), .pointer (some ⟨tn, 0, none⟩)] tn_shard_Shard
  th : P.TH h tn rs es T
  ok : TOk T
  ch : ∀ r ∈ Z, C.Ch h r.p r.vs r.B
  get : ∀ r ∈ Z, getM T (keyB r.c) = some (some ⟨r.p, 0, none⟩)
  all : ∀ k v, getM T k = some v -> ∃ r ∈ Z, kL k = keyL r.c
  srt : SortK Rec.c Z
  pd : Z.Pairwise fun a b => a.p ≠ b.p
  bd : Z.Pairwise fun a b => ∀ x, a.B = some x -> b.B ≠ some x
  wf : ∀ r ∈ Z, okC r.c = 0 ∧ W r.vs
  us : unitsS (toS Z) <= slots
  sl : slots <= 1048576
  rl : T.row.length <= 4200000
  rn : R n
  rt : R tn
  rr : ∀ b, rs.blk = some b -> R b
  re : ∀ b, es.blk = some b -> R b
  rp : ∀ r ∈ Z, R r.p ∧ ∀ x, r.B = some x -> R x
abbrev SZ := SZG VOk
theorem toS_ok {h : H} {n tn : Nat} {rs es : Sl} {T : Tb (Option Addr)} {Z : List Rec} {slots : Nat} {R : Nat -> Prop} {u t : Int} (z : SZ h n tn rs es T Z slots R u t) : SOk (toS Z) := by
  refine ⟨?_, fun x hx => ?_⟩
  · unfold SortS SortK; rw [List.pairwise_map]; exact z.srt
  · obtain ⟨r, hr, rfl⟩ := List.mem_map.1 hx
    exact z.wf r hr
section
variable {W : List Ver -> Prop} {h h' : H} {n tn : Nat} {rs es : Sl} {T : Tb (Option Addr)} {Z : List Rec} {slots : Nat} {R : Nat -> Prop} {u t : Int}
theorem ch_typ {p : Nat} {L : List Ver} {B : Option Nat} (c : C.Ch h p L B) : WB h p tn_chain_Chain_api_Agg ∧ ∀ b, B = some b -> WB h b tn_chain_version_api_Agg := by
  obtain ⟨s, h1, h2, h3, h4⟩ := c
  exact ⟨⟨_, h1⟩, fun b hb => h2.typ (by rw [h3]; exact hb)⟩
theorem SZG.keep {S : Nat -> Prop} (z : SZG W h n tn rs es T Z slots R u t) (o : Only S h h') (hn : ∀ b, R b -> ShTy h b -> ¬ S b) : SZG W h' n tn rs es T Z slots R u t := by
  refine { z with sb := o.block z.sb (hn n z.rn ⟨_, .inl rfl, _, z.sb⟩), th := z.th.only o fun b hb => ?_, ch := fun r hr => ?_ }
  · rcases hb with hb | hb | hb
    · subst hb; exact hn _ z.rt ⟨_, .inr (.inl rfl), _, z.th.tb⟩
    · exact hn _ (z.rr b hb) ⟨_, .inr (.inr (.inl rfl)), z.th.row.typ hb⟩
    · exact hn _ (z.re b hb) ⟨_, .inr (.inr (.inl rfl)), z.th.el.typ hb⟩
  · have := ch_typ (z.ch r hr)
    exact (z.ch r hr).only o (hn _ (z.rp r hr).1 ⟨_, .inr (.inr (.inr (.inl rfl))), this.1⟩) fun b hb => hn _ ((z.rp r hr).2 b hb) ⟨_, .inr (.inr (.inr (.inr rfl))), this.2 b hb⟩
theorem SZG.ext (z : SZG W h n tn rs es T Z slots R u t) (e : Ext h h') : SZG W h' n tn rs es T Z slots R u t := z.keep e fun _ _ _ f => f
theorem SZG.len (z : SZG VOk h n tn rs es T Z slots R u t) : Z.length <= 1048576 := by
  have h1 := len_units (toS_ok z)
  have h2 := z.us
  have h3 := z.sl
  rw [show (toS Z).length = Z.length from List.length_map _] at h1
  omega
theorem SZG.vlen (z : SZG W h n tn rs es T Z slots R u t) {r : Rec} (hr : r ∈ Z) : r.vs.length <= 1048576 := by
  have h1 := ver_units (S := toS Z) (x := (r.c, r.vs)) (List.mem_map.2 ⟨r, hr, rfl⟩)
  have h2 := z.us
  have h3 := z.sl
  simp only at h1
  omega
theorem SZG.cs0 (z : SZG W h n tn rs es T Z slots R u t) : cellH h ⟨n, 0, none⟩ = some (.int .i64 u) := z.sb.cell rfl
theorem SZG.cs1 (z : SZG W h n tn rs es T Z slots R u t) : cellH h ⟨n, 1, none⟩ = some (.int .i64 t) := z.sb.cell rfl
theorem SZG.cs2 (z : SZG W h n tn rs es T Z slots R u t) : cellH h ⟨n, 2, none⟩ = some (.int .i64 (slots : Int)) := z.sb.cell rfl
theorem SZG.cs3 (z : SZG W h n tn rs es T Z slots R u t) : cellH h ⟨n, 3, none⟩ = some (.pointer (some ⟨tn, 0, none⟩)) := z.sb.cell rfl
theorem SZG.look (z : SZG W h n tn rs es T Z slots R u t) {c : Cel} (hc : okC c = 0) : getM T (keyB c) = (getK Rec.c Z c).map fun r => some ⟨r.p, 0, none⟩ := by
  cases hg : getK Rec.c Z c with
  | some r =>
    obtain ⟨h1, h2⟩ := getK_some hg
    subst h2
    exact z.get r h1
  | none =>
    cases hm : getM T (keyB c) with
    | none => rfl
    | some v =>
      obtain ⟨r, hr, he⟩ := z.all _ _ hm
      rw [kL_keyB] at he
      exact absurd (key_inj hc (z.wf r hr).1 he).symm (getK_none hg r hr)
theorem SZG.getS (z : SZG W h n tn rs es T Z slots R u t) (c : Cel) : S.getS (toS Z) c = (getK Rec.c Z c).map (·.vs) := by
  show (getK _ (Z.map _) c).map _ = _
  rw [map_get (key := Rec.c) (key' := fun x : Cel × List Ver => x.1) (fun r : Rec => (r.c, r.vs)) (fun _ => rfl), Option.map_map]
  rfl
theorem key_small {c : Cel} (h : okC c = 0) : SmallK (keyB c) := by
  have := key_size h
  show (keyL c).toArray.size <= _
  simp; omega
end
def SH (h : H) (n : Nat) (S : SL) (slots : Nat) (R : Nat -> Prop) : Prop := ∃ tn rs es T Z, toS Z = S ∧ SZ h n tn rs es T Z slots R (unitsS (toS Z) : Int) (thereS (toS Z) : Int)
section
variable {h h' : H} {n : Nat} {S : SL} {slots : Nat} {R : Nat -> Prop}
theorem SH.keep {P : Nat -> Prop} (s : SH h n S slots R) (o : Only P h h') (hn : ∀ b, R b -> ShTy h b -> ¬ P b) : SH h' n S slots R := by
  obtain ⟨tn, rs, es, T, Z, h1, z⟩ := s
  exact ⟨tn, rs, es, T, Z, h1, z.keep o hn⟩
theorem SH.ext (s : SH h n S slots R) (e : Ext h h') : SH h' n S slots R := s.keep e fun _ _ _ f => f
theorem SH.ok (s : SH h n S slots R) : SOk S := by
  obtain ⟨tn, rs, es, T, Z, rfl, z⟩ := s
  exact toS_ok z
theorem SH.oth (s : SH h n S slots R) {t : Sl} {e : TypeId} {k : Nat} {cs : List Value} (o : Only (fun b => t.blk = some b) h h') (w : Owns h t e k cs) (he : ¬ ShE e) : SH h' n S slots R :=
  s.keep o fun b _ ⟨e', h1, c', h2⟩ hb => he (by
    obtain ⟨c, h3⟩ := w.typ hb
    have := h3.symm.trans h2
    simp at this
    rw [this.2]; exact h1)
abbrev SOnly (R : Nat -> Prop) (h h' : H) : Prop := Only (fun b => R b ∧ ShTy h b) h h'
theorem ShTy.back {S : Nat -> Prop} (o : Only S h h') {b : Nat} (hb : b < h.size) (hs : ¬ S b) (t : ShTy h' b) : ShTy h b := by
  obtain ⟨e, h1, c, h2⟩ := t
  exact ⟨e, h1, c, (o.same b hb hs).symm.trans h2⟩
theorem SOnly.trans {h'' : H} (a : SOnly R h h') (b : SOnly R h' h'') : SOnly R h h'' := Only.trans a b fun m hm ⟨h1, h2⟩ => by
  by_cases hs : ShTy h m
  · exact ⟨h1, hs⟩
  · exact ⟨h1, ShTy.back a hm (fun h => hs h.2) h2⟩
theorem SOnly.of (e : Ext h h') : SOnly R h h' := Ext.only e
theorem SOnly.owns (a : SOnly R h h') {t : Sl} {e : TypeId} {k : Nat} {cs : List Value} (w : Owns h t e k cs) (he : ¬ ShE e) : Owns h' t e k cs := w.only a fun b hb ⟨_, e', h1, c', h2⟩ => he (by
  obtain ⟨c, h3⟩ := w.typ hb
  have := h3.symm.trans h2
  simp at this
  rw [this.2]; exact h1)
theorem SOnly.base {h0 : H} (e : Ext h0 h) (a : SOnly R h h') (hR : ∀ b, R b -> h0.size <= b) : Ext h0 h' := e.step a fun m hm hb => by have := hR m hb.1; omega
end
theorem row_sh : ¬ ShE tn_api_Row := by
  unfold ShE; decide
theorem Units_spec {h : H} {n : Nat} {S : SL} {slots : Nat} {R : Nat -> Prop} {Q : Int -> H -> Prop} (s : SH h n S slots R) (k : Q (unitsS S : Int) h) : F.xcm (some ⟨n, 0, none⟩) h Q := by
  obtain ⟨tn, rs, es, T, Z, rfl, z⟩ := s
  unfold F.xcm
  simp only [nn_some, add_lit, Nat.add_zero]
  rw [ldI_iff z.cs0]; exact k
theorem New_spec {h : H} {m : Int} {R : Nat -> Prop} {Q : Option Addr -> Int -> H -> Prop} (k0 : (m < 2 ∨ m > 1048576) -> Q none 1 h)
    (hR : ∀ b, h.size <= b -> R b) (k1 : 2 <= m -> m <= 1048576 -> ∀ h' n, SH h' n [] m.toNat R -> Ext h h' -> h.size <= n -> Q (some ⟨n, 0, none⟩) 0 h') : F.xaw m h Q := by
  have j1 : 2 <= m -> m <= 1048576 -> F.xaw.j1 Q m h := fun h1 h2 => by
    unfold F.xaw.j1
    refine P.New_spec fun h3 tn rs th e3 hft => ?_
    refine new_of fun n h4 hn b4 e4 s4 => ?_
    have g := new_ok (P.nilA)
    have e3s := e3.size
    refine k1 h1 h2 h4 n ⟨tn, rs, ⟨none, 0, 0⟩, newT P.nilA, [], rfl, ?_⟩ (e3.trans e4) (by omega)
    refine { sb := ?_, th := th.ext e4, ok := g.1, ch := (fun r hr => by cases hr), get := (fun r hr => by cases hr), all := fun k v hk => ?_, srt := List.Pairwise.nil, pd := List.Pairwise.nil, bd := List.Pairwise.nil, wf := (fun r hr => by cases hr), us := Nat.zero_le _, sl := by omega, rl := (by show (newT P.nilA).row.length <= _; simp [newT]), rn := hR _ (by omega), rt := hR _ (hft _ (.inl rfl)), rr := fun b hb => hR _ (hft _ (.inr (.inl hb))), re := fun b hb => hR _ (hft _ (.inr (.inr hb))), rp := (fun r hr => by cases hr) }
    · have hm : ((m.toNat : Nat) : Int) = m := by omega
      rw [hm]; exact b4
    · rw [g.2.2] at hk; cases hk
  unfold F.xaw F.xaw.j2
  refine ⟨fun g => ⟨fun _ => k0 (.inl (of_decide_eq_true g)), fun h => by cases h⟩, fun g => ⟨fun g2 => k0 (.inr (of_decide_eq_true g2)), fun g2 => ?_⟩⟩
  exact j1 (by have := of_decide_eq_false g; omega) (by have := of_decide_eq_false g2; omega)
theorem chain_spec {h : H} {n tn : Nat} {rs es : Sl} {T : Tb (Option Addr)} {Z : List Rec} {slots : Nat} {R : Nat -> Prop} {u t : Int} {c : Cel} {Q : Option Addr -> H -> Prop} (z : SZ h n tn rs es T Z slots R u t)
    (k0 : (okC c ≠ 0 ∨ getK Rec.c Z c = none) -> ∀ h', Ext h h' -> Q none h') (k1 : okC c = 0 -> ∀ r, getK Rec.c Z c = some r -> ∀ h', Ext h h' -> Q (some ⟨r.p, 0, none⟩) h') : F.xbx (some ⟨n, 0, none⟩) c h Q := by
  unfold F.xbx
  refine new_of fun m h1 hm b1 e1 s1 => ⟨c, Blk.cells b1, ?_⟩
  refine key_spec (fun g h2 e2 => ⟨fun _ => k0 (.inl g) h2 (e1.trans e2), fun g2 => absurd (by simpa using g2) g⟩) fun g h2 e2 => ⟨fun g2 => by simp at g2, fun _ => ?_⟩
  have z2 := z.ext (e1.trans e2)
  simp only [nn_some, add_lit, Nat.zero_add]
  rw [ldP_iff z2.cs3]
  refine P.Get_spec z2.th z2.ok (key_small g) fun h3 e3 => ?_
  rw [z2.look g]
  have e13 := (e1.trans e2).trans e3
  cases hg : getK Rec.c Z c with
  | none => exact k0 (.inr hg) h3 e13
  | some r => exact k1 g r hg h3 e13
theorem at_none {h : H} {e : Int} {Q : S_api_Agg -> Bool -> H -> Prop} (k : ∀ h', Ext h h' -> Q zA false h') : F.xbw none e h Q := by
  unfold F.xbw
  refine new_of fun m h1 hm b1 e1 s1 => ⟨fun _ => ?_, fun g => by cases g⟩
  have b1' : Blk h1 m zA.cells.toArray tn_api_Agg := b1
  refine C.st_agg b1' (d := zA) fun h2 b2 o2 s2 => ⟨zA, b2.cells, k h2 (e1.step o2 fun x hx hb => by omega)⟩
theorem at_spec {h : H} {p : Nat} {vs : List Ver} {B : Option Nat} {e : Int} {Q : S_api_Agg -> Bool -> H -> Prop} (c : C.Ch h p vs B) (hr : C.Rise vs) (hl : vs.length < 1073741824) (k : ∀ h', Ext h h' -> Q (atV vs e).1 (atV vs e).2 h') : F.xbw (some ⟨p, 0, none⟩) e h Q := by
  unfold F.xbw
  unfold atV at k
  refine new_of fun m h1 hm b1 e1 s1 => ⟨fun g => by simp at g, fun _ => ⟨fun g => ?_, fun g => ?_⟩⟩
  · have g : e = 0 := by simpa using g
    rw [if_pos g] at k
    have b1' : Blk h1 m zA.cells.toArray tn_api_Agg := b1
    refine C.Newest_spec (c.ext e1) (by omega) fun h2 e2 => ?_
    refine new_of fun m3 h3 hm3 b3 e3 s3 => ?_
    have b3' : Blk h3 m3 zA.cells.toArray tn_api_Agg := b3
    refine C.st_agg b3' fun h4 b4 o4 s4 => ⟨_, b4.cells, ?_⟩
    have e2s := e2.size
    have e14 : Ext h1 h4 := (e2.trans e3).step o4 fun x hx hb => by omega
    have b14 := e14.block b1' fun f => f
    refine C.st_agg b14 fun h5 b5 o5 s5 => ⟨_, b5.cells, ?_⟩
    exact k h5 ((e1.trans e14).step o5 fun x hx hb => by omega)
  · have g : e ≠ 0 := by simpa using g
    rw [if_neg g] at k
    have b1' : Blk h1 m zA.cells.toArray tn_api_Agg := b1
    refine C.At_spec (c.ext e1) hr hl fun h2 e2 => ?_
    refine C.st_agg (e2.block b1' fun f => f) fun h5 b5 o5 s5 => ⟨_, b5.cells, ?_⟩
    exact k h5 ((e1.trans e2).step o5 fun x hx hb => by omega)
theorem At_spec {h : H} {n : Nat} {S : SL} {slots : Nat} {R : Nat -> Prop} {c : Cel} {e : Int} {Q : S_api_Agg -> H -> Prop} (s : SH h n S slots R) (k : ∀ h', Ext h h' -> Q (atS S c e) h') : F.xda (some ⟨n, 0, none⟩) c e h Q := by
  obtain ⟨tn, rs, es, T, Z, rfl, z⟩ := s
  unfold F.xda
  refine new_of fun m h1 hm b1 e1 s1 => new_of fun m2 h2 hm2 b2 e2 s2 => ⟨c, (Blk.cells b1).ext e2, ?_⟩
  have e12 := e1.trans e2
  have b2' : Blk h2 m2 zA.cells.toArray tn_api_Agg := b2
  have z2 := z.ext e12
  have tail : ∀ (a : S_api_Agg) (h3 : H), Ext h2 h3 -> a = atS (toS Z) c e -> new h3 (((⟨0, 0, 0, 0⟩ : S_api_Agg) : S_api_Agg).cells.toArray) tn_api_Agg fun a13 h12 => stH h12 a13 a.cells fun h14 => ld_S_api_Agg h14 a13 fun y15 => stH h14 ⟨m2, 0, none⟩ y15.cells fun h17 => ld_S_api_Agg h17 ⟨m2, 0, none⟩ fun y18 => Q y18 h17 := fun a h3 e3 ha => by
    refine new_of fun m4 h4 hm4 b4 e4 s4 => ?_
    have b4' : Blk h4 m4 zA.cells.toArray tn_api_Agg := b4
    refine C.st_agg b4' fun h5 b5 o5 s5 => ⟨_, b5.cells, ?_⟩
    have z3 := e3.size
    have e25 : Ext h2 h5 := (e3.trans e4).step o5 fun x hx hb => by omega
    refine C.st_agg (e25.block b2' fun f => f) fun h6 b6 o6 s6 => ⟨_, b6.cells, ?_⟩
    rw [ha]
    exact k h6 ((e12.trans e25).step o6 fun x hx hb => by have := e1.size; omega)
  refine chain_spec z2 (fun g h3 e3 => at_none fun h4 e4 => tail _ h4 (e3.trans e4) ?_) fun g r hr h3 e3 => ?_
  · unfold atS
    split
    · rfl
    · rename_i g2
      rcases g with g | g
      · exact absurd g g2
      · rw [z.getS, g]; rfl
  · obtain ⟨h5, h6⟩ := getK_some hr
    refine at_spec ((z2.ch r h5).ext e3) (z.wf r h5).2.rise (by have := z.vlen h5; omega) fun h4 e4 => tail _ h4 (e3.trans e4) ?_
    unfold atS
    rw [if_neg (fun h => h g), z.getS, hr]; rfl
theorem Get_spec {h : H} {n : Nat} {S : SL} {slots : Nat} {R : Nat -> Prop} {c : Cel} {Q : S_api_Agg -> H -> Prop} (s : SH h n S slots R) (k : ∀ h', Ext h h' -> Q (atS S c 0) h') : F.xdb (some ⟨n, 0, none⟩) c h Q := by
  unfold F.xdb
  refine new_of fun m h1 hm b1 e1 s1 => new_of fun m2 h2 hm2 b2 e2 s2 => ⟨c, (Blk.cells b1).ext e2, ?_⟩
  have e12 := e1.trans e2
  have b2' : Blk h2 m2 zA.cells.toArray tn_api_Agg := b2
  refine At_spec (s.ext e12) fun h3 e3 => ?_
  refine C.st_agg (e3.block b2' fun f => f) fun h6 b6 o6 s6 => ⟨_, b6.cells, ?_⟩
  exact k h6 ((e12.trans e3).step o6 fun x hx hb => by have := e1.size; omega)
theorem need_spec {h : H} {n tn : Nat} {rs es : Sl} {T : Tb (Option Addr)} {Z : List Rec} {slots : Nat} {R : Nat -> Prop} {u t : Int} {c : Cel} {e : Int} {Q : Int -> H -> Prop} (z : SZ h n tn rs es T Z slots R u t) (k : ∀ h', Ext h h' -> Q (needS (toS Z) e c) h') : F.xav (some ⟨n, 0, none⟩) e c h Q := by
  unfold F.xav
  unfold needS at k
  refine new_of fun m h1 hm b1 e1 s1 => ⟨c, Blk.cells b1, ?_⟩
  refine key_spec (fun g h2 e2 => ⟨fun _ => ?_, fun g2 => absurd (by simpa using g2) g⟩) fun g h2 e2 => ⟨fun g2 => by simp at g2, fun _ => ⟨c, (Blk.cells b1).ext e2, ?_⟩⟩
  · rw [if_pos g] at k; exact k h2 (e1.trans e2)
  rw [if_neg (fun h => h g)] at k
  have z2 := z.ext (e1.trans e2)
  refine chain_spec z2 (fun g2 h3 e3 => ⟨fun _ => ?_, fun g3 => by simp at g3⟩) fun _ r hr h3 e3 => ⟨fun g3 => by simp at g3, fun _ => ?_⟩
  · have : getK Rec.c Z c = none := by
      rcases g2 with g2 | g2
      · exact absurd g g2
      · exact g2
    rw [z.getS, this] at k
    exact k h3 ((e1.trans e2).trans e3)
  · obtain ⟨h5, h6⟩ := getK_some hr
    rw [z.getS, hr] at k
    refine C.Newest_spec ((z2.ch r h5).ext e3) (by have := z.vlen h5; omega) fun h4 e4 => ?_
    refine new_of fun m5 h5' hm5 b5 e5 s5 => ?_
    have b5' : Blk h5' m5 zA.cells.toArray tn_api_Agg := b5
    refine C.st_agg b5' fun h6' b6 o6 s6 => ?_
    have ee : Ext h h6' := ((((e1.trans e2).trans e3).trans e4).trans e5).step o6 fun x hx hb => by
      have := (((e1.trans e2).trans e3).trans e4).size
      omega
    have k := k h6' ee
    simp only [Option.map_some, needV] at k
    refine ⟨fun g3 => ?_, fun g3 => ?_⟩
    · rw [if_pos (of_decide_eq_true g3)] at k; exact k
    · rw [if_neg (of_decide_eq_false g3)] at k
      rw [show alive r.vs = (C.newestM r.vs).2.2 from rfl] at k
      generalize (C.newestM r.vs).2.2 = A at k ⊢
      generalize (C.newestM r.vs).2.1 = E at k ⊢
      unfold F.xav.j1 F.xav.j2
      by_cases hE : E = e
      · subst hE; cases A <;> simp at k ⊢ <;> exact k
      · cases A <;> simp [hE] at k ⊢ <;> exact k
theorem cells_l {h : H} {n o : Nat} {xs ys : List Value} (c : Cells h ⟨n, o, none⟩ (xs ++ ys)) : Cells h ⟨n, o, none⟩ xs := fun i v hv => c i v (by rw [List.getElem?_append_left (List.getElem?_eq_some_iff.1 hv).1]; exact hv)
theorem cells_r {h : H} {n o : Nat} {xs ys : List Value} (c : Cells h ⟨n, o, none⟩ (xs ++ ys)) : Cells h ⟨n, o + xs.length, none⟩ ys := fun i v hv => by
  have := c (xs.length + i) v (by rw [List.getElem?_append_right (by omega), Nat.add_sub_cancel_left]; exact hv)
  rw [add_lit] at this ⊢
  rwa [Nat.add_assoc]
theorem pw_two {α : Type} {P : α -> α -> Prop} (sym : ∀ x y, P x y -> P y x) : ∀ {Z : List α}, Z.Pairwise P -> ∀ {x y : α}, x ∈ Z -> y ∈ Z -> x ≠ y -> P x y
  | [], _, _, _, hx, _, _ => by cases hx
  | z :: r, h, x, y, hx, hy, hne => by
    have h' := List.pairwise_cons.1 h
    rcases List.mem_cons.1 hx with e | e <;> rcases List.mem_cons.1 hy with e2 | e2
    · exact absurd (e.trans e2.symm) hne
    · rw [e]; exact h'.1 y e2
    · rw [e2]; exact sym _ _ (h'.1 x e)
    · exact pw_two sym h'.2 e e2 hne
theorem nodup_lenG {α : Type} [DecidableEq α] : ∀ {E L : List α}, E.Nodup -> (∀ e ∈ E, e ∈ L) -> E.length <= L.length
  | [], L, _, _ => Nat.zero_le _
  | e :: E, L, h, hs => by
    rw [List.nodup_cons] at h
    have he := hs e (by simp)
    have := nodup_lenG (E := E) (L := L.erase e) h.2 fun x hx => (List.mem_erase_of_ne (show x ≠ e from fun hxe => h.1 (by rw [← hxe]; exact hx))).2 (hs x (by simp [hx]))
    rw [List.length_erase_of_mem he] at this
    have hpos : 0 < L.length := List.length_pos_of_mem he
    simp only [List.length_cons]; omega
theorem ft_ty {h : H} {tn : Nat} {rs es : Sl} {T : Tb (Option Addr)} (th : P.TH h tn rs es T) {b : Nat} (hb : FT tn rs es b) : ∃ e, WB h b e ∧ (e = tn_table_Table_chain_Chain_api_Agg ∨ e = tn_table_place_chain_Chain_api_Agg) := by
  rcases hb with hb | hb | hb
  · subst hb; exact ⟨_, ⟨_, th.tb⟩, .inl rfl⟩
  · exact ⟨_, th.row.typ hb, .inr rfl⟩
  · exact ⟨_, th.el.typ hb, .inr rfl⟩
section
variable {W : List Ver -> Prop} {h h' : H} {n tn : Nat} {rs es : Sl} {T : Tb (Option Addr)} {Z : List Rec} {slots : Nat} {R : Nat -> Prop} {u t : Int}
theorem SZG.n_ft (z : SZG W h n tn rs es T Z slots R u t) {b : Nat} (hb : FT tn rs es b) : b ≠ n := by
  obtain ⟨e, h1, h2⟩ := ft_ty z.th hb
  exact h1.ne ⟨_, z.sb⟩ (by rcases h2 with rfl | rfl <;> decide)
theorem SZG.ch_ft (z : SZG W h n tn rs es T Z slots R u t) {r : Rec} (hr : r ∈ Z) {b : Nat} (hb : FT tn rs es b) : b ≠ r.p ∧ r.B ≠ some b := by
  obtain ⟨e, h1, h2⟩ := ft_ty z.th hb
  have h3 := ch_typ (z.ch r hr)
  exact ⟨h1.ne h3.1 (by rcases h2 with rfl | rfl <;> decide), fun hB => h1.ne (h3.2 b hB) (by rcases h2 with rfl | rfl <;> decide) rfl⟩
theorem SZG.n_ch (z : SZG W h n tn rs es T Z slots R u t) {r : Rec} (hr : r ∈ Z) : r.p ≠ n ∧ r.B ≠ some n := by
  have h3 := ch_typ (z.ch r hr)
  exact ⟨h3.1.ne ⟨_, z.sb⟩ (by decide), fun hB => (h3.2 n hB).ne ⟨_, z.sb⟩ (by decide) rfl⟩
theorem SZG.p_B (z : SZG W h n tn rs es T Z slots R u t) {r r' : Rec} (hr : r ∈ Z) (hr' : r' ∈ Z) : r'.B ≠ some r.p := fun hB =>
  ((ch_typ (z.ch r' hr')).2 _ hB).ne (ch_typ (z.ch r hr)).1 (by decide) rfl
theorem SZG.f_lt (z : SZG W h n tn rs es T Z slots R u t) : n < h.size ∧ (∀ b, FT tn rs es b -> b < h.size) ∧ ∀ r ∈ Z, r.p < h.size ∧ ∀ b, r.B = some b -> b < h.size :=
  ⟨block_lt z.sb, z.th.lt, fun r hr => ⟨(z.ch r hr).lt, (z.ch r hr).ltB⟩⟩
theorem SZG.stN (z : SZG W h n tn rs es T Z slots R u t) {u' t' : Int} (o : Only (· = n) h h') (b : Blk h' n #[.int .i64 u', .int .i64 t', .int .i64 (slots : Int), .pointer (some ⟨tn, 0, none⟩)] tn_shard_Shard) : SZG W h' n tn rs es T Z slots R u' t' ∧ SOnly R h h' := by
  refine ⟨{ z with sb := b, th := z.th.only o fun b hb => z.n_ft hb, ch := fun r hr => (z.ch r hr).only o (z.n_ch hr).1 fun b hb e => (z.n_ch hr).2 (by rw [hb, e]) }, o.mono fun b _ e => ?_⟩
  subst e
  exact ⟨z.rn, _, .inl rfl, _, z.sb⟩
theorem SZG.st0 (z : SZG W h n tn rs es T Z slots R u t) {x : Int} {K : H -> Prop} (k : ∀ h', SZG W h' n tn rs es T Z slots R x t -> SOnly R h h' -> K h') : stH h ⟨n, 0, none⟩ [.int .i64 x] K :=
  stH_of z.sb (by simp) fun h' q1 q2 q3 => by
    have := z.stN (u' := x) (t' := t) q2 q1
    exact k h' this.1 this.2
theorem SZG.st1 (z : SZG W h n tn rs es T Z slots R u t) {x : Int} {K : H -> Prop} (k : ∀ h', SZG W h' n tn rs es T Z slots R u x -> SOnly R h h' -> K h') : stH h ⟨n, 1, none⟩ [.int .i64 x] K :=
  stH_of z.sb (by simp) fun h' q1 q2 q3 => by
    have := z.stN (u' := u) (t' := x) q2 q1
    exact k h' this.1 this.2
theorem mem_setZ (z : SZG W h n tn rs es T Z slots R u t) {x y : Rec} : y ∈ setK Rec.c Z x ↔ y = x ∨ (y ∈ Z ∧ y.c ≠ x.c) := mem_set z.srt
theorem SZG.lay (z : SZG W h n tn rs es T Z slots R u t) {r : Rec} (hr : r ∈ Z) {vs : List Ver} {B' : Option Nat} (c : C.Ch h' r.p vs B') (o : Only (C.FP r.p r.B) h h') (kin : C.Kin h.size r.B B') (ok : W vs)
    (hus : unitsS (toS (setK Rec.c Z ⟨r.c, vs, r.p, B'⟩)) <= slots) (hR : ∀ b, h.size <= b -> R b) : SZG W h' n tn rs es T (setK Rec.c Z ⟨r.c, vs, r.p, B'⟩) slots R u t ∧ SOnly R h h' := by
  obtain ⟨l1, l2, l3⟩ := z.f_lt
  have hty := ch_typ (z.ch r hr)
  have hne : ∀ {y : Rec}, y ∈ Z -> y.c ≠ r.c -> y.p ≠ r.p ∧ (∀ x, r.B = some x -> y.B ≠ some x) := fun {y} hy hc => by
    have hyr : y ≠ r := fun e => hc (by rw [e])
    exact ⟨pw_two (fun _ _ h => h.symm) z.pd hy hr hyr, fun x hx hyx => pw_two (P := fun a b : Rec => ∀ x, a.B = some x -> b.B ≠ some x) (fun a b h x h1 h2 => h x h2 h1) z.bd hy hr hyr x hyx hx⟩
  have keepCh : ∀ y ∈ Z, y.c ≠ r.c -> C.Ch h' y.p y.vs y.B := fun y hy hc => by
    obtain ⟨h1, h2⟩ := hne hy hc
    refine (z.ch y hy).only o (fun e => ?_) fun b hb e => ?_
    · rcases e with e | e
      · exact h1 e
      · exact z.p_B hy hr e
    · rcases e with e | e
      · subst e; exact z.p_B hr hy hb
      · exact h2 b e hb
  have hB : ∀ x, B' = some x -> r.B = some x ∨ h.size <= x := fun x hx => by
    rcases kin with k | k | ⟨b, k, k2⟩
    · exact .inl (by rw [← k]; exact hx)
    · rw [k] at hx; cases hx
    · rw [k] at hx; cases hx; exact .inr k2
  refine ⟨{ z with sb := ?_, th := ?_, ch := fun y hy => ?_, get := fun y hy => ?_, all := fun k v hk => ?_, srt := sort_set z.srt, pd := pw_set z.srt z.pd fun y hy hc => ?_, bd := pw_set z.srt z.bd fun y hy hc => ?_, wf := fun y hy => ?_, us := hus, rp := fun y hy => ?_ }, ?_⟩
  · refine o.block z.sb fun e => ?_
    rcases e with e | e
    · exact (z.n_ch hr).1 e.symm
    · exact (z.n_ch hr).2 e
  · refine z.th.only o fun b hb e => ?_
    have := z.ch_ft hr hb
    rcases e with e | e
    · exact this.1 e
    · exact this.2 e
  · rcases (mem_setZ z).1 hy with e | ⟨e, e2⟩
    · subst e; exact c
    · exact keepCh y e e2
  · rcases (mem_setZ z).1 hy with e | ⟨e, e2⟩
    · subst e; exact z.get r hr
    · exact z.get y e
  · obtain ⟨y, hy, e⟩ := z.all k v hk
    by_cases hc : y.c = r.c
    · exact ⟨_, (mem_setZ z).2 (.inl rfl), by rw [e, hc]⟩
    · exact ⟨y, (mem_setZ z).2 (.inr ⟨hy, hc⟩), e⟩
  · exact ⟨fun e => (hne hy hc).1 e.symm, fun e => (hne hy hc).1 e⟩
  · refine ⟨fun x hx hy2 => ?_, fun x hx hy2 => ?_⟩
    · rcases hB x hx with e | e
      · exact (hne hy hc).2 x e hy2
      · have := (l3 y hy).2 x hy2; omega
    · rcases hB x hy2 with e | e
      · exact (hne hy hc).2 x e hx
      · have := (l3 y hy).2 x hx; omega
  · rcases (mem_setZ z).1 hy with e | ⟨e, e2⟩
    · subst e; exact ⟨(z.wf r hr).1, ok⟩
    · exact z.wf y e
  · rcases (mem_setZ z).1 hy with e | ⟨e, e2⟩
    · subst e
      refine ⟨(z.rp r hr).1, fun x hx => ?_⟩
      rcases hB x hx with e | e
      · exact (z.rp r hr).2 x e
      · exact hR x e
    · exact z.rp y e
  · refine o.mono fun b _ e => ?_
    rcases e with e | e
    · subst e; exact ⟨(z.rp r hr).1, _, .inr (.inr (.inr (.inl rfl))), hty.1⟩
    · exact ⟨(z.rp r hr).2 b e, _, .inr (.inr (.inr (.inr rfl))), hty.2 b e⟩
theorem SZG.count (z : SZG W h n tn rs es T Z slots R u t) : T.count <= Z.length := by
  have ku := P.KU_of z.ok
  have hl := P.tk_len z.ok
  have hn : ((P.tkL (T.row ++ T.elder)).map fun p => kL p.1).Nodup := by
    have : ((P.tkL (T.row ++ T.elder)).map fun p => kL p.1) = ((P.tkL (T.row ++ T.elder)).map (·.1)).map kL := by rw [List.map_map]; rfl
    rw [this]
    exact List.Pairwise.map _ (fun a b h e => h (kL_inj e)) ku
  have := nodup_lenG hn (L := Z.map fun r => keyL r.c) fun e he => by
    obtain ⟨⟨k, v⟩, hp, rfl⟩ := List.mem_map.1 he
    obtain ⟨w, hw, _⟩ := P.tk_val z.ok hp
    obtain ⟨r, hr, e⟩ := z.all k w hw
    exact List.mem_map.2 ⟨r, hr, e.symm⟩
  rw [List.length_map, List.length_map, hl] at this
  exact this
theorem SZG.add {h1 h2 : H} {T' : Tb (Option Addr)} {rs' es' : Sl} {c : Cel} {p : Nat} {vs : List Ver} {B' : Option Nat} (z : SZG W h n tn rs es T Z slots R u t) (hc : okC c = 0) (hg : getK Rec.c Z c = none) (e1 : Ext h h1) (hp : h.size <= p) (hp1 : p < h1.size)
    (th : P.TH h2 tn rs' es' T') (ok : TOk T') (stp : Stp h1 tn rs es h2 rs' es') (hget : ∀ k, getM T' k = if kL k = kL (keyB c) then some (some ⟨p, 0, none⟩) else getM T k) (hrl : T'.row.length <= 4200000)
    (ch : C.Ch h' p vs B') (o : Only (C.FP p none) h2 h') (kin : C.Kin h2.size none B') (vok : W vs) (hus : unitsS (toS (setK Rec.c Z ⟨c, vs, p, B'⟩)) <= slots) (hR : ∀ b, h.size <= b -> R b) :
    SZG W h' n tn rs' es' T' (setK Rec.c Z ⟨c, vs, p, B'⟩) slots R u t ∧ SOnly R h h' := by
  obtain ⟨l1, l2, l3⟩ := z.f_lt
  have z1 := z.ext e1
  have s1 := e1.size
  have s2 := stp.only.size
  have hcne : ∀ y ∈ Z, y.c ≠ c := getK_none hg
  have oB : ∀ b, b < h.size -> ¬ C.FP p none b := fun b hb e => by
    rcases e with e | e
    · omega
    · cases e
  have hB : ∀ x, B' = some x -> h.size <= x := fun x hx => by
    rcases kin with k | k | ⟨b, k, k2⟩
    · rw [k] at hx; cases hx
    · rw [k] at hx; cases hx
    · rw [k] at hx; cases hx; omega
  have keepCh : ∀ y ∈ Z, C.Ch h' y.p y.vs y.B := fun y hy => by
    have q := ((z1.ch y hy).only stp.only (fun e => (z1.ch_ft hy e).1 rfl) fun b hb e => (z1.ch_ft hy e).2 hb)
    exact q.only o (oB _ (l3 y hy).1) fun b hb => oB _ ((l3 y hy).2 b hb)
  have ft' : ∀ b, FT tn rs' es' b -> b ≠ p ∧ R b := fun b hb => by
    rcases stp.new b hb with e | e
    · have := l2 b e
      refine ⟨by omega, ?_⟩
      rcases e with e | e | e
      · subst e; exact z.rt
      · exact z.rr b e
      · exact z.re b e
    · exact ⟨by omega, hR b (by omega)⟩
  refine ⟨{ sb := ?_, th := th.only o fun b hb e => ?_, ok := ok, ch := fun y hy => ?_, get := fun y hy => ?_, all := fun k v hk => ?_, srt := sort_set z.srt, pd := pw_set z.srt z.pd fun y hy hc => ?_, bd := pw_set z.srt z.bd fun y hy hc => ?_, wf := fun y hy => ?_, us := hus, sl := z.sl, rl := hrl, rn := z.rn, rt := z.rt, rr := fun b hb => (ft' b (.inr (.inl hb))).2, re := fun b hb => (ft' b (.inr (.inr hb))).2, rp := fun y hy => ?_ }, ?_⟩
  · exact o.block (stp.only.block z1.sb fun e => z1.n_ft e rfl) (oB n l1)
  · rcases e with e | e
    · exact (ft' b hb).1 e
    · cases e
  · rcases (mem_setZ z).1 hy with e | ⟨e, e2⟩
    · subst e; exact ch
    · exact keepCh y e
  · rw [hget]
    rcases (mem_setZ z).1 hy with e | ⟨e, e2⟩
    · subst e; rw [if_pos rfl]
    · rw [if_neg]
      · exact z.get y e
      · intro he
        rw [kL_keyB, kL_keyB] at he
        exact e2 (key_inj (z.wf y e).1 hc he)
  · rw [hget] at hk
    split at hk
    · rename_i he
      exact ⟨_, (mem_setZ z).2 (.inl rfl), by rw [he, kL_keyB]⟩
    · obtain ⟨y, hy, e⟩ := z.all k v hk
      exact ⟨y, (mem_setZ z).2 (.inr ⟨hy, hcne y hy⟩), e⟩
  · have := (l3 y hy).1
    exact ⟨by simp only; omega, by simp only; omega⟩
  · refine ⟨fun x hx hy2 => ?_, fun x hx hy2 => ?_⟩
    · have := hB x hx; have := (l3 y hy).2 x hy2; omega
    · have := hB x hy2; have := (l3 y hy).2 x hx; omega
  · rcases (mem_setZ z).1 hy with e | ⟨e, e2⟩
    · subst e; exact ⟨hc, vok⟩
    · exact z.wf y e
  · rcases (mem_setZ z).1 hy with e | ⟨e, e2⟩
    · subst e; exact ⟨hR _ hp, fun x hx => hR x (hB x hx)⟩
    · exact z.rp y e
  · have a1 : SOnly R h h1 := SOnly.of e1
    have a2 : SOnly R h1 h2 := stp.only.mono fun b _ e => by
      obtain ⟨ty, q1, q2⟩ := ft_ty z1.th e
      refine ⟨?_, ty, ?_, q1⟩
      · rcases e with e | e | e
        · subst e; exact z.rt
        · exact z.rr b e
        · exact z.re b e
      · rcases q2 with rfl | rfl
        · exact .inr (.inl rfl)
        · exact .inr (.inr (.inl rfl))
    exact Only.trans (SOnly.trans a1 a2) o fun m hm e => absurd e (oB m hm)
end
theorem lastE_newest {vs : List Ver} : C.lastE vs = (C.newestM vs).2.1 := by
  unfold C.lastE C.newestM
  cases vs.getLast? <;> rfl
theorem lay_last (vs : List Ver) (x : Ver) : (C.layM vs x).getLast? = some x := by
  unfold C.layM
  split <;> simp
theorem lay_newest (vs : List Ver) (x : Ver) : C.newestM (C.layM vs x) = (x.value, x.epoch, !x.dead) := by
  unfold C.newestM; rw [lay_last]
theorem lay_len (vs : List Ver) (x : Ver) : ((C.layM vs x).length : Int) = vs.length + C.layN vs x := by
  unfold C.layM C.layN
  split
  · rename_i h
    have := List.length_pos_iff.2 h.1
    simp; omega
  · simp
theorem layN_range (vs : List Ver) (x : Ver) : C.layN vs x = 0 ∨ C.layN vs x = 1 := by
  unfold C.layN; split <;> simp
theorem lay_units (vs : List Ver) (x : Ver) : ((unitsV (C.layM vs x) : Nat) : Int) = vs.length + C.layN vs x + (if x.dead then 0 else 1) := by
  unfold unitsV alive
  rw [lay_newest]
  have := lay_len vs x
  cases x.dead <;> simp <;> omega
theorem lay_alive (vs : List Ver) (x : Ver) : aliveN (C.layM vs x) = if x.dead then 0 else 1 := by
  unfold aliveN alive
  rw [lay_newest]
  cases x.dead <;> simp
theorem units_eq (vs : List Ver) : unitsV vs = vs.length + aliveN vs := rfl
theorem last_le {vs : List Ver} (hr : C.Rise vs) : ∀ v ∈ vs, v.epoch <= C.lastE vs := fun v hv => by
  unfold C.lastE
  have hn : vs ≠ [] := fun e => by rw [e] at hv; cases hv
  rw [List.getLast?_eq_some_getLast hn]
  obtain ⟨i, hi⟩ := List.mem_iff_getElem?.1 hv
  have hl := C.last_get hn
  have h1 := (List.getElem?_eq_some_iff.1 hi).1
  by_cases e : i = vs.length - 1
  · rw [e, hl] at hi; cases hi; exact Int.le_refl _
  · have := hr.lt (show i < vs.length - 1 by omega) hi hl
    simp only; omega
theorem lastE_get {vs : List Ver} (hn : vs ≠ []) : C.lastE vs = (vs.getLast hn).epoch := by
  unfold C.lastE; rw [List.getLast?_eq_some_getLast hn]
theorem lay_ok {vs : List Ver} {x : Ver} (h : vs = [] ∨ VOk vs) (he : C.lastE vs <= x.epoch ∨ vs = []) (hd : x.dead = true -> x.value = zA) (h1 : 1 <= x.epoch) (h2 : x.epoch <= 1099511627776) : VOk (C.layM vs x) := by
  have hr : C.Rise vs := by
    rcases h with h | h
    · subst h; exact List.Pairwise.nil
    · exact h.rise
  have hdd : ∀ v ∈ vs, (v.dead = true -> v.value = zA) ∧ 1 <= v.epoch ∧ v.epoch <= 1099511627776 := fun v hv => by
    rcases h with h | h
    · subst h; cases hv
    · exact ⟨h.dead v hv, h.ep v hv⟩
  have hlast := last_le hr
  have hmem : ∀ v ∈ C.layM vs x, v = x ∨ v ∈ vs := fun v hv => by
    unfold C.layM at hv
    split at hv
    · rcases List.mem_append.1 hv with e | e
      · exact .inr ((List.dropLast_sublist vs).subset e)
      · exact .inl (List.mem_singleton.1 e)
    · rcases List.mem_append.1 hv with e | e
      · exact .inr e
      · exact .inl (List.mem_singleton.1 e)
  refine ⟨fun e => ?_, ?_, fun v hv => ?_, fun v hv => ?_⟩
  · have := lay_last vs x
    rw [e] at this; cases this
  · unfold C.layM
    split
    · rename_i g
      refine List.pairwise_append.2 ⟨List.Pairwise.sublist (List.dropLast_sublist vs) hr, List.pairwise_singleton _ _, fun a ha b hb => ?_⟩
      obtain rfl := List.mem_singleton.1 hb
      have hd2 : vs = vs.dropLast ++ [vs.getLast g.1] := (List.dropLast_concat_getLast g.1).symm
      have hr2 := hr
      unfold C.Rise at hr2
      rw [hd2] at hr2
      have := (List.pairwise_append.1 hr2).2.2 a ha (vs.getLast g.1) (by simp)
      have hl := lastE_get g.1
      have := g.2
      omega
    · rename_i g
      refine List.pairwise_append.2 ⟨hr, List.pairwise_singleton _ _, fun a ha b hb => ?_⟩
      obtain rfl := List.mem_singleton.1 hb
      have hn : vs ≠ [] := fun e => by rw [e] at ha; cases ha
      have h3 := hlast a ha
      have h4 : C.lastE vs ≠ b.epoch := fun e => g ⟨hn, e⟩
      rcases he with he | he
      · omega
      · exact absurd he hn
  · rcases hmem v hv with e | e
    · subst e; exact hd
    · exact (hdd v e).1
  · rcases hmem v hv with e | e
    · subst e; exact ⟨h1, h2⟩
    · exact (hdd v e).2
theorem set_units {S : SL} (hs : SortS S) (c : Cel) (vs : List Ver) : unitsS (setS S c vs) + unitsV ((getS S c).getD []) = unitsS S + unitsV vs := by
  have := sum_set (key := fun x : Cel × List Ver => x.1) (x := (c, vs)) (fun x => unitsV x.2) hs
  have e : ((getK (fun x : Cel × List Ver => x.1) S c).map fun x => unitsV x.2).getD 0 = unitsV ((getS S c).getD []) := by
    unfold getS
    cases getK (fun x : Cel × List Ver => x.1) S c <;> rfl
  rw [← e]; exact this
theorem set_there {S : SL} (hs : SortS S) (c : Cel) (vs : List Ver) : thereS (setS S c vs) + aliveN ((getS S c).getD []) = thereS S + aliveN vs := by
  have := sum_set (key := fun x : Cel × List Ver => x.1) (x := (c, vs)) (fun x => aliveN x.2) hs
  have e : ((getK (fun x : Cel × List Ver => x.1) S c).map fun x => aliveN x.2).getD 0 = aliveN ((getS S c).getD []) := by
    unfold getS
    cases getK (fun x : Cel × List Ver => x.1) S c <;> rfl
  rw [← e]; exact this
theorem toS_set (Z : List Rec) (r : Rec) : toS (setK Rec.c Z r) = setS (toS Z) r.c r.vs :=
  map_set (key := Rec.c) (key' := fun x : Cel × List Ver => x.1) (fun r : Rec => (r.c, r.vs)) (fun _ => rfl) Z
theorem need_lay (o : Option (List Ver)) (e : Int) (x : Ver) (hx : x.epoch = e) (hd : x.dead = false) (hn : ¬ (C.newestM (o.getD [])).2.1 > e) (ho : ∀ vs, o = some vs -> vs ≠ []) : needV o e = C.layN (o.getD []) x + 1 - aliveN (o.getD []) := by
  cases o with
  | none => rfl
  | some vs =>
    have hne := ho vs rfl
    simp only [Option.getD_some] at hn ⊢
    unfold needV
    simp only
    rw [if_neg hn]
    by_cases h1 : (C.newestM vs).2.1 = e
    · have hl : C.layN vs x = 0 := by unfold C.layN; rw [if_pos ⟨hne, by rw [lastE_newest, hx]; exact h1⟩]
      rw [hl]
      unfold aliveN
      by_cases h2 : alive vs = true
      · rw [if_pos ⟨h1, h2⟩, if_pos h2]; rfl
      · rw [if_neg (fun h => h2 h.2), if_pos (.inl h1), if_neg h2]; rfl
    · have hl : C.layN vs x = 1 := by unfold C.layN; rw [if_neg (fun h => h1 (by rw [← lastE_newest, ← hx]; exact h.2))]
      rw [hl, if_neg (fun h => h1 h.1)]
      unfold aliveN
      by_cases h2 : alive vs = true
      · rw [if_pos (.inr h2), if_pos h2]; rfl
      · rw [if_neg (fun h => h.elim h1 h2), if_neg h2]; rfl
end Go.Proofs.YtjjchpaomgmmdaaGreat.V.S
