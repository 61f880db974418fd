/- Who holds an epoch, all that are held; an epoch let go; no condition. -/
import Derived.Test.YtgcmojbajjajgaaGreatEb
namespace Go.Proofs.YtgcmojbajjajgaaGreat.V
open Go Go.Proofs.YtgcmojbajjajgaaGreat.V.N
set_option maxRecDepth 20000
set_option linter.unusedVariables false
set_option linter.unusedSimpArgs false
theorem w64n {n : Nat} (h : n < 9223372036854775807) : IntKind.wrap .i64 ((n : Int) + 1) = ((n + 1 : Nat) : Int) := by
  rw [w64 (by omega) (by omega)]; omega
theorem sk_uS {S : List Int} (s : SK (uS S)) : S.Pairwise (· < ·) := by
  unfold SK uS at s
  rw [List.pairwise_map] at s; exact s
theorem getK_uS (S : List Int) (e : Int) : N.getK (uS S) e = if e ∈ S then some uV else none := by
  induction S with
  | nil => rfl
  | cons a r ih =>
    unfold N.getK at ih ⊢
    simp only [List.map_cons, List.find?_cons]
    by_cases h : e = a
    · subst h; simp
    · have : (e == a) = false := by simpa using h
      rw [this]
      simp only [List.mem_cons, h, false_or]
      exact ih
theorem keys_uS (S : List Int) : (uS S).map (·.1) = S := by simp [uS, List.map_map, Function.comp_def]
theorem make0_of {h : H} {t : TypeId} {K : Value → H → Prop} (k : ∀ b h', b = h.size → MS h' b [] → Ext h h' → h'.size = h.size + 1 → K (.map (some b)) h') : RunS PP (Instr.makeMap t none) h K := makeS_of (kt := 0) (et := 0) (.inl rfl) k
theorem zvU : ∀ w, (zeroValue 50).run PP w = .ok uV w := Tryz.zeroValue50
section
variable {lk : Int} {h : H} {n db : Nat} {bs : List Nat} {B : Bk}
/-- A look into an owner's set. -/
theorem look_set {m : Nat} {S : List Int} {e : Int} {K : Value → H → Prop} (ms : MS h m (uS S)) (k : K (.tuple #[uV, .bool (decide (e ∈ S))]) h) : RunS PP (Instr.lookup tn_map_int_struct (.map (some m)) (.int .i64 e) true) h K := by
  refine lookS_of mt_map_int_struct intT zvU ms ?_
  rw [getK_uS]
  by_cases he : e ∈ S
  · simpa [he] using k
  · simpa [he] using k
theorem new_empty {h : H} {K : H → Prop} {x : S_sync_noCopy} (k : ∀ h', Ext h h' → K h') : new h ((⟨⟩ : S_sync_noCopy).cells.toArray) tn_struct fun a h9 => stH h9 a x.cells fun h11 => K h11 := by
  refine new_of fun a h9 _ _ e9 _ => ⟨fun j hj => absurd hj (by simp [S_sync_noCopy.cells]), ?_⟩
  exact k _ e9
theorem has_spec {o e : Int} {Q : Bool → H → Prop} (b : BH lk h n bs db B) (h0 : 0 ≤ o) (h1 : o < 65) {x : List Int × Int} (hx : B.os[o.toNat]? = some x) (k : ∀ h', BH lk h' n bs db B → Ext h h' → Q (decide (e ∈ x.1)) h') :
    F.epoch_Book_has (some ⟨n, 0, none⟩) o e h Q := by
  obtain ⟨m, y, hm, hy, hw, ms⟩ := b.ow (i := o.toNat) (by omega)
  rw [hx] at hy; cases hy
  unfold F.epoch_Book_has
  simp only [nn_some, add_lit, Nat.zero_add, Nat.add_zero]
  refine ⟨⟨h0, h1⟩, ?_⟩
  refine (ldM_iff (n := some m) (b.cmap hm hx)).2 ?_
  refine look_set ms ⟨⟨⟩, _, rfl, ?_⟩
  exact new_empty fun h' e' => k h' (b.ext e') e'
/-! ### IndexFunc over the owners -/
theorem index_spec {L : List S_epoch_owner} {v : Value} {p : Nat → Bool} {Q : Int → H → Prop} (hl : L.length = 65) (hc : Cells h ⟨n, 4, none⟩ (L.flatMap S_epoch_owner.cells))
    (hv : ∀ i x h' K, L[i]? = some x → Ext h h' → (∀ h'', Ext h' h'' → K (.bool (p i)) h'') → CV PP v [.agg x.cells.toArray] h' K)
    (k : ∀ r h', Ext h h' → decide (r ≥ 0) = (List.range 65).any p → Q r h') : F.slices_IndexFunc_Slepoch_owner_epoch_owner ⟨some ⟨n, 4, none⟩, 65, 65⟩ v h Q := by
  unfold F.slices_IndexFunc_Slepoch_owner_epoch_owner
  refine ⟨66, ?_⟩
  have key : ∀ (m i : Nat) (h' : H), i ≤ 65 → 65 - i < m → Ext h h' → (List.range 65).any p = ((List.range 65).drop i).any p → F.slices_IndexFunc_Slepoch_owner_epoch_owner.l1 Q m ⟨some ⟨n, 4, none⟩, 65, 65⟩ v ((65 : Nat) : Int) (i : Int) h' := by
    intro m
    induction m with
    | zero => intro i h' _ hm; omega
    | succ m ih =>
      intro i h' hi hm e hp
      unfold F.slices_IndexFunc_Slepoch_owner_epoch_owner.l1
      simp only [decide_eq_true_eq, decide_eq_false_iff_not]
      refine ⟨fun g => ?_, fun g => ?_⟩
      · obtain ⟨x, hx⟩ : ∃ x, L[i]? = some x := ⟨_, List.getElem?_eq_getElem (by omega)⟩
        refine idxR_of (i := i) (p := ⟨n, 4, none⟩) rfl (by show i < 65; omega) rfl ?_
        refine ⟨x, fun j u hu => ?_, ?_⟩
        · have := hc (i * 2 + j) u (by rw [flat_get _ 2 ow_len _ i x hx j (by have := (List.getElem?_eq_some_iff.1 hu).1; rwa [ow_len] at this)]; exact hu)
          rw [add_lit] at this
          rw [add_lit, add_lit, Nat.add_assoc]
          exact e.cell this (fun f => f)
        · have hd : (List.range 65).drop i = i :: (List.range 65).drop (i + 1) := by
            rw [List.drop_eq_getElem_cons (by simp; omega)]; simp
          refine hv i x h' _ hx e fun h'' e'' => ⟨p i, rfl, fun hpi => ?_, fun hpi => ?_⟩
          · refine k _ _ (e.trans e'') ?_
            rw [hp, hd]
            simp [hpi]
          · rw [w64n (by omega)]
            refine ih (i + 1) h'' (by omega) (by omega) (e.trans e'') ?_
            rw [hp, hd]; simp [hpi]
      · refine k _ _ e ?_
        have : i = 65 := by omega
        subst this
        rw [hp, List.drop_of_length_le (by simp)]
        simp
  exact key 66 0 h (by omega) (by omega) (.refl _) (by simp)
theorem contains_spec {L : List S_epoch_owner} {v : Value} {p : Nat → Bool} {Q : Bool → H → Prop} (hl : L.length = 65) (hc : Cells h ⟨n, 4, none⟩ (L.flatMap S_epoch_owner.cells))
    (hv : ∀ i x h' K, L[i]? = some x → Ext h h' → (∀ h'', Ext h' h'' → K (.bool (p i)) h'') → CV PP v [.agg x.cells.toArray] h' K)
    (k : ∀ h', Ext h h' → Q ((List.range 65).any p) h') : F.slices_ContainsFunc_Slepoch_owner_epoch_owner ⟨some ⟨n, 4, none⟩, 65, 65⟩ v h Q := by
  unfold F.slices_ContainsFunc_Slepoch_owner_epoch_owner
  exact index_spec hl hc hv fun r h' e he => he ▸ k h' e
theorem any_range {α : Type} (q : α → Bool) : ∀ (l : List α), (List.range l.length).any (fun i => (l[i]?).any q) = l.any q := by
  intro l
  rw [Bool.eq_iff_iff, List.any_eq_true, List.any_eq_true]
  constructor
  · rintro ⟨i, hi, h⟩
    simp only [List.mem_range] at hi
    rw [List.getElem?_eq_getElem hi] at h
    exact ⟨l[i], List.getElem_mem _, by simpa using h⟩
  · rintro ⟨x, hx, h⟩
    obtain ⟨i, hi⟩ := List.mem_iff_getElem?.1 hx
    exact ⟨i, by simpa using (List.getElem?_eq_some_iff.1 hi).1, by rw [hi]; simpa using h⟩
/-- Is it in somebody's set? -/
def pinB (B : Bk) (e : Int) : Bool := B.os.any fun x => decide (e ∈ x.1)
def inB (B : Bk) (e : Int) : Bool := B.os.any fun x => x.2 == e
def heldB (B : Bk) (e : Int) : Bool := pinB B e || inB B e
theorem pinned_spec {e : Int} {Q : Bool → H → Prop} (b : BH lk h n bs db B) (k : ∀ h', BH lk h' n bs db B → Ext h h' → Q (pinB B e) h') : F.epoch_Book_pinned (some ⟨n, 0, none⟩) e h Q := by
  unfold F.epoch_Book_pinned
  refine new_of fun a h1 ha ba e1 _ => ⟨_, rfl, ?_⟩
  refine contains_spec (h := h1) (p := fun i => (B.os[i]?).any fun x => decide (e ∈ x.1)) (b.ext e1).low (b.ext e1).cells (fun i x h' K hx e2 kk => ?_) fun h' e2 => ?_
  · have b2 := (b.ext e1).ext e2
    have hi : i < 65 := by have := (List.getElem?_eq_some_iff.1 hx).1; rwa [b.low] at this
    obtain ⟨m, y, hm, hy, hw, ms⟩ := b2.ow hi
    rw [hx] at hw; cases hw
    refine CV_func no_epoch_Book_pinned_1_call ?_
    refine (F.epoch_Book_pinned_1_ok (p0 := ⟨some m, y.2⟩) (p1 := ⟨a, 0, none⟩) (Q := fun r h'' => K (.bool r) h'') ?_).mono fun r h'' ⟨r0, e0, q⟩ => by rw [e0]; exact q
    unfold F.epoch_Book_pinned_1
    refine new_of fun a2 h3 _ b3 e3 _ => ?_
    refine (ldM_iff (n := some m) (b3.cell (i := 0) rfl)).2 ?_
    have ba3 := (e2.trans e3).block ba (fun f => f)
    refine (ldI_iff (show cellH h3 ⟨a, 0, none⟩ = some (.int .i64 e) from (show Blk h3 a _ _ from ba3).cell (i := 0) rfl)).2 ?_
    refine look_set (ms.ext e3) ⟨⟨⟩, _, rfl, ?_⟩
    refine new_empty fun h4 e4 => ?_
    have hg : ((B.os[i]?).any fun x => decide (e ∈ x.1)) = decide (e ∈ y.1) := by rw [hy]; rfl
    have := kk h4 (e3.trans e4)
    rwa [hg] at this
  · have := any_range (fun x : List Int × Int => decide (e ∈ x.1)) B.os
    rw [b.lo] at this
    rw [this]
    exact k h' ((b.ext e1).ext e2) (e1.trans e2)
theorem held_spec {e : Int} {Q : Bool → H → Prop} (b : BH lk h n bs db B) (k : ∀ h', BH lk h' n bs db B → Ext h h' → Q (heldB B e) h') : F.epoch_Book_held (some ⟨n, 0, none⟩) e h Q := by
  unfold F.epoch_Book_held
  refine new_of fun a h1 ha ba e1 _ => ?_
  refine (ldI_iff (n := e) (ba.cell (i := 0) rfl)).2 ?_
  refine pinned_spec (b.ext e1) fun h2 b2 e2 => ⟨fun hp => ?_, fun hp => ⟨_, rfl, ?_⟩⟩
  · have := k h2 b2 (e1.trans e2)
    rwa [show heldB B e = true from by simp [heldB, hp]] at this
  · refine contains_spec (h := h2) (p := fun i => (B.os[i]?).any fun x => x.2 == e) b2.low b2.cells (fun i x h' K hx e3 kk => ?_) fun h' e3 => ?_
    · have b3 := b2.ext e3
      have hi : i < 65 := by have := (List.getElem?_eq_some_iff.1 hx).1; rwa [b2.low] at this
      obtain ⟨m, y, hm, hy, hw, ms⟩ := b3.ow hi
      rw [hx] at hw; cases hw
      refine CV_func no_epoch_Book_held_1_call ?_
      refine (F.epoch_Book_held_1_ok (p0 := ⟨some m, y.2⟩) (p1 := ⟨a, 0, none⟩) (Q := fun r h'' => K (.bool r) h'') ?_).mono fun r h'' ⟨r0, e0, q⟩ => by rw [e0]; exact q
      unfold F.epoch_Book_held_1
      refine new_of fun a2 h4 _ b4 e4 _ => ?_
      refine (ldI_iff (n := y.2) (b4.cell (i := 1) rfl)).2 ?_
      have ba4 := ((e2.trans e3).trans e4).block ba (fun f => f)
      refine (ldI_iff (show cellH h4 ⟨a, 0, none⟩ = some (.int .i64 e) from (show Blk h4 a _ _ from ba4).cell (i := 0) rfl)).2 ?_
      have hg : ((B.os[i]?).any fun x => x.2 == e) = (y.2 == e) := by rw [hy]; rfl
      have := kk h4 e4
      rwa [hg] at this
    · have := any_range (fun x : List Int × Int => x.2 == e) B.os
      rw [b.lo] at this
      rw [this]
      have := k h' (b2.ext e3) ((e1.trans e2).trans e3)
      rwa [show heldB B e = inB B e from by simp [heldB, hp]] at this
/-! ### What dies -/
def putD : List (Int × Int) → Int → Int → List (Int × Int)
  | [], k, v => [(k, v)]
  | p :: r, k, v => if k < p.1 then (k, v) :: p :: r else if k = p.1 then (k, v) :: r else p :: putD r k v
theorem dS_put (k v : Int) : ∀ D, putS (dS D) k (.int .i64 v) = dS (putD D k v)
  | [] => rfl
  | p :: r => by
    simp only [dS, List.map_cons, putS, putD]
    split
    · rfl
    · split
      · rfl
      · rw [List.map_cons]; congr 1; exact dS_put k v r
def letB (B : Bk) (e : Int) : Bk := if heldB B e then B else { B with die := putD B.die e 0 }
theorem BH.redie {h' : H} {D : List (Int × Int)} (b : BH lk h n bs db B) (o : Only (· = db) h h') (d : MS h' db (dS D)) : BH lk h' n bs db { B with die := D } := by
  obtain ⟨q, t⟩ := b.tb
  refine ⟨⟨q, o.block t (fun e => b.nd' e.symm)⟩, b.lb, b.lo, fun i m x hm hx => (b.sets i m x hm hx).only o (fun e => ?_), d, b.nd⟩
  have := (List.nodup_cons.1 b.nd).1
  subst e; exact this (List.mem_of_getElem? hm)
theorem let_spec {e : Int} {Q : H → Prop} (b : BH lk h n bs db B) (k : ∀ h', BH lk h' n bs db (letB B e) → Only (· = db) h h' → Q h') : F.epoch_Book_let (some ⟨n, 0, none⟩) e h Q := by
  unfold F.epoch_Book_let
  refine held_spec b fun h1 b1 e1 => ⟨fun g => ⟨_, rfl, ?_⟩, fun g => ?_⟩
  · have hh : heldB B e = false := by simpa using g
    refine (ldM_iff (n := some db) b1.cd).2 ?_
    refine updS_of mt_map_int_int intT b1.dy fun h2 m2 o2 _ => ?_
    rw [dS_put] at m2
    refine k h2 ?_ ((e1.only (S := fun m => m = db)).trans o2 fun _ _ e => e)
    rw [letB, hh]
    exact b1.redie o2 m2
  · have hh : heldB B e = true := by simpa using g
    refine k h1 ?_ e1.only
    rw [letB, hh]; exact b1
/-! ### All that are held -/
def addO (l : KL) (x : List Int × Int) : KL := if x.2 ≠ 0 then putS (putAll l x.1) x.2 uV else putAll l x.1
def heldK (B : Bk) : KL := B.os.foldl addO []
def heldL (B : Bk) : List Int := (heldK B).map (·.1)
theorem sk_addO {l : KL} {x : List Int × Int} (s : SK l) : SK (addO l x) := by
  unfold addO
  split
  · exact sk_putS (sk_putAll s)
  · exact sk_putAll s
theorem mem_addO {l : KL} {x : List Int × Int} {p : Int × Value} (s : SK l) (hu : ∀ q ∈ l, q.2 = uV) : p ∈ addO l x ↔ p ∈ l ∨ (p.2 = uV ∧ (p.1 ∈ x.1 ∨ (p.1 = x.2 ∧ x.2 ≠ 0))) := by
  unfold addO
  split
  · rename_i h
    rw [mem_putS (sk_putAll s), mem_putAll s hu]
    obtain ⟨a, b⟩ := p
    simp only [Prod.mk.injEq]
    constructor
    · rintro (⟨rfl, rfl⟩ | ⟨h1 | ⟨h1, rfl⟩, _⟩)
      · exact .inr ⟨rfl, .inr ⟨rfl, h⟩⟩
      · exact .inl h1
      · exact .inr ⟨rfl, .inl h1⟩
    · rintro (h1 | ⟨rfl, h1 | ⟨rfl, _⟩⟩)
      · by_cases e : a = x.2
        · subst e; exact .inl ⟨rfl, hu _ h1⟩
        · exact .inr ⟨.inl h1, e⟩
      · by_cases e : a = x.2
        · subst e; exact .inl ⟨rfl, rfl⟩
        · exact .inr ⟨.inr ⟨h1, rfl⟩, e⟩
      · exact .inl ⟨rfl, rfl⟩
  · rename_i h
    rw [mem_putAll s hu]
    constructor
    · rintro (h1 | ⟨h1, h2⟩)
      · exact .inl h1
      · exact .inr ⟨h2, .inl h1⟩
    · rintro (h1 | ⟨h2, h1 | ⟨_, h1⟩⟩)
      · exact .inl h1
      · exact .inr ⟨h1, h2⟩
      · exact absurd h1 h
theorem fold_addO : ∀ (os : List (List Int × Int)) (l : KL), SK l → (∀ q ∈ l, q.2 = uV) → SK (os.foldl addO l) ∧ (∀ q ∈ os.foldl addO l, q.2 = uV) ∧ ∀ a, (a, uV) ∈ os.foldl addO l ↔ (a, uV) ∈ l ∨ ∃ x ∈ os, a ∈ x.1 ∨ (a = x.2 ∧ x.2 ≠ 0)
  | [], l, s, hu => ⟨s, hu, fun a => by simp⟩
  | x :: os, l, s, hu => by
    have hu2 : ∀ q ∈ addO l x, q.2 = uV := fun q hq => by
      rcases (mem_addO s hu).1 hq with h | ⟨h, _⟩
      · exact hu q h
      · exact h
    obtain ⟨h1, h2, h3⟩ := fold_addO os (addO l x) (sk_addO s) hu2
    refine ⟨h1, h2, fun a => ?_⟩
    rw [List.foldl_cons, h3 a, mem_addO s hu]
    simp only [true_and, List.mem_cons, exists_eq_or_imp]
    rw [or_assoc]
theorem heldL_sorted (B : Bk) : (heldL B).Pairwise (· < ·) := by
  have := (fold_addO B.os [] (by simp [SK]) (by simp)).1
  unfold SK at this
  unfold heldL; rw [List.pairwise_map]; exact this
theorem mem_heldL {B : Bk} {a : Int} : a ∈ heldL B ↔ ∃ x ∈ B.os, a ∈ x.1 ∨ (a = x.2 ∧ x.2 ≠ 0) := by
  obtain ⟨h1, h2, h3⟩ := fold_addO B.os [] (by simp [SK]) (by simp)
  have := h3 a
  simp only [List.not_mem_nil, false_or] at this
  rw [← this]
  unfold heldL heldK
  rw [List.mem_map]
  constructor
  · rintro ⟨p, hp, rfl⟩
    have := h2 p hp
    obtain ⟨x, y⟩ := p
    simp only at this; subst this; exact hp
  · intro h; exact ⟨_, h, rfl⟩
theorem all_spec {Q : Sl → H → Prop} (b : BH lk h n bs db B) (hs : (heldL B).length < 1073741824) (k : ∀ r h', Owns h' r 3 1 ((heldL B).flatMap cI) → Ext h h' → Mine h r → Q r h') : F.epoch_Book_all (some ⟨n, 0, none⟩) h Q := by
  unfold F.epoch_Book_all
  refine make0_of fun l h1 hl m1 e1 sz1 => ⟨_, rfl, _, rfl, ?_⟩
  have b1 := b.ext e1
  have hlen : ((owL bs B.os).flatMap S_epoch_owner.cells).length = 130 := by rw [flat_len _ 2 ow_len, b.low]
  refine ⟨owL bs B.os, hlen, b.low, b1.cells, 66, ?_⟩
  have hlb : ∀ m ∈ bs, l ≠ m := fun m hm e => by
    have := b.lt m (.inr (.inr hm)); omega
  have key : ∀ (m i : Nat) (h' : H), i ≤ 65 → 65 - i < m → Only (· = l) h1 h' → MS h' l ((B.os.take i).foldl addO []) → F.epoch_Book_all.l1 Q m (some l) (owL bs B.os) (i : Int) h' := by
    intro m
    induction m with
    | zero => intro i h' _ hm; omega
    | succ m ih =>
      intro i h' hi hm o ml
      unfold F.epoch_Book_all.l1
      simp only [decide_eq_true_eq, decide_eq_false_iff_not]
      refine ⟨fun g => ?_, fun g => ?_⟩
      · have b' : BH lk h' n bs db B := b1.only o fun x hx e => by
          have := b.lt x hx; omega
        obtain ⟨c, x, hc, hx, hw, ms⟩ := b'.ow (i := i) (by omega)
        refine ⟨⟨some c, x.2⟩, ⟨by omega, by omega, b.low, by simpa using hw⟩, ?_⟩
        refine new_of fun a2 h2 ha2 k2 e2 sz2 => ?_
        refine stH_of k2 (by simp [S_epoch_owner.cells]) fun h3 k3 o3 sz3 => ?_
        refine (ldM_iff (n := some c) (k3.cell (i := 0) rfl)).2 ?_
        have hne2 : ∀ {y : Nat} {L : KL}, MS h' y L → y ≠ a2 := fun my e => by have := my.lt; omega
        have ml3 := (ml.ext e2).only o3 (hne2 ml)
        have ms3 := (ms.ext e2).only o3 (hne2 ms)
        obtain ⟨f1, f2, _⟩ := fold_addO (B.os.take i) [] (by simp [SK]) (by simp)
        refine copy_spec ml3 ms3 (hlb c (List.mem_of_getElem? hc)) f2 (fun q hq => by obtain ⟨z, _, rfl⟩ := List.mem_map.1 hq; rfl) fun h4 m4 o4 => ?_
        rw [keys_uS] at m4
        have hal : a2 ≠ l := fun e => by have := ml.lt; omega
        have k4 : Blk h4 a2 _ _ := o4.block k3 hal
        refine (ldI_iff (n := x.2) (k4.cell (i := 1) rfl)).2 ?_
        have htk : (B.os.take (i + 1)).foldl addO [] = addO ((B.os.take i).foldl addO []) x := by
          rw [List.take_add_one, hx]; simp
        have oo : Only (· = l) h1 h4 := by
          refine ((o.trans (e2.only (S := fun m => m = l)) fun _ _ e => e).trans (o3.mono (S' := fun m => m = a2) fun _ _ e => e) ?_).trans o4 fun _ _ e => e
          intro y hy e; have := o.size; omega
        refine ⟨fun g2 => ?_, fun g2 => ?_⟩
        · have hne : x.2 ≠ 0 := by simpa using g2
          refine (ldI_iff (n := x.2) (k4.cell (i := 1) rfl)).2 ?_
          refine updS_of mt_map_int_struct intT m4 fun h5 m5 o5 _ => ?_
          rw [w64n (by omega)]
          refine ih (i + 1) h5 (by omega) (by omega) (oo.trans o5 fun _ _ e => e) ?_
          rw [htk, addO, if_pos hne]; exact m5
        · have hne : x.2 = 0 := by simpa using g2
          rw [w64n (by omega)]
          refine ih (i + 1) h4 (by omega) (by omega) oo ?_
          rw [htk, addO, if_neg (fun h => h hne)]; exact m4
      · have : i = 65 := by omega
        subst this
        rw [← b.lo, List.take_length] at ml
        obtain ⟨f1, f2, _⟩ := fold_addO B.os [] (by simp [SK]) (by simp)
        have hs' : (B.os.foldl addO []).length < 1073741824 := by simpa [heldL, heldK] using hs
        have hext : Ext h h' := (e1.trans (.refl _)).step o fun y hy e => by omega
        refine sorted_is ml hs' (fun p hp => ⟨⟨⟩, f2 p hp⟩) fun r h2 o2 e2 m2 => k r h2 o2 (hext.trans e2) (m2.older hext)
  exact key 66 0 h1 (by omega) (by omega) (.refl _) m1
end
end Go.Proofs.YtgcmojbajjajgaaGreat.V
