/- Parts of the proof of ShardEdges; no condition. -/
import Derived.Test.YtoccbnhahaoeiaaQShardEdges2
namespace Go.Proofs.Ytoccbnhahaoeiaa.V.P
open Go Go.Proofs.Ytoccbnhahaoeiaa.V
set_option linter.unusedVariables false
set_option linter.unusedSimpArgs false
set_option maxRecDepth 20000
abbrev seqV (ka ma : Nat) : Value := .func (.func no_table_Table_chain_Chain_api_Agg_All_1) #[] #[.pointer (some ⟨ka, 0, none⟩), .pointer (some ⟨ma, 0, none⟩)]
/-- What a table's iterator does, called with a loop's yield. -/
theorem seq_core {h1 : H} {ka ma b l : Nat} {r : Sl} {L : List (ByteArray × Option Addr)} {js : List Code} {R : LoopState → Option Code → Obj} {BB : Nat → ByteArray → Option Addr → H → (H → Prop) → (Nat → H → Prop) → Prop} {Kn : H → Prop} {Kj : Nat → H → Prop} (I : Nat → H → Prop) (E : Nat → H → Prop) (hR : ∀ s p, ∃ r, R s p = .loop r)
    (hst : ∀ i h' h'', I i h' → Only (· = l) h' h'' → I i h'') (hstE : ∀ j h' h'', E j h' → Only (· = l) h' h'' → E j h'') (hown : ∀ i h', I i h' → SeqH h' ka ma b r L)
    (hB : ∀ (X : Obj) (i : Nat) (x : ByteArray × Option Addr) (h5 : H) (K : H → Prop) (J : Nat → H → Prop), (∃ r, X = .loop r) → I i h5 → h5[l]? = some X → L[i]? = some x → (∀ h2, I (i + 1) h2 → h2[l]? = some X → K h2) → (∀ j h2, E j h2 → h2[l]? = some X → J j h2) → BB l x.1 x.2 h5 K J)
    (hn : ∀ h', I L.length h' → Kn h') (hj : ∀ j h', E j h' → ∃ c, js[j]? = some c ∧ Kj j h')
    (hy : yields PP R l js (fun bg l args h' K J => ∃ (k : ByteArray), ∃ (v : Option Addr), args = [.string k, .pointer v] ∧ bg h' fun h5 => BB l k v h5 K J)) (h0 : I 0 h1) (hr : h1[l]? = some (R .ready none)) :
    F.table_Table_chain_Chain_api_Agg_All_1 (.func (.yield l) #[] #[]) ⟨ka, 0, none⟩ ⟨ma, 0, none⟩ h1 (rngEnd R l js Kn Kj) := by
  unfold F.table_Table_chain_Chain_api_Agg_All_1
  have s0 := hown 0 h1 h0
  rw [ldL_iff (s0.kb.cell (i := 0) rfl)]
  have hlen := s0.len
  have hrl := own_len cT_len (by omega) s0.ko
  rw [List.length_map] at hrl
  refine ⟨L.length + 1, ?_⟩
  rw [hrl]
  have key : ∀ (m i : Nat) (h' : H), i ≤ L.length → L.length - i < m → I i h' → h'[l]? = some (R .ready none) → F.table_Table_chain_Chain_api_Agg_All_1.l1 (rngEnd R l js Kn Kj) m (.func (.yield l) #[] #[]) ⟨ma, 0, none⟩ r (L.length : Int) (i : Int) h' := by
    intro m
    induction m with
    | zero => intro i h' _ hm; omega
    | succ m ih =>
      intro i h' hi hm hI hrd
      unfold F.table_Table_chain_Chain_api_Agg_All_1.l1
      simp only [decide_eq_true_eq, decide_eq_false_iff_not]
      refine ⟨fun g => ?_, fun g => ?_⟩
      · obtain ⟨x, hx⟩ : ∃ x, L[i]? = some x := ⟨_, List.getElem?_eq_getElem (by omega)⟩
        have si := hown i h' hI
        obtain ⟨M, m1, m2⟩ := si.mp
        obtain ⟨bb, a1, a2⟩ := own_at cT_len (by omega) si.ko (i := i) (x := x.1) (by rw [List.getElem?_map, hx]; rfl)
        refine idxA_of (i := i) a1 (by omega) rfl ?_
        rw [ldS_iff (by have := a2.one; rwa [Nat.mul_one] at this ⊢), ldM_iff (si.mb.cell (i := 0) rfl)]
        refine lookM_of (kt := 9) (et := _) (z := .pointer none) mt_map_string_chain_Chain_api_Agg Try.underlying9 (fun w => by kernel_rfl) m1 ?_
        rw [m2 x (List.mem_of_getElem? hx)]
        refine ⟨x.2, rfl, ?_⟩
        refine hy h' _ _ hrd ⟨x.1, x.2, rfl, hrd, ?_⟩
        refine hB (R .busy none) i x _ _ _ (hR _ _) (hst i h' _ hI (put_only h' l _)) (putAt_ hrd) hx (fun h4 hI4 hb4 => ⟨hb4, true, rfl, (fun h => by cases h), fun _ => ?_⟩) (fun j h4 hE hb4 => ?_)
        · rw [show IntKind.wrap .i64 ((i : Int) + 1) = ((i + 1 : Nat) : Int) from by rw [w64 (by omega) (by omega)]; omega]
          exact ih (i + 1) _ (by omega) (by omega) (hst (i + 1) h4 _ hI4 (put_only h4 l _)) (putAt_ hb4)
        · obtain ⟨c, hc, _⟩ := hj j h4 hE
          refine ⟨c, hc, hb4, false, rfl, fun _ => ?_, fun h => by cases h⟩
          have hE2 := hstE j h4 _ hE (put_only h4 l (R .done (some c)))
          have hp := putAt_ (o := R .done (some c)) hb4
          obtain ⟨c', hc', hk⟩ := hj j _ (hstE j _ _ hE2 (put_only _ l (R .exhausted (some c))))
          exact .inr ⟨j, c, hc, hp, hk⟩
      · have : i = L.length := by omega
        subst this
        exact .inl ⟨hrd, hn _ (hst _ h' _ hI (put_only h' l _))⟩
  exact key _ 0 h1 (by omega) (by omega) h0 hr
/-- A range over a table's sequence, outermost: h.size + 1 is the record's place, h.size that of the block for deferred calls. -/
theorem range_seq {h : H} {ka ma b : Nat} {r : Sl} {L : List (ByteArray × Option Addr)} {js : List Code} {BB : Nat → ByteArray → Option Addr → H → (H → Prop) → (Nat → H → Prop) → Prop} {Kn : H → Prop} {Kj : Nat → H → Prop} (I : Nat → H → Prop) (E : Nat → H → Prop)
    (hst : ∀ i h' h'', I i h' → Only (· = h.size + 1) h' h'' → I i h'') (hstE : ∀ j h' h'', E j h' → Only (· = h.size + 1) h' h'' → E j h'') (hown : ∀ i h', I i h' → SeqH h' ka ma b r L)
    (h0 : I 0 (h.push (.deferred (some []))))
    (hB : ∀ (X : Obj) (i : Nat) (x : ByteArray × Option Addr) (h5 : H) (K : H → Prop) (J : Nat → H → Prop), (∃ r, X = .loop r) → I i h5 → h5[h.size + 1]? = some X → L[i]? = some x → (∀ h2, I (i + 1) h2 → h2[h.size + 1]? = some X → K h2) → (∀ j h2, E j h2 → h2[h.size + 1]? = some X → J j h2) → BB (h.size + 1) x.1 x.2 h5 K J)
    (hn : ∀ h', I L.length h' → Kn h') (hj : ∀ j h', E j h' → ∃ c, js[j]? = some c ∧ Kj j h') :
    rng PP (seqV ka ma) h js (fun bg l args h' K J => ∃ (k : ByteArray), ∃ (v : Option Addr), args = [.string k, .pointer v] ∧ bg h' fun h5 => BB l k v h5 K J) Kn Kj := fun R hR hy => by
  refine ⟨no_table_Table_chain_Chain_api_Agg_All_1, #[], #[.pointer (some ⟨ka, 0, none⟩), .pointer (some ⟨ma, 0, none⟩)], rfl, fun a w => no_table_Table_chain_Chain_api_Agg_All_1_call a w, ?_⟩
  have := F.table_Table_chain_Chain_api_Agg_All_1_ok (seq_core I E hR hst hstE hown hB hn hj hy (h1 := (h.push (.deferred (some []))).push (R .ready none)) (hst 0 _ _ h0 (.push _ _)) (by rw [Array.getElem?_push, if_pos (by simp)]))
  exact this.mono fun r h' ⟨_, q⟩ => q
end Go.Proofs.Ytoccbnhahaoeiaa.V.P
namespace Go.Proofs.Ytoccbnhahaoeiaa.V.P
open Go Go.Proofs.Ytoccbnhahaoeiaa.V
set_option linter.unusedVariables false
set_option linter.unusedSimpArgs false
set_option maxRecDepth 20000
set_option linter.unusedVariables false
set_option linter.unusedSimpArgs false
theorem sortT_id {A : List ByteArray} (h : A.Pairwise fun a b => a.data.toList < b.data.toList) : sortT A = A := by
  unfold sortT
  have hs : (A.map fun s => s.data.toList).Pairwise fun x y => (decide (x ≤ y)) = true := by
    rw [List.pairwise_map]
    exact h.imp fun h => by simpa using List.le_of_lt h
  rw [List.mergeSort_of_pairwise hs, List.map_map]
  conv => rhs; rw [← List.map_id A]
  exact List.map_congr_left fun s _ => rfl
end Go.Proofs.Ytoccbnhahaoeiaa.V.P
namespace Go.Proofs.Ytoccbnhahaoeiaa.V.S
open Go Go.Proofs.Ytoccbnhahaoeiaa.V
set_option linter.unusedVariables false
set_option linter.unusedSimpArgs false
set_option maxRecDepth 20000
section
variable {α : Type} {key : α → Cel}
/-- x laid into a list that is in order of its keys, in the place of what has its key. -/
def setK (key : α → Cel) : List α → α → List α
  | [], x => [x]
  | y :: r, x => if cmpC (key x) (key y) = -1 then x :: y :: r else if cmpC (key x) (key y) = 0 then x :: r else y :: setK key r x
def getK (key : α → Cel) (S : List α) (c : Cel) : Option α := S.find? fun y => decide (cmpC (key y) c = 0)
abbrev SortK (key : α → Cel) (S : List α) : Prop := S.Pairwise fun a b => cmpC (key a) (key b) = -1
theorem cC_self (a : Cel) : cmpC a a = 0 := cC_zero.2 rfl
theorem getK_some {S : List α} {c : Cel} {x : α} (h : getK key S c = some x) : x ∈ S ∧ key x = c :=
  ⟨List.mem_of_find?_eq_some h, cC_zero.1 (by have := List.find?_some h; simpa using this)⟩
theorem getK_none {S : List α} {c : Cel} (h : getK key S c = none) : ∀ x ∈ S, key x ≠ c := fun x hx e => by
  have := List.find?_eq_none.1 h x hx
  simp [cC_zero.2 e] at this
theorem getK_mem {S : List α} (hs : SortK key S) {x : α} (hx : x ∈ S) : getK key S (key x) = some x := by
  induction S with
  | nil => cases hx
  | cons y r ih =>
    have h := List.pairwise_cons.1 hs
    unfold getK
    rw [List.find?_cons]
    rcases List.mem_cons.1 hx with e | e
    · subst e; simp [cC_self]
    · have := h.1 x e
      have hn : ¬ cmpC (key y) (key x) = 0 := by omega
      simp only [hn, decide_false]
      exact ih h.2 e
theorem mem_set {x y : α} : ∀ {S : List α}, SortK key S → (y ∈ setK key S x ↔ y = x ∨ (y ∈ S ∧ key y ≠ key x))
  | [], _ => by simp [setK]
  | z :: r, hs => by
    have h := List.pairwise_cons.1 hs
    have ih := mem_set (x := x) (y := y) h.2
    unfold setK
    split
    · rename_i h1
      have hall : ∀ w ∈ z :: r, key w ≠ key x := fun w hw e => by
        rcases List.mem_cons.1 hw with q | q
        · subst q; rw [e, cC_self] at h1; omega
        · have := cC_trans h1 (h.1 w q); rw [e, cC_self] at this; omega
      constructor
      · intro hy
        rcases List.mem_cons.1 hy with q | q
        · exact .inl q
        · exact .inr ⟨q, hall y q⟩
      · rintro (q | ⟨q, _⟩)
        · rw [q]; simp
        · exact List.mem_cons_of_mem _ q
    · rename_i h1
      split
      · rename_i h2
        have he := cC_zero.1 h2
        constructor
        · intro hy
          rcases List.mem_cons.1 hy with q | q
          · exact .inl q
          · refine .inr ⟨List.mem_cons_of_mem _ q, fun e => ?_⟩
            have := h.1 y q
            rw [e, ← he, cC_self] at this; omega
        · rintro (q | ⟨q, q2⟩)
          · rw [q]; simp
          · rcases List.mem_cons.1 q with q | q
            · subst q; exact absurd he.symm q2
            · exact List.mem_cons_of_mem _ q
      · rename_i h2
        have hne : key z ≠ key x := fun e => h2 (cC_zero.2 e.symm)
        rw [List.mem_cons, ih]
        constructor
        · rintro (q | q | ⟨q, q2⟩)
          · subst q; exact .inr ⟨by simp, hne⟩
          · exact .inl q
          · exact .inr ⟨List.mem_cons_of_mem _ q, q2⟩
        · rintro (q | ⟨q, q2⟩)
          · exact .inr (.inl q)
          · rcases List.mem_cons.1 q with q | q
            · exact .inl q
            · exact .inr (.inr ⟨q, q2⟩)
theorem sort_set {x : α} : ∀ {S : List α}, SortK key S → SortK key (setK key S x)
  | [], _ => by simp [setK, SortK]
  | z :: r, hs => by
    have h := List.pairwise_cons.1 hs
    have ih := sort_set (x := x) h.2
    unfold setK
    split
    · rename_i h1
      refine List.pairwise_cons.2 ⟨fun w hw => ?_, hs⟩
      rcases List.mem_cons.1 hw with q | q
      · subst q; exact h1
      · exact cC_trans h1 (h.1 w q)
    · rename_i h1
      split
      · rename_i h2
        have he := cC_zero.1 h2
        exact List.pairwise_cons.2 ⟨fun w hw => by rw [he]; exact h.1 w hw, h.2⟩
      · rename_i h2
        refine List.pairwise_cons.2 ⟨fun w hw => ?_, ih⟩
        rcases (mem_set h.2).1 hw with q | ⟨q, _⟩
        · subst q
          have := cC_range (key w) (key z)
          have := cC_anti (key z) (key w)
          omega
        · exact h.1 w q
theorem pw_set {P : α → α → Prop} {x : α} : ∀ {S : List α}, SortK key S → S.Pairwise P → (∀ y ∈ S, key y ≠ key x → P x y ∧ P y x) → (setK key S x).Pairwise P
  | [], _, _, _ => by simp [setK]
  | z :: r, hs, hp, hx => by
    have h := List.pairwise_cons.1 hs
    have hp' := List.pairwise_cons.1 hp
    have ih := pw_set (x := x) h.2 hp'.2 fun y hy => hx y (List.mem_cons_of_mem _ hy)
    unfold setK
    split
    · rename_i h1
      refine List.pairwise_cons.2 ⟨fun w hw => (hx w hw fun e => ?_).1, hp⟩
      rcases List.mem_cons.1 hw with q | q
      · subst q; rw [e, cC_self] at h1; omega
      · have := cC_trans h1 (h.1 w q); rw [e, cC_self] at this; omega
    · rename_i h1
      split
      · rename_i h2
        have he := cC_zero.1 h2
        refine List.pairwise_cons.2 ⟨fun w hw => (hx w (List.mem_cons_of_mem _ hw) fun e => ?_).1, hp'.2⟩
        have := h.1 w hw
        rw [e, ← he, cC_self] at this; omega
      · rename_i h2
        have hne : key z ≠ key x := fun e => h2 (cC_zero.2 e.symm)
        refine List.pairwise_cons.2 ⟨fun w hw => ?_, ih⟩
        rcases (mem_set h.2).1 hw with q | ⟨q, _⟩
        · subst q; exact (hx z (by simp) hne).2
        · exact hp'.1 w q
theorem sum_set {x : α} (f : α → Nat) : ∀ {S : List α}, SortK key S → ((setK key S x).map f).sum + ((getK key S (key x)).map f).getD 0 = (S.map f).sum + f x
  | [], _ => by simp [setK, getK]
  | z :: r, hs => by
    have h := List.pairwise_cons.1 hs
    have ih := sum_set (x := x) f h.2
    unfold setK
    split
    · rename_i h1
      have hn : getK key (z :: r) (key x) = none := by
        unfold getK
        rw [List.find?_eq_none]
        intro w hw
        have : cmpC (key x) (key w) = -1 := by
          rcases List.mem_cons.1 hw with q | q
          · subst q; exact h1
          · exact cC_trans h1 (h.1 w q)
        have := cC_anti (key w) (key x)
        simp; omega
      rw [hn]; simp; omega
    · rename_i h1
      split
      · rename_i h2
        have he := cC_zero.1 h2
        have hs' : getK key (z :: r) (key x) = some z := by
          unfold getK; rw [List.find?_cons, ← he]; simp [cC_self]
        rw [hs']; simp; omega
      · rename_i h2
        have hne : ¬ cmpC (key z) (key x) = 0 := fun e => h2 (cC_zero.2 (cC_zero.1 e).symm)
        have hs' : getK key (z :: r) (key x) = getK key r (key x) := by
          unfold getK; rw [List.find?_cons]; simp [hne]
        rw [hs']; simp; omega
theorem map_set {β : Type} {key' : β → Cel} (f : α → β) (hk : ∀ x, key' (f x) = key x) {x : α} : ∀ (S : List α), (setK key S x).map f = setK key' (S.map f) (f x)
  | [] => rfl
  | z :: r => by
    have ih := map_set f hk (x := x) r
    show _ = setK key' (f z :: r.map f) (f x)
    unfold setK
    rw [hk, hk]
    split
    · rfl
    · split
      · rfl
      · rw [List.map_cons, ih]
theorem map_get {β : Type} {key' : β → Cel} (f : α → β) (hk : ∀ x, key' (f x) = key x) {c : Cel} : ∀ (S : List α), getK key' (S.map f) c = (getK key S c).map f
  | [] => rfl
  | z :: r => by
    have ih := map_get f hk (c := c) r
    unfold getK at ih ⊢
    rw [List.map_cons, List.find?_cons, List.find?_cons, hk, ih]
    split <;> simp_all
end
abbrev Ver := C.Ver
abbrev zA := C.zA
abbrev SL := List (Cel × List Ver)
def okC (c : Cel) : Int := if c.View < 0 ∨ c.View ≥ 4 then 23 else if (c.Key.size : Int) < 1 ∨ (c.Key.size : Int) > 32 then 21 else if c.Start < -2305843009213693952 ∨ c.Start > 2305843009213693952 then 22 else 0
theorem ok_may {c : Cel} (h : okC c = 0) : mayC c = 0 := by
  unfold okC at h
  unfold mayC
  split at h
  · cases h
  · rename_i h1
    rw [if_neg (by omega)]
    split at h
    · cases h
    · rename_i h2
      rw [if_neg (by omega)]
      split at h
      · cases h
      · rename_i h3; rw [if_neg h3]
theorem ok_start {c : Cel} (h : okC c = 0) : I64n c.Start := by
  unfold okC at h
  split at h
  · cases h
  · split at h
    · cases h
    · split at h
      · cases h
      · unfold I64n; omega
def keyB (c : Cel) : ByteArray := ⟨(keyL c).toArray⟩
theorem kL_keyB (c : Cel) : kL (keyB c) = keyL c := by simp [keyB, kL]
theorem key_size {c : Cel} (h : okC c = 0) : (keyL c).length ≤ 100 := by
  obtain ⟨h1, h2, h3⟩ := may_view (ok_may h)
  have := escL_len c.Key.data.toList
  have h4 : c.Key.data.toList.length = c.Key.size := (size_data).symm
  unfold keyL
  simp [beT_len]
  omega
theorem key_inj {a b : Cel} (ha : okC a = 0) (hb : okC b = 0) (h : keyL a = keyL b) : a = b := by
  have h1 := cell_back (ok_may ha) (ok_start ha)
  have h2 := cell_back (ok_may hb) (ok_start hb)
  rw [h, h2] at h1
  exact (congrArg Prod.fst h1).symm
abbrev alive (vs : List Ver) : Bool := (C.newestM vs).2.2
def unitsV (vs : List Ver) : Nat := vs.length + (if alive vs then 1 else 0)
def aliveN (vs : List Ver) : Nat := if alive vs then 1 else 0
def unitsS (S : SL) : Nat := (S.map fun x => unitsV x.2).sum
def thereS (S : SL) : Nat := (S.map fun x => aliveN x.2).sum
abbrev getS (S : SL) (c : Cel) : Option (List Ver) := (getK (·.1) S c).map (·.2)
abbrev setS (S : SL) (c : Cel) (vs : List Ver) : SL := setK (·.1) S (c, vs)
abbrev SortS (S : SL) : Prop := SortK (·.1) S
def atV (vs : List Ver) (e : Int) : S_api_Agg × Bool := if e = 0 then ((C.newestM vs).1, alive vs) else C.atM vs e
def atS (S : SL) (c : Cel) (e : Int) : S_api_Agg := if okC c ≠ 0 then zA else match getS S c with
  | some vs => (atV vs e).1
  | none => zA
def needV (o : Option (List Ver)) (e : Int) : Int := match o with
  | none => 2
  | some vs => if (C.newestM vs).2.1 > e then 0 else if (C.newestM vs).2.1 = e ∧ alive vs = true then 0 else if (C.newestM vs).2.1 = e ∨ alive vs = true then 1 else 2
def needS (S : SL) (e : Int) (c : Cel) : Int := if okC c ≠ 0 then 0 else needV (getS S c) e
/-- What a version list of a cell is like. -/
structure VOk (vs : List Ver) : Prop where
  ne : vs ≠ []
  rise : C.Rise vs
  dead : ∀ v ∈ vs, v.dead = true → v.value = zA
  ep : ∀ v ∈ vs, 1 ≤ v.epoch ∧ v.epoch ≤ 1099511627776
structure SOk (S : SL) : Prop where
  sort : SortS S
  ok : ∀ x ∈ S, okC x.1 = 0 ∧ VOk x.2
theorem unitsV_pos {vs : List Ver} (h : vs ≠ []) : 1 ≤ unitsV vs := by
  have := List.length_pos_iff.2 h
  unfold unitsV; omega
theorem len_units {S : SL} (h : SOk S) : S.length ≤ unitsS S := by
  have : ∀ (S : SL), (∀ x ∈ S, x.2 ≠ []) → S.length ≤ unitsS S := fun S => by
    induction S with
    | nil => intro _; simp [unitsS]
    | cons x r ih =>
      intro hx
      have h1 := ih fun y hy => hx y (by simp [hy])
      have h2 := unitsV_pos (hx x (by simp))
      unfold unitsS at h1 ⊢
      rw [List.map_cons, List.sum_cons, List.length_cons]; omega
  exact this S fun x hx => (h.ok x hx).2.ne
theorem ver_units {S : SL} {x : Cel × List Ver} (hx : x ∈ S) : x.2.length ≤ unitsS S := by
  induction S with
  | nil => cases hx
  | cons y r ih =>
    unfold unitsS at ih ⊢
    rw [List.map_cons, List.sum_cons]
    rcases List.mem_cons.1 hx with e | e
    · subst e; unfold unitsV; omega
    · have := ih e; omega
theorem alive_le (vs : List Ver) : aliveN vs ≤ unitsV vs := by unfold aliveN unitsV; omega
theorem there_le {S : SL} : thereS S ≤ unitsS S := by
  induction S with
  | nil => simp [thereS, unitsS]
  | cons y r ih =>
    unfold unitsS thereS at ih ⊢
    rw [List.map_cons, List.sum_cons, List.map_cons, List.sum_cons]
    have := alive_le y.2
    omega
end Go.Proofs.Ytoccbnhahaoeiaa.V.S
namespace Go.Proofs.Ytoccbnhahaoeiaa.V.S
open Go Go.Proofs.Ytoccbnhahaoeiaa.V
set_option linter.unusedVariables false
set_option linter.unusedSimpArgs false
set_option maxRecDepth 20000
theorem key_spec {h : H} {c : Cel} {Q : ByteArray → Int → H → Prop} (k0 : okC c ≠ 0 → ∀ h', Ext h h' → Q ⟨#[]⟩ (okC c) h') (k1 : okC c = 0 → ∀ h', Ext h h' → Q (keyB c) 0 h') : F.shard_key c h Q := by
  unfold F.shard_key
  refine new_of fun n h1 hn b1 e1 s1 => ?_
  have c0 : cellH h1 ⟨n, 0, none⟩ = some (.int .i64 c.View) := Blk.cells b1 0 _ rfl
  have c1 : cellH h1 ⟨n, 1, none⟩ = some (.string c.Key) := Blk.cells b1 1 _ rfl
  have c2 : cellH h1 ⟨n, 2, none⟩ = some (.int .i64 c.Start) := Blk.cells b1 2 _ rfl
  have j1 : okC c = 0 → F.shard_key.j1 Q ⟨n, 0, none⟩ h1 := fun g => by
    unfold F.shard_key.j1
    refine ⟨c, Blk.cells b1, Key_spec (fun g2 => absurd (ok_may g) g2) fun _ h2 e2 => k1 g h2 (e1.trans e2)⟩
  have j4 : ∀ b : Bool, (b = true → okC c = 22) → (b = false → okC c = 0) → F.shard_key.j4 Q ⟨n, 0, none⟩ b h1 := fun b q1 q2 => by
    unfold F.shard_key.j4
    refine ⟨fun g => ?_, fun g => j1 (q2 g)⟩
    have := k0 (by rw [q1 g]; decide) h1 e1
    rw [q1 g] at this; exact this
  have j3 : ∀ b : Bool, (b = true → okC c = 21) → (b = false → okC c = if c.Start < -2305843009213693952 ∨ c.Start > 2305843009213693952 then 22 else 0) → F.shard_key.j3 Q ⟨n, 0, none⟩ b h1 := fun b q1 q2 => by
    unfold F.shard_key.j3
    simp only [add_lit, Nat.zero_add, Nat.add_zero]
    refine ⟨fun g => ?_, fun g => ?_⟩
    · have := k0 (by rw [q1 g]; decide) h1 e1
      rw [q1 g] at this; exact this
    · have hq := q2 g
      rw [ldI_iff c2]
      refine ⟨fun g2 => j4 true (fun _ => ?_) fun h => (by cases h), fun g2 => ?_⟩
      · have g2 := of_decide_eq_true g2
        rw [hq, if_pos (.inl g2)]
      · have g2 := of_decide_eq_false g2
        rw [ldI_iff c2]
        refine j4 _ (fun g3 => ?_) fun g3 => ?_
        · have g3 := of_decide_eq_true g3
          rw [hq, if_pos (.inr g3)]
        · have g3 := of_decide_eq_false g3
          rw [hq, if_neg (by omega)]
  have j2 : ∀ b : Bool, (b = true → okC c = 23) → (b = false → okC c = if (c.Key.size : Int) < 1 ∨ (c.Key.size : Int) > 32 then 21 else if c.Start < -2305843009213693952 ∨ c.Start > 2305843009213693952 then 22 else 0) → F.shard_key.j2 Q ⟨n, 0, none⟩ b h1 := fun b q1 q2 => by
    unfold F.shard_key.j2
    simp only [add_lit, Nat.zero_add, Nat.add_zero]
    refine ⟨fun g => ?_, fun g => ?_⟩
    · have := k0 (by rw [q1 g]; decide) h1 e1
      rw [q1 g] at this; exact this
    · have hq := q2 g
      rw [ldS_iff c1]
      refine ⟨fun g2 => j3 true (fun _ => ?_) fun h => (by cases h), fun g2 => ?_⟩
      · have g2 := of_decide_eq_true g2
        rw [hq, if_pos (.inl g2)]
      · have g2 := of_decide_eq_false g2
        rw [ldS_iff c1]
        refine j3 _ (fun g3 => ?_) fun g3 => ?_
        · have g3 := of_decide_eq_true g3
          rw [hq, if_pos (.inr g3)]
        · have g3 := of_decide_eq_false g3
          rw [hq, if_neg (by omega)]
  simp only [add_lit, Nat.zero_add, Nat.add_zero]
  rw [ldI_iff c0]
  refine ⟨fun g2 => j2 true (fun _ => ?_) fun h => (by cases h), fun g2 => ?_⟩
  · have g2 := of_decide_eq_true g2
    unfold okC; rw [if_pos (.inl g2)]
  · have g2 := of_decide_eq_false g2
    rw [ldI_iff c0]
    refine j2 _ (fun g3 => ?_) fun g3 => ?_
    · have g3 := of_decide_eq_true g3
      unfold okC; rw [if_pos (.inr g3)]
    · have g3 := of_decide_eq_false g3
      unfold okC; rw [if_neg (by omega)]
structure Rec where
  c : Cel
  vs : List Ver
  p : Nat
  B : Option Nat
abbrev toS (Z : List Rec) : SL := Z.map fun r => (r.c, r.vs)
/-- The kinds of a shard's blocks. -/
def ShE (e : TypeId) : Prop := e = tn_shard_Shard ∨ e = tn_table_Table_chain_Chain_api_Agg ∨ e = tn_table_place_chain_Chain_api_Agg ∨ e = tn_chain_Chain_api_Agg ∨ e = tn_chain_version_api_Agg
def ShTy (h : H) (b : Nat) : Prop := ∃ e, ShE e ∧ WB h b e
structure SZG (W : List Ver → Prop) (h : H) (n tn : Nat) (rs es : Sl) (T : Tb (Option Addr)) (Z : List Rec) (slots : Nat) (R : Nat → Prop) (u t : Int) : Prop where
  sb : Blk h n #[.int .i64 u, .int .i64 t, .int .i64 (slots : Int), .pointer (some ⟨tn, 0, none⟩)] tn_shard_Shard
  th : P.TH h tn rs es T
  ok : TOk T
  ch : ∀ r ∈ Z, C.Ch h r.p r.vs r.B
  get : ∀ r ∈ Z, getM T (keyB r.c) = some (some ⟨r.p, 0, none⟩)
  all : ∀ k v, getM T k = some v → ∃ r ∈ Z, kL k = keyL r.c
  srt : SortK Rec.c Z
  pd : Z.Pairwise fun a b => a.p ≠ b.p
  bd : Z.Pairwise fun a b => ∀ x, a.B = some x → b.B ≠ some x
  wf : ∀ r ∈ Z, okC r.c = 0 ∧ W r.vs
  us : unitsS (toS Z) ≤ slots
  sl : slots ≤ 1048576
  rl : T.row.length ≤ 4200000
  rn : R n
  rt : R tn
  rr : ∀ b, rs.blk = some b → R b
  re : ∀ b, es.blk = some b → R b
  rp : ∀ r ∈ Z, R r.p ∧ ∀ x, r.B = some x → R x
abbrev SZ := SZG VOk
theorem toS_ok {h : H} {n tn : Nat} {rs es : Sl} {T : Tb (Option Addr)} {Z : List Rec} {slots : Nat} {R : Nat → Prop} {u t : Int} (z : SZ h n tn rs es T Z slots R u t) : SOk (toS Z) := by
  refine ⟨?_, fun x hx => ?_⟩
  · unfold SortS SortK; rw [List.pairwise_map]; exact z.srt
  · obtain ⟨r, hr, rfl⟩ := List.mem_map.1 hx
    exact z.wf r hr
section
variable {W : List Ver → Prop} {h h' : H} {n tn : Nat} {rs es : Sl} {T : Tb (Option Addr)} {Z : List Rec} {slots : Nat} {R : Nat → Prop} {u t : Int}
theorem ch_typ {p : Nat} {L : List Ver} {B : Option Nat} (c : C.Ch h p L B) : WB h p tn_chain_Chain_api_Agg ∧ ∀ b, B = some b → WB h b tn_chain_version_api_Agg := by
  obtain ⟨s, h1, h2, h3, h4⟩ := c
  exact ⟨⟨_, h1⟩, fun b hb => h2.typ (by rw [h3]; exact hb)⟩
/-- Blocks of others are written: the shard stays. -/
theorem SZG.keep {S : Nat → Prop} (z : SZG W h n tn rs es T Z slots R u t) (o : Only S h h') (hn : ∀ b, R b → ShTy h b → ¬ S b) : SZG W h' n tn rs es T Z slots R u t := by
  refine { z with sb := o.block z.sb (hn n z.rn ⟨_, .inl rfl, _, z.sb⟩), th := z.th.only o fun b hb => ?_, ch := fun r hr => ?_ }
  · rcases hb with hb | hb | hb
    · subst hb; exact hn _ z.rt ⟨_, .inr (.inl rfl), _, z.th.tb⟩
    · exact hn _ (z.rr b hb) ⟨_, .inr (.inr (.inl rfl)), z.th.row.typ hb⟩
    · exact hn _ (z.re b hb) ⟨_, .inr (.inr (.inl rfl)), z.th.el.typ hb⟩
  · have := ch_typ (z.ch r hr)
    exact (z.ch r hr).only o (hn _ (z.rp r hr).1 ⟨_, .inr (.inr (.inr (.inl rfl))), this.1⟩) fun b hb => hn _ ((z.rp r hr).2 b hb) ⟨_, .inr (.inr (.inr (.inr rfl))), this.2 b hb⟩
theorem SZG.ext (z : SZG W h n tn rs es T Z slots R u t) (e : Ext h h') : SZG W h' n tn rs es T Z slots R u t := z.keep e fun _ _ _ f => f
theorem SZG.len (z : SZG VOk h n tn rs es T Z slots R u t) : Z.length ≤ 1048576 := by
  have h1 := len_units (toS_ok z)
  have h2 := z.us
  have h3 := z.sl
  rw [show (toS Z).length = Z.length from List.length_map _] at h1
  omega
theorem SZG.vlen (z : SZG W h n tn rs es T Z slots R u t) {r : Rec} (hr : r ∈ Z) : r.vs.length ≤ 1048576 := by
  have h1 := ver_units (S := toS Z) (x := (r.c, r.vs)) (List.mem_map.2 ⟨r, hr, rfl⟩)
  have h2 := z.us
  have h3 := z.sl
  simp only at h1
  omega
theorem SZG.cs0 (z : SZG W h n tn rs es T Z slots R u t) : cellH h ⟨n, 0, none⟩ = some (.int .i64 u) := z.sb.cell rfl
theorem SZG.cs1 (z : SZG W h n tn rs es T Z slots R u t) : cellH h ⟨n, 1, none⟩ = some (.int .i64 t) := z.sb.cell rfl
theorem SZG.cs2 (z : SZG W h n tn rs es T Z slots R u t) : cellH h ⟨n, 2, none⟩ = some (.int .i64 (slots : Int)) := z.sb.cell rfl
theorem SZG.cs3 (z : SZG W h n tn rs es T Z slots R u t) : cellH h ⟨n, 3, none⟩ = some (.pointer (some ⟨tn, 0, none⟩)) := z.sb.cell rfl
/-- What lies under a cell's key. -/
theorem SZG.look (z : SZG W h n tn rs es T Z slots R u t) {c : Cel} (hc : okC c = 0) : getM T (keyB c) = (getK Rec.c Z c).map fun r => some ⟨r.p, 0, none⟩ := by
  cases hg : getK Rec.c Z c with
  | some r =>
    obtain ⟨h1, h2⟩ := getK_some hg
    subst h2
    exact z.get r h1
  | none =>
    cases hm : getM T (keyB c) with
    | none => rfl
    | some v =>
      obtain ⟨r, hr, he⟩ := z.all _ _ hm
      rw [kL_keyB] at he
      exact absurd (key_inj hc (z.wf r hr).1 he).symm (getK_none hg r hr)
theorem SZG.getS (z : SZG W h n tn rs es T Z slots R u t) (c : Cel) : S.getS (toS Z) c = (getK Rec.c Z c).map (·.vs) := by
  show (getK _ (Z.map _) c).map _ = _
  rw [map_get (key := Rec.c) (key' := fun x : Cel × List Ver => x.1) (fun r : Rec => (r.c, r.vs)) (fun _ => rfl), Option.map_map]
  rfl
theorem key_small {c : Cel} (h : okC c = 0) : SmallK (keyB c) := by
  have := key_size h
  show (keyL c).toArray.size ≤ _
  simp; omega
end
def SH (h : H) (n : Nat) (S : SL) (slots : Nat) (R : Nat → Prop) : Prop := ∃ tn rs es T Z, toS Z = S ∧ SZ h n tn rs es T Z slots R (unitsS (toS Z) : Int) (thereS (toS Z) : Int)
section
variable {h h' : H} {n : Nat} {S : SL} {slots : Nat} {R : Nat → Prop}
theorem SH.keep {P : Nat → Prop} (s : SH h n S slots R) (o : Only P h h') (hn : ∀ b, R b → ShTy h b → ¬ P b) : SH h' n S slots R := by
  obtain ⟨tn, rs, es, T, Z, h1, z⟩ := s
  exact ⟨tn, rs, es, T, Z, h1, z.keep o hn⟩
theorem SH.ext (s : SH h n S slots R) (e : Ext h h') : SH h' n S slots R := s.keep e fun _ _ _ f => f
theorem SH.ok (s : SH h n S slots R) : SOk S := by
  obtain ⟨tn, rs, es, T, Z, rfl, z⟩ := s
  exact toS_ok z
theorem SH.us (s : SH h n S slots R) : unitsS S ≤ slots ∧ slots ≤ 1048576 := by
  obtain ⟨tn, rs, es, T, Z, rfl, z⟩ := s
  exact ⟨z.us, z.sl⟩
/-- What a shard's methods turn: blocks of its kinds, of its own. -/
abbrev SOnly (R : Nat → Prop) (h h' : H) : Prop := Only (fun b => R b ∧ ShTy h b) h h'
theorem ShTy.back {S : Nat → Prop} (o : Only S h h') {b : Nat} (hb : b < h.size) (hs : ¬ S b) (t : ShTy h' b) : ShTy h b := by
  obtain ⟨e, h1, c, h2⟩ := t
  exact ⟨e, h1, c, (o.same b hb hs).symm.trans h2⟩
theorem SOnly.trans {h'' : H} (a : SOnly R h h') (b : SOnly R h' h'') : SOnly R h h'' := Only.trans a b fun m hm ⟨h1, h2⟩ => by
  by_cases hs : ShTy h m
  · exact ⟨h1, hs⟩
  · exact ⟨h1, ShTy.back a hm (fun h => hs h.2) h2⟩
theorem SOnly.ext {h'' : H} (a : SOnly R h h') (b : Ext h' h'') : SOnly R h h'' := Only.ext a b
theorem SOnly.of (e : Ext h h') : SOnly R h h' := Ext.only e
/-- Slices of other kinds stay. -/
theorem SOnly.owns (a : SOnly R h h') {t : Sl} {e : TypeId} {k : Nat} {cs : List Value} (w : Owns h t e k cs) (he : ¬ ShE e) : Owns h' t e k cs := w.only a fun b hb ⟨_, e', h1, c', h2⟩ => he (by
  obtain ⟨c, h3⟩ := w.typ hb
  have := h3.symm.trans h2
  simp at this
  rw [this.2]; exact h1)
theorem SOnly.base {h0 : H} (e : Ext h0 h) (a : SOnly R h h') (hR : ∀ b, R b → h0.size ≤ b) : Ext h0 h' := e.step a fun m hm hb => by have := hR m hb.1; omega
end
theorem Units_spec {h : H} {n : Nat} {S : SL} {slots : Nat} {R : Nat → Prop} {Q : Int → H → Prop} (s : SH h n S slots R) (k : Q (unitsS S : Int) h) : F.shard_counts_Units (some ⟨n, 0, none⟩) h Q := by
  obtain ⟨tn, rs, es, T, Z, rfl, z⟩ := s
  unfold F.shard_counts_Units
  simp only [nn_some, add_lit, Nat.add_zero]
  rw [ldI_iff z.cs0]; exact k
theorem Cells_spec {h : H} {n : Nat} {S : SL} {slots : Nat} {R : Nat → Prop} {Q : Int → H → Prop} (s : SH h n S slots R) (k : Q (thereS S : Int) h) : F.shard_counts_Cells (some ⟨n, 0, none⟩) h Q := by
  obtain ⟨tn, rs, es, T, Z, rfl, z⟩ := s
  unfold F.shard_counts_Cells
  simp only [nn_some, add_lit, Nat.zero_add]
  rw [ldI_iff z.cs1]; exact k
theorem New_spec {h : H} {m : Int} {R : Nat → Prop} {Q : Option Addr → Int → H → Prop} (k0 : (m < 2 ∨ m > 1048576) → Q none 1 h)
    (hR : ∀ b, h.size ≤ b → R b) (k1 : 2 ≤ m → m ≤ 1048576 → ∀ h' n, SH h' n [] m.toNat R → Ext h h' → h.size ≤ n → Q (some ⟨n, 0, none⟩) 0 h') : F.shard_New m h Q := by
  have j1 : 2 ≤ m → m ≤ 1048576 → F.shard_New.j1 Q m h := fun h1 h2 => by
    unfold F.shard_New.j1
    refine P.New_spec fun h3 tn rs th e3 hft => ?_
    refine new_of fun n h4 hn b4 e4 s4 => ?_
    have g := new_ok (P.nilA)
    have e3s := e3.size
    refine k1 h1 h2 h4 n ⟨tn, rs, ⟨none, 0, 0⟩, newT P.nilA, [], rfl, ?_⟩ (e3.trans e4) (by omega)
    refine { sb := ?_, th := th.ext e4, ok := g.1, ch := (fun r hr => by cases hr), get := (fun r hr => by cases hr), all := fun k v hk => ?_, srt := List.Pairwise.nil, pd := List.Pairwise.nil, bd := List.Pairwise.nil, wf := (fun r hr => by cases hr), us := Nat.zero_le _, sl := by omega, rl := (by show (newT P.nilA).row.length ≤ _; simp [newT]), rn := hR _ (by omega), rt := hR _ (hft _ (.inl rfl)), rr := fun b hb => hR _ (hft _ (.inr (.inl hb))), re := fun b hb => hR _ (hft _ (.inr (.inr hb))), rp := (fun r hr => by cases hr) }
    · have hm : ((m.toNat : Nat) : Int) = m := by omega
      rw [hm]; exact b4
    · rw [g.2.2] at hk; cases hk
  unfold F.shard_New F.shard_New.j2
  refine ⟨fun g => ⟨fun _ => k0 (.inl (of_decide_eq_true g)), fun h => by cases h⟩, fun g => ⟨fun g2 => k0 (.inr (of_decide_eq_true g2)), fun g2 => ?_⟩⟩
  exact j1 (by have := of_decide_eq_false g; omega) (by have := of_decide_eq_false g2; omega)
/-- A cell's chain. -/
theorem chain_spec {h : H} {n tn : Nat} {rs es : Sl} {T : Tb (Option Addr)} {Z : List Rec} {slots : Nat} {R : Nat → Prop} {u t : Int} {c : Cel} {Q : Option Addr → H → Prop} (z : SZ h n tn rs es T Z slots R u t)
    (k0 : (okC c ≠ 0 ∨ getK Rec.c Z c = none) → ∀ h', Ext h h' → Q none h') (k1 : okC c = 0 → ∀ r, getK Rec.c Z c = some r → ∀ h', Ext h h' → Q (some ⟨r.p, 0, none⟩) h') : F.shard_Shard_chain (some ⟨n, 0, none⟩) c h Q := by
  unfold F.shard_Shard_chain
  refine new_of fun m h1 hm b1 e1 s1 => ⟨c, Blk.cells b1, ?_⟩
  refine key_spec (fun g h2 e2 => ⟨fun _ => k0 (.inl g) h2 (e1.trans e2), fun g2 => absurd (by simpa using g2) g⟩) fun g h2 e2 => ⟨fun g2 => by simp at g2, fun _ => ?_⟩
  have z2 := z.ext (e1.trans e2)
  simp only [nn_some, add_lit, Nat.zero_add]
  rw [ldP_iff z2.cs3]
  refine P.Get_spec z2.th z2.ok (key_small g) fun h3 e3 => ?_
  rw [z2.look g]
  have e13 := (e1.trans e2).trans e3
  cases hg : getK Rec.c Z c with
  | none => exact k0 (.inr hg) h3 e13
  | some r => exact k1 g r hg h3 e13
theorem at_none {h : H} {e : Int} {Q : S_api_Agg → Bool → H → Prop} (k : ∀ h', Ext h h' → Q zA false h') : F.shard_at none e h Q := by
  unfold F.shard_at
  refine new_of fun m h1 hm b1 e1 s1 => ⟨fun _ => ?_, fun g => by cases g⟩
  have b1' : Blk h1 m zA.cells.toArray tn_api_Agg := b1
  refine C.st_agg b1' (d := zA) fun h2 b2 o2 s2 => ⟨zA, b2.cells, k h2 (e1.step o2 fun x hx hb => by omega)⟩
theorem at_spec {h : H} {p : Nat} {vs : List Ver} {B : Option Nat} {e : Int} {Q : S_api_Agg → Bool → H → Prop} (c : C.Ch h p vs B) (hr : C.Rise vs) (hl : vs.length < 1073741824) (k : ∀ h', Ext h h' → Q (atV vs e).1 (atV vs e).2 h') : F.shard_at (some ⟨p, 0, none⟩) e h Q := by
  unfold F.shard_at
  unfold atV at k
  refine new_of fun m h1 hm b1 e1 s1 => ⟨fun g => by simp at g, fun _ => ⟨fun g => ?_, fun g => ?_⟩⟩
  · have g : e = 0 := by simpa using g
    rw [if_pos g] at k
    have b1' : Blk h1 m zA.cells.toArray tn_api_Agg := b1
    refine C.Newest_spec (c.ext e1) (by omega) fun h2 e2 => ?_
    refine new_of fun m3 h3 hm3 b3 e3 s3 => ?_
    have b3' : Blk h3 m3 zA.cells.toArray tn_api_Agg := b3
    refine C.st_agg b3' fun h4 b4 o4 s4 => ⟨_, b4.cells, ?_⟩
    have e2s := e2.size
    have e14 : Ext h1 h4 := (e2.trans e3).step o4 fun x hx hb => by omega
    have b14 := e14.block b1' fun f => f
    refine C.st_agg b14 fun h5 b5 o5 s5 => ⟨_, b5.cells, ?_⟩
    exact k h5 ((e1.trans e14).step o5 fun x hx hb => by omega)
  · have g : e ≠ 0 := by simpa using g
    rw [if_neg g] at k
    have b1' : Blk h1 m zA.cells.toArray tn_api_Agg := b1
    refine C.At_spec (c.ext e1) hr hl fun h2 e2 => ?_
    refine C.st_agg (e2.block b1' fun f => f) fun h5 b5 o5 s5 => ⟨_, b5.cells, ?_⟩
    exact k h5 ((e1.trans e2).step o5 fun x hx hb => by omega)
theorem At_spec {h : H} {n : Nat} {S : SL} {slots : Nat} {R : Nat → Prop} {c : Cel} {e : Int} {Q : S_api_Agg → H → Prop} (s : SH h n S slots R) (k : ∀ h', Ext h h' → Q (atS S c e) h') : F.shard_Shard_At (some ⟨n, 0, none⟩) c e h Q := by
  obtain ⟨tn, rs, es, T, Z, rfl, z⟩ := s
  unfold F.shard_Shard_At
  refine new_of fun m h1 hm b1 e1 s1 => new_of fun m2 h2 hm2 b2 e2 s2 => ⟨c, (Blk.cells b1).ext e2, ?_⟩
  have e12 := e1.trans e2
  have b2' : Blk h2 m2 zA.cells.toArray tn_api_Agg := b2
  have z2 := z.ext e12
  have tail : ∀ (a : S_api_Agg) (h3 : H), Ext h2 h3 → a = atS (toS Z) c e → new h3 (((⟨0, 0, 0, 0⟩ : S_api_Agg) : S_api_Agg).cells.toArray) tn_api_Agg fun a13 h12 => stH h12 a13 a.cells fun h14 => ld_S_api_Agg h14 a13 fun y15 => stH h14 ⟨m2, 0, none⟩ y15.cells fun h17 => ld_S_api_Agg h17 ⟨m2, 0, none⟩ fun y18 => Q y18 h17 := fun a h3 e3 ha => by
    refine new_of fun m4 h4 hm4 b4 e4 s4 => ?_
    have b4' : Blk h4 m4 zA.cells.toArray tn_api_Agg := b4
    refine C.st_agg b4' fun h5 b5 o5 s5 => ⟨_, b5.cells, ?_⟩
    have z3 := e3.size
    have e25 : Ext h2 h5 := (e3.trans e4).step o5 fun x hx hb => by omega
    refine C.st_agg (e25.block b2' fun f => f) fun h6 b6 o6 s6 => ⟨_, b6.cells, ?_⟩
    rw [ha]
    exact k h6 ((e12.trans e25).step o6 fun x hx hb => by have := e1.size; omega)
  refine chain_spec z2 (fun g h3 e3 => at_none fun h4 e4 => tail _ h4 (e3.trans e4) ?_) fun g r hr h3 e3 => ?_
  · unfold atS
    split
    · rfl
    · rename_i g2
      rcases g with g | g
      · exact absurd g g2
      · rw [z.getS, g]; rfl
  · obtain ⟨h5, h6⟩ := getK_some hr
    refine at_spec ((z2.ch r h5).ext e3) (z.wf r h5).2.rise (by have := z.vlen h5; omega) fun h4 e4 => tail _ h4 (e3.trans e4) ?_
    unfold atS
    rw [if_neg (fun h => h g), z.getS, hr]; rfl
theorem Get_spec {h : H} {n : Nat} {S : SL} {slots : Nat} {R : Nat → Prop} {c : Cel} {Q : S_api_Agg → H → Prop} (s : SH h n S slots R) (k : ∀ h', Ext h h' → Q (atS S c 0) h') : F.shard_Shard_Get (some ⟨n, 0, none⟩) c h Q := by
  unfold F.shard_Shard_Get
  refine new_of fun m h1 hm b1 e1 s1 => new_of fun m2 h2 hm2 b2 e2 s2 => ⟨c, (Blk.cells b1).ext e2, ?_⟩
  have e12 := e1.trans e2
  have b2' : Blk h2 m2 zA.cells.toArray tn_api_Agg := b2
  refine At_spec (s.ext e12) fun h3 e3 => ?_
  refine C.st_agg (e3.block b2' fun f => f) fun h6 b6 o6 s6 => ⟨_, b6.cells, ?_⟩
  exact k h6 ((e12.trans e3).step o6 fun x hx hb => by have := e1.size; omega)
theorem need_spec {h : H} {n tn : Nat} {rs es : Sl} {T : Tb (Option Addr)} {Z : List Rec} {slots : Nat} {R : Nat → Prop} {u t : Int} {c : Cel} {e : Int} {Q : Int → H → Prop} (z : SZ h n tn rs es T Z slots R u t) (k : ∀ h', Ext h h' → Q (needS (toS Z) e c) h') : F.shard_Shard_need (some ⟨n, 0, none⟩) e c h Q := by
  unfold F.shard_Shard_need
  unfold needS at k
  refine new_of fun m h1 hm b1 e1 s1 => ⟨c, Blk.cells b1, ?_⟩
  refine key_spec (fun g h2 e2 => ⟨fun _ => ?_, fun g2 => absurd (by simpa using g2) g⟩) fun g h2 e2 => ⟨fun g2 => by simp at g2, fun _ => ⟨c, (Blk.cells b1).ext e2, ?_⟩⟩
  · rw [if_pos g] at k; exact k h2 (e1.trans e2)
  rw [if_neg (fun h => h g)] at k
  have z2 := z.ext (e1.trans e2)
  refine chain_spec z2 (fun g2 h3 e3 => ⟨fun _ => ?_, fun g3 => by simp at g3⟩) fun _ r hr h3 e3 => ⟨fun g3 => by simp at g3, fun _ => ?_⟩
  · have : getK Rec.c Z c = none := by
      rcases g2 with g2 | g2
      · exact absurd g g2
      · exact g2
    rw [z.getS, this] at k
    exact k h3 ((e1.trans e2).trans e3)
  · obtain ⟨h5, h6⟩ := getK_some hr
    rw [z.getS, hr] at k
    refine C.Newest_spec ((z2.ch r h5).ext e3) (by have := z.vlen h5; omega) fun h4 e4 => ?_
    refine new_of fun m5 h5' hm5 b5 e5 s5 => ?_
    have b5' : Blk h5' m5 zA.cells.toArray tn_api_Agg := b5
    refine C.st_agg b5' fun h6' b6 o6 s6 => ?_
    have ee : Ext h h6' := ((((e1.trans e2).trans e3).trans e4).trans e5).step o6 fun x hx hb => by
      have := (((e1.trans e2).trans e3).trans e4).size
      omega
    have k := k h6' ee
    simp only [Option.map_some, needV] at k
    refine ⟨fun g3 => ?_, fun g3 => ?_⟩
    · rw [if_pos (of_decide_eq_true g3)] at k; exact k
    · rw [if_neg (of_decide_eq_false g3)] at k
      rw [show alive r.vs = (C.newestM r.vs).2.2 from rfl] at k
      generalize (C.newestM r.vs).2.2 = A at k ⊢
      generalize (C.newestM r.vs).2.1 = E at k ⊢
      unfold F.shard_Shard_need.j1 F.shard_Shard_need.j2
      by_cases hE : E = e
      · subst hE; cases A <;> simp at k ⊢ <;> exact k
      · cases A <;> simp [hE] at k ⊢ <;> exact k
end Go.Proofs.Ytoccbnhahaoeiaa.V.S
namespace Go.Proofs.Ytoccbnhahaoeiaa.V.S
open Go Go.Proofs.Ytoccbnhahaoeiaa.V
set_option linter.unusedVariables false
set_option linter.unusedSimpArgs false
set_option maxRecDepth 20000
theorem cells_l {h : H} {n o : Nat} {xs ys : List Value} (c : Cells h ⟨n, o, none⟩ (xs ++ ys)) : Cells h ⟨n, o, none⟩ xs := fun i v hv => c i v (by rw [List.getElem?_append_left (List.getElem?_eq_some_iff.1 hv).1]; exact hv)
theorem cells_r {h : H} {n o : Nat} {xs ys : List Value} (c : Cells h ⟨n, o, none⟩ (xs ++ ys)) : Cells h ⟨n, o + xs.length, none⟩ ys := fun i v hv => by
  have := c (xs.length + i) v (by rw [List.getElem?_append_right (by omega), Nat.add_sub_cancel_left]; exact hv)
  rw [add_lit] at this ⊢
  rwa [Nat.add_assoc]
theorem pw_two {α : Type} {P : α → α → Prop} (sym : ∀ x y, P x y → P y x) : ∀ {Z : List α}, Z.Pairwise P → ∀ {x y : α}, x ∈ Z → y ∈ Z → x ≠ y → P x y
  | [], _, _, _, hx, _, _ => by cases hx
  | z :: r, h, x, y, hx, hy, hne => by
    have h' := List.pairwise_cons.1 h
    rcases List.mem_cons.1 hx with e | e <;> rcases List.mem_cons.1 hy with e2 | e2
    · exact absurd (e.trans e2.symm) hne
    · rw [e]; exact h'.1 y e2
    · rw [e2]; exact sym _ _ (h'.1 x e)
    · exact pw_two sym h'.2 e e2 hne
theorem nodup_lenG {α : Type} [DecidableEq α] : ∀ {E L : List α}, E.Nodup → (∀ e ∈ E, e ∈ L) → E.length ≤ L.length
  | [], L, _, _ => Nat.zero_le _
  | e :: E, L, h, hs => by
    rw [List.nodup_cons] at h
    have he := hs e (by simp)
    have := nodup_lenG (E := E) (L := L.erase e) h.2 fun x hx => (List.mem_erase_of_ne (show x ≠ e from fun hxe => h.1 (by rw [← hxe]; exact hx))).2 (hs x (by simp [hx]))
    rw [List.length_erase_of_mem he] at this
    have hpos : 0 < L.length := List.length_pos_of_mem he
    simp only [List.length_cons]; omega
theorem ft_ty {h : H} {tn : Nat} {rs es : Sl} {T : Tb (Option Addr)} (th : P.TH h tn rs es T) {b : Nat} (hb : FT tn rs es b) : ∃ e, WB h b e ∧ (e = tn_table_Table_chain_Chain_api_Agg ∨ e = tn_table_place_chain_Chain_api_Agg) := by
  rcases hb with hb | hb | hb
  · subst hb; exact ⟨_, ⟨_, th.tb⟩, .inl rfl⟩
  · exact ⟨_, th.row.typ hb, .inr rfl⟩
  · exact ⟨_, th.el.typ hb, .inr rfl⟩
section
variable {W : List Ver → Prop} {h h' : H} {n tn : Nat} {rs es : Sl} {T : Tb (Option Addr)} {Z : List Rec} {slots : Nat} {R : Nat → Prop} {u t : Int}
theorem SZG.n_ft (z : SZG W h n tn rs es T Z slots R u t) {b : Nat} (hb : FT tn rs es b) : b ≠ n := by
  obtain ⟨e, h1, h2⟩ := ft_ty z.th hb
  exact h1.ne ⟨_, z.sb⟩ (by rcases h2 with rfl | rfl <;> decide)
theorem SZG.ch_ft (z : SZG W h n tn rs es T Z slots R u t) {r : Rec} (hr : r ∈ Z) {b : Nat} (hb : FT tn rs es b) : b ≠ r.p ∧ r.B ≠ some b := by
  obtain ⟨e, h1, h2⟩ := ft_ty z.th hb
  have h3 := ch_typ (z.ch r hr)
  exact ⟨h1.ne h3.1 (by rcases h2 with rfl | rfl <;> decide), fun hB => h1.ne (h3.2 b hB) (by rcases h2 with rfl | rfl <;> decide) rfl⟩
theorem SZG.n_ch (z : SZG W h n tn rs es T Z slots R u t) {r : Rec} (hr : r ∈ Z) : r.p ≠ n ∧ r.B ≠ some n := by
  have h3 := ch_typ (z.ch r hr)
  exact ⟨h3.1.ne ⟨_, z.sb⟩ (by decide), fun hB => (h3.2 n hB).ne ⟨_, z.sb⟩ (by decide) rfl⟩
theorem SZG.p_B (z : SZG W h n tn rs es T Z slots R u t) {r r' : Rec} (hr : r ∈ Z) (hr' : r' ∈ Z) : r'.B ≠ some r.p := fun hB =>
  ((ch_typ (z.ch r' hr')).2 _ hB).ne (ch_typ (z.ch r hr)).1 (by decide) rfl
theorem SZG.f_lt (z : SZG W h n tn rs es T Z slots R u t) : n < h.size ∧ (∀ b, FT tn rs es b → b < h.size) ∧ ∀ r ∈ Z, r.p < h.size ∧ ∀ b, r.B = some b → b < h.size :=
  ⟨block_lt z.sb, z.th.lt, fun r hr => ⟨(z.ch r hr).lt, (z.ch r hr).ltB⟩⟩
theorem SZG.stN (z : SZG W h n tn rs es T Z slots R u t) {u' t' : Int} (o : Only (· = n) h h') (b : Blk h' n #[.int .i64 u', .int .i64 t', .int .i64 (slots : Int), .pointer (some ⟨tn, 0, none⟩)] tn_shard_Shard) : SZG W h' n tn rs es T Z slots R u' t' ∧ SOnly R h h' := by
  refine ⟨{ z with sb := b, th := z.th.only o fun b hb => z.n_ft hb, ch := fun r hr => (z.ch r hr).only o (z.n_ch hr).1 fun b hb e => (z.n_ch hr).2 (by rw [hb, e]) }, o.mono fun b _ e => ?_⟩
  subst e
  exact ⟨z.rn, _, .inl rfl, _, z.sb⟩
theorem SZG.st0 (z : SZG W h n tn rs es T Z slots R u t) {x : Int} {K : H → Prop} (k : ∀ h', SZG W h' n tn rs es T Z slots R x t → SOnly R h h' → K h') : stH h ⟨n, 0, none⟩ [.int .i64 x] K :=
  stH_of z.sb (by simp) fun h' q1 q2 q3 => by
    have := z.stN (u' := x) (t' := t) q2 q1
    exact k h' this.1 this.2
theorem SZG.st1 (z : SZG W h n tn rs es T Z slots R u t) {x : Int} {K : H → Prop} (k : ∀ h', SZG W h' n tn rs es T Z slots R u x → SOnly R h h' → K h') : stH h ⟨n, 1, none⟩ [.int .i64 x] K :=
  stH_of z.sb (by simp) fun h' q1 q2 q3 => by
    have := z.stN (u' := u) (t' := x) q2 q1
    exact k h' this.1 this.2
theorem mem_setZ (z : SZG W h n tn rs es T Z slots R u t) {x y : Rec} : y ∈ setK Rec.c Z x ↔ y = x ∨ (y ∈ Z ∧ y.c ≠ x.c) := mem_set z.srt
/-- The versions of a cell are others. -/
theorem SZG.lay (z : SZG W h n tn rs es T Z slots R u t) {r : Rec} (hr : r ∈ Z) {vs : List Ver} {B' : Option Nat} (c : C.Ch h' r.p vs B') (o : Only (C.FP r.p r.B) h h') (kin : C.Kin h.size r.B B') (ok : W vs)
    (hus : unitsS (toS (setK Rec.c Z ⟨r.c, vs, r.p, B'⟩)) ≤ slots) (hR : ∀ b, h.size ≤ b → R b) : SZG W h' n tn rs es T (setK Rec.c Z ⟨r.c, vs, r.p, B'⟩) slots R u t ∧ SOnly R h h' := by
  obtain ⟨l1, l2, l3⟩ := z.f_lt
  have hty := ch_typ (z.ch r hr)
  have hne : ∀ {y : Rec}, y ∈ Z → y.c ≠ r.c → y.p ≠ r.p ∧ (∀ x, r.B = some x → y.B ≠ some x) := fun {y} hy hc => by
    have hyr : y ≠ r := fun e => hc (by rw [e])
    exact ⟨pw_two (fun _ _ h => h.symm) z.pd hy hr hyr, fun x hx hyx => pw_two (P := fun a b : Rec => ∀ x, a.B = some x → b.B ≠ some x) (fun a b h x h1 h2 => h x h2 h1) z.bd hy hr hyr x hyx hx⟩
  have keepCh : ∀ y ∈ Z, y.c ≠ r.c → C.Ch h' y.p y.vs y.B := fun y hy hc => by
    obtain ⟨h1, h2⟩ := hne hy hc
    refine (z.ch y hy).only o (fun e => ?_) fun b hb e => ?_
    · rcases e with e | e
      · exact h1 e
      · exact z.p_B hy hr e
    · rcases e with e | e
      · subst e; exact z.p_B hr hy hb
      · exact h2 b e hb
  have hB : ∀ x, B' = some x → r.B = some x ∨ h.size ≤ x := fun x hx => by
    rcases kin with k | k | ⟨b, k, k2⟩
    · exact .inl (by rw [← k]; exact hx)
    · rw [k] at hx; cases hx
    · rw [k] at hx; cases hx; exact .inr k2
  refine ⟨{ z with sb := ?_, th := ?_, ch := fun y hy => ?_, get := fun y hy => ?_, all := fun k v hk => ?_, srt := sort_set z.srt, pd := pw_set z.srt z.pd fun y hy hc => ?_, bd := pw_set z.srt z.bd fun y hy hc => ?_, wf := fun y hy => ?_, us := hus, rp := fun y hy => ?_ }, ?_⟩
  · refine o.block z.sb fun e => ?_
    rcases e with e | e
    · exact (z.n_ch hr).1 e.symm
    · exact (z.n_ch hr).2 e
  · refine z.th.only o fun b hb e => ?_
    have := z.ch_ft hr hb
    rcases e with e | e
    · exact this.1 e
    · exact this.2 e
  · rcases (mem_setZ z).1 hy with e | ⟨e, e2⟩
    · subst e; exact c
    · exact keepCh y e e2
  · rcases (mem_setZ z).1 hy with e | ⟨e, e2⟩
    · subst e; exact z.get r hr
    · exact z.get y e
  · obtain ⟨y, hy, e⟩ := z.all k v hk
    by_cases hc : y.c = r.c
    · exact ⟨_, (mem_setZ z).2 (.inl rfl), by rw [e, hc]⟩
    · exact ⟨y, (mem_setZ z).2 (.inr ⟨hy, hc⟩), e⟩
  · exact ⟨fun e => (hne hy hc).1 e.symm, fun e => (hne hy hc).1 e⟩
  · refine ⟨fun x hx hy2 => ?_, fun x hx hy2 => ?_⟩
    · rcases hB x hx with e | e
      · exact (hne hy hc).2 x e hy2
      · have := (l3 y hy).2 x hy2; omega
    · rcases hB x hy2 with e | e
      · exact (hne hy hc).2 x e hx
      · have := (l3 y hy).2 x hx; omega
  · rcases (mem_setZ z).1 hy with e | ⟨e, e2⟩
    · subst e; exact ⟨(z.wf r hr).1, ok⟩
    · exact z.wf y e
  · rcases (mem_setZ z).1 hy with e | ⟨e, e2⟩
    · subst e
      refine ⟨(z.rp r hr).1, fun x hx => ?_⟩
      rcases hB x hx with e | e
      · exact (z.rp r hr).2 x e
      · exact hR x e
    · exact z.rp y e
  · refine o.mono fun b _ e => ?_
    rcases e with e | e
    · subst e; exact ⟨(z.rp r hr).1, _, .inr (.inr (.inr (.inl rfl))), hty.1⟩
    · exact ⟨(z.rp r hr).2 b e, _, .inr (.inr (.inr (.inr rfl))), hty.2 b e⟩
theorem SZG.count (z : SZG W h n tn rs es T Z slots R u t) : T.count ≤ Z.length := by
  have ku := P.KU_of z.ok
  have hl := P.tk_len z.ok
  have hn : ((P.tkL (T.row ++ T.elder)).map fun p => kL p.1).Nodup := by
    have : ((P.tkL (T.row ++ T.elder)).map fun p => kL p.1) = ((P.tkL (T.row ++ T.elder)).map (·.1)).map kL := by rw [List.map_map]; rfl
    rw [this]
    exact List.Pairwise.map _ (fun a b h e => h (kL_inj e)) ku
  have := nodup_lenG hn (L := Z.map fun r => keyL r.c) fun e he => by
    obtain ⟨⟨k, v⟩, hp, rfl⟩ := List.mem_map.1 he
    obtain ⟨w, hw, _⟩ := P.tk_val z.ok hp
    obtain ⟨r, hr, e⟩ := z.all k w hw
    exact List.mem_map.2 ⟨r, hr, e.symm⟩
  rw [List.length_map, List.length_map, hl] at this
  exact this
/-- A cell that had no versions has some. -/
theorem SZG.add {h1 h2 : H} {T' : Tb (Option Addr)} {rs' es' : Sl} {c : Cel} {p : Nat} {vs : List Ver} {B' : Option Nat} (z : SZG W h n tn rs es T Z slots R u t) (hc : okC c = 0) (hg : getK Rec.c Z c = none) (e1 : Ext h h1) (hp : h.size ≤ p) (hp1 : p < h1.size)
    (th : P.TH h2 tn rs' es' T') (ok : TOk T') (stp : Stp h1 tn rs es h2 rs' es') (hget : ∀ k, getM T' k = if kL k = kL (keyB c) then some (some ⟨p, 0, none⟩) else getM T k) (hrl : T'.row.length ≤ 4200000)
    (ch : C.Ch h' p vs B') (o : Only (C.FP p none) h2 h') (kin : C.Kin h2.size none B') (vok : W vs) (hus : unitsS (toS (setK Rec.c Z ⟨c, vs, p, B'⟩)) ≤ slots) (hR : ∀ b, h.size ≤ b → R b) :
    SZG W h' n tn rs' es' T' (setK Rec.c Z ⟨c, vs, p, B'⟩) slots R u t ∧ SOnly R h h' := by
  obtain ⟨l1, l2, l3⟩ := z.f_lt
  have z1 := z.ext e1
  have s1 := e1.size
  have s2 := stp.only.size
  have hcne : ∀ y ∈ Z, y.c ≠ c := getK_none hg
  have oB : ∀ b, b < h.size → ¬ C.FP p none b := fun b hb e => by
    rcases e with e | e
    · omega
    · cases e
  have hB : ∀ x, B' = some x → h.size ≤ x := fun x hx => by
    rcases kin with k | k | ⟨b, k, k2⟩
    · rw [k] at hx; cases hx
    · rw [k] at hx; cases hx
    · rw [k] at hx; cases hx; omega
  have keepCh : ∀ y ∈ Z, C.Ch h' y.p y.vs y.B := fun y hy => by
    have q := ((z1.ch y hy).only stp.only (fun e => (z1.ch_ft hy e).1 rfl) fun b hb e => (z1.ch_ft hy e).2 hb)
    exact q.only o (oB _ (l3 y hy).1) fun b hb => oB _ ((l3 y hy).2 b hb)
  have ft' : ∀ b, FT tn rs' es' b → b ≠ p ∧ R b := fun b hb => by
    rcases stp.new b hb with e | e
    · have := l2 b e
      refine ⟨by omega, ?_⟩
      rcases e with e | e | e
      · subst e; exact z.rt
      · exact z.rr b e
      · exact z.re b e
    · exact ⟨by omega, hR b (by omega)⟩
  refine ⟨{ sb := ?_, th := th.only o fun b hb e => ?_, ok := ok, ch := fun y hy => ?_, get := fun y hy => ?_, all := fun k v hk => ?_, srt := sort_set z.srt, pd := pw_set z.srt z.pd fun y hy hc => ?_, bd := pw_set z.srt z.bd fun y hy hc => ?_, wf := fun y hy => ?_, us := hus, sl := z.sl, rl := hrl, rn := z.rn, rt := z.rt, rr := fun b hb => (ft' b (.inr (.inl hb))).2, re := fun b hb => (ft' b (.inr (.inr hb))).2, rp := fun y hy => ?_ }, ?_⟩
  · exact o.block (stp.only.block z1.sb fun e => z1.n_ft e rfl) (oB n l1)
  · rcases e with e | e
    · exact (ft' b hb).1 e
    · cases e
  · rcases (mem_setZ z).1 hy with e | ⟨e, e2⟩
    · subst e; exact ch
    · exact keepCh y e
  · rw [hget]
    rcases (mem_setZ z).1 hy with e | ⟨e, e2⟩
    · subst e; rw [if_pos rfl]
    · rw [if_neg]
      · exact z.get y e
      · intro he
        rw [kL_keyB, kL_keyB] at he
        exact e2 (key_inj (z.wf y e).1 hc he)
  · rw [hget] at hk
    split at hk
    · rename_i he
      exact ⟨_, (mem_setZ z).2 (.inl rfl), by rw [he, kL_keyB]⟩
    · obtain ⟨y, hy, e⟩ := z.all k v hk
      exact ⟨y, (mem_setZ z).2 (.inr ⟨hy, hcne y hy⟩), e⟩
  · have := (l3 y hy).1
    exact ⟨by simp only; omega, by simp only; omega⟩
  · refine ⟨fun x hx hy2 => ?_, fun x hx hy2 => ?_⟩
    · have := hB x hx; have := (l3 y hy).2 x hy2; omega
    · have := hB x hy2; have := (l3 y hy).2 x hx; omega
  · rcases (mem_setZ z).1 hy with e | ⟨e, e2⟩
    · subst e; exact ⟨hc, vok⟩
    · exact z.wf y e
  · rcases (mem_setZ z).1 hy with e | ⟨e, e2⟩
    · subst e; exact ⟨hR _ hp, fun x hx => hR x (hB x hx)⟩
    · exact z.rp y e
  · have a1 : SOnly R h h1 := SOnly.of e1
    have a2 : SOnly R h1 h2 := stp.only.mono fun b _ e => by
      obtain ⟨ty, q1, q2⟩ := ft_ty z1.th e
      refine ⟨?_, ty, ?_, q1⟩
      · rcases e with e | e | e
        · subst e; exact z.rt
        · exact z.rr b e
        · exact z.re b e
      · rcases q2 with rfl | rfl
        · exact .inr (.inl rfl)
        · exact .inr (.inr (.inl rfl))
    exact Only.trans (SOnly.trans a1 a2) o fun m hm e => absurd e (oB m hm)
end
theorem lastE_newest {vs : List Ver} : C.lastE vs = (C.newestM vs).2.1 := by
  unfold C.lastE C.newestM
  cases vs.getLast? <;> rfl
theorem lay_last (vs : List Ver) (x : Ver) : (C.layM vs x).getLast? = some x := by
  unfold C.layM
  split <;> simp
theorem lay_newest (vs : List Ver) (x : Ver) : C.newestM (C.layM vs x) = (x.value, x.epoch, !x.dead) := by
  unfold C.newestM; rw [lay_last]
theorem lay_len (vs : List Ver) (x : Ver) : ((C.layM vs x).length : Int) = vs.length + C.layN vs x := by
  unfold C.layM C.layN
  split
  · rename_i h
    have := List.length_pos_iff.2 h.1
    simp; omega
  · simp
theorem layN_range (vs : List Ver) (x : Ver) : C.layN vs x = 0 ∨ C.layN vs x = 1 := by
  unfold C.layN; split <;> simp
theorem lay_units (vs : List Ver) (x : Ver) : ((unitsV (C.layM vs x) : Nat) : Int) = vs.length + C.layN vs x + (if x.dead then 0 else 1) := by
  unfold unitsV alive
  rw [lay_newest]
  have := lay_len vs x
  cases x.dead <;> simp <;> omega
theorem lay_alive (vs : List Ver) (x : Ver) : aliveN (C.layM vs x) = if x.dead then 0 else 1 := by
  unfold aliveN alive
  rw [lay_newest]
  cases x.dead <;> simp
theorem units_eq (vs : List Ver) : unitsV vs = vs.length + aliveN vs := rfl
theorem last_le {vs : List Ver} (hr : C.Rise vs) : ∀ v ∈ vs, v.epoch ≤ C.lastE vs := fun v hv => by
  unfold C.lastE
  have hn : vs ≠ [] := fun e => by rw [e] at hv; cases hv
  rw [List.getLast?_eq_some_getLast hn]
  obtain ⟨i, hi⟩ := List.mem_iff_getElem?.1 hv
  have hl := C.last_get hn
  have h1 := (List.getElem?_eq_some_iff.1 hi).1
  by_cases e : i = vs.length - 1
  · rw [e, hl] at hi; cases hi; exact Int.le_refl _
  · have := hr.lt (show i < vs.length - 1 by omega) hi hl
    simp only; omega
theorem lastE_get {vs : List Ver} (hn : vs ≠ []) : C.lastE vs = (vs.getLast hn).epoch := by
  unfold C.lastE; rw [List.getLast?_eq_some_getLast hn]
theorem lay_ok {vs : List Ver} {x : Ver} (h : vs = [] ∨ VOk vs) (he : C.lastE vs ≤ x.epoch ∨ vs = []) (hd : x.dead = true → x.value = zA) (h1 : 1 ≤ x.epoch) (h2 : x.epoch ≤ 1099511627776) : VOk (C.layM vs x) := by
  have hr : C.Rise vs := by
    rcases h with h | h
    · subst h; exact List.Pairwise.nil
    · exact h.rise
  have hdd : ∀ v ∈ vs, (v.dead = true → v.value = zA) ∧ 1 ≤ v.epoch ∧ v.epoch ≤ 1099511627776 := fun v hv => by
    rcases h with h | h
    · subst h; cases hv
    · exact ⟨h.dead v hv, h.ep v hv⟩
  have hlast := last_le hr
  have hmem : ∀ v ∈ C.layM vs x, v = x ∨ v ∈ vs := fun v hv => by
    unfold C.layM at hv
    split at hv
    · rcases List.mem_append.1 hv with e | e
      · exact .inr ((List.dropLast_sublist vs).subset e)
      · exact .inl (List.mem_singleton.1 e)
    · rcases List.mem_append.1 hv with e | e
      · exact .inr e
      · exact .inl (List.mem_singleton.1 e)
  refine ⟨fun e => ?_, ?_, fun v hv => ?_, fun v hv => ?_⟩
  · have := lay_last vs x
    rw [e] at this; cases this
  · unfold C.layM
    split
    · rename_i g
      refine List.pairwise_append.2 ⟨List.Pairwise.sublist (List.dropLast_sublist vs) hr, List.pairwise_singleton _ _, fun a ha b hb => ?_⟩
      obtain rfl := List.mem_singleton.1 hb
      have hd2 : vs = vs.dropLast ++ [vs.getLast g.1] := (List.dropLast_concat_getLast g.1).symm
      have hr2 := hr
      unfold C.Rise at hr2
      rw [hd2] at hr2
      have := (List.pairwise_append.1 hr2).2.2 a ha (vs.getLast g.1) (by simp)
      have hl := lastE_get g.1
      have := g.2
      omega
    · rename_i g
      refine List.pairwise_append.2 ⟨hr, List.pairwise_singleton _ _, fun a ha b hb => ?_⟩
      obtain rfl := List.mem_singleton.1 hb
      have hn : vs ≠ [] := fun e => by rw [e] at ha; cases ha
      have h3 := hlast a ha
      have h4 : C.lastE vs ≠ b.epoch := fun e => g ⟨hn, e⟩
      rcases he with he | he
      · omega
      · exact absurd he hn
  · rcases hmem v hv with e | e
    · subst e; exact hd
    · exact (hdd v e).1
  · rcases hmem v hv with e | e
    · subst e; exact ⟨h1, h2⟩
    · exact (hdd v e).2
theorem set_units {S : SL} (hs : SortS S) (c : Cel) (vs : List Ver) : unitsS (setS S c vs) + unitsV ((getS S c).getD []) = unitsS S + unitsV vs := by
  have := sum_set (key := fun x : Cel × List Ver => x.1) (x := (c, vs)) (fun x => unitsV x.2) hs
  have e : ((getK (fun x : Cel × List Ver => x.1) S c).map fun x => unitsV x.2).getD 0 = unitsV ((getS S c).getD []) := by
    unfold getS
    cases getK (fun x : Cel × List Ver => x.1) S c <;> rfl
  rw [← e]; exact this
theorem set_there {S : SL} (hs : SortS S) (c : Cel) (vs : List Ver) : thereS (setS S c vs) + aliveN ((getS S c).getD []) = thereS S + aliveN vs := by
  have := sum_set (key := fun x : Cel × List Ver => x.1) (x := (c, vs)) (fun x => aliveN x.2) hs
  have e : ((getK (fun x : Cel × List Ver => x.1) S c).map fun x => aliveN x.2).getD 0 = aliveN ((getS S c).getD []) := by
    unfold getS
    cases getK (fun x : Cel × List Ver => x.1) S c <;> rfl
  rw [← e]; exact this
theorem toS_set (Z : List Rec) (r : Rec) : toS (setK Rec.c Z r) = setS (toS Z) r.c r.vs :=
  map_set (key := Rec.c) (key' := fun x : Cel × List Ver => x.1) (fun r : Rec => (r.c, r.vs)) (fun _ => rfl) Z
/-- What a write takes more. -/
theorem need_lay (o : Option (List Ver)) (e : Int) (x : Ver) (hx : x.epoch = e) (hd : x.dead = false) (hn : ¬ (C.newestM (o.getD [])).2.1 > e) (ho : ∀ vs, o = some vs → vs ≠ []) : needV o e = C.layN (o.getD []) x + 1 - aliveN (o.getD []) := by
  cases o with
  | none => rfl
  | some vs =>
    have hne := ho vs rfl
    simp only [Option.getD_some] at hn ⊢
    unfold needV
    simp only
    rw [if_neg hn]
    by_cases h1 : (C.newestM vs).2.1 = e
    · have hl : C.layN vs x = 0 := by unfold C.layN; rw [if_pos ⟨hne, by rw [lastE_newest, hx]; exact h1⟩]
      rw [hl]
      unfold aliveN
      by_cases h2 : alive vs = true
      · rw [if_pos ⟨h1, h2⟩, if_pos h2]; rfl
      · rw [if_neg (fun h => h2 h.2), if_pos (.inl h1), if_neg h2]; rfl
    · have hl : C.layN vs x = 1 := by unfold C.layN; rw [if_neg (fun h => h1 (by rw [← lastE_newest, ← hx]; exact h.2))]
      rw [hl, if_neg (fun h => h1 h.1)]
      unfold aliveN
      by_cases h2 : alive vs = true
      · rw [if_pos (.inr h2), if_pos h2]; rfl
      · rw [if_neg (fun h => h.elim h1 h2), if_neg h2]; rfl
end Go.Proofs.Ytoccbnhahaoeiaa.V.S
namespace Go.Proofs.Ytoccbnhahaoeiaa.V.S
open Go Go.Proofs.Ytoccbnhahaoeiaa.V
set_option linter.unusedVariables false
set_option linter.unusedSimpArgs false
set_option maxRecDepth 20000
/-- What agg.Right tells of an aggregate. -/
def RightIs (a : S_api_Agg) (b : Bool) : Prop := ∀ (h : H) (Q : Bool → H → Prop), (∀ h', Ext h h' → Q b h') → F.agg_Right a h Q
def putE (S : SL) (slots : Nat) (e : Int) (c : Cel) (a : S_api_Agg) (rt : Bool) : Int :=
  if okC c ≠ 0 then okC c else if e < 1 ∨ e > 1099511627776 ∨ a.Count = 0 ∨ rt = false then 1 else if (C.newestM ((getS S c).getD [])).2.1 > e then 32 else if (unitsS S : Int) + needS S e c > slots then 31 else 0
def putS (S : SL) (e : Int) (c : Cel) (a : S_api_Agg) : SL := setS S c (C.layM ((getS S c).getD []) ⟨e, a, false⟩)
def killE (S : SL) (e : Int) (c : Cel) : Int :=
  if okC c ≠ 0 then okC c else if e < 1 ∨ e > 1099511627776 then 1 else match getS S c with
  | none => 44
  | some vs => if (C.newestM vs).2.1 > e then 32 else if alive vs = false then 44 else 0
def killS (S : SL) (e : Int) (c : Cel) : SL := setS S c (C.layM ((getS S c).getD []) ⟨e, zA, true⟩)
theorem getS_ne {S : SL} (h : SOk S) {c : Cel} : ∀ vs, getS S c = some vs → VOk vs := fun vs hg => by
  unfold getS at hg
  cases hx : getK (fun x : Cel × List Ver => x.1) S c with
  | none => rw [hx] at hg; cases hg
  | some x =>
    rw [hx] at hg; cases hg
    exact (h.ok x (getK_some hx).1).2
theorem put_units {S : SL} (h : SOk S) {e : Int} {c : Cel} {a : S_api_Agg} (hc : okC c = 0) (hn : ¬ (C.newestM ((getS S c).getD [])).2.1 > e) :
    (unitsS (putS S e c a) : Int) = unitsS S + needS S e c ∧ (thereS (putS S e c a) : Int) = thereS S + (1 - aliveN ((getS S c).getD [])) ∧ needS S e c = C.layN ((getS S c).getD []) ⟨e, a, false⟩ + (1 - aliveN ((getS S c).getD [])) := by
  have h1 := set_units h.sort c (C.layM ((getS S c).getD []) ⟨e, a, false⟩)
  have h2 := set_there h.sort c (C.layM ((getS S c).getD []) ⟨e, a, false⟩)
  have h3 := lay_units ((getS S c).getD []) ⟨e, a, false⟩
  have h4 := lay_alive ((getS S c).getD []) ⟨e, a, false⟩
  have h5 := units_eq ((getS S c).getD [])
  have h6 := need_lay (getS S c) e ⟨e, a, false⟩ rfl rfl hn fun vs hv => (getS_ne h vs hv).ne
  have h7 : needS S e c = needV (getS S c) e := by unfold needS; rw [if_neg (fun h => h hc)]
  simp only [Bool.false_eq_true, if_false] at h3 h4
  unfold putS
  rw [h7]
  refine ⟨by omega, by omega, by omega⟩
theorem mayM_ok {vs : List Ver} {e : Int} (h1 : 1 ≤ e) (h2 : e ≤ 1099511627776) : C.mayM vs e = if vs ≠ [] ∧ e < (C.newestM vs).2.1 then 32 else 0 := by
  unfold C.mayM
  rw [if_neg (by omega), lastE_newest]
section
variable {h : H} {n : Nat} {S : SL} {slots : Nat} {R : Nat → Prop}
theorem Put_spec {e : Int} {x : S_api_Row} {rt : Bool} {Q : Int → H → Prop} (s : SH h n S slots R) (hrt : RightIs x.Agg rt) (hR : ∀ b, h.size ≤ b → R b)
    (k0 : putE S slots e x.Cell x.Agg rt ≠ 0 → ∀ h', Ext h h' → Q (putE S slots e x.Cell x.Agg rt) h')
    (k1 : putE S slots e x.Cell x.Agg rt = 0 → ∀ h', SH h' n (putS S e x.Cell x.Agg) slots R → SOnly R h h' → Q 0 h') : F.shard_Shard_Put (some ⟨n, 0, none⟩) e x h Q := by
  have sok := s.ok
  obtain ⟨tn, rs, es, T, Z, hZ, z⟩ := s
  obtain ⟨c, a⟩ := x
  simp only at hrt k0 k1
  unfold F.shard_Shard_Put
  refine new_of fun m h1 hm b1 e1 s1 => ?_
  have rc : Cells h1 ⟨m, 0, none⟩ (c.cells ++ a.cells) := Blk.cells b1
  simp only [add_lit, Nat.zero_add, Nat.add_zero]
  have ra : ∀ {hh : H}, Ext h1 hh → Cells hh ⟨m, 3, none⟩ a.cells := fun ee => (cells_r rc : Cells h1 ⟨m, 0 + 3, none⟩ a.cells).ext ee
  have rcc : ∀ {hh : H}, Ext h1 hh → Cells hh ⟨m, 0, none⟩ c.cells := fun ee => (cells_l rc).ext ee
  refine ⟨c, rcc (.refl _), ?_⟩
  unfold putE at k0 k1
  refine key_spec (fun g h2 e2 => ⟨fun _ => ?_, fun g2 => absurd (by simpa using g2) g⟩) fun g h2 e2 => ⟨fun g2 => by simp at g2, fun _ => ?_⟩
  · rw [if_pos g] at k0; exact k0 g h2 (e1.trans e2)
  rw [if_neg (fun h => h g)] at k0 k1
  have e02 := e1.trans e2
  have a0 : ∀ {hh : H}, Ext h1 hh → cellH hh ⟨m, 3, none⟩ = some (.int .i64 a.Count) := fun ee => ra ee 0 _ rfl
  -- a bad argument
  have bad : ∀ {hh : H}, Ext h hh → (e < 1 ∨ e > 1099511627776 ∨ a.Count = 0 ∨ rt = false) → F.shard_Shard_Put.j4 Q (some ⟨n, 0, none⟩) e ⟨m, 0, none⟩ (keyB c) true hh := fun ee hb => by
    unfold F.shard_Shard_Put.j4
    refine ⟨fun _ => ?_, fun h => by cases h⟩
    rw [if_pos hb] at k0
    exact k0 (by decide) _ ee
  -- the last step: a chain that is there is written
  have j1 : ∀ h3, Ext h2 h3 → 1 ≤ e → e ≤ 1099511627776 → a.Count ≠ 0 → rt = true → F.shard_Shard_Put.j1 Q (some ⟨n, 0, none⟩) e ⟨m, 0, none⟩ (keyB c) h3 := by
    intro h3 e3 he1 he2 hac hrt1
    rw [if_neg (by rintro (h | h | h | h)
                   · omega
                   · omega
                   · exact hac h
                   · rw [hrt1] at h; cases h)] at k0 k1
    have e03 := e02.trans e3
    have z3 := z.ext e03
    unfold F.shard_Shard_Put.j1
    simp only [nn_some, add_lit, Nat.zero_add, Nat.add_zero]
    rw [ldP_iff z3.cs3]
    refine P.Get_spec z3.th z3.ok (key_small g) fun h4 e4 => ?_
    have e04 := e03.trans e4
    have e14 : Ext h1 h4 := (e2.trans e3).trans e4
    have z4 := z3.ext e4
    have hlk := z3.look g
    rw [hlk]
    -- room is asked for
    have j2 : ∀ (h5 : H) (l : Option Addr) (is th : Bool), Ext h4 h5 → ¬ (C.newestM ((getS S c).getD [])).2.1 > e → ((unitsS S : Int) + needS S e c ≤ slots → ∀ h6, Ext h5 h6 → ((!is) = true → F.chain_New_api_Agg h6 fun r60 h59 => ldP h59 ⟨n, 3, none⟩ fun y63 => F.table_Table_chain_Chain_api_Agg_Put y63 (keyB c) r60 h59 fun h65 => F.shard_Shard_Put.j3 Q (some ⟨n, 0, none⟩) e ⟨m, 0, none⟩ r60 th h65) ∧ ((!is) = false → F.shard_Shard_Put.j3 Q (some ⟨n, 0, none⟩) e ⟨m, 0, none⟩ l th h6)) →
        F.shard_Shard_Put.j2 Q (some ⟨n, 0, none⟩) e ⟨m, 0, none⟩ (keyB c) l is th h5 := by
      intro h5 l is th e5 hnw hgo
      have z5 := z4.ext e5
      unfold F.shard_Shard_Put.j2
      simp only [nn_some, add_lit, Nat.zero_add, Nat.add_zero]
      rw [ldI_iff z5.cs0]
      refine ⟨c, rcc (e14.trans e5), ldI_of z5.cs2 (need_spec z5 fun h6 e6 => ⟨(z5.ext e6).cs2, (z5.ext e6).cs0, ?_⟩)⟩
      rw [hZ]
      rw [if_neg hnw] at k0 k1
      have hus := z.us
      have hsl := z.sl
      rw [hZ] at hus
      have hnd : 0 ≤ needS S e c ∧ needS S e c ≤ 2 := by
        unfold needS needV
        split
        · omega
        · cases getS S c with
          | none => simp
          | some vs => simp only; split <;> (try split) <;> (try split) <;> omega
      rw [w64 (by omega) (by omega)]
      refine ⟨fun g2 => ?_, fun g2 => hgo (by have := of_decide_eq_false g2; omega) h6 e6⟩
      have g2 := of_decide_eq_true g2
      rw [if_pos g2] at k0
      exact k0 (by decide) h6 ((e04.trans e5).trans e6)
    have hgs : getS S c = (getK Rec.c Z c).map (·.vs) := by rw [← hZ]; exact z.getS c
    have hpu := fun (hn : ¬ (C.newestM ((getS S c).getD [])).2.1 > e) => put_units (a := a) sok g hn
    -- the numbers
    have nums : ∀ (h8 : H) (rs' es' : Sl) (T' : Tb (Option Addr)) (Z' : List Rec) (th : Bool), SZ h8 n tn rs' es' T' Z' slots R (unitsS S : Int) (thereS S : Int) → toS Z' = putS S e c a → SOnly R h h8 → ¬ (C.newestM ((getS S c).getD [])).2.1 > e → (unitsS S : Int) + needS S e c ≤ slots →
        (aliveN ((getS S c).getD []) = if th then 1 else 0) →
        (nn (some ⟨n, 0, none⟩) fun a36 => ldI .i64 h8 ((a36.add 0).add 0) fun y38 => nn (some ⟨n, 0, none⟩) fun a40 => stH h8 ((a40.add 0).add 0) [(.int .i64 (IntKind.wrap .i64 (y38 + C.layN ((getS S c).getD []) ⟨e, a, false⟩)))] fun h42 =>
          ((!th) = true → nn (some ⟨n, 0, none⟩) fun a44 => ldI .i64 h42 ((a44.add 0).add 0) fun y46 => nn (some ⟨n, 0, none⟩) fun a48 => stH h42 ((a48.add 0).add 0) [(.int .i64 (IntKind.wrap .i64 (y46 + 1)))] fun h50 => nn (some ⟨n, 0, none⟩) fun a51 => ldI .i64 h50 ((a51.add 0).add 1) fun y53 => nn (some ⟨n, 0, none⟩) fun a55 => stH h50 ((a55.add 0).add 1) [(.int .i64 (IntKind.wrap .i64 (y53 + 1)))] fun h57 => Q 0 h57) ∧ ((!th) = false → Q 0 h42)) := by
      intro h8 rs' es' T' Z' th z8 hZ' so hnw hroom hth
      obtain ⟨p1, p2, p3⟩ := hpu hnw
      have hsl := z.sl
      have htl : thereS S ≤ unitsS S := there_le
      have hus := z.us
      rw [hZ] at hus
      have hlr := layN_range ((getS S c).getD []) ⟨e, a, false⟩
      rw [if_neg hnw, if_neg (show ¬ (unitsS S : Int) + needS S e c > slots by omega)] at k1
      simp only [nn_some, add_lit, Nat.zero_add, Nat.add_zero]
      rw [ldI_iff z8.cs0, w64 (by omega) (by omega)]
      refine z8.st0 fun h9 z9 o9 => ?_
      have so9 := so.trans o9
      refine ⟨fun g3 => ?_, fun g3 => ?_⟩
      · have hth0 : th = false := by simpa using g3
        rw [hth0] at hth
        simp only [Bool.false_eq_true, if_false] at hth
        rw [ldI_iff z9.cs0, w64 (by omega) (by omega)]
        refine z9.st0 fun h10 z10 o10 => ?_
        rw [ldI_iff z10.cs1, w64 (by omega) (by omega)]
        refine z10.st1 fun h11 z11 o11 => ?_
        refine k1 rfl h11 ⟨tn, rs', es', T', Z', hZ', ?_⟩ ((so9.trans o10).trans o11)
        rw [hZ', p1, p2, p3, hth]
        have q1 : (unitsS S : Int) + C.layN ((getS S c).getD []) ⟨e, a, false⟩ + 1 = unitsS S + (C.layN ((getS S c).getD []) ⟨e, a, false⟩ + (1 - ((0 : Nat) : Int))) := by omega
        have q2 : (thereS S : Int) + 1 = thereS S + (1 - ((0 : Nat) : Int)) := by omega
        rw [← q1, ← q2]; exact z11
      · have hth1 : th = true := by simpa using g3
        rw [hth1] at hth
        simp only [if_true] at hth
        refine k1 rfl h9 ⟨tn, rs', es', T', Z', hZ', ?_⟩ so9
        rw [hZ', p1, p2, p3, hth]
        have q1 : (unitsS S : Int) + C.layN ((getS S c).getD []) ⟨e, a, false⟩ = unitsS S + (C.layN ((getS S c).getD []) ⟨e, a, false⟩ + (1 - ((1 : Nat) : Int))) := by omega
        have q2 : (thereS S : Int) = thereS S + (1 - ((1 : Nat) : Int)) := by omega
        rw [← q1, ← q2]; exact z9
    cases hg : getK Rec.c Z c with
    | none =>
      refine ⟨fun h => (by cases h), fun _ => ?_⟩
      have hgd : (getS S c).getD [] = [] := by rw [hgs, hg]; rfl
      have hnw : ¬ (C.newestM ((getS S c).getD [])).2.1 > e := by rw [hgd]; show ¬ (0 : Int) > e; omega
      refine j2 h4 _ _ _ (.refl _) hnw fun hroom h6 e6 => ⟨fun _ => ?_, fun h => by cases h⟩
      have z6 := z4.ext e6
      refine C.New_spec fun p h7 hp c7 e7 => ?_
      have z7 := z6.ext e7
      rw [ldP_iff z7.cs3]
      obtain ⟨T', t1, t2, t3, t4, t5, t6⟩ := put_ok (z := P.nilA) z7.ok (keyB c) (some ⟨p, 0, none⟩)
      have hcnt := z7.count
      have hzl := z7.len
      have hrl := z7.rl
      have hgn : getM T (keyB c) = none := by rw [z.look g, hg]; rfl
      rw [hgn] at t5
      simp only [Option.isSome_none, Bool.false_eq_true, if_false] at t5
      have hrl' : T'.row.length ≤ 4200000 := by
        rcases t6 with ⟨_, q1, q2, _⟩ | ⟨_, q2, _⟩
        · have q1 : 3 * T.row.length < 4 * (T.count + 1) := q1
          omega
        · omega
      refine P.Put_spec z7.th z7.ok (key_small g) t1 (by show _ ≤ 1099511627776; omega) (by show _ ≤ 1099511627776; omega) fun h8 rs' es' th8 stp => ?_
      unfold F.shard_Shard_Put.j3
      simp only [add_lit, Nat.zero_add, Nat.add_zero]
      have hp6 : p < h7.size := c7.lt
      have l7 := z7.f_lt
      have c8 : C.Ch h8 p [] none := c7.only stp.only (fun hb => by
        have := z6.th.lt p hb; omega) fun b hb => by cases hb
      have e17 : Ext h1 h7 := (e14.trans e6).trans e7
      have e07 := ((e04.trans e6).trans e7)
      have rb8 : Cells h8 ⟨m, 3, none⟩ a.cells := (ra e17).only stp.only fun hb => by
        have := z.th.lt m hb; omega
      refine ⟨a, rb8, ?_⟩
      refine C.Put_spec c8 (by simp) (fun h => absurd (by rw [mayM_ok he1 he2]; simp) h) fun _ h9 B' c9 o9 kin9 => ?_
      have hsetq : toS (setK Rec.c Z ⟨c, C.layM [] ⟨e, a, false⟩, p, B'⟩) = putS S e c a := by
        rw [toS_set, hZ]; unfold putS; rw [hgd]
      have vok : VOk (C.layM [] ⟨e, a, false⟩) := lay_ok (.inl rfl) (.inr rfl) (fun h => by cases h) he1 he2
      obtain ⟨p1, p2, p3⟩ := hpu hnw
      have hz := z.add (c := c) g hg (e07) (by have := ((e04.trans e6)).size; omega) hp6 th8 t2 stp t4 hrl' c9 o9 kin9 vok (by rw [hsetq]; omega) hR
      have := nums h9 rs' es' T' _ false (by rw [← hZ]; exact hz.1) hsetq hz.2 hnw hroom (by rw [hgd]; rfl)
      rw [hgd] at this
      exact this
    | some r =>
      refine ⟨fun _ => ?_, fun h => by cases h⟩
      obtain ⟨hr, hrc⟩ := getK_some hg
      have hgd : (getS S c).getD [] = r.vs := by rw [hgs, hg]; rfl
      have hv := (z.wf r hr).2
      refine C.Newest_spec (z4.ch r hr) (by have := z.vlen hr; omega) fun h5 e5 => ⟨fun g2 => ?_, fun g2 => ?_⟩
      · have g2 := of_decide_eq_true g2
        rw [hgd, if_pos g2] at k0
        exact k0 (by decide) h5 (e04.trans e5)
      have hnw : ¬ (C.newestM ((getS S c).getD [])).2.1 > e := by rw [hgd]; exact of_decide_eq_false g2
      refine j2 h5 _ _ _ e5 hnw fun hroom h6 e6 => ⟨fun h => (by cases h), fun _ => ?_⟩
      have e06 := (e04.trans e5).trans e6
      have z6 := z.ext e06
      unfold F.shard_Shard_Put.j3
      simp only [add_lit, Nat.zero_add, Nat.add_zero]
      refine ⟨a, ra ((e14.trans e5).trans e6), ?_⟩
      refine C.Put_spec (z6.ch r hr) (by have := z.vlen hr; omega) (fun h => absurd (by rw [mayM_ok he1 he2, if_neg (fun h2 => by rw [hgd] at hnw; omega)]) h) fun _ h9 B' c9 o9 kin9 => ?_
      have hsetq : toS (setK Rec.c Z ⟨r.c, C.layM r.vs ⟨e, a, false⟩, r.p, B'⟩) = putS S e c a := by
        rw [toS_set, hZ, hrc]; unfold putS; rw [hgd]
      have hn2 : C.lastE r.vs ≤ e := by rw [lastE_newest]; rw [hgd] at hnw; omega
      have vok : VOk (C.layM r.vs ⟨e, a, false⟩) := lay_ok (.inr hv) (.inl hn2) (fun h => by cases h) he1 he2
      obtain ⟨p1, p2, p3⟩ := hpu hnw
      have hz := z6.lay hr c9 o9 kin9 vok (by rw [hsetq]; omega) fun b hb => hR b (by have := e06.size; omega)
      have := nums h9 rs es T _ (alive r.vs) (by rw [← hZ]; exact hz.1) hsetq ((SOnly.of e06).trans hz.2) hnw hroom (by rw [hgd]; rfl)
      rw [hgd] at this
      exact this
  have e2r : Ext h1 h2 := e2
  refine ⟨fun g2 => bad e02 (.inl (of_decide_eq_true g2)), fun g2 => ⟨fun g3 => bad e02 (.inr (.inl (of_decide_eq_true g3))), fun g3 => ?_⟩⟩
  rw [ldI_iff (a0 e2)]
  refine ⟨fun g4 => bad e02 (.inr (.inr (.inl (by simpa using g4)))), fun g4 => ⟨a, ra e2, hrt h2 _ fun h3 e3 => ?_⟩⟩
  have g2 := of_decide_eq_false g2
  have g3 := of_decide_eq_false g3
  have g4 : a.Count ≠ 0 := by simpa using g4
  cases hrv : rt with
  | false => exact bad (e02.trans e3) (.inr (.inr (.inr hrv)))
  | true =>
    unfold F.shard_Shard_Put.j4
    exact ⟨fun h => (by cases h), fun _ => j1 h3 e3 (by omega) (by omega) g4 hrv⟩
theorem kill_units {S : SL} (h : SOk S) {e : Int} {c : Cel} {vs : List Ver} (hg : getS S c = some vs) (ha : alive vs = true) :
    (unitsS (killS S e c) : Int) = unitsS S + (C.layN vs ⟨e, zA, true⟩ - 1) ∧ (thereS (killS S e c) : Int) = thereS S - 1 := by
  have h1 := set_units h.sort c (C.layM ((getS S c).getD []) ⟨e, zA, true⟩)
  have h2 := set_there h.sort c (C.layM ((getS S c).getD []) ⟨e, zA, true⟩)
  have h3 := lay_units ((getS S c).getD []) ⟨e, zA, true⟩
  have h4 := lay_alive ((getS S c).getD []) ⟨e, zA, true⟩
  have h5 := units_eq ((getS S c).getD [])
  have h6 : aliveN ((getS S c).getD []) = 1 := by rw [hg]; unfold aliveN; rw [Option.getD_some, if_pos ha]
  simp only [if_true] at h3 h4
  rw [show (C.layN vs ⟨e, zA, true⟩) = C.layN ((getS S c).getD []) ⟨e, zA, true⟩ from by rw [hg]; rfl]
  unfold killS
  refine ⟨by omega, by omega⟩
theorem Kill_spec {e : Int} {c : Cel} {Q : Int → H → Prop} (s : SH h n S slots R) (hR : ∀ b, h.size ≤ b → R b)
    (k0 : killE S e c ≠ 0 → ∀ h', Ext h h' → Q (killE S e c) h')
    (k1 : killE S e c = 0 → ∀ h', SH h' n (killS S e c) slots R → SOnly R h h' → Q 0 h') : F.shard_Shard_Kill (some ⟨n, 0, none⟩) e c h Q := by
  have sok := s.ok
  obtain ⟨tn, rs, es, T, Z, hZ, z⟩ := s
  unfold F.shard_Shard_Kill
  refine new_of fun m h1 hm b1 e1 s1 => ⟨c, Blk.cells b1, ?_⟩
  unfold killE at k0 k1
  refine key_spec (fun g h2 e2 => ⟨fun _ => ?_, fun g2 => absurd (by simpa using g2) g⟩) fun g h2 e2 => ⟨fun g2 => by simp at g2, fun _ => ?_⟩
  · rw [if_pos g] at k0; exact k0 g h2 (e1.trans e2)
  rw [if_neg (fun h => h g)] at k0 k1
  have e02 := e1.trans e2
  have bad : (e < 1 ∨ e > 1099511627776) → F.shard_Shard_Kill.j2 Q (some ⟨n, 0, none⟩) e ⟨m, 0, none⟩ true h2 := fun hb => by
    unfold F.shard_Shard_Kill.j2
    refine ⟨fun _ => ?_, fun h => by cases h⟩
    rw [if_pos hb] at k0
    exact k0 (by decide) _ e02
  refine ⟨fun g2 => bad (.inl (of_decide_eq_true g2)), fun g2 => ?_⟩
  have g2 := of_decide_eq_false g2
  cases hb : decide (e > 1099511627776) with
  | true => exact bad (.inr (of_decide_eq_true hb))
  | false =>
    have g3 := of_decide_eq_false hb
    unfold F.shard_Shard_Kill.j2
    refine ⟨fun h => (by cases h), fun _ => ?_⟩
    rw [if_neg (by omega)] at k0 k1
    unfold F.shard_Shard_Kill.j1
    refine ⟨c, (Blk.cells b1).ext e2, ?_⟩
    have z2 := z.ext e02
    have hgs : getS S c = (getK Rec.c Z c).map (·.vs) := by rw [← hZ]; exact z.getS c
    refine chain_spec z2 (fun g4 h3 e3 => ⟨fun _ => ?_, fun h => by simp at h⟩) fun _ r hg h3 e3 => ⟨fun h => by simp at h, fun _ => ?_⟩
    · have : getK Rec.c Z c = none := by
        rcases g4 with g4 | g4
        · exact absurd g g4
        · exact g4
      rw [hgs, this] at k0
      exact k0 (fun h => by cases h) h3 (e02.trans e3)
    · obtain ⟨hr, hrc⟩ := getK_some hg
      rw [hg] at hgs
      have hgs : getS S c = some r.vs := hgs
      rw [hgs] at k0 k1
      dsimp only at k0 k1
      have e03 := e02.trans e3
      have z3 := z.ext e03
      have hv := (z.wf r hr).2
      have hml := mayM_ok (vs := r.vs) (e := e) (by omega) (by omega)
      have hmne : r.vs ≠ [] := hv.ne
      refine C.Kill_spec (z3.ch r hr) (by have := z.vlen hr; omega) (fun g4 => ⟨fun g5 => ?_, fun g5 => ?_⟩) (fun g4 g5 h4 e4 => ⟨fun _ => ?_, fun h => by simp at h⟩) fun g4 g5 h4 B' c4 o4 kin4 => ⟨fun h => by simp at h, fun _ => ?_⟩
      · rw [hml] at g4 ⊢
        have : r.vs ≠ [] ∧ e < (C.newestM r.vs).2.1 := by
          refine Classical.byContradiction fun hn => ?_
          rw [if_neg hn] at g4; exact g4 rfl
        rw [if_pos this]
        rw [if_pos (show (C.newestM r.vs).2.1 > e from this.2)] at k0
        exact k0 (by decide) h3 e03
      · exact absurd (by simpa using g5) g4
      · have hnw : ¬ (C.newestM r.vs).2.1 > e := fun hh => by rw [hml, if_pos ⟨hmne, hh⟩] at g4; cases g4
        rw [if_neg hnw, if_pos (show alive r.vs = false from g5)] at k0
        exact k0 (by decide) h4 (e03.trans e4)
      · have hnw : ¬ (C.newestM r.vs).2.1 > e := fun hh => by rw [hml, if_pos ⟨hmne, hh⟩] at g4; cases g4
        rw [if_neg hnw, if_neg (show ¬ alive r.vs = false from by rw [show alive r.vs = (C.newestM r.vs).2.2 from rfl, g5]; decide)] at k1
        obtain ⟨p1, p2⟩ := kill_units (e := e) sok hgs g5
        have hus := z.us
        have hsl := z.sl
        rw [hZ] at hus
        have hlr := layN_range r.vs ⟨e, zA, true⟩
        have htl : thereS S ≤ unitsS S := there_le
        have hsetq : toS (setK Rec.c Z ⟨r.c, C.layM r.vs ⟨e, zA, true⟩, r.p, B'⟩) = killS S e c := by
          rw [toS_set, hZ, hrc]; unfold killS; rw [hgs]; rfl
        have hn2 : C.lastE r.vs ≤ e := by rw [lastE_newest]; omega
        have vok : VOk (C.layM r.vs ⟨e, zA, true⟩) := lay_ok (.inr hv) (.inl hn2) (fun _ => rfl) (by show 1 ≤ e; omega) (by show e ≤ _; omega)
        have hz := z3.lay hr c4 o4 kin4 vok (by rw [hsetq]; omega) fun b hb => hR b (by have := e03.size; omega)
        obtain ⟨z4, so4⟩ := hz
        rw [hZ] at z4
        simp only [nn_some, add_lit, Nat.zero_add, Nat.add_zero]
        rw [ldI_iff z4.cs0, w64 (n := C.layN r.vs ⟨e, zA, true⟩ - 1) (by omega) (by omega), w64 (by omega) (by omega)]
        refine z4.st0 fun h5 z5 o5 => ?_
        rw [ldI_iff z5.cs1, w64 (by omega) (by omega)]
        refine z5.st1 fun h6 z6 o6 => ?_
        refine k1 rfl h6 ⟨tn, rs, es, T, _, hsetq, ?_⟩ ((((SOnly.of e03).trans so4).trans o5).trans o6)
        rw [hsetq, p1, p2]; exact z6
end
end Go.Proofs.Ytoccbnhahaoeiaa.V.S
namespace Go.Proofs.Ytoccbnhahaoeiaa.V.S
open Go Go.Proofs.Ytoccbnhahaoeiaa.V
set_option linter.unusedVariables false
set_option linter.unusedSimpArgs false
set_option maxRecDepth 20000
abbrev Rw := S_api_Row
/-- The keys of a shard's table, with what lies under them. -/
def keysZ (Z : List Rec) : List (ByteArray × Option Addr) := Z.map fun r => (keyB r.c, some ⟨r.p, 0, none⟩)
theorem keysZ_len (Z : List Rec) : (keysZ Z).length = Z.length := List.length_map _
theorem cB_lt : ∀ (x y : List UInt8), Lib.compareBytes x y = -1 → x < y
  | [], [], h => by simp [Lib.compareBytes] at h
  | [], b :: y, _ => List.nil_lt_cons b y
  | a :: x, [], h => by simp [Lib.compareBytes] at h
  | a :: x, b :: y, h => by
    simp only [Lib.compareBytes] at h
    rcases u8_tri a b with g | g | g
    · exact List.cons_lt_cons_iff.2 (.inl g)
    · subst g
      simp only [u8_irr, if_false] at h
      exact List.cons_lt_cons_iff.2 (.inr ⟨rfl, cB_lt x y h⟩)
    · simp [g, u8_asym g] at h
theorem key_lt {a b : Cel} (ha : okC a = 0) (hb : okC b = 0) (h : cmpC a b = -1) : keyL a < keyL b :=
  cB_lt _ _ (by rw [key_cmp (ok_may ha) (ok_may hb) (ok_start ha) (ok_start hb)]; exact h)
section
variable {h h' : H} {n tn : Nat} {rs es : Sl} {T : Tb (Option Addr)} {Z : List Rec} {slots : Nat} {R : Nat → Prop} {u t : Int}
theorem tk_has (ok : TOk T) {k : ByteArray} {v : Option Addr} (hg : getM T k = some v) : ∃ p ∈ P.tkL (T.row ++ T.elder), p.1 = k := by
  have go : ∀ (W : List (Pl (Option Addr))), valOf W k = some v → ∃ p ∈ P.tkL W, p.1 = k := fun W hv => by
    obtain ⟨i, p, h1, h2, h3, h4⟩ := valOf_some hv
    exact ⟨(p.key, .pointer p.value), List.mem_map.2 ⟨p, List.mem_filter.2 ⟨List.mem_of_getElem? h1, by simp [h2]⟩, rfl⟩, kL_inj h3⟩
  unfold getM at hg
  rw [P.tkL_app]
  cases hv : valOf T.row k with
  | some w =>
    rw [hv] at hg; cases hg
    obtain ⟨p, h1, h2⟩ := go _ hv
    exact ⟨p, List.mem_append_left _ h1, h2⟩
  | none =>
    rw [hv] at hg
    obtain ⟨p, h1, h2⟩ := go _ hg
    exact ⟨p, List.mem_append_right _ h1, h2⟩
theorem all_eq (z : SZ h n tn rs es T Z slots R u t) : P.allL T = keysZ Z := by
  have hk : ∀ c : Cel, (keyB c).data.toList = keyL c := fun c => by simp [keyB]
  have hsort : (Z.map fun r => keyB r.c).Pairwise fun a b => a.data.toList < b.data.toList := by
    rw [List.pairwise_map]
    have := z.srt
    refine List.Pairwise.imp_of_mem ?_ this
    intro a b ha hb hab
    rw [hk, hk]
    exact key_lt (z.wf a ha).1 (z.wf b hb).1 hab
  have hn2 : (Z.map fun r => keyB r.c).Nodup := hsort.imp fun {a b} hab e => by subst e; exact List.lt_irrefl _ hab
  have hn1 := P.KU_of z.ok
  have hp : ((P.tkL (T.row ++ T.elder)).map (·.1)).Perm (Z.map fun r => keyB r.c) := (List.perm_ext_iff_of_nodup hn1 hn2).2 fun k => by
    constructor
    · intro hk'
      obtain ⟨⟨k2, v⟩, hm, rfl⟩ := List.mem_map.1 hk'
      obtain ⟨w, hw, _⟩ := P.tk_val z.ok hm
      obtain ⟨r, hr, e⟩ := z.all k2 w hw
      refine List.mem_map.2 ⟨r, hr, kL_inj ?_⟩
      rw [kL_keyB]; exact e.symm
    · intro hk'
      obtain ⟨r, hr, rfl⟩ := List.mem_map.1 hk'
      have hg := z.get r hr
      refine Classical.byContradiction fun hno => ?_
      have hlt := tk_has z.ok hg
      obtain ⟨p, hp1, hp2⟩ := hlt
      exact hno (List.mem_map.2 ⟨p, hp1, hp2⟩)
  unfold P.allL
  rw [sortT_perm hp, P.sortT_id hsort, List.map_map]
  refine List.map_congr_left fun r hr => ?_
  simp only [Function.comp, z.get r hr, Option.getD_some]
end
theorem st_cel {h : H} {n : Nat} {c d : Cel} {e : TypeId} {K : H → Prop} (b : Blk h n c.cells.toArray e) (k : ∀ h', Blk h' n d.cells.toArray e → Only (· = n) h h' → h'.size = h.size → K h') : stH h ⟨n, 0, none⟩ d.cells K := by
  refine stH_of b (Nat.le_refl 3) fun h' q1 q2 q3 => k h' ?_ q2 q3
  rw [writeA_all (by rfl)] at q1
  exact q1
theorem shut1 {d : Nat} {h : H} {K : H → Prop} (hd : h[d]? = some (.deferred (some []))) (k : ∀ h', Only (· = d) h h' → K h') : shuts [d] h K :=
  ⟨hd, k _ ⟨by simp [put], fun b hb hn => by simp only [put]; rw [Array.getElem?_setIfInBounds_ne (fun e => hn e.symm)]⟩⟩
section
variable {h hL h' h'' : H} {n2 n4 n6 n8 n10 n12 ka ma b : Nat} {r : Sl} {L : List (ByteArray × Option Addr)} {ep most : Int} {fr to : Cel} {rows : List Rw}
end
end Go.Proofs.Ytoccbnhahaoeiaa.V.S
namespace Go.Proofs.Ytoccbnhahaoeiaa.V.S
open Go Go.Proofs.Ytoccbnhahaoeiaa.V
set_option linter.unusedVariables false
set_option linter.unusedSimpArgs false
set_option maxRecDepth 20000
theorem max_of {k : IntKind} {ts : Array TypeId} {t : TypeId} {h : H} {a b : Int} {K : Int → H → Prop} (kk : K (if a < b then b else a) h) : runI PP (Builtin.max_ ts t #[.int k a, .int k b]) h k K := fun w hw =>
  ⟨_, w, rfl, .refl _, _, rfl, by rw [hw]; exact kk⟩
def maxL (L : List Nat) : Nat := L.foldl max 0
theorem w64s {n : Nat} (h : n < 9000000000000000000) : IntKind.wrap .i64 ((n : Int) + 1) = ((n + 1 : Nat) : Int) := by rw [w64 (by omega) (by omega)]; omega
abbrev cN (n : Nat) : List Value := [.int .i64 (n : Int)]
theorem cN_len (n : Nat) : (cN n).length = 1 := rfl
theorem Max_spec {h : H} {s : Sl} {L : List Nat} {Q : Int → H → Prop} (rd : Reads h s 1 (L.flatMap cN)) (hn : L ≠ []) (hl : L.length < 4611686018427387904) (k : Q (maxL L : Int) h) : F.slices_Max_Slint_int s h Q := by
  have hs := rd_len cN_len (by omega) rd
  have hpos := List.length_pos_iff.2 hn
  have at_ : ∀ {i : Nat} {x : Nat} {K : Int → Prop}, L[i]? = some x → K (x : Int) → idxA s (i : Int) 1 fun a => ldI .i64 h a K := fun {i x K} hx kk => by
    obtain ⟨p, p1, p2, p3⟩ := rd_at cN_len (by omega) rd hx
    exact idxR_of (i := i) p1 (by have := (List.getElem?_eq_some_iff.1 hx).1; omega) rfl ((ldI_iff (n := x) p3.one).2 kk)
  unfold F.slices_Max_Slint_int
  rw [hs]
  refine ⟨fun g => by have := of_decide_eq_true g; omega, fun _ => ?_⟩
  unfold F.slices_Max_Slint_int.j1
  obtain ⟨x0, hx0⟩ : ∃ x, L[0]? = some x := ⟨_, List.getElem?_eq_getElem hpos⟩
  refine at_ (i := 0) hx0 ⟨L.length + 1, ?_⟩
  have key : ∀ (d i m : Nat), i ≤ L.length → L.length - i < d → m = maxL (L.take i) → F.slices_Max_Slint_int.l2 Q d s (m : Int) (i : Int) h := by
    intro d
    induction d with
    | zero => intro i m _ hd; omega
    | succ d ih =>
      intro i m hi hd hm
      unfold F.slices_Max_Slint_int.l2
      rw [hs]
      refine ⟨fun g => ?_, fun g => ?_⟩
      · have g := of_decide_eq_true g
        obtain ⟨x, hx⟩ : ∃ x, L[i]? = some x := ⟨_, List.getElem?_eq_getElem (by omega)⟩
        refine at_ hx (max_of ?_)
        rw [w64s (by omega)]
        have hmx : (if (m : Int) < (x : Int) then (x : Int) else (m : Int)) = ((max m x : Nat) : Int) := by split <;> omega
        rw [hmx]
        refine ih (i + 1) (max m x) (by omega) (by omega) ?_
        obtain ⟨h1, h2⟩ := List.getElem?_eq_some_iff.1 hx
        rw [List.take_succ_eq_append_getElem h1, h2]
        unfold maxL at hm ⊢
        rw [List.foldl_append, ← hm]; rfl
      · have : i = L.length := by have := of_decide_eq_false g; omega
        rw [this, List.take_length] at hm
        rw [hm]; exact k
  refine key _ 1 x0 (by omega) (by omega) ?_
  cases L with
  | nil => exact absurd rfl hn
  | cons y r => simp at hx0; subst hx0; simp [maxL]
def lensZ (Z : List Rec) : List Nat := Z.map fun r => r.vs.length
theorem lensZ_len (Z : List Rec) : (lensZ Z).length = Z.length := List.length_map _
def mostS (S : SL) : Nat := maxL (S.map fun x => x.2.length)
structure MI (h hL h' : H) (n2 ka ma b : Nat) (r : Sl) (L : List (ByteArray × Option Addr)) (out : List Nat) : Prop where
  ext : Ext h h'
  sq : P.SeqH h' ka ma b r L
  dfr : h'[hL.size]? = some (.deferred (some []))
  out : ∃ o, Blk h' n2 #[o.enc] tn_Slint ∧ Owns h' o tn_int 1 (out.flatMap cN) ∧ ∀ x, o.blk = some x → hL.size + 2 ≤ x
  sz : hL.size + 1 ≤ h'.size
  lt : n2 < hL.size ∧ (∀ m, SQF ka ma b r m → m < hL.size ∧ m ≠ n2) ∧ h.size ≤ n2
theorem MI.only {h hL h' h'' : H} {n2 ka ma b : Nat} {r : Sl} {L : List (ByteArray × Option Addr)} {out : List Nat} {S : Nat → Prop} (v : MI h hL h' n2 ka ma b r L out) (o : Only S h' h'') (hS : ∀ m, S m → hL.size < m ∧ ∀ o : Sl, Blk h' n2 #[o.enc] tn_Slint → o.blk ≠ some m) : MI h hL h'' n2 ka ma b r L out := by
  obtain ⟨l2, lq, q⟩ := v.lt
  have no : ∀ m, m ≤ hL.size → ¬ S m := fun m hm h => by have := (hS m h).1; omega
  obtain ⟨ou, o1, o2, o3⟩ := v.out
  exact ⟨v.ext.step o fun m hm => no m (by omega), v.sq.only o fun m hm => no m (by have := (lq m hm).1; omega), o.block v.dfr (no _ (by omega)),
    ⟨ou, o.block o1 (no _ (by omega)), o2.only o fun m hm hs => (hS m hs).2 ou o1 hm, o3⟩, by have := o.size; have := v.sz; omega, v.lt⟩
theorem Most_spec {h : H} {n : Nat} {S : SL} {slots : Nat} {R : Nat → Prop} {Q : Int → H → Prop} (s : SH h n S slots R) (k : ∀ h', Ext h h' → Q (mostS S : Int) h') : F.shard_Shard_Most (some ⟨n, 0, none⟩) h Q := by
  obtain ⟨tn, rs, es, T, Z, rfl, z⟩ := s
  unfold F.shard_Shard_Most
  refine new_of fun n2 h1 hn2 b2 e1 s1 => ?_
  have z1 := z.ext e1
  simp only [nn_some, add_lit, Nat.zero_add, Nat.add_zero]
  rw [ldP_iff z1.cs3]
  have hcnt := z.count
  have hzl := z.len
  refine P.All_spec z1.th z1.ok (by omega) fun hL ka ma b r sq eL hmine _ => ?_
  rw [all_eq z1] at sq
  have hLs := eL.size
  have hmost : mostS (toS Z) = maxL (lensZ Z) := by unfold mostS toS lensZ; rw [List.map_map]; rfl
  refine P.range_seq (I := fun i h' => MI h hL h' n2 ka ma b r (keysZ Z) (lensZ (Z.take i))) (E := fun j h' => False)
    (fun i h' h'' v o => v.only o fun m hm => ⟨by omega, fun ou hou hb => ?_⟩) (fun j h' h'' v o => v) (fun i h' v => v.sq) ?_ ?_ (fun h' v => ?_) (fun j h' v => v.elim)
  · obtain ⟨o', o1, o2, o3⟩ := v.out
    have heq := o1.symm.trans hou
    have : o' = ou := enc_inj.1 (by simpa using heq)
    subst this
    have := o3 m hb; omega
  · have ep0 : Ext hL (hL.push (.deferred (some []))) := .push _ _
    refine ⟨(e1.trans eL).trans ep0, sq.only ep0 fun m hm f => f, by simp, ⟨_, ep0.block (eL.block b2 fun f => f) fun f => f, by simpa [lensZ] using Owns.nil _ tn_int 1, fun x hx => by simp [Sl.blk] at hx⟩, by simp, ?_⟩
    exact ⟨by omega, fun m hm => ⟨sq.lt m hm, by have := hmine m hm; omega⟩, by omega⟩
  · intro X i x h5 K J hX v hx hxi kK kJ
    unfold keysZ at hxi
    rw [List.getElem?_map] at hxi
    obtain ⟨q, hq, rfl⟩ : ∃ q, Z[i]? = some q ∧ x = (keyB q.c, some ⟨q.p, 0, none⟩) := by
      cases hy : Z[i]? with
      | none => rw [hy] at hxi; cases hxi
      | some q => rw [hy] at hxi; cases hxi; exact ⟨q, rfl, rfl⟩
    have hqz : q ∈ Z := List.mem_of_getElem? hq
    obtain ⟨o, o1, o2, o3⟩ := v.out
    have hlo := own_len cN_len (by omega) o2
    rw [lensZ_len, List.length_take] at hlo
    have zq := z.ext v.ext
    have c5 : cellH h5 ⟨n2, 0, none⟩ = some o.enc := Blk.cell (i := 0) o1 rfl
    refine ldL_of c5 (C.Len_spec (zq.ch q hqz) ⟨c5, ?_⟩)
    refine newL_of fun n14 h14 hn14 b14 e14 s14 => ⟨e14.cell c5 fun f => f, ?_⟩
    have hi : i < Z.length := (List.getElem?_eq_some_iff.1 hq).1
    refine app_list (L := lensZ (Z.take i)) (M := [q.vs.length]) cN_len (by omega) el_Slint (o2.ext e14) (blk_reads b14 rfl) (fun x => one1 rfl) (by simp only [List.length_singleton, lensZ_len, List.length_take]; omega) fun r15 h15 w15 o15 n15 => ?_
    have x14 : Blk h14 n2 #[o.enc] tn_Slint := e14.block o1 fun f => f
    obtain ⟨l2, lq, ld⟩ := v.lt
    have lts := v.lt
    have hob : o.blk ≠ some n2 := fun e => by have := o3 _ e; omega
    have x15 : Blk h15 n2 #[o.enc] tn_Slint := o15.block x14 hob
    have hh5 : hL.size + 1 < h5.size := (Array.getElem?_eq_some_iff.1 hx).1
    refine stH_of x15 (by simp) fun h16 b16 o16 s16 => ?_
    have r15n : ∀ y, r15.blk = some y → hL.size + 2 ≤ y := fun y hy => by
      rcases n15 with n15 | ⟨y', n15, n16⟩
      · exact o3 y (by rw [← n15]; exact hy)
      · rw [n15] at hy; cases hy
        have := e14.size; omega
    have v14 : MI h hL h14 n2 ka ma b r (keysZ Z) (lensZ (Z.take i)) := v.only e14 fun _ f => f.elim
    have no : ∀ m, m ≤ hL.size + 1 → ¬ (o.blk = some m) := fun m hm e => by have := o3 m e; omega
    have o14 : Only (fun m => o.blk = some m ∨ m = n2) h14 h16 := (o15.mono fun _ _ e => .inl e).trans o16 fun _ _ e => .inr e
    refine kK h16 ⟨v14.ext.step o14 fun m hm e => ?_, v14.sq.only o14 fun m hm e => ?_, o14.block v14.dfr fun e => ?_, ⟨r15, b16, ?_, r15n⟩, ?_, lts⟩ (o14.block (e14.block hx fun f => f) fun e => ?_)
    · rcases e with e | e
      · have := o3 m e; have := (e1.trans eL).size; omega
      · omega
    · rcases e with e | e
      · have := o3 m e; have := (lq m hm).1; omega
      · exact (lq m hm).2 e
    · rcases e with e | e
      · exact no _ (by omega) e
      · omega
    · have hsn : lensZ (Z.take (i + 1)) = lensZ (Z.take i) ++ [q.vs.length] := by
        unfold lensZ
        obtain ⟨h1, h2⟩ := List.getElem?_eq_some_iff.1 hq
        rw [List.take_succ_eq_append_getElem h1, h2, List.map_append]; rfl
      rw [hsn]
      exact w15.only o16 fun m hm e => by have := r15n m hm; omega
    · have := o14.size; have := v14.sz; omega
    · rcases e with e | e
      · exact no _ (Nat.le_refl _) e
      · omega
  · obtain ⟨o, o1, o2, o3⟩ := v.out
    rw [keysZ_len, List.take_length] at o2
    have hlo := own_len cN_len (by omega) o2
    rw [lensZ_len] at hlo
    have c5 : cellH h' ⟨n2, 0, none⟩ = some o.enc := Blk.cell (i := 0) o1 rfl
    have hle : h.size ≤ hL.size := (e1.trans eL).size
    refine ldL_of c5 ⟨fun g => ?_, fun g => ldL_of c5 ?_⟩
    · have hz : Z = [] := List.eq_nil_of_length_eq_zero (by have : (o.len : Int) = 0 := by simpa using g
                                                            omega)
      refine shut1 v.dfr fun h9 o9 => ?_
      have := k h9 (v.ext.step o9 fun m hm e => by omega)
      rw [hmost, hz] at this; exact this
    · have hz : Z ≠ [] := fun e => by rw [e] at hlo; simp [hlo] at g
      refine Max_spec o2.reads (by simpa [lensZ] using hz) (by rw [lensZ_len]; omega) (shut1 v.dfr fun h9 o9 => ?_)
      have := k h9 (v.ext.step o9 fun m hm e => by omega)
      rw [hmost] at this; exact this
end Go.Proofs.Ytoccbnhahaoeiaa.V.S
namespace Go.Proofs.Ytoccbnhahaoeiaa.V.S
open Go Go.Proofs.Ytoccbnhahaoeiaa.V
set_option linter.unusedVariables false
set_option linter.unusedSimpArgs false
set_option maxRecDepth 20000
section
variable {W : List Ver → Prop} {h h' : H} {n tn : Nat} {rs es : Sl} {T : Tb (Option Addr)} {Z : List Rec} {slots : Nat} {R : Nat → Prop} {u t : Int}
/-- A cell that is left out of the table. -/
theorem SZG.drop (z : SZG W h n tn rs es T Z slots R u t) {c : Cel} (hc : okC c = 0) {T' : Tb (Option Addr)} {rs' es' : Sl} (th : P.TH h' tn rs' es' T') (ok : TOk T') (stp : Stp h tn rs es h' rs' es') (hget : ∀ k, getM T' k = if kL k = kL (keyB c) then none else getM T k) (hrl : T'.row.length ≤ 4200000) (hR : ∀ b, h.size ≤ b → R b) :
    SZG W h' n tn rs' es' T' (Z.filter fun r => decide (cmpC r.c c ≠ 0)) slots R u t ∧ SOnly R h h' := by
  have hsub : (Z.filter fun r => decide (cmpC r.c c ≠ 0)).Sublist Z := List.filter_sublist
  have hmem : ∀ {r : Rec}, r ∈ (Z.filter fun r => decide (cmpC r.c c ≠ 0)) ↔ r ∈ Z ∧ cmpC r.c c ≠ 0 := fun {r} => by rw [List.mem_filter]; simp
  have hreg : ∀ b, FT tn rs' es' b → R b := fun b hb => by
    rcases stp.new b hb with e | e
    · rcases e with e | e | e
      · subst e; exact z.rt
      · exact z.rr b e
      · exact z.re b e
    · exact hR b e
  have hus : ∀ (Y : List Rec), unitsS (toS (Y.filter fun r => decide (cmpC r.c c ≠ 0))) ≤ unitsS (toS Y) := fun Y => by
    induction Y with
    | nil => exact Nat.le_refl _
    | cons x r ih =>
      unfold unitsS toS at ih ⊢
      rw [List.filter_cons]
      split
      · simp only [List.map_cons, List.sum_cons]; omega
      · simp only [List.map_cons, List.sum_cons]; omega
  refine ⟨{ sb := stp.only.block z.sb fun e => z.n_ft e rfl, th := th, ok := ok, ch := fun r hr => ?_, get := fun r hr => ?_, all := fun k v hk => ?_, srt := z.srt.sublist hsub, pd := z.pd.sublist hsub, bd := z.bd.sublist hsub, wf := fun r hr => z.wf r (hmem.1 hr).1, us := Nat.le_trans (hus Z) z.us, sl := z.sl, rl := hrl, rn := z.rn, rt := z.rt, rr := fun b hb => hreg b (.inr (.inl hb)), re := fun b hb => hreg b (.inr (.inr hb)), rp := fun r hr => z.rp r (hmem.1 hr).1 }, ?_⟩
  · have hr' := (hmem.1 hr).1
    exact (z.ch r hr').only stp.only (fun e => (z.ch_ft hr' e).1 rfl) fun b hb e => (z.ch_ft hr' e).2 hb
  · obtain ⟨h1, h2⟩ := hmem.1 hr
    rw [hget, if_neg]
    · exact z.get r h1
    · intro he
      rw [kL_keyB, kL_keyB] at he
      exact h2 (cC_zero.2 (key_inj (z.wf r h1).1 hc he))
  · rw [hget] at hk
    split at hk
    · cases hk
    · rename_i hne
      obtain ⟨r, hr, e⟩ := z.all k v hk
      refine ⟨r, hmem.2 ⟨hr, fun h0 => hne ?_⟩, e⟩
      rw [e, cC_zero.1 h0, kL_keyB]
  · exact stp.only.mono fun b _ e => by
      obtain ⟨ty, q1, q2⟩ := ft_ty z.th e
      refine ⟨?_, ty, ?_, q1⟩
      · rcases e with e | e | e
        · subst e; exact z.rt
        · exact z.rr b e
        · exact z.re b e
      · rcases q2 with rfl | rfl
        · exact .inr (.inl rfl)
        · exact .inr (.inr (.inl rfl))
end
end Go.Proofs.Ytoccbnhahaoeiaa.V.S
namespace Go.Proofs.Ytoccbnhahaoeiaa.V.S
open Go Go.Proofs.Ytoccbnhahaoeiaa.V
set_option linter.unusedVariables false
set_option linter.unusedSimpArgs false
set_option maxRecDepth 20000
section
variable {W W' : List Ver → Prop} {h h' : H} {n tn : Nat} {rs es : Sl} {T : Tb (Option Addr)} {Z : List Rec} {slots : Nat} {R R' : Nat → Prop} {u t : Int}
theorem SZG.turn (z : SZG W h n tn rs es T Z slots R u t) (hw : ∀ r ∈ Z, W r.vs → W' r.vs) (hr : ∀ b, b < h.size → R b → R' b) : SZG W' h n tn rs es T Z slots R' u t := by
  obtain ⟨l1, l2, l3⟩ := z.f_lt
  exact { z with wf := fun r hr => ⟨(z.wf r hr).1, hw r hr (z.wf r hr).2⟩, rn := hr _ l1 z.rn, rt := hr _ (l2 _ (.inl rfl)) z.rt, rr := fun b hb => hr _ (l2 _ (.inr (.inl hb))) (z.rr b hb), re := fun b hb => hr _ (l2 _ (.inr (.inr hb))) (z.re b hb), rp := fun r hm => ⟨hr _ (l3 r hm).1 (z.rp r hm).1, fun x hx => hr _ ((l3 r hm).2 x hx) ((z.rp r hm).2 x hx)⟩ }
end
end Go.Proofs.Ytoccbnhahaoeiaa.V.S
namespace Go.Proofs.Ytoccbnhahaoeiaa.V.S
open Go Go.Proofs.Ytoccbnhahaoeiaa.V
set_option linter.unusedVariables false
set_option linter.unusedSimpArgs false
set_option maxRecDepth 20000
abbrev oneA (v : Int) : S_api_Agg := ⟨1, v, v, v⟩
theorem one_spec {h : H} {v : Int} {Q : S_api_Agg → H → Prop} (k : ∀ h', Ext h h' → Q (oneA v) h') : F.spatelaw7_one v h Q := by
  unfold F.spatelaw7_one
  refine new_of fun m h1 hm b1 e1 s1 => ?_
  have b1' : Blk h1 m zA.cells.toArray tn_api_Agg := b1
  exact C.st_agg b1' (d := oneA v) fun h2 b2 o2 s2 => ⟨_, b2.cells, k h2 (e1.step o2 fun x hx hb => by omega)⟩
theorem right_one (a b c : Int) : RightIs ⟨1, a, b, c⟩ (decide (b = a ∧ c = a)) := fun h Q k => by
  unfold F.agg_Right
  refine new_of fun m h1 hm b1 e1 s1 => ?_
  have c0 : cellH h1 ⟨m, 0, none⟩ = some (.int .i64 1) := Blk.cells b1 0 _ rfl
  have c1 : cellH h1 ⟨m, 1, none⟩ = some (.int .i64 a) := Blk.cells b1 1 _ rfl
  have c2 : cellH h1 ⟨m, 2, none⟩ = some (.int .i64 b) := Blk.cells b1 2 _ rfl
  have c3 : cellH h1 ⟨m, 3, none⟩ = some (.int .i64 c) := Blk.cells b1 3 _ rfl
  simp only [add_lit, Nat.zero_add, Nat.add_zero]
  rw [ldI_iff c0]
  refine ⟨fun g => by have := of_decide_eq_true g; omega, fun _ => ?_⟩
  rw [ldI_iff c0]
  refine ⟨fun _ => ?_, fun g => by simp at g⟩
  rw [ldI_iff c2, ldI_iff c1]
  have k := k h1 e1
  refine ⟨fun g => ?_, fun g => ?_⟩
  · have g : b = a := by simpa using g
    rw [ldI_iff c3, ldI_iff c1]
    have : decide (b = a ∧ c = a) = (c == a) := by
      by_cases h : c = a <;> simp [g, h]
    rw [this] at k; exact k
  · have g : ¬ b = a := by simpa using g
    have : decide (b = a ∧ c = a) = false := by simp [g]
    rw [this] at k; exact k
theorem right_one' (v : Int) : RightIs (oneA v) true := by
  have := right_one v v v
  simpa using this
theorem agg_eq {a b : S_api_Agg} : ((a.Count == b.Count) && ((a.Sum == b.Sum) && ((a.Min == b.Min) && ((a.Max == b.Max) && true)))) = true ↔ a = b := by
  obtain ⟨a1, a2, a3, a4⟩ := a
  obtain ⟨b1, b2, b3, b4⟩ := b
  simp [and_assoc]
abbrev cA : Cel := ⟨0, ⟨#[97]⟩, 0⟩
theorem head_spec {h : H} {Q : Bool → H → Prop} (k : ∀ h', Ext h h' → Q true h') : F.spatelaw7_head h Q := by
  unfold F.spatelaw7_head
  refine New_spec (R := fun b => h.size ≤ b) (fun g => by omega) (fun b hb => hb) fun _ _ h1 n sh e1 hn => ⟨fun g => by simp at g, fun _ => ?_⟩
  unfold F.spatelaw7_head.j2
  refine ⟨fun g => by simp at g, fun _ => ?_⟩
  unfold F.spatelaw7_head.j1
  refine new_of fun m h4 hm b4 e4 s4 => ?_
  have b4' : Blk h4 m zeroC.cells.toArray tn_api_Cell := b4
  refine st_cel b4' (d := cA) fun h6 b6 o6 s6 => ⟨cA, b6.cells, ?_⟩
  have e16 : Ext h1 h6 := e4.step o6 fun x hx hb => by omega
  refine one_spec fun h9 e9 => ⟨(Blk.cells b6).ext e9, ?_⟩
  have sh9 := (sh.ext e16).ext e9
  have e09 : Ext h h9 := (e1.trans e16).trans e9
  have hR : ∀ {hh : H}, Ext h hh → ∀ b, hh.size ≤ b → h.size ≤ b := fun e b hb => by have := e.size; omega
  have b9 : Blk h9 m cA.cells.toArray tn_api_Cell := e9.block b6 fun f => f
  have mty : ¬ ShE tn_api_Cell := by unfold ShE; decide
  have keep : ∀ {a b : H}, SOnly (fun x => h.size ≤ x) a b → Blk a m cA.cells.toArray tn_api_Cell → Blk b m cA.cells.toArray tn_api_Cell := fun o hb => o.block hb fun ⟨_, e, h1, c, h2⟩ => mty (by
    have := hb.symm.trans h2
    simp at this
    rw [this.2]; exact h1)
  refine Put_spec (x := ⟨cA, oneA 5⟩) sh9 (right_one' 5) (hR e09) (fun g => absurd (by decide) g) fun _ h12 sh12 o12 => ?_
  have e012 : Ext h h12 := o12.base e09 fun b hb => hb
  have b12 := keep o12 b9
  refine ⟨cA, b12.cells, one_spec fun h16 e16' => ⟨(Blk.cells b12).ext e16', ?_⟩⟩
  have e016 := e012.trans e16'
  refine Put_spec (x := ⟨cA, oneA 6⟩) (sh12.ext e16') (right_one' 6) (hR e016) (fun g => absurd (by decide) g) fun _ h19 sh19 o19 => ?_
  have e019 : Ext h h19 := o19.base e016 fun b hb => hb
  have b19 := keep o19 (e16'.block b12 fun f => f)
  refine ⟨fun _ => ⟨fun _ => ?_, fun g => by simp at g⟩, fun g => by simp at g⟩
  simp only [nn_some, add_lit, Nat.zero_add, Nat.add_zero]
  refine Units_spec sh19 ⟨fun _ => ?_, fun g => absurd (show ((unitsS (putS (putS [] 1 cA (oneA 5)) 2 cA (oneA 6)) : Int) == 3) = true from by decide) (by rw [g]; decide)⟩
  refine Cells_spec sh19 ⟨fun _ => ?_, fun g => absurd (show ((thereS (putS (putS [] 1 cA (oneA 5)) 2 cA (oneA 6)) : Int) == 1) = true from by decide) (by rw [g]; decide)⟩
  refine Most_spec sh19 fun h33 e33 => ⟨fun _ => ?_, fun g => absurd (show ((mostS (putS (putS [] 1 cA (oneA 5)) 2 cA (oneA 6)) : Int) == 2) = true from by decide) (by rw [g]; decide)⟩
  refine ⟨cA, (Blk.cells b19).ext e33, Get_spec (sh19.ext e33) fun h38 e38 => one_spec fun h40 e40 => ?_⟩
  have e3340 := e38.trans e40
  refine ⟨fun _ => ?_, fun g => absurd (agg_eq.2 (show atS (putS (putS [] 1 cA (oneA 5)) 2 cA (oneA 6)) cA 0 = oneA 6 from rfl)) (by rw [g]; decide)⟩
  refine ⟨cA, (Blk.cells b19).ext (e33.trans e3340), At_spec (sh19.ext (e33.trans e3340)) fun h45 e45 => one_spec fun h47 e47 => ?_⟩
  have hat : atS (putS (putS [] 1 cA (oneA 5)) 2 cA (oneA 6)) cA 1 = oneA 5 := rfl
  rw [agg_eq.2 hat]
  exact k h47 ((e019.trans e33).trans (e3340.trans (e45.trans e47)))
end Go.Proofs.Ytoccbnhahaoeiaa.V.S
namespace Go.Proofs.Ytoccbnhahaoeiaa.V.S
open Go Go.Proofs.Ytoccbnhahaoeiaa.V
set_option linter.unusedVariables false
set_option linter.unusedSimpArgs false
set_option maxRecDepth 20000
def withinM (a m : Int) : Int := if Int.tmod a m < 0 then Int.tmod a m + m else Int.tmod a m
theorem within_range {a m : Int} (h : 0 < m) : 0 ≤ withinM a m ∧ withinM a m < m := by
  have h1 := Int.tmod_lt_of_pos a h
  have h2 : -m < Int.tmod a m := by
    have := Int.tmod_lt_of_pos (-a) h
    rw [Int.neg_tmod] at this
    omega
  unfold withinM
  split <;> omega
theorem within_spec {a m : Int} {h : H} {Q : Int → H → Prop} (h0 : 0 < m) (h1 : m < 4611686018427387904) (k : Q (withinM a m) h) : F.spatelaw7_within a m h Q := by
  have hr := Int.tmod_lt_of_pos a h0
  have h2 : -m < Int.tmod a m := by
    have := Int.tmod_lt_of_pos (-a) h0
    rw [Int.neg_tmod] at this
    omega
  unfold F.spatelaw7_within F.spatelaw7_within.j1
  unfold withinM at k
  refine ⟨by omega, fun g => ?_, fun g => ?_⟩
  · have g := of_decide_eq_true g
    rw [if_pos g] at k
    rw [w64 (by omega) (by omega)]; exact k
  · have g := of_decide_eq_false g
    rw [if_neg g] at k; exact k
end Go.Proofs.Ytoccbnhahaoeiaa.V.S
namespace Go.Proofs.Ytoccbnhahaoeiaa.V.S
open Go Go.Proofs.Ytoccbnhahaoeiaa.V
set_option linter.unusedVariables false
set_option linter.unusedSimpArgs false
set_option maxRecDepth 20000
theorem right_zero : RightIs zA true := fun h Q k => by
  unfold F.agg_Right
  refine new_of fun m h1 hm b1 e1 s1 => ?_
  have b1' : Blk h1 m zA.cells.toArray tn_api_Agg := b1
  have c0 : cellH h1 ⟨m, 0, none⟩ = some (.int .i64 0) := Blk.cells b1 0 _ rfl
  simp only [add_lit, Nat.zero_add, Nat.add_zero]
  rw [ldI_iff c0]
  refine ⟨fun _ => ?_, fun g => by simp at g⟩
  exact ⟨zA, b1'.cells, k h1 e1⟩
theorem right_bad : RightIs ⟨1, 2, 3, 3⟩ false := by
  have := right_one 2 3 3
  simpa using this
theorem cel_sh : ¬ ShE tn_api_Cell := by unfold ShE; decide
theorem SOnly.blk {R : Nat → Prop} {a b : H} {m : Nat} {cs : Array Value} {e : TypeId} (o : SOnly R a b) (hb : Blk a m cs e) (he : ¬ ShE e) : Blk b m cs e := o.block hb fun ⟨_, e', h1, c, h2⟩ => he (by
  have := hb.symm.trans h2
  simp at this
  rw [this.2]; exact h1)
theorem kill_empty {e : Int} {c : Cel} : killE [] e c = if okC c ≠ 0 then okC c else if e < 1 ∨ e > 1099511627776 then 1 else 44 := rfl
theorem made_u8 (n : Nat) : (madeCells #[(Value.int .u8 0)] (n * 1)).toList = (List.replicate n (0 : UInt8)).flatMap cU := by
  rw [made_one, Nat.mul_one]
  induction n with
  | zero => rfl
  | succ n ih => rw [List.replicate_succ, List.replicate_succ, List.flatMap_cons, ← ih]; rfl
def edgeW (c : Cel) (ep : Int) : Int := if okC c ≠ 0 then okC c else if ep > 1099511627776 then 1 else 0
theorem edge_j2 {h0 h : H} {n m : Nat} {c : Cel} {ep want : Int} {Q : Bool → H → Prop} (s : SH h n [] 100 (fun b => h0.size ≤ b)) (bl : Blk h m c.cells.toArray tn_api_Cell) (e0 : Ext h0 h) (h1 : 2 ≤ ep) (hw : want = edgeW c ep) (k : ∀ h', Ext h0 h' → Q true h') :
    F.spatelaw7_ShardEdges.j2 Q ep (some ⟨n, 0, none⟩) ⟨m, 0, none⟩ want h := by
  unfold F.spatelaw7_ShardEdges.j2
  refine ⟨c, bl.cells, one_spec fun h2 e2 => ⟨bl.cells.ext e2, ?_⟩⟩
  have hR : ∀ {hh : H}, Ext h0 hh → ∀ b, hh.size ≤ b → h0.size ≤ b := fun e b hb => by have := e.size; omega
  have bl2 : Blk h2 m c.cells.toArray tn_api_Cell := e2.block bl fun f => f
  have e02 := e0.trans e2
  have s2 := s.ext e2
  have hwz : want = 0 → okC c = 0 ∧ ep ≤ 1099511627776 := fun h => by
    unfold edgeW at hw
    split at hw
    · omega
    · split at hw
      · omega
      · omega
  have hwn : want ≠ 0 → okC c ≠ 0 ∨ ep > 1099511627776 := fun h => by
    unfold edgeW at hw
    split at hw
    · exact .inl ‹_›
    · split at hw
      · exact .inr ‹_›
      · omega
  by_cases hz : want = 0
  · obtain ⟨hc, hep⟩ := hwz hz
    have p1 : ∀ a, a.Count ≠ 0 → putE [] 100 ep c a true = 0 := fun a ha => by
      unfold putE
      rw [if_neg (fun h => h hc), if_neg (by simp; omega), if_neg (by show ¬ ((0 : Int) > ep); omega), if_neg]
      unfold needS
      rw [if_neg (fun h => h hc)]
      show ¬ ((0 : Int) + 2 > 100)
      omega
    refine Put_spec (x := ⟨c, oneA 7⟩) s2 (right_one' 7) (hR e02) (fun g => absurd (p1 (oneA 7) (show (1 : Int) ≠ 0 from by decide)) g) fun _ h3 s3 o3 => ?_
    have e03 := o3.base e02 fun b hb => hb
    have bl3 := o3.blk bl2 cel_sh
    have S1 : putS [] ep c (oneA 7) = [(c, [⟨ep, oneA 7, false⟩])] := rfl
    rw [S1] at s3
    have b1 : ∀ (S : SL) (a : S_api_Agg) (rt : Bool), (a.Count = 0 ∨ rt = false) → putE S 100 ep c a rt = 1 := fun S a rt ha => by
      unfold putE
      rw [if_neg (fun h => h hc), if_pos (by rcases ha with h | h; exact .inr (.inr (.inl h)); exact .inr (.inr (.inr h)))]
    refine ⟨c, bl3.cells, Put_spec (x := ⟨c, ⟨1, 2, 3, 3⟩⟩) s3 right_bad (hR e03) (fun g h4 e4 => ?_) fun g => absurd (b1 _ _ _ (.inr rfl)) (by rw [g]; decide)⟩
    rw [b1 _ _ _ (.inr rfl)]
    refine ⟨c, bl3.cells.ext e4, Put_spec (x := ⟨c, zA⟩) (s3.ext e4) right_zero (hR (e03.trans e4)) (fun g h5 e5 => ?_) fun g => absurd (b1 _ _ _ (.inl rfl)) (by rw [g]; decide)⟩
    rw [b1 _ _ _ (.inl rfl)]
    have e45 := e4.trans e5
    have g1 : getS [(c, [(⟨ep, oneA 7, false⟩ : Ver)])] c = some [⟨ep, oneA 7, false⟩] := by simp [getS, getK, cC_self]
    have kz : killE [(c, [(⟨ep, oneA 7, false⟩ : Ver)])] ep c = 0 := by
      unfold killE
      rw [if_neg (fun h => h hc), if_neg (by omega), g1]
      show (if ep > ep then (32 : Int) else if true = false then 44 else 0) = 0
      rw [if_neg (by omega), if_neg (by decide)]
    refine ⟨c, bl3.cells.ext e45, Kill_spec (s3.ext e45) (hR (e03.trans e45)) (fun g => absurd kz g) fun _ h6 s6 o6 => ?_⟩
    have e06 := o6.base (e03.trans e45) fun b hb => hb
    have bl6 := o6.blk (e45.block bl3 fun f => f) cel_sh
    have S2 : killS [(c, [(⟨ep, oneA 7, false⟩ : Ver)])] ep c = [(c, [⟨ep, zA, true⟩])] := by
      unfold killS
      rw [g1]
      simp [C.layM, C.lastE, setS, setK, cC_self]
    rw [S2] at s6
    have g2 : getS [(c, [(⟨ep, zA, true⟩ : Ver)])] c = some [⟨ep, zA, true⟩] := by simp [getS, getK, cC_self]
    have j4 : F.spatelaw7_ShardEdges.j4 Q ep (some ⟨n, 0, none⟩) ⟨m, 0, none⟩ 0 h6 := by
      unfold F.spatelaw7_ShardEdges.j4
      refine ⟨fun g => by simp at g, fun _ => ?_⟩
      simp only [nn_some, add_lit, Nat.zero_add, Nat.add_zero]
      refine Units_spec s6 ⟨fun _ => ?_, fun g => absurd (show ((unitsS [(c, [(⟨ep, zA, true⟩ : Ver)])] : Int) == 1) = true from rfl) (by rw [g]; decide)⟩
      have kz : killE [(c, [(⟨ep, zA, true⟩ : Ver)])] ep c = 44 := by
        unfold killE
        rw [if_neg (fun h => h hc), if_neg (by omega), g2]
        show (if ep > ep then (32 : Int) else if false = false then 44 else 0) = 44
        rw [if_neg (by omega), if_pos rfl]
      have ky : killE [(c, [(⟨ep, zA, true⟩ : Ver)])] (ep - 1) c = 32 := by
        unfold killE
        rw [if_neg (fun h => h hc), if_neg (by omega), g2]
        show (if ep > ep - 1 then (32 : Int) else if false = false then 44 else 0) = 32
        rw [if_pos (by omega)]
      refine ⟨c, bl6.cells, Kill_spec s6 (hR e06) (fun g h7 e7 => ?_) fun g => absurd kz (by rw [g]; decide)⟩
      rw [kz, w64 (by omega) (by omega)]
      refine ⟨fun _ => ⟨c, bl6.cells.ext e7, Kill_spec (s6.ext e7) (hR (e06.trans e7)) (fun g h8 e8 => ?_) fun g => absurd ky (by rw [g]; decide)⟩, fun g => by simp at g⟩
      rw [ky]
      exact ⟨fun _ => head_spec fun h9 e9 => k h9 (((e06.trans e7).trans e8).trans e9), fun g => by simp at g⟩
    subst hz
    unfold F.spatelaw7_ShardEdges.j3 F.spatelaw7_ShardEdges.j5
    exact ⟨fun _ => ⟨fun g => by simp at g, fun _ => ⟨fun g => by simp at g, fun _ => ⟨fun g => by simp at g, fun _ => ⟨fun g => by simp at g, fun _ => j4⟩⟩⟩⟩, fun g => by simp at g⟩
  · have hn := hwn hz
    have pw : ∀ a rt, putE [] 100 ep c a rt = want := fun a rt => by
      rw [hw]; unfold putE edgeW
      by_cases hc : okC c = 0
      · have : ep > 1099511627776 := hn.resolve_left fun h => h hc
        rw [if_neg (fun h => h hc), if_pos (.inr (.inl this)), if_neg (fun h => h hc), if_pos this]
      · rw [if_pos hc, if_pos hc]
    have kw : killE [] ep c = want := by
      rw [hw]; unfold edgeW
      rw [kill_empty]
      by_cases hc : okC c = 0
      · have : ep > 1099511627776 := hn.resolve_left fun h => h hc
        rw [if_neg (fun h => h hc), if_pos (.inr this), if_neg (fun h => h hc), if_pos this]
      · rw [if_pos hc, if_pos hc]
    refine Put_spec (x := ⟨c, oneA 7⟩) s2 (right_one' 7) (hR e02) (fun g h3 e3 => ?_) fun g => absurd (pw _ _) (by rw [g]; exact fun h => hz h.symm)
    rw [pw]
    refine ⟨c, bl2.cells.ext e3, Put_spec (x := ⟨c, ⟨1, 2, 3, 3⟩⟩) (s2.ext e3) right_bad (hR (e02.trans e3)) (fun g h4 e4 => ?_) fun g => absurd (pw _ _) (by rw [g]; exact fun h => hz h.symm)⟩
    rw [pw]
    have e34 := e3.trans e4
    refine ⟨c, bl2.cells.ext e34, Put_spec (x := ⟨c, zA⟩) (s2.ext e34) right_zero (hR (e02.trans e34)) (fun g h5 e5 => ?_) fun g => absurd (pw _ _) (by rw [g]; exact fun h => hz h.symm)⟩
    rw [pw]
    have e35 := e34.trans e5
    refine ⟨c, bl2.cells.ext e35, Kill_spec (s2.ext e35) (hR (e02.trans e35)) (fun g h6 e6 => ?_) fun g => absurd kw (by rw [g]; exact fun h => hz h.symm)⟩
    rw [kw]
    have e36 := e35.trans e6
    have s6 := s2.ext e36
    have e06 := e02.trans e36
    have j4 : F.spatelaw7_ShardEdges.j4 Q ep (some ⟨n, 0, none⟩) ⟨m, 0, none⟩ want h6 := by
      unfold F.spatelaw7_ShardEdges.j4
      refine ⟨fun _ => ?_, fun g => absurd (show want = 0 by simpa using g) hz⟩
      simp only [nn_some, add_lit, Nat.zero_add, Nat.add_zero]
      refine Units_spec s6 ⟨fun _ => ?_, fun g => absurd (show ((unitsS [] : Int) == 0) = true from rfl) (by rw [g]; decide)⟩
      refine ⟨c, bl2.cells.ext e36, Get_spec s6 fun h7 e7 => ?_⟩
      have hat : atS [] c 0 = zA := by unfold atS; split <;> rfl
      rw [hat]
      refine ⟨fun _ => ?_, fun g => absurd g (by decide)⟩
      refine Cells_spec (s6.ext e7) ⟨fun _ => head_spec fun h9 e9 => k h9 ((e06.trans e7).trans e9), fun g => absurd (show ((thereS [] : Int) == 0) = true from rfl) (by rw [g]; decide)⟩
    have hw0 : (want == 0) = false := by simpa using hz
    unfold F.spatelaw7_ShardEdges.j3 F.spatelaw7_ShardEdges.j5
    refine ⟨fun g => (by rw [hw0] at g; cases g), fun _ => ?_⟩
    simp only [bne_self_eq_false]
    exact ⟨fun g => by simp at g, fun _ => ⟨fun g => by simp at g, fun _ => ⟨fun g => by simp at g, fun _ => ⟨fun g => by simp at g, fun _ => j4⟩⟩⟩⟩
theorem ShardEdges_spec {view long start epoch : Int} {h : H} {Q : Bool → H → Prop} (hs : -9223372036854775808 ≤ start ∧ start < 9223372036854775808) (k : ∀ h', Ext h h' → Q true h') : F.spatelaw7_ShardEdges view long start epoch h Q := by
  unfold F.spatelaw7_ShardEdges
  refine New_spec (R := fun b => h.size ≤ b) (fun g => by omega) (fun b hb => hb) fun _ _ h1 n sh e1 hn => ⟨fun g => by simp at g, fun _ => ?_⟩
  unfold F.spatelaw7_ShardEdges.j9
  refine ⟨fun g => by simp at g, fun _ => ?_⟩
  unfold F.spatelaw7_ShardEdges.j1
  refine within_spec (by omega) (by omega) (within_spec (by omega) (by omega) ⟨by omega, within_spec (by omega) (by omega) (within_spec (by omega) (by omega) ?_)⟩)
  have r1 := within_range (a := view) (m := 6) (by omega)
  have r2 := within_range (a := long) (m := 35) (by omega)
  have r3 := within_range (a := epoch) (m := 2) (by omega)
  have r4 := within_range (a := epoch) (m := 3) (by omega)
  generalize withinM view 6 = v at r1 ⊢
  generalize withinM long 35 = l at r2 ⊢
  generalize withinM epoch 2 = p at r3 ⊢
  generalize withinM epoch 3 = q at r4 ⊢
  have t1 := Int.tmod_lt_of_pos start (b := 3) (by omega)
  have t2 : -3 < Int.tmod start 3 := by
    have := Int.tmod_lt_of_pos (-start) (b := 3) (by omega)
    rw [Int.neg_tmod] at this
    omega
  generalize Int.tmod start 3 = t at t1 t2 ⊢
  obtain ⟨L, hL⟩ : ∃ L : Nat, l = (L : Int) := ⟨l.toNat, by omega⟩
  subst hL
  rw [w64 (n := v - 1) (by omega) (by omega), w64 (n := 2305843009213693952 + t) (by omega) (by omega), w64 (n := 2 * p) (by omega) (by omega), w64 (n := 1 - 2 * p) (by omega) (by omega), w64 (n := q + 1099511627776) (by omega) (by omega)]
  have hst : -2305843009213693954 ≤ (2305843009213693952 + t) * (1 - 2 * p) ∧ (2305843009213693952 + t) * (1 - 2 * p) ≤ 2305843009213693954 := by
    have : p = 0 ∨ p = 1 := by omega
    rcases this with h | h <;> subst h <;> omega
  generalize (2305843009213693952 + t) * (1 - 2 * p) = st at hst ⊢
  rw [w64 (n := st) (by omega) (by omega)]
  refine make_of el_Sluint8 (by omega) (by simp only [maxLen]; omega) fun b h2 hb o2 e2 => ?_
  have rd : Reads h2 ⟨some ⟨b, 0, none⟩, L, L⟩ 1 ((List.replicate L (0 : UInt8)).flatMap cU) := by
    have o2' := o2.reads
    rw [show ((Value.int .u8 0).cells) = #[(Value.int .u8 0)] from rfl, made_u8] at o2'
    exact o2'
  refine cvtT_of (l := List.replicate L (0 : UInt8)) el_Sluint8.slice Try.underlying5 Try.underlying9 rd ?_
  refine new_of fun m h3 hm b3 e3 s3 => ?_
  have b3' : Blk h3 m zeroC.cells.toArray tn_api_Cell := b3
  refine st_cel b3' (d := ⟨v - 1, ⟨(List.replicate L (0 : UInt8)).toArray⟩, st⟩) fun h5 b5 o5 s5 => ?_
  have e15 : Ext h1 h5 := (e2.trans e3).step o5 fun x hx hb => by have := e2.size; omega
  have s5' := sh.ext e15
  have e05 := e1.trans e15
  have hsz : (⟨(List.replicate L (0 : UInt8)).toArray⟩ : ByteArray).size = L := by
    rw [size_data]; simp
  have he : ∀ want, want = (if v - 1 < 0 ∨ v - 1 ≥ 4 then 23 else if (L : Int) < 1 ∨ (L : Int) > 32 then 21 else if st < -2305843009213693952 ∨ st > 2305843009213693952 then 22 else if q + 1099511627776 - 1 > 1099511627776 then 1 else 0) → F.spatelaw7_ShardEdges.j2 Q (q + 1099511627776 - 1) (some ⟨n, 0, none⟩) ⟨m, 0, none⟩ want h5 := fun want hw => by
    refine edge_j2 s5' b5 e05 (by omega) ?_ k
    rw [hw]
    unfold edgeW okC
    simp only [hsz]
    split
    · rfl
    · split
      · rfl
      · split
        · rfl
        · rfl
  rw [w64 (n := q + 1099511627776 - 1) (by omega) (by omega)]
  have j8 : ∀ b : Bool, (b = true → v - 1 ≥ 0 ∧ v - 1 < 4 ∧ 1 ≤ (L : Int) ∧ (L : Int) ≤ 32 ∧ (st < -2305843009213693952 ∨ st > 2305843009213693952)) → (b = false → v - 1 ≥ 0 ∧ v - 1 < 4 ∧ 1 ≤ (L : Int) ∧ (L : Int) ≤ 32 ∧ ¬ (st < -2305843009213693952 ∨ st > 2305843009213693952)) → F.spatelaw7_ShardEdges.j8 Q (q + 1099511627776 - 1) (some ⟨n, 0, none⟩) ⟨m, 0, none⟩ 0 b h5 := fun b t f => by
    unfold F.spatelaw7_ShardEdges.j8
    refine ⟨fun g => he _ ?_, fun g => ⟨fun g2 => he _ ?_, fun g2 => he _ ?_⟩⟩
    · have := t g
      rw [if_neg (by omega), if_neg (by omega), if_pos this.2.2.2.2]
    · have := f g
      rw [if_neg (by omega), if_neg (by omega), if_neg this.2.2.2.2, if_pos (of_decide_eq_true g2)]
    · have := f g
      rw [if_neg (by omega), if_neg (by omega), if_neg this.2.2.2.2, if_neg (of_decide_eq_false g2)]
  have j7 : ∀ b : Bool, (b = true → v - 1 ≥ 0 ∧ v - 1 < 4 ∧ ((L : Int) < 1 ∨ (L : Int) > 32)) → (b = false → v - 1 ≥ 0 ∧ v - 1 < 4 ∧ 1 ≤ (L : Int) ∧ (L : Int) ≤ 32) → F.spatelaw7_ShardEdges.j7 Q st (q + 1099511627776 - 1) (some ⟨n, 0, none⟩) ⟨m, 0, none⟩ 0 b h5 := fun b t f => by
    unfold F.spatelaw7_ShardEdges.j7
    refine ⟨fun g => he _ ?_, fun g => ⟨fun g2 => j8 _ (fun _ => ?_) (fun h => by cases h), fun g2 => j8 _ (fun g3 => ?_) fun g3 => ?_⟩⟩
    · have := t g
      rw [if_neg (by omega), if_pos this.2.2]
    · have := f g; have := of_decide_eq_true g2; omega
    · have := f g; have := of_decide_eq_true g3; omega
    · have := f g; have := of_decide_eq_false g2; have := of_decide_eq_false g3; omega
  have j6 : ∀ b : Bool, (b = true → v - 1 < 0 ∨ v - 1 ≥ 4) → (b = false → v - 1 ≥ 0 ∧ v - 1 < 4) → F.spatelaw7_ShardEdges.j6 Q (L : Int) st (q + 1099511627776 - 1) (some ⟨n, 0, none⟩) ⟨m, 0, none⟩ 0 b h5 := fun b t f => by
    unfold F.spatelaw7_ShardEdges.j6
    refine ⟨fun g => he _ ?_, fun g => ⟨fun g2 => j7 _ (fun _ => ?_) (fun h => by cases h), fun g2 => j7 _ (fun g3 => ?_) fun g3 => ?_⟩⟩
    · rw [if_pos (t g)]
    · have := f g; have := of_decide_eq_true g2; omega
    · have := f g; have := of_decide_eq_true g3; omega
    · have := f g; have := of_decide_eq_false g2; have := of_decide_eq_false g3; omega
  exact ⟨fun g => j6 _ (fun _ => .inl (of_decide_eq_true g)) (fun h => by cases h), fun g => j6 _ (fun g2 => by have := of_decide_eq_true g2; omega) fun g2 => by have := of_decide_eq_false g; have := of_decide_eq_false g2; omega⟩
end Go.Proofs.Ytoccbnhahaoeiaa.V.S
