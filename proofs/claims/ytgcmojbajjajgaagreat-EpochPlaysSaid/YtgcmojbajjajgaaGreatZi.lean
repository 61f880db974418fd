/- Books that come up: their bounds; a law's step; no condition. -/
import Derived.Test.YtgcmojbajjajgaaGreatEh
namespace Go.Proofs.YtgcmojbajjajgaaGreat.V
open Go Go.Proofs.YtgcmojbajjajgaaGreat.V.N
set_option linter.unusedVariables false
set_option linter.unusedSimpArgs false
theorem sk_iff {S : List Int} : SK (uS S) ↔ S.Pairwise (· < ·) := by
  unfold SK uS; rw [List.pairwise_map]
theorem skd_iff {D : List (Int × Int)} : SK (dS D) ↔ D.Pairwise fun p q => p.1 < q.1 := by
  unfold SK dS; rw [List.pairwise_map]
theorem mem_uS {S : List Int} {p : Int × Value} : p ∈ uS S ↔ p.1 ∈ S ∧ p.2 = uV := by
  obtain ⟨a, b⟩ := p
  simp only [uS, List.mem_map, Prod.mk.injEq]
  constructor
  · rintro ⟨x, h, rfl, rfl⟩; exact ⟨h, rfl⟩
  · rintro ⟨h, rfl⟩; exact ⟨a, h, rfl, rfl⟩
theorem ins_sorted {S : List Int} {k : Int} (s : S.Pairwise (· < ·)) : (insS S k).Pairwise (· < ·) := by
  rw [← sk_iff, ← uS_ins]; exact sk_putS (sk_iff.2 s)
theorem mem_ins {S : List Int} {k a : Int} (s : S.Pairwise (· < ·)) : a ∈ insS S k ↔ a = k ∨ a ∈ S := by
  have h1 : (a, uV) ∈ uS (insS S k) ↔ a ∈ insS S k := by rw [mem_uS]; simp
  have h2 : (a, uV) ∈ uS S ↔ a ∈ S := by rw [mem_uS]; simp
  rw [← h1, ← uS_ins, mem_putS (sk_iff.2 s), h2]
  simp only [Prod.mk.injEq, and_true]
  by_cases e : a = k <;> simp [e]
theorem putD_sorted {D : List (Int × Int)} {k v : Int} (s : D.Pairwise fun p q => p.1 < q.1) : (putD D k v).Pairwise fun p q => p.1 < q.1 := by
  rw [← skd_iff, ← dS_put]; exact sk_putS (skd_iff.2 s)
theorem mem_putD {D : List (Int × Int)} {k v : Int} {p : Int × Int} (s : D.Pairwise fun p q => p.1 < q.1) : p ∈ putD D k v ↔ p = (k, v) ∨ (p ∈ D ∧ p.1 ≠ k) := by
  obtain ⟨a, b⟩ := p
  have h1 : ∀ E : List (Int × Int), (a, Value.int .i64 b) ∈ dS E ↔ (a, b) ∈ E := fun E => by
    rw [mem_dS]; constructor
    · rintro ⟨v, e, h⟩; simp only at e h; cases e; exact h
    · intro h; exact ⟨b, rfl, h⟩
  rw [← h1, ← dS_put, mem_putS (skd_iff.2 s), h1]
  simp
theorem mem_modify {α : Type} {f : α → α} {l : List α} {i : Nat} {x : α} (h : x ∈ l.modify i f) : x ∈ l ∨ ∃ y, l[i]? = some y ∧ x = f y := by
  obtain ⟨j, hj⟩ := List.mem_iff_getElem?.1 h
  rw [List.getElem?_modify] at hj
  cases hl : l[j]? with
  | none => rw [hl] at hj; cases hj
  | some y =>
    rw [hl] at hj
    simp only [Option.map_eq_map, Option.map_some, Option.some.injEq] at hj
    by_cases e : i = j
    · subst e; rw [if_pos rfl] at hj; exact .inr ⟨y, hl, hj.symm⟩
    · rw [if_neg e] at hj; subst hj; exact .inl (List.mem_of_getElem? hl)
section
variable {B : Bk} {c : Nat}
theorem Ok.mono {c' : Nat} (o : Ok B c) (h : c ≤ c') : Ok B c' := ⟨o.lo, by have := o.now; omega, o.sets, o.die⟩
theorem Ok.new {pins : Int} : Ok (newB pins) 0 := ⟨by simp [newB], by simp [newB], fun x hx => by
  simp [newB] at hx; subst hx; simp [newB], by simp [newB]⟩
theorem Ok.setmem (o : Ok B c) (t : Int) : (setB B t).Pairwise (· < ·) ∧ (∀ e ∈ setB B t, 1 ≤ e ∧ e < B.now) ∧ 0 ≤ innB B t ∧ innB B t < B.now := by
  unfold setB innB
  cases hx : B.os[t.toNat]? with
  | none => simp; have := o.now; omega
  | some x => exact o.sets x (List.mem_of_getElem? hx)
theorem Ok.let_ (o : Ok B c) {e : Int} (h1 : 1 ≤ e) (h2 : e < B.now) : Ok (letB B e) c := by
  unfold letB
  split
  · exact o
  · refine ⟨o.lo, o.now, o.sets, putD_sorted o.die.1, fun p hp => ?_⟩
    rcases (mem_putD o.die.1).1 hp with rfl | ⟨hp, _⟩
    · exact ⟨h1, h2⟩
    · exact o.die.2 p hp
theorem letB_now (B : Bk) (e : Int) : (letB B e).now = B.now := by unfold letB; split <;> rfl
theorem Ok.lets : ∀ {l : List Int} {B : Bk}, Ok B c → (∀ e ∈ l, 1 ≤ e ∧ e < B.now) → Ok (l.foldl letB B) c
  | [], B, o, h => o
  | e :: r, B, o, h => Ok.lets (l := r) (o.let_ (h e (by simp)).1 (h e (by simp)).2) fun x hx => by rw [letB_now]; exact h x (by simp [hx])
theorem Ok.setS (o : Ok B c) {i : Nat} {S : List Int} (hs : S.Pairwise (· < ·)) (hm : ∀ e ∈ S, 1 ≤ e ∧ e < B.now) : Ok (V.setS B i S) c := by
  refine ⟨by simp [V.setS, o.lo], o.now, fun x hx => ?_, o.die⟩
  rcases mem_modify hx with hx | ⟨y, hy, rfl⟩
  · exact o.sets x hx
  · have := o.sets y (List.mem_of_getElem? hy)
    exact ⟨hs, hm, this.2.2⟩
theorem Ok.setIn (o : Ok B c) {i : Nat} {v : Int} (h0 : 0 ≤ v) (h1 : v < B.now) : Ok (V.setIn B i v) c := by
  refine ⟨by simp [V.setIn, o.lo], o.now, fun x hx => ?_, o.die⟩
  rcases mem_modify hx with hx | ⟨y, hy, rfl⟩
  · exact o.sets x hx
  · have := o.sets y (List.mem_of_getElem? hy)
    exact ⟨this.1, this.2.1, h0, h1⟩
/-- The epoch that is now goes on. -/
theorem Ok.up (o : Ok B c) : Ok { B with now := B.now + 1 } (c + 1) :=
  ⟨o.lo, by have := o.now; simp only; omega, fun x hx => ⟨(o.sets x hx).1, fun e he => by have := (o.sets x hx).2.1 e he; simp only; omega, by have := (o.sets x hx).2.2; simp only; omega⟩, o.die.1, fun p hp => by have := o.die.2 p hp; simp only; omega⟩
theorem Ok.seal (o : Ok B c) (t : Int) : Ok (sealB B t).2.2 (c + 1) := by
  unfold sealB
  have h0 := o.now
  split
  · exact o.mono (by omega)
  · split
    · exact o.mono (by omega)
    · split
      · exact o.mono (by omega)
      · have sm := o.setmem t
        have := (o.up).setS (i := t.toNat) (S := insS (setB B t) B.now) (ins_sorted sm.1) fun e he => by
          rcases (mem_ins sm.1).1 he with rfl | he
          · simp only; omega
          · have := sm.2.1 e he; simp only; omega
        exact this
theorem Ok.inner (o : Ok B c) (t : Int) : Ok (innerB B t).2.2 (c + 1) := by
  unfold innerB
  have h0 := o.now
  split
  · exact o.mono (by omega)
  · split
    · exact o.mono (by omega)
    · split
      · exact o.mono (by omega)
      · exact (o.up).setIn (i := t.toNat) (v := B.now) (by omega) (by simp only; omega)
theorem pin_mem (o : Ok B c) {e : Int} (h : ¬ pinB B e = false) : 1 ≤ e ∧ e < B.now := by
  simp only [pinB, Bool.not_eq_false, List.any_eq_true, decide_eq_true_eq] at h
  obtain ⟨x, hx, he⟩ := h
  exact (o.sets x hx).2.1 e he
theorem Ok.join (o : Ok B c) (t e : Int) : Ok (joinB B t e).2 (c + 1) := by
  unfold joinB
  split
  · exact o.mono (by omega)
  · split
    · exact o.mono (by omega)
    · rename_i hp
      split
      · exact o.mono (by omega)
      · split
        · exact o.mono (by omega)
        · have sm := o.setmem t
          refine (o.mono (c' := c + 1) (by omega)).setS (ins_sorted sm.1) fun a ha => ?_
          rcases (mem_ins sm.1).1 ha with rfl | ha
          · exact pin_mem o hp
          · exact sm.2.1 a ha
theorem Ok.release (o : Ok B c) (t e : Int) : Ok (releaseB B t e).2 (c + 1) := by
  unfold releaseB
  split
  · exact o.mono (by omega)
  · split
    · exact o.mono (by omega)
    · rename_i hp
      have sm := o.setmem t
      have he := sm.2.1 e (by simpa using hp)
      exact ((o.mono (c' := c + 1) (by omega)).setS (i := t.toNat) (S := (setB B t).filter (· != e)) (sm.1.filter _) fun a ha => sm.2.1 a (List.mem_filter.1 ha).1).let_ he.1 he.2
theorem Ok.done (o : Ok B c) (t : Int) : Ok (doneO B t).2 (c + 1) := by
  unfold doneO
  have h0 := o.now
  split
  · exact o.mono (by omega)
  · split
    · exact o.mono (by omega)
    · rename_i hp
      have sm := o.setmem t
      exact ((o.mono (c' := c + 1) (by omega)).setIn (i := t.toNat) (v := 0) (by omega) (by omega)).let_ (by omega) (by exact sm.2.2.2)
theorem Ok.drop (o : Ok B c) (t : Int) : Ok (dropB B t).2 (c + 1) := by
  unfold dropB
  have h0 := o.now
  split
  · exact o.mono (by omega)
  · have sm := o.setmem t
    refine Ok.lets ⟨by simp [o.lo], by simp only; omega, fun x hx => ?_, o.die⟩ fun e he => ?_
    · rcases mem_modify hx with hx | ⟨y, hy, rfl⟩
      · exact o.sets x hx
      · simp; omega
    · rcases List.mem_append.1 he with he | he
      · exact sm.2.1 e he
      · split at he
        · simp at he; subst he; simp only; omega
        · cases he
theorem Ok.begin_ (o : Ok B c) : Ok (beginB B).2 (c + 1) := by
  unfold beginB
  split
  · exact o.mono (by omega)
  · have o' := o.mono (c' := c + 1) (by omega)
    refine ⟨o'.lo, o'.now, o'.sets, ?_, fun p hp => ?_⟩
    · simp only [List.pairwise_map]; exact o.die.1
    · simp only [List.mem_map] at hp
      obtain ⟨q, hq, rfl⟩ := hp; exact o.die.2 q hq
theorem Ok.end_ (o : Ok B c) : Ok (endB B).2.2 (c + 1) := by
  unfold endB
  split
  · exact o.mono (by omega)
  · have o' := o.mono (c' := c + 1) (by omega)
    exact ⟨o'.lo, o'.now, o'.sets, o.die.1.filter _, fun p hp => o.die.2 p (List.mem_filter.1 hp).1⟩
end
/-! ### A law's step -/
abbrev Stp9 := S_spatelaw9_Step
def ofB (s : Stp9) (now : Int) : Int := if s.Last then IntKind.wrap .i64 (now - s.Epoch) else s.Epoch
def doB (B : Bk) (s : Stp9) : Bool × Bk :=
  if s.Kind = 1 then ((sealB B s.Owner).2.1 == 0, (sealB B s.Owner).2.2)
  else if s.Kind = 2 then ((innerB B s.Owner).2.1 == 0, (innerB B s.Owner).2.2)
  else if s.Kind = 3 then ((joinB B s.Owner (ofB s B.now)).1 == 0, (joinB B s.Owner (ofB s B.now)).2)
  else if s.Kind = 4 then ((releaseB B s.Owner (ofB s B.now)).1 == 0, (releaseB B s.Owner (ofB s B.now)).2)
  else if s.Kind = 5 then ((doneO B s.Owner).1 == 0, (doneO B s.Owner).2)
  else if s.Kind = 6 then (decide ((dropB B s.Owner).1 > 0), (dropB B s.Owner).2)
  else if s.Kind = 7 then ((beginB B).1 == 0, (beginB B).2)
  else if s.Kind = 8 then ((endB B).2.1 == 0, (endB B).2.2)
  else (false, B)
theorem Ok.do_ {B : Bk} {c : Nat} (o : Ok B c) (s : Stp9) : Ok (doB B s).2 (c + 1) := by
  unfold doB
  repeat' split
  · exact o.seal _
  · exact o.inner _
  · exact o.join _ _
  · exact o.release _ _
  · exact o.done _
  · exact o.drop _
  · exact o.begin_
  · exact o.end_
  · exact o.mono (by omega)
theorem step_len (x : Stp9) : x.cells.length = 4 := rfl
theorem bool_len (b : Bool) : Value.bool b = Value.bool b := rfl
theorem step_inj {x y : Stp9} (h : x.cells = y.cells) : x = y := by
  obtain ⟨a, b, c, d⟩ := x
  obtain ⟨a', b', c', d'⟩ := y
  simp [S_spatelaw9_Step.cells] at h
  obtain ⟨rfl, rfl, rfl, rfl⟩ := h; rfl
section
variable {h0 h h' : H} {FP FP' : Nat → Prop} {L : List (Nat × Bk)} {i n : Nat} {B : Bk} {c : Nat}
theorem of_spec {s : Stp9} {now : Int} {Q : Int → H → Prop} (k : ∀ h', Ext h h' → Q (ofB s now) h') : F.spatelaw9_of s now h Q := by
  unfold F.spatelaw9_of
  refine new_of fun a h1 ha b e s1 => ?_
  refine (ldB_iff (n := s.Last) (b.cell (i := 3) rfl)).2 ⟨fun g => ?_, fun g => ?_⟩
  · refine (ldI_iff (n := s.Epoch) (b.cell (i := 2) rfl)).2 ?_
    have := k h1 e
    rwa [ofB, if_pos g] at this
  · refine (ldI_iff (n := s.Epoch) (b.cell (i := 2) rfl)).2 ?_
    have := k h1 e
    rwa [ofB, if_neg (by simp [g])] at this
/-- A block of another type than a book's stays. -/
theorem BKs.blk (b : BKs h0 h FP L) (st : Stpp FP h FP' h') {x : Nat} {cs : Array Value} {e : TypeId} (k : Blk h x cs e) (he : e ≠ tn_epoch_Book) : Blk h' x cs e :=
  st.only.block k fun hf => he (b.kind hf k)
/-- Two rows of whole numbers, compared. -/
theorem ints_spec {r s : Sl} {A C : List Int} {Q : Bool → H → Prop} (ra : Reads h r 1 (A.flatMap cI)) (rc : Reads h s 1 (C.flatMap cI)) (hs : A.length < 9223372036854775807) (k : Q (decide (A = C)) h) : F.spatelaw9_ints r s h Q := by
  have la := rd_len cI_len (by omega) ra
  have lc := rd_len cI_len (by omega) rc
  unfold F.spatelaw9_ints
  rw [la, lc]
  refine ⟨fun g => ?_, fun g => ?_⟩
  · have : A ≠ C := fun e => by rw [e] at g; simp at g
    rwa [decide_eq_false this] at k
  · have hl : A.length = C.length := by simp at g; omega
    refine ⟨A.length + 1, ?_⟩
    have key : ∀ (m i : Nat), i ≤ A.length → A.length - i < m → A.take i = C.take i → F.spatelaw9_ints.l1 Q m r s (i : Int) h := by
      intro m
      induction m with
      | zero => intro i _ hm; omega
      | succ m ih =>
        intro i hi hm ht
        unfold F.spatelaw9_ints.l1
        simp only [decide_eq_true_eq, decide_eq_false_iff_not]
        rw [la]
        refine ⟨fun g2 => ?_, fun g2 => ?_⟩
        · obtain ⟨x, hx⟩ : ∃ x, A[i]? = some x := ⟨_, List.getElem?_eq_getElem (by omega)⟩
          obtain ⟨y, hy⟩ : ∃ y, C[i]? = some y := ⟨_, List.getElem?_eq_getElem (by omega)⟩
          obtain ⟨p, p1, p2, p3⟩ := rd_at cI_len (by omega) ra hx
          obtain ⟨q, q1, q2, q3⟩ := rd_at cI_len (by omega) rc hy
          refine idxR_of (i := i) p1 (by omega) rfl ((ldI_iff (n := x) p3.one).2 ?_)
          refine idxR_of (i := i) q1 (by omega) rfl ((ldI_iff (n := y) q3.one).2 ⟨fun g3 => ?_, fun g3 => ?_⟩)
          · have hne : x ≠ y := by simpa using g3
            have : A ≠ C := fun e => by rw [e, hy] at hx; cases hx; exact hne rfl
            rwa [decide_eq_false this] at k
          · have he : x = y := by simpa using g3
            rw [w64n (by omega)]
            refine ih (i + 1) (by omega) (by omega) ?_
            rw [List.take_add_one, List.take_add_one, ht, hx, hy, he]
        · have : i = A.length := by omega
          subst this
          rw [List.take_length, hl, List.take_length] at ht
          rwa [decide_eq_true ht] at k
    exact key _ 0 (by omega) (by omega) rfl
end
end Go.Proofs.YtgcmojbajjajgaaGreat.V
