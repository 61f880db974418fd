/- The law TableKeeps, second part: where keys lie; no condition. -/
import Derived.Test.YtkedkajdiclmjaaKv
import Derived.Sort.Walk0
namespace Go.Proofs.Ytkedkajdiclmjaa.V.K
open Go Go.Proofs.Ytkedkajdiclmjaa.V
set_option linter.unusedVariables false
set_option linter.unusedSimpArgs false

theorem sortT_up {A : List ByteArray} (hn : A.Nodup) : (sortT A).Pairwise fun a b => a.data.toList < b.data.toList := by
  unfold sortT
  rw [List.pairwise_map]
  have tr : ∀ a b c : List UInt8, leB a b = true → leB b c = true → leB a c = true := fun a b c h1 h2 => by simp only [leB, decide_eq_true_eq] at *; exact List.le_trans h1 h2
  have to : ∀ a b : List UInt8, (leB a b || leB b a) = true := fun a b => by simp only [leB, Bool.or_eq_true, decide_eq_true_eq]; exact List.le_total a b
  have hp := List.pairwise_mergeSort (le := leB) tr to (A.map fun s => s.data.toList)
  have hnd : (A.map fun s => s.data.toList).Nodup := by
    unfold List.Nodup at *
    rw [List.pairwise_map]
    exact hn.imp fun h e => h (kL_inj e)
  have hnd2 : ((A.map fun s => s.data.toList).mergeSort leB).Nodup := (List.mergeSort_perm _ _).nodup_iff.2 hnd
  refine (hp.and hnd2).imp fun {a b} ⟨h1, h2⟩ => ?_
  simp only [leB, decide_eq_true_eq] at h1
  show a < b
  rw [← List.not_le]
  exact fun h3 => h2 (List.le_antisymm h1 h3)
theorem allL_up {T : Tb Sl} (t : TOk T) : (allL T).Pairwise fun a b => a.1.data.toList < b.1.data.toList := by
  unfold allL
  rw [List.pairwise_map]
  exact sortT_up (KU_of t)
theorem allL_of {T : Tb Sl} (t : TOk T) {p : Pl Sl} (hp : p ∈ T.row ∨ p ∈ T.elder) (h1 : p.is_ = 1) : ∃ (j : Nat) (x : ByteArray × Sl), (allL T)[j]? = some x ∧ x.1 = p.key := by
  have : (p.key, (getM T p.key).getD nilS) ∈ allL T := by
    unfold allL
    refine List.mem_map.2 ⟨p.key, ?_, rfl⟩
    rw [sortT_mem]
    refine List.mem_map.2 ⟨(p.key, p.value.enc), ?_, rfl⟩
    unfold tkL
    exact List.mem_map.2 ⟨p, List.mem_filter.2 ⟨List.mem_append.2 hp, by simpa using h1⟩, rfl⟩
  obtain ⟨j, hj⟩ := List.mem_iff_getElem?.1 this
  exact ⟨j, _, hj, rfl⟩
theorem place_of {T : Tb Sl} (t : TOk T) {k : ByteArray} {s : Sl} (h : getM T k = some s) : ∃ e p, whereM T k = some (some (e, p)) ∧ (e = false → Hit T.row k p) ∧ (e = true → Hit T.elder k p) := by
  rcases where_ok t k with ⟨i, w, hh⟩ | ⟨i, w, hh, _⟩ | ⟨w, hn, hne⟩
  · exact ⟨false, i, w, fun _ => hh, fun e => by cases e⟩
  · exact ⟨true, i, w, fun e => (by cases e), fun _ => hh⟩
  · rw [get_none hn hne] at h; cases h
/-- What one of the two books of places says: which were met. -/
structure PB (T : Tb Sl) (e : Bool) (i : Nat) (R : List (Int × Value)) : Prop where
  bool : ∀ a, N.getK R a = none ∨ N.getK R a = some (.bool true)
  met : ∀ (a : Nat), N.getK R (a : Int) = some (.bool true) → ∃ (j : Nat) (x : ByteArray × Sl), j < i ∧ (allL T)[j]? = some x ∧ whereM T x.1 = some (some (e, a))
  all : ∀ (j : Nat) (x : ByteArray × Sl) (p : Nat), j < i → (allL T)[j]? = some x → whereM T x.1 = some (some (e, p)) → N.getK R (p : Int) = some (.bool true)
theorem getK_putN {M : List (Int × Value)} {k k' : Int} {v : Value} : N.getK (N.putK M k v) k' = if k' = k then some v else N.getK M k' := by
  unfold N.putK
  rcases N.getK_pos (M := M) (k := k) with ⟨h1, h2⟩ | ⟨i, p, h1, hp, hpk, h2⟩
  · rw [h1]
    simp only
    unfold N.getK at h2 ⊢
    rw [List.find?_append]
    by_cases e : k' = k
    · subst e
      rw [if_pos rfl]
      rw [Option.map_eq_none_iff] at h2
      rw [h2]
      simp
    · rw [if_neg e]
      simp [e]
  · subst hpk
    rw [h1]
    simp only
    have hlt := (List.getElem?_eq_some_iff.1 hp).1
    clear h2
    induction M generalizing i with
    | nil => simp at hlt
    | cons q M ih =>
      rw [List.findIdx?_cons] at h1
      by_cases hq : p.1 = q.1
      · rw [hq, N.in_self] at h1
        simp at h1
        subst h1
        simp only [List.set_cons_zero]
        unfold N.getK
        rw [List.find?_cons, List.find?_cons]
        by_cases e : k' = p.1
        · subst e; rw [if_pos rfl, N.in_self]; rfl
        · rw [if_neg e, N.in_ne e, N.in_ne (fun h => e (h.trans hq.symm))]
      · rw [N.in_ne hq] at h1
        simp only [Bool.false_eq_true, if_false] at h1
        cases hj : M.findIdx? fun x => p.1 == x.1 with
        | none => rw [hj] at h1; cases h1
        | some j =>
          rw [hj] at h1
          simp at h1
          subst h1
          simp only [List.set_cons_succ]
          unfold N.getK
          rw [List.find?_cons, List.find?_cons]
          by_cases e : k' = q.1
          · subst e
            rw [N.in_self, if_neg (fun h => hq h.symm)]
          · rw [N.in_ne e]
            have := ih (i := j) (by simpa using hp) hj (by simp at hlt; omega)
            unfold N.getK at this
            exact this
theorem PB.put {T : Tb Sl} {e : Bool} {i p : Nat} {R : List (Int × Value)} {x : ByteArray × Sl} (b : PB T e i R) (hx : (allL T)[i]? = some x) (hw : whereM T x.1 = some (some (e, p))) : PB T e (i + 1) (N.putK R (p : Int) (.bool true)) :=
  ⟨fun a => by
    rw [getK_putN]
    split
    · exact .inr rfl
    · exact b.bool a, fun a ha => by
    rw [getK_putN] at ha
    by_cases h : (a : Int) = (p : Int)
    · have : a = p := by omega
      subst this
      exact ⟨i, x, by omega, hx, hw⟩
    · rw [if_neg h] at ha
      obtain ⟨j, y, h1, h2, h3⟩ := b.met a ha
      exact ⟨j, y, by omega, h2, h3⟩, fun j y q hj hy hq => by
    rw [getK_putN]
    by_cases hji : j = i
    · subst hji
      rw [hx] at hy; cases hy
      rw [hw] at hq
      cases hq
      rw [if_pos rfl]
    · split
      · rfl
      · exact b.all j y q (by omega) hy hq⟩
theorem PB.skip {T : Tb Sl} {e e' : Bool} {i p : Nat} {R : List (Int × Value)} {x : ByteArray × Sl} (b : PB T e i R) (hx : (allL T)[i]? = some x) (hw : whereM T x.1 = some (some (e', p))) (hne : e' ≠ e) : PB T e (i + 1) R :=
  ⟨b.bool, fun a ha => by
    obtain ⟨j, y, h1, h2, h3⟩ := b.met a ha
    exact ⟨j, y, by omega, h2, h3⟩, fun j y q hj hy hq => by
    by_cases hji : j = i
    · subst hji
      rw [hx] at hy; cases hy
      rw [hw] at hq
      cases hq
      exact absurd rfl hne
    · exact b.all j y q (by omega) hy hq⟩
/-- A place is met once. -/
theorem PB.fresh {T : Tb Sl} (t : TOk T) {e : Bool} {i p : Nat} {R : List (Int × Value)} {x : ByteArray × Sl} (b : PB T e i R) (hx : (allL T)[i]? = some x) (hw : whereM T x.1 = some (some (e, p))) : N.getK R (p : Int) = none := by
  rcases b.bool (p : Int) with h | h
  · exact h
  · exfalso
    obtain ⟨j, y, h1, h2, h3⟩ := b.met p h
    have hxm := List.mem_of_getElem? hx
    have hym := List.mem_of_getElem? h2
    have hk : kL y.1 = kL x.1 := by
      obtain ⟨e1, p1, w1, a1, c1⟩ := place_of t (allL_mem t hxm).1
      obtain ⟨e2, p2, w2, a2, c2⟩ := place_of t (allL_mem t hym).1
      rw [hw] at w1; cases w1
      rw [h3] at w2; cases w2
      cases e with
      | false =>
        obtain ⟨q1, b1, b2, b3⟩ := a1 rfl
        obtain ⟨q2, b4, b5, b6⟩ := a2 rfl
        rw [b1] at b4; cases b4
        exact b6.symm.trans b3
      | true =>
        obtain ⟨q1, b1, b2, b3⟩ := c1 rfl
        obtain ⟨q2, b4, b5, b6⟩ := c2 rfl
        rw [b1] at b4; cases b4
        exact b6.symm.trans b3
    have hi := (List.getElem?_eq_some_iff.1 hx)
    have hj := (List.getElem?_eq_some_iff.1 h2)
    have := List.pairwise_iff_getElem.1 (allL_up t) j i hj.1 hi.1 h1
    rw [hj.2, hi.2] at this
    unfold kL at hk
    rw [hk] at this
    exact List.lt_irrefl _ this
/-- Where the second part's variables lie. -/
structure LC where
  h : H
  n : Nat
  b : Nat
  c2 : Nat
  c4 : Nat
  c6 : Nat
  c8 : Nat
  c11 : Nat
  br : Nat
  c16 : Nat
  be : Nat
  c21 : Nat
  top : Nat
/-- While the first range runs. -/
structure L1 (c : LC) (T : Tb Sl) (ka ma bq : Nat) (rq : Sl) (i : Nat) (h' : H) : Prop where
  ext : Ext c.h h'
  b2 : Blk h' c.c2 #[.pointer (some ⟨c.n, 0, none⟩)] 48
  b4 : Blk h' c.c4 #[.map (some c.b)] 50
  b6 : Blk h' c.c6 #[.bool false] 4
  b8 : Blk h' c.c8 #[.int .i64 (i : Int)] 3
  b11 : ∃ l, Blk h' c.c11 #[.string l] 9 ∧ ∀ (j : Nat) (x : ByteArray × Sl), j + 1 = i → (allL T)[j]? = some x → l = x.1
  b16 : Blk h' c.c16 #[.map (some c.br)] 96
  b21 : Blk h' c.c21 #[.map (some c.be)] 96
  sq : SeqH h' ka ma bq rq (allL T)
  d : h'[c.top]? = some (.deferred (some []))
structure LOk (c : LC) : Prop where
  o2 : c.h.size ≤ c.c2
  o4 : c.c2 < c.c4
  o6 : c.c4 < c.c6
  o8 : c.c6 < c.c8
  o11 : c.c8 < c.c11
  obr : c.c11 < c.br
  o16 : c.br < c.c16
  obe : c.c16 < c.be
  o21 : c.be < c.c21
  otop : c.c21 < c.top
section
variable {c : LC} {T : Tb Sl} {ka ma bq : Nat} {rq : Sl} {i : Nat} {h' h'' : H}
theorem L1.only (w : L1 c T ka ma bq rq i h') (o : LOk c) {S : Nat → Prop} (e : Only S h' h'') (hS : ∀ m, S m → c.h.size ≤ m ∧ m ≠ c.c2 ∧ m ≠ c.c4 ∧ m ≠ c.c6 ∧ m ≠ c.c8 ∧ m ≠ c.c11 ∧ m ≠ c.br ∧ m ≠ c.c16 ∧ m ≠ c.be ∧ m ≠ c.c21 ∧ m ≠ c.top ∧ ¬ SQF ka ma bq rq m) : L1 c T ka ma bq rq i h'' := by
  obtain ⟨l, l1, l2⟩ := w.b11
  exact ⟨w.ext.step e fun m hm hs => by have := (hS m hs).1; omega, e.block w.b2 fun hs => (hS _ hs).2.1 rfl, e.block w.b4 fun hs => (hS _ hs).2.2.1 rfl, e.block w.b6 fun hs => (hS _ hs).2.2.2.1 rfl, e.block w.b8 fun hs => (hS _ hs).2.2.2.2.1 rfl, ⟨l, e.block l1 fun hs => (hS _ hs).2.2.2.2.2.1 rfl, l2⟩, e.block w.b16 fun hs => (hS _ hs).2.2.2.2.2.2.2.1 rfl, e.block w.b21 fun hs => (hS _ hs).2.2.2.2.2.2.2.2.2.1 rfl, w.sq.only e fun m hm hs => (hS m hs).2.2.2.2.2.2.2.2.2.2.2 hm, e.block w.d fun hs => (hS _ hs).2.2.2.2.2.2.2.2.2.2.1 rfl⟩
/-- The two books of places. -/
def LM (c : LC) (T : Tb Sl) (i : Nat) (h' : H) : Prop := (∃ R, N.MapH h' c.br R ∧ PB T false i R) ∧ ∃ E, N.MapH h' c.be E ∧ PB T true i E
theorem LM.only (w : LM c T i h') {S : Nat → Prop} (e : Only S h' h'') (h1 : ¬ S c.br) (h2 : ¬ S c.be) : LM c T i h'' := by
  obtain ⟨⟨R, r1, r2⟩, E, e1, e2⟩ := w
  exact ⟨⟨R, r1.only e h1, r2⟩, E, e1.only e h2, e2⟩
theorem L1.extd (w : L1 c T ka ma bq rq i h') (o : LOk c) (e : Ext h' h'') : L1 c T ka ma bq rq i h'' := w.only o e fun _ f => f.elim
end
end Go.Proofs.Ytkedkajdiclmjaa.V.K
