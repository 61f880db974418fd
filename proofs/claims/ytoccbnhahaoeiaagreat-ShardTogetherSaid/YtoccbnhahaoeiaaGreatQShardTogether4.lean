/- Parts of the proof of ShardTogether; no condition. -/
import Derived.ArgAppend
import Derived.ChangeSlices
import Derived.OpenShut
import Derived.Shelf.SlSortCmp.NoneTotal
import Derived.Test.YtoccbnhahaoeiaaGreatQShardTogether3
namespace Go.Proofs.YtoccbnhahaoeiaaGreat.V.S
open Go Go.Proofs.YtoccbnhahaoeiaaGreat.V
set_option linter.unusedVariables false
set_option linter.unusedSimpArgs false
set_option maxRecDepth 20000
theorem aliveN_nil : aliveN [] = 0 := rfl
theorem prune_alive {vs : List Ver} (hv : VOk vs) (E : List Int) : aliveN (C.pruneM vs E) = aliveN vs := by
  have hl : (C.newestM vs) = ((vs.getLast hv.ne).value, (vs.getLast hv.ne).epoch, !(vs.getLast hv.ne).dead) := by
    unfold C.newestM; rw [List.getLast?_eq_some_getLast hv.ne]
  rcases C.prune_last hv.rise hv.ne E with ⟨h1, h2⟩ | h1
  · rw [h1, aliveN_nil]
    unfold aliveN alive
    rw [hl, h2]; rfl
  · unfold aliveN alive
    rw [hl]
    unfold C.newestM
    rw [h1]
theorem prune_ok {vs : List Ver} (hv : VOk vs) (E : List Int) (h : C.pruneM vs E ≠ []) : VOk (C.pruneM vs E) := by
  have hs := C.prune_sub vs E
  exact ⟨h, C.rise_sub hv.rise hs, fun v hm => hv.dead v (hs.subset hm), fun v hm => hv.ep v (hs.subset hm)⟩
theorem prune_units {vs : List Ver} (hv : VOk vs) (E : List Int) : unitsV (C.pruneM vs E) + (vs.length - (C.pruneM vs E).length) = unitsV vs := by
  have h1 := prune_alive hv E
  have h2 := C.prune_le vs E
  rw [units_eq, units_eq, h1]; omega
def diffN (E : List Int) (Z : List Rec) : Nat := (Z.map fun r => r.vs.length - (C.pruneM r.vs E).length).sum
def emptyK (E : List Int) (Z : List Rec) : List ByteArray := (Z.filter fun r => (C.pruneM r.vs E).isEmpty).map fun r => keyB r.c
theorem diff_snoc (E : List Int) {Z : List Rec} {i : Nat} {r : Rec} (h : Z[i]? = some r) : diffN E (Z.take (i + 1)) = diffN E (Z.take i) + (r.vs.length - (C.pruneM r.vs E).length) := by
  obtain ⟨h1, h2⟩ := List.getElem?_eq_some_iff.1 h
  unfold diffN
  rw [List.take_succ_eq_append_getElem h1, h2, List.map_append, List.sum_append]; simp
theorem empty_snoc (E : List Int) {Z : List Rec} {i : Nat} {r : Rec} (h : Z[i]? = some r) : emptyK E (Z.take (i + 1)) = emptyK E (Z.take i) ++ (if (C.pruneM r.vs E).isEmpty then [keyB r.c] else []) := by
  obtain ⟨h1, h2⟩ := List.getElem?_eq_some_iff.1 h
  unfold emptyK
  rw [List.take_succ_eq_append_getElem h1, h2, List.filter_append, List.map_append]
  congr 1
  by_cases hi : (C.pruneM r.vs E).isEmpty <;> simp [hi]
theorem setK_idx {α : Type} {key : α → Cel} {x : α} : ∀ {S : List α} {i : Nat} {y : α}, SortK key S → S[i]? = some y → key x = key y → setK key S x = S.set i x
  | [], i, y, _, h, _ => by simp at h
  | z :: r, 0, y, hs, h, he => by
    simp at h; subst h
    unfold setK
    rw [he, cC_self]; simp
  | z :: r, i + 1, y, hs, h, he => by
    have h' := List.pairwise_cons.1 hs
    have hy : r[i]? = some y := by simpa using h
    have hlt := h'.1 y (List.mem_of_getElem? hy)
    have := cC_anti (key z) (key y)
    unfold setK
    rw [he, if_neg (by omega), if_neg (by omega), setK_idx h'.2 hy he]; rfl
/-- All but those of whom nothing is left. -/
theorem units_filter (S : SL) : unitsS (S.filter fun x => !x.2.isEmpty) = unitsS S ∧ thereS (S.filter fun x => !x.2.isEmpty) = thereS S := by
  induction S with
  | nil => exact ⟨rfl, rfl⟩
  | cons x r ih =>
    unfold unitsS thereS at ih ⊢
    by_cases h : x.2.isEmpty
    · have hx : x.2 = [] := by simpa using h
      simp only [List.filter_cons, h, Bool.not_true, Bool.false_eq_true, if_false, List.map_cons, List.sum_cons]
      rw [hx, show unitsV [] = 0 from rfl, show aliveN [] = 0 from rfl]
      omega
    · simp only [List.filter_cons, h, Bool.not_false, if_true, List.map_cons, List.sum_cons]
      omega
theorem diff_le (E : List Int) : ∀ (Z : List Rec), (∀ r ∈ Z, VOk r.vs) → unitsS ((toS Z).map fun x => (x.1, C.pruneM x.2 E)) + diffN E Z = unitsS (toS Z) ∧ thereS ((toS Z).map fun x => (x.1, C.pruneM x.2 E)) = thereS (toS Z)
  | [], _ => ⟨rfl, rfl⟩
  | r :: Z, h => by
    have ih := diff_le E Z fun x hx => h x (by simp [hx])
    have h1 := prune_units (h r (by simp)) E
    have h2 := prune_alive (h r (by simp)) E
    unfold unitsS thereS diffN toS at ih ⊢
    simp only [List.map_cons, List.sum_cons]
    omega
theorem prune_sum (E : List Int) {Z : List Rec} (h : ∀ r ∈ Z, VOk r.vs) : unitsS (pruneS (toS Z) E) + diffN E Z = unitsS (toS Z) ∧ thereS (pruneS (toS Z) E) = thereS (toS Z) := by
  have h1 := units_filter ((toS Z).map fun x => (x.1, C.pruneM x.2 E))
  have h2 := diff_le E Z h
  unfold pruneS
  rw [h1.1, h1.2]; exact h2
section
variable {W : List Ver → Prop} {h h' : H} {n tn : Nat} {rs es : Sl} {T : Tb (Option Addr)} {Z : List Rec} {slots : Nat} {R : Nat → Prop} {u t : Int}
theorem not_sh {h : H} {m : Nat} {c : Array Value} {e : TypeId} (b : Blk h m c e) (he : ¬ ShE e) : ¬ ShTy h m := fun ⟨e', h1, c', h2⟩ => he (by
  have := b.symm.trans h2
  simp at this
  rw [this.2]; exact h1)
/-- A cell that is left out of the table. -/
theorem SZG.drop (z : SZG W h n tn rs es T Z slots R u t) {c : Cel} (hc : okC c = 0) {T' : Tb (Option Addr)} {rs' es' : Sl} (th : P.TH h' tn rs' es' T') (ok : TOk T') (stp : Stp h tn rs es h' rs' es') (hget : ∀ k, getM T' k = if kL k = kL (keyB c) then none else getM T k) (hrl : T'.row.length ≤ 4200000) (hR : ∀ b, h.size ≤ b → R b) :
    SZG W h' n tn rs' es' T' (Z.filter fun r => decide (cmpC r.c c ≠ 0)) slots R u t ∧ SOnly R h h' := by
  have hsub : (Z.filter fun r => decide (cmpC r.c c ≠ 0)).Sublist Z := List.filter_sublist
  have hmem : ∀ {r : Rec}, r ∈ (Z.filter fun r => decide (cmpC r.c c ≠ 0)) ↔ r ∈ Z ∧ cmpC r.c c ≠ 0 := fun {r} => by rw [List.mem_filter]; simp
  have hreg : ∀ b, FT tn rs' es' b → R b := fun b hb => by
    rcases stp.new b hb with e | e
    · rcases e with e | e | e
      · subst e; exact z.rt
      · exact z.rr b e
      · exact z.re b e
    · exact hR b e
  have hus : ∀ (Y : List Rec), unitsS (toS (Y.filter fun r => decide (cmpC r.c c ≠ 0))) ≤ unitsS (toS Y) := fun Y => by
    induction Y with
    | nil => exact Nat.le_refl _
    | cons x r ih =>
      unfold unitsS toS at ih ⊢
      rw [List.filter_cons]
      split
      · simp only [List.map_cons, List.sum_cons]; omega
      · simp only [List.map_cons, List.sum_cons]; omega
  refine ⟨{ sb := stp.only.block z.sb fun e => z.n_ft e rfl, th := th, ok := ok, ch := fun r hr => ?_, get := fun r hr => ?_, all := fun k v hk => ?_, srt := z.srt.sublist hsub, pd := z.pd.sublist hsub, bd := z.bd.sublist hsub, wf := fun r hr => z.wf r (hmem.1 hr).1, us := Nat.le_trans (hus Z) z.us, sl := z.sl, rl := hrl, rn := z.rn, rt := z.rt, rr := fun b hb => hreg b (.inr (.inl hb)), re := fun b hb => hreg b (.inr (.inr hb)), rp := fun r hr => z.rp r (hmem.1 hr).1 }, ?_⟩
  · have hr' := (hmem.1 hr).1
    exact (z.ch r hr').only stp.only (fun e => (z.ch_ft hr' e).1 rfl) fun b hb e => (z.ch_ft hr' e).2 hb
  · obtain ⟨h1, h2⟩ := hmem.1 hr
    rw [hget, if_neg]
    · exact z.get r h1
    · intro he
      rw [kL_keyB, kL_keyB] at he
      exact h2 (cC_zero.2 (key_inj (z.wf r h1).1 hc he))
  · rw [hget] at hk
    split at hk
    · cases hk
    · rename_i hne
      obtain ⟨r, hr, e⟩ := z.all k v hk
      refine ⟨r, hmem.2 ⟨hr, fun h0 => hne ?_⟩, e⟩
      rw [e, cC_zero.1 h0, kL_keyB]
  · exact stp.only.mono fun b _ e => by
      obtain ⟨ty, q1, q2⟩ := ft_ty z.th e
      refine ⟨?_, ty, ?_, q1⟩
      · rcases e with e | e | e
        · subst e; exact z.rt
        · exact z.rr b e
        · exact z.re b e
      · rcases q2 with rfl | rfl
        · exact .inr (.inl rfl)
        · exact .inr (.inr (.inl rfl))
end
def outZ (Cs : List Cel) (Z : List Rec) : List Rec := Z.filter fun r : Rec => decide (∀ c ∈ Cs, cmpC r.c c ≠ 0)
theorem out_nil (Z : List Rec) : outZ [] Z = Z := by
  unfold outZ; rw [List.filter_eq_self]; intro r _; simp
theorem out_cons (c : Cel) (Cs : List Cel) (Z : List Rec) : outZ (c :: Cs) Z = outZ Cs (Z.filter fun r : Rec => decide (cmpC r.c c ≠ 0)) := by
  unfold outZ
  rw [List.filter_filter]
  congr 1
  funext r
  simp
  rw [Bool.and_comm]
/-- The keys of what is left out, one behind the other. -/
theorem drop_loop {W : List Ver → Prop} {n tn : Nat} {slots : Nat} {R : Nat → Prop} {u t : Int} {ds : List Nat} {n4 : Nat} {o : Sl} {Cs : List Cel} {Q : Int → H → Prop} {hb : H} (hCs : ∀ c ∈ Cs, okC c = 0) (hlen : Cs.length < 1073741824) (hR : ∀ b, hb.size ≤ b → R b) :
    ∀ (d i : Nat) (h : H) (rs es : Sl) (T : Tb (Option Addr)) (Z : List Rec), i ≤ Cs.length → Cs.length - i < d → SZG W h n tn rs es T Z slots R u t → Owns h o tn_string 1 ((Cs.map keyB).flatMap cT) → hb.size ≤ h.size →
      (∀ h' rs' es' T', SZG W h' n tn rs' es' T' (outZ (Cs.drop i) Z) slots R u t → SOnly R h h' → F.shard_Shard_Prune.l1 Q 1 ds (some ⟨n, 0, none⟩) ⟨n4, 0, none⟩ o (Cs.length : Int) (Cs.length : Int) h') →
      F.shard_Shard_Prune.l1 Q d ds (some ⟨n, 0, none⟩) ⟨n4, 0, none⟩ o (Cs.length : Int) (i : Int) h := by
  intro d
  induction d with
  | zero => intro i h rs es T Z _ hd; omega
  | succ d ih =>
    intro i h rs es T Z hi hd z w hsz k
    by_cases hlt : i < Cs.length
    · unfold F.shard_Shard_Prune.l1
      refine ⟨fun _ => ?_, fun g => by have := of_decide_eq_false g; omega⟩
      obtain ⟨c, hc⟩ : ∃ c, Cs[i]? = some c := ⟨_, List.getElem?_eq_getElem hlt⟩
      have hcm := List.mem_of_getElem? hc
      have hk : (Cs.map keyB)[i]? = some (keyB c) := by rw [List.getElem?_map, hc]; rfl
      obtain ⟨p, p1, p2, p3⟩ := rd_at cT_len (by omega) w.reads hk
      have hl := own_len cT_len (by omega) w
      rw [List.length_map] at hl
      refine idxR_of (i := i) p1 (by omega) rfl ((ldS_iff (n := keyB c) p3.one).2 ?_)
      simp only [nn_some, add_lit, Nat.zero_add, Nat.add_zero]
      rw [ldP_iff z.cs3]
      obtain ⟨T', t1, t2, t3, t4, t5, t6, t7⟩ := drop_ok (z := P.nilA) z.ok (keyB c)
      refine P.Drop_spec z.th z.ok (key_small (hCs c hcm)) t1 fun h2 es2 th2 stp => ?_
      have hz := z.drop (hCs c hcm) th2 t2 stp t4 (by have := z.rl; omega) fun b hb' => hR b (by omega)
      rw [w64s (by omega)]
      have hw : Owns h2 o tn_string 1 ((Cs.map keyB).flatMap cT) := hz.2.owns w (by unfold ShE; decide)
      refine ih (i + 1) h2 rs es2 T' _ (by omega) (by omega) hz.1 hw (by have := hz.2.size; omega) fun h' rs' es' T'' z' so' => ?_
      refine k h' rs' es' T'' ?_ (hz.2.trans so')
      have he : outZ (Cs.drop i) Z = outZ (Cs.drop (i + 1)) (Z.filter fun r : Rec => decide (cmpC r.c c ≠ 0)) := by
        obtain ⟨q1, q2⟩ := List.getElem?_eq_some_iff.1 hc
        rw [List.drop_eq_getElem_cons q1, q2, out_cons]
      rw [he]; exact z'
    · have hi' : i = Cs.length := by omega
      subst hi'
      have hz : outZ (Cs.drop Cs.length) Z = Z := by rw [List.drop_length, out_nil]
      have := k h rs es T (by rw [hz]; exact z) (.refl _)
      unfold F.shard_Shard_Prune.l1 at this ⊢
      exact ⟨fun g => by have := of_decide_eq_true g; omega, fun g => this.2 g⟩
end Go.Proofs.YtoccbnhahaoeiaaGreat.V.S
namespace Go.Proofs.YtoccbnhahaoeiaaGreat.V.S
open Go Go.Proofs.YtoccbnhahaoeiaaGreat.V
set_option linter.unusedVariables false
set_option linter.unusedSimpArgs false
set_option maxRecDepth 20000
section
variable {W W' : List Ver → Prop} {h h' : H} {n tn : Nat} {rs es : Sl} {T : Tb (Option Addr)} {Z : List Rec} {slots : Nat} {R R' : Nat → Prop} {u t : Int}
theorem SZG.turn (z : SZG W h n tn rs es T Z slots R u t) (hw : ∀ r ∈ Z, W r.vs → W' r.vs) (hr : ∀ b, b < h.size → R b → R' b) : SZG W' h n tn rs es T Z slots R' u t := by
  obtain ⟨l1, l2, l3⟩ := z.f_lt
  exact { z with wf := fun r hr => ⟨(z.wf r hr).1, hw r hr (z.wf r hr).2⟩, rn := hr _ l1 z.rn, rt := hr _ (l2 _ (.inl rfl)) z.rt, rr := fun b hb => hr _ (l2 _ (.inr (.inl hb))) (z.rr b hb), re := fun b hb => hr _ (l2 _ (.inr (.inr hb))) (z.re b hb), rp := fun r hm => ⟨hr _ (l3 r hm).1 (z.rp r hm).1, fun x hx => hr _ ((l3 r hm).2 x hx) ((z.rp r hm).2 x hx)⟩ }
end
abbrev WP (vs : List Ver) : Prop := vs = [] ∨ VOk vs
def ToP (E : List Int) (Z Zi : List Rec) (i : Nat) : Prop := Zi.length = Z.length ∧ ∀ (j : Nat) (r : Rec), Z[j]? = some r → ∃ B, Zi[j]? = some ⟨r.c, if j < i then C.pruneM r.vs E else r.vs, r.p, B⟩
structure PI (h hL h' : H) (n n2 n4 n7 ka ma b tn : Nat) (rs es r : Sl) (T : Tb (Option Addr)) (L : List (ByteArray × Option Addr)) (held : Sl) (E : List Int) (Z : List Rec) (slots : Nat) (R : Nat → Prop) (u t : Int) (i : Nat) : Prop where
  so : SOnly R h h'
  b2 : Blk h' n2 #[held.enc] tn_Slint
  b4 : Blk h' n4 #[.int .i64 (diffN E (Z.take i) : Int)] tn_int
  b7 : ∃ o, Blk h' n7 #[o.enc] tn_Slstring ∧ Owns h' o tn_string 1 ((emptyK E (Z.take i)).flatMap cT) ∧ ∀ x, o.blk = some x → hL.size + 2 ≤ x
  sq : P.SeqH h' ka ma b r L
  dfr : h'[hL.size]? = some (.deferred (some []))
  sz : hL.size + 1 ≤ h'.size
  z : ∃ Zi, SZG WP h' n tn rs es T Zi slots (fun b => R b ∧ b ≠ hL.size + 1) u t ∧ ToP E Z Zi i
  lt : n2 < hL.size ∧ n4 < hL.size ∧ n7 < hL.size ∧ h.size ≤ n2 ∧ h.size ≤ n4 ∧ h.size ≤ n7 ∧ n2 ≠ n4 ∧ n2 ≠ n7 ∧ n4 ≠ n7 ∧ ∀ m, SQF ka ma b r m → m < hL.size ∧ m ≠ n4 ∧ m ≠ n7 ∧ h.size ≤ m
theorem int_ty : ¬ ShE tn_int := by unfold ShE; decide
theorem str_ty : ¬ ShE tn_string := by unfold ShE; decide
theorem slstr_ty : ¬ ShE tn_Slstring := by unfold ShE; decide
theorem units_take (Z : List Rec) (i : Nat) : unitsS (toS (Z.take i)) ≤ unitsS (toS Z) := by
  have : toS Z = toS (Z.take i) ++ toS (Z.drop i) := by unfold toS; rw [← List.map_append, List.take_append_drop]
  rw [this]
  unfold unitsS
  rw [List.map_append, List.sum_append]; omega
theorem Prune_spec {h : H} {n : Nat} {S : SL} {slots : Nat} {R : Nat → Prop} {held : Sl} {E : List Int} {Q : Int → H → Prop} (s : SH h n S slots R) (rd : Reads h held 1 (E.flatMap cI)) (hE : E.length < 1073741824)
    (hlt : E ≠ [] → ∀ b, held.blk = some b → b < h.size ∧ ¬ (R b ∧ ShTy h b)) (hR : ∀ b, h.size ≤ b → R b)
    (k : ∀ h', SH h' n (pruneS S E) slots R → SOnly R h h' → Q ((unitsS S : Int) - unitsS (pruneS S E)) h') : F.shard_Shard_Prune (some ⟨n, 0, none⟩) held h Q := by
  obtain ⟨tn, rs, es, T, Z, hZS, z⟩ := s
  have hvok : ∀ r ∈ Z, VOk r.vs := fun r hr => (z.wf r hr).2
  have hsum := prune_sum E hvok
  rw [hZS] at hsum
  unfold F.shard_Shard_Prune
  refine new_of fun n2 h1 hn2 b2 e1 s1 => new_of fun n4 h3 hn4 b4 e3 s3 => ?_
  refine stH_of b4 (by simp) fun h5 b5 o5 s5 => new_of fun n7 h6 hn7 b7 e6 s6 => ?_
  have b4' : Blk h5 n4 #[.int .i64 0] tn_int := b5
  have e06 : Ext h h6 := ((e1.trans e3).step o5 fun m hm hb => by omega).trans e6
  have x2 : Blk h6 n2 #[held.enc] tn_Slint := e6.block (o5.block (e3.block b2 fun f => f) (by omega)) fun f => f
  have x4 : Blk h6 n4 #[.int .i64 0] tn_int := e6.block b4' fun f => f
  have z6 := z.ext e06
  simp only [nn_some, add_lit, Nat.zero_add, Nat.add_zero]
  rw [ldP_iff z6.cs3]
  have hcnt := z.count
  have hzl := z.len
  have hus := z.us
  have hsl := z.sl
  obtain ⟨f1, f2, f3⟩ := z.f_lt
  refine P.All_spec z6.th z6.ok (by omega) fun hL ka ma b r sq eL hmine _ => ?_
  rw [all_eq z6] at sq
  have hLs := eL.size
  have e06s := e06.size
  have e0L := e06.trans eL
  -- the record's place
  have keepZ : ∀ {a c : H} {Zi : List Rec} {P : Nat → Prop}, SZG WP a n tn rs es T Zi slots (fun b => R b ∧ b ≠ hL.size + 1) (unitsS (toS Z) : Int) (thereS (toS Z) : Int) → Only P a c → (∀ b, P b → b = hL.size + 1 ∨ ¬ ShTy a b) → SZG WP c n tn rs es T Zi slots (fun b => R b ∧ b ≠ hL.size + 1) (unitsS (toS Z) : Int) (thereS (toS Z) : Int) := fun hz o hp => hz.keep o fun b hb ht hP => by
    rcases hp b hP with e | e
    · exact hb.2 e
    · exact e ht
  refine P.range_seq (I := fun i h' => PI h hL h' n n2 n4 n7 ka ma b tn rs es r T (keysZ Z) held E Z slots R (unitsS (toS Z) : Int) (thereS (toS Z) : Int) i) (E := fun j h' => False)
    (fun i h' h'' v o => ?_) (fun j h' h'' v o => v) (fun i h' v => v.sq) ?_ ?_ (fun h' v => ?_) (fun j h' v => v.elim)
  · obtain ⟨l2, l4, l7, g2, g4, g7, d24, d27, d47, lq⟩ := v.lt
    obtain ⟨ou, q1, q2, q3⟩ := v.b7
    obtain ⟨Zi, zi, tp⟩ := v.z
    exact ⟨Only.trans v.so o fun m hm e => by omega, o.block v.b2 (by omega), o.block v.b4 (by omega), ⟨ou, o.block q1 (by omega), q2.only o fun m hm e => by have := q3 m hm; omega, q3⟩, v.sq.only o fun m hm e => by have := (lq m hm).1; omega,
      o.block v.dfr (by omega), by have := o.size; have := v.sz; omega, ⟨Zi, keepZ zi o fun b e => .inl e, tp⟩, v.lt⟩
  · have ep0 : Ext hL (hL.push (.deferred (some []))) := .push _ _
    have eH := eL.trans ep0
    refine ⟨SOnly.of (e06.trans eH), eH.block x2 fun f => f, eH.block x4 fun f => f, ⟨_, eH.block b7 fun f => f, by simpa [emptyK] using Owns.nil _ tn_string 1, fun x hx => by simp [Sl.blk] at hx⟩, sq.only ep0 fun m hm f => f, by simp, by simp, ⟨Z, ?_, rfl, fun j r hj => ⟨r.B, ?_⟩⟩, ?_⟩
    · exact (z.turn (fun r hr hw => .inr hw) fun b hb hr => ⟨hr, by omega⟩).ext (e06.trans eH)
    · rw [if_neg (Nat.not_lt_zero j)]; exact hj
    · exact ⟨by omega, by omega, by omega, by omega, by omega, by omega, by omega, by omega, by omega, fun m hm => ⟨sq.lt m hm, by have := hmine m hm; omega, by have := hmine m hm; omega, by have := hmine m hm; omega⟩⟩
  · intro X i x h5 K J hX v hx hxi kK kJ
    unfold keysZ at hxi
    rw [List.getElem?_map] at hxi
    obtain ⟨q, hq, rfl⟩ : ∃ q, Z[i]? = some q ∧ x = (keyB q.c, some ⟨q.p, 0, none⟩) := by
      cases hy : Z[i]? with
      | none => rw [hy] at hxi; cases hxi
      | some q => rw [hy] at hxi; cases hxi; exact ⟨q, rfl, rfl⟩
    have hqz : q ∈ Z := List.mem_of_getElem? hq
    have lts := v.lt
    obtain ⟨l2, l4, l7, g2, g4, g7, d24, d27, d47, lq⟩ := v.lt
    obtain ⟨o, q1, q2, q3⟩ := v.b7
    obtain ⟨Zi, zi, tl, tp⟩ := v.z
    obtain ⟨B, hB⟩ := tp i q hq
    rw [if_neg (Nat.lt_irrefl i)] at hB
    have hBm := List.mem_of_getElem? hB
    have hqp := (f3 q hqz).1
    have hh5 : hL.size + 1 < h5.size := (Array.getElem?_eq_some_iff.1 hx).1
    have c4 : cellH h5 ⟨n4, 0, none⟩ = some (.int .i64 (diffN E (Z.take i) : Int)) := Blk.cell (i := 0) v.b4 rfl
    refine ldI_of c4 (ldL_of (Blk.cell (i := 0) v.b2 rfl) ?_)
    have rd5 : Reads h5 held 1 (E.flatMap cI) := rd.keep v.so fun hne bb hb hs => (hlt hne bb hb).2 hs
    have hv := hvok q hqz
    have so5 := v.so.size
    have hvl := z.vlen hqz
    have chq : C.Ch h5 q.p q.vs B := zi.ch ⟨q.c, q.vs, q.p, B⟩ hBm
    refine C.Prune_spec chq hv.rise (by omega) hE rd5 (fun hne bb hb => by have := (hlt hne bb hb).1; omega) fun h6 B' c6 o6 kin6 => ?_
    have c46 : cellH h6 ⟨n4, 0, none⟩ = some (.int .i64 (diffN E (Z.take i) : Int)) := o6.cell c4 (by simp only; omega)
    refine ⟨c46, ?_⟩
    have hpu := prune_units hv E
    have hple := C.prune_le q.vs E
    have hsn := diff_snoc E hq
    have hdle := (diff_le E (Z.take (i + 1)) fun r hr => hvok r (List.mem_of_mem_take hr)).1
    have hut := units_take Z (i + 1)
    have hw : IntKind.wrap .i64 ((diffN E (Z.take i) : Int) + ((q.vs.length : Int) - ((C.pruneM q.vs E).length : Int))) = (diffN E (Z.take (i + 1)) : Int) := by rw [w64 (by omega) (by omega)]; omega
    rw [hw]
    have hsetu : unitsS (toS (setK Rec.c Zi ⟨q.c, C.pruneM q.vs E, q.p, B'⟩)) ≤ slots := by
      rw [toS_set]
      show unitsS (setS (toS Zi) q.c (C.pruneM q.vs E)) ≤ slots
      have hs : SortS (toS Zi) := by unfold SortS SortK; rw [List.pairwise_map]; exact zi.srt
      have h1 := set_units hs q.c (C.pruneM q.vs E)
      have h2 : getS (toS Zi) q.c = some q.vs := by
        rw [SZG.getS zi q.c]
        have := getK_mem zi.srt hBm
        simp only at this
        rw [this]; rfl
      rw [h2] at h1
      simp only [Option.getD_some] at h1
      have := zi.us
      omega
    have hwp : WP (C.pruneM q.vs E) := by
      by_cases he : C.pruneM q.vs E = []
      · exact .inl he
      · exact .inr (prune_ok hv E he)
    obtain ⟨z6q, so6⟩ := zi.lay (r := ⟨q.c, q.vs, q.p, B⟩) hBm c6 (o6.mono fun _ _ e => .inl e) kin6 hwp hsetu fun bb hb => ⟨hR bb (by omega), by omega⟩
    have z6' : SZG WP h6 n tn rs es T (setK Rec.c Zi ⟨q.c, C.pruneM q.vs E, q.p, B'⟩) slots (fun b => R b ∧ b ≠ hL.size + 1) (unitsS (toS Z) : Int) (thereS (toS Z) : Int) := z6q
    rw [setK_idx (x := ⟨q.c, C.pruneM q.vs E, q.p, B'⟩) zi.srt hB rfl] at z6'
    have tp6 : ToP E Z (Zi.set i ⟨q.c, C.pruneM q.vs E, q.p, B'⟩) (i + 1) := ⟨by rw [List.length_set]; exact tl, fun j r hj => by
      by_cases hji : j = i
      · subst hji
        rw [hq] at hj; cases hj
        exact ⟨B', by rw [List.getElem?_set_self (by rw [tl]; exact (List.getElem?_eq_some_iff.1 hq).1), if_pos (by omega)]⟩
      · obtain ⟨B2, h2⟩ := tp j r hj
        refine ⟨B2, ?_⟩
        rw [List.getElem?_set_ne (fun e => hji e.symm), h2]
        by_cases hlt' : j < i
        · rw [if_pos hlt', if_pos (by omega)]
        · rw [if_neg hlt', if_neg (by omega)]⟩
    have b46 : Blk h6 n4 #[.int .i64 (diffN E (Z.take i) : Int)] tn_int := o6.block v.b4 (by omega)
    refine stH_of b46 (by simp) fun h7 b47 o7 s7 => ?_
    have z7 := keepZ z6' o7 fun bb e => .inr (by subst e; exact not_sh b46 int_ty)
    have no7 : ∀ m, m ≠ q.p → m ≠ n4 → ∀ y, h5[m]? = some y → h7[m]? = some y := fun m h1 h2 y hy => o7.block (o6.block hy h1) h2
    have so7 : SOnly R h h7 := by
      have a1 : SOnly R h5 h6 := so6.mono fun m hm e => ⟨e.1.1, e.2⟩
      exact Only.trans (v.so.trans a1) o7 fun m hm e => by omega
    have o57 : Only (fun m => m = q.p ∨ m = n4) h5 h7 := (o6.mono fun _ _ e => .inl e).trans o7 fun _ _ e => .inr e
    have q2' : Owns h7 o tn_string 1 ((emptyK E (Z.take i)).flatMap cT) := q2.only o57 fun m hm e => by have := q3 m hm; omega
    have sq7 : P.SeqH h7 ka ma b r (keysZ Z) := v.sq.only o57 fun m hm e => by
      have := lq m hm
      rcases e with e | e <;> omega
    have x7 : h7[hL.size + 1]? = some X := no7 _ (by omega) (by omega) _ hx
    have d7 : h7[hL.size]? = some (.deferred (some [])) := no7 _ (by omega) (by omega) _ v.dfr
    have x72 : Blk h7 n2 #[held.enc] tn_Slint := no7 _ (by omega) (by omega) _ v.b2
    have x77 : Blk h7 n7 #[o.enc] tn_Slstring := no7 _ (by omega) (by omega) _ q1
    have sz7 : h5.size ≤ h7.size := o57.size
    have hmem7 : (⟨q.c, C.pruneM q.vs E, q.p, B'⟩ : Rec) ∈ Zi.set i ⟨q.c, C.pruneM q.vs E, q.p, B'⟩ := List.mem_of_getElem? (List.getElem?_set_self (by rw [tl]; exact (List.getElem?_eq_some_iff.1 hq).1))
    have ch7 : C.Ch h7 q.p (C.pruneM q.vs E) B' := z7.ch ⟨q.c, C.pruneM q.vs E, q.p, B'⟩ hmem7
    refine C.Len_spec ch7 ⟨fun g => ?_, fun g => ?_⟩
    · have h0 : ((C.pruneM q.vs E).length : Int) = 0 := by simpa using g
      have hnil : C.pruneM q.vs E = [] := List.eq_nil_of_length_eq_zero (by omega)
      refine ldL_of (Blk.cell (i := 0) x77 rfl) (newL_of fun n14 h14 hn14 b14 e14 s14 => ?_)
      have hel : (emptyK E (Z.take i)).length ≤ 1048576 := by
        unfold emptyK
        have := List.length_filter_le (fun r : Rec => (C.pruneM r.vs E).isEmpty) (Z.take i)
        rw [List.length_map]
        rw [List.length_take] at this
        omega
      refine app_list (L := emptyK E (Z.take i)) (M := [keyB q.c]) cT_len (by omega) el_Slstring (q2'.ext e14) (blk_reads b14 rfl) (fun x => one1 rfl) (by simp only [List.length_singleton]; omega) fun r15 h15 w15 o15 n15 => ?_
      have x14 : Blk h14 n7 #[o.enc] tn_Slstring := e14.block x77 fun f => f
      have hob : o.blk ≠ some n7 := fun e => by have := q3 _ e; omega
      have x15 : Blk h15 n7 #[o.enc] tn_Slstring := o15.block x14 hob
      refine stH_of x15 (by simp) fun h16 b16 o16 s16 => ?_
      have r15n : ∀ y, r15.blk = some y → hL.size + 2 ≤ y := fun y hy => by
        rcases n15 with n15 | ⟨y', n15, n16⟩
        · exact q3 y (by rw [← n15]; exact hy)
        · rw [n15] at hy; cases hy
          have := e14.size; omega
      have o14 : Only (fun m => o.blk = some m ∨ m = n7) h14 h16 := (o15.mono fun _ _ e => .inl e).trans o16 fun _ _ e => .inr e
      have o716 : Only (fun m => o.blk = some m ∨ m = n7) h7 h16 := (e14.only (S := fun m => o.blk = some m ∨ m = n7)).trans o14 fun _ _ e => e
      have no : ∀ m, m ≤ hL.size + 1 → m ≠ n7 → ¬ (o.blk = some m ∨ m = n7) := fun m hm hne e => by
        rcases e with e | e
        · have := q3 m e; omega
        · exact hne e
      have so16 : SOnly R h h16 := Only.trans so7 o716 fun m hm e => by
        rcases e with e | e
        · have := q3 m e; omega
        · omega
      refine kK h16 ⟨so16, o716.block x72 (no _ (by omega) d27), o716.block b47 (no _ (by omega) d47), ⟨r15, b16, ?_, r15n⟩, sq7.only o716 fun m hm => no m (by have := lq m hm; omega) (lq m hm).2.2.1, o716.block d7 (no _ (by omega) (by omega)), by have := o716.size; omega, ⟨_, keepZ z7 o716 fun bb e => .inr ?_, tp6⟩, lts⟩ (o716.block x7 (no _ (Nat.le_refl _) (by omega)))
      · rw [empty_snoc E hq, if_pos (by rw [hnil]; rfl)]
        exact w15.only o16 fun m hm e => by have := r15n m hm; omega
      · rcases e with e | e
        · obtain ⟨c, hc⟩ := q2'.typ e
          exact not_sh hc str_ty
        · subst e; exact not_sh x77 slstr_ty
    · have hne : (C.pruneM q.vs E).isEmpty = false := by
        cases hp : C.pruneM q.vs E with
        | nil => rw [hp] at g; simp at g
        | cons a b => rfl
      refine kK h7 ⟨so7, x72, b47, ⟨o, x77, ?_, q3⟩, sq7, d7, by omega, ⟨_, z7, tp6⟩, lts⟩ x7
      rw [empty_snoc E hq, hne]
      simpa using q2'
  · obtain ⟨l2, l4, l7, g2, g4, g7, d24, d27, d47, lq⟩ := v.lt
    obtain ⟨o, q1, q2, q3⟩ := v.b7
    obtain ⟨Zn, zn, tl, tp⟩ := v.z
    rw [keysZ_len, List.take_length] at q2
    have b4 := v.b4
    rw [keysZ_len, List.take_length] at b4
    rw [keysZ_len] at tp
    have hek : emptyK E Z = ((Z.filter fun r => (C.pruneM r.vs E).isEmpty).map fun r => r.c).map keyB := by unfold emptyK; rw [List.map_map]; rfl
    rw [hek] at q2
    have hlo := own_len cT_len (by omega) q2
    rw [List.length_map] at hlo
    have so5 := v.so.size
    refine ldL_of (Blk.cell (i := 0) q1 rfl) ⟨((Z.filter fun r : Rec => (C.pruneM r.vs E).isEmpty).map fun r => r.c).length + 1, ?_⟩
    rw [hlo]
    have hfl := List.length_filter_le (fun r : Rec => (C.pruneM r.vs E).isEmpty) Z
    have zR := zn.turn (W' := WP) (R' := R) (fun r hr hw => hw) fun b hb hr => hr.1
    refine drop_loop (hb := h') (fun c hc => ?_) (by rw [List.length_map]; omega) (fun bb hb => hR bb (by omega)) _ 0 h' rs es T Zn (by omega) (by omega) zR q2 (Nat.le_refl _) fun h2 rs2 es2 T2 z2 so2 => ?_
    · obtain ⟨r', hr', rfl⟩ := List.mem_map.1 hc
      exact (z.wf r' (List.mem_filter.1 hr').1).1
    · rw [List.drop_zero] at z2
      unfold F.shard_Shard_Prune.l1
      refine ⟨fun g => by have := of_decide_eq_true g; omega, fun _ => ?_⟩
      simp only [nn_some, add_lit, Nat.zero_add, Nat.add_zero]
      have b42 : Blk h2 n4 #[.int .i64 (diffN E Z : Int)] tn_int := so2.block b4 fun hs => not_sh b4 int_ty hs.2
      rw [ldI_iff z2.cs0, ldI_iff (Blk.cell (i := 0) b42 rfl)]
      rw [hZS] at z2 ⊢
      rw [hZS] at hus
      rw [w64 (by omega) (by omega)]
      refine z2.st0 fun h3 z3 so3 => ?_
      have b43 : Blk h3 n4 #[.int .i64 (diffN E Z : Int)] tn_int := so3.block b42 fun hs => not_sh b42 int_ty hs.2
      rw [ldI_iff (Blk.cell (i := 0) b43 rfl)]
      have nd : ∀ {hh : H}, hh[hL.size]? = some (.deferred (some [])) → ¬ ShTy hh hL.size := fun hd ⟨e, _, c, h2⟩ => by
        have := hd.symm.trans h2
        simp at this
      have d2 := so2.block v.dfr fun hs => nd v.dfr hs.2
      have d3 := so3.block d2 fun hs => nd d2 hs.2
      refine shut1 d3 fun h9 o9 => ?_
      have z9 : SZG WP h9 n tn rs2 es2 T2 _ slots R _ _ := z3.keep o9 fun b hb ht e => by subst e; exact nd d3 ht
      have so9 : SOnly R h h9 := Only.trans ((v.so.trans so2).trans so3) o9 fun m hm e => by have := e0L.size; omega
      -- what is left
      have hidx : ∀ x ∈ Zn, ∃ q ∈ Z, x.c = q.c ∧ x.vs = C.pruneM q.vs E := fun x hx => by
        obtain ⟨j, hj⟩ := List.mem_iff_getElem?.1 hx
        have hjl := (List.getElem?_eq_some_iff.1 hj).1
        obtain ⟨q, hq⟩ : ∃ q, Z[j]? = some q := ⟨_, List.getElem?_eq_getElem (by omega)⟩
        obtain ⟨B, hB⟩ := tp j q hq
        rw [hj, if_pos (by omega)] at hB
        cases hB
        exact ⟨q, List.mem_of_getElem? hq, rfl, rfl⟩
      have htoS : toS Zn = (toS Z).map fun x => (x.1, C.pruneM x.2 E) := by
        apply List.ext_getElem?
        intro j
        unfold toS
        rw [List.map_map, List.getElem?_map, List.getElem?_map]
        cases hq : Z[j]? with
        | none =>
          have : Zn[j]? = none := by rw [List.getElem?_eq_none_iff] at hq ⊢; omega
          rw [this]; rfl
        | some q =>
          obtain ⟨B, hB⟩ := tp j q hq
          rw [if_pos (by have := (List.getElem?_eq_some_iff.1 hq).1; omega)] at hB
          rw [hB]; rfl
      have hout : outZ ((Z.filter fun r : Rec => (C.pruneM r.vs E).isEmpty).map fun r => r.c) Zn = Zn.filter fun r : Rec => !r.vs.isEmpty := by
        unfold outZ
        refine List.filter_congr fun x hx => ?_
        obtain ⟨q, hq, h1, h2⟩ := hidx x hx
        rw [h2]
        cases he : (C.pruneM q.vs E).isEmpty with
        | true =>
          have : ¬ ∀ c ∈ (Z.filter fun r : Rec => (C.pruneM r.vs E).isEmpty).map (fun r => r.c), cmpC x.c c ≠ 0 := fun hall => hall q.c (List.mem_map.2 ⟨q, List.mem_filter.2 ⟨hq, he⟩, rfl⟩) (by rw [h1]; exact cC_self _)
          rw [decide_eq_false this]; rfl
        | false =>
          have : ∀ c ∈ (Z.filter fun r : Rec => (C.pruneM r.vs E).isEmpty).map (fun r => r.c), cmpC x.c c ≠ 0 := fun c hc h0 => by
            obtain ⟨q', hq', rfl⟩ := List.mem_map.1 hc
            obtain ⟨m1, m2⟩ := List.mem_filter.1 hq'
            have hcc := (cC_zero.1 h0).symm.trans h1
            have g1 := getK_mem z.srt m1
            have g2 := getK_mem z.srt hq
            rw [hcc, g2] at g1
            cases g1
            rw [he] at m2; cases m2
          rw [decide_eq_true this]; rfl
      rw [hout] at z9
      have hS' : toS (Zn.filter fun r : Rec => !r.vs.isEmpty) = pruneS S E := by
        rw [← hZS]
        unfold pruneS
        rw [← htoS]
        unfold toS
        rw [List.filter_map]; rfl
      have zz : SZ h9 n tn rs2 es2 T2 _ slots R _ _ := z9.turn (W' := VOk) (R' := R) (fun x hx hw => by
        obtain ⟨m1, m2⟩ := List.mem_filter.1 hx
        obtain ⟨q, hq, h1, h2⟩ := hidx x m1
        rw [h2] at m2 ⊢
        exact prune_ok (hvok q hq) E fun e => by rw [e] at m2; cases m2) fun b hb hr => hr
      have hdiff : ((diffN E Z : Nat) : Int) = (unitsS S : Int) - unitsS (pruneS S E) := by omega
      rw [hdiff]
      refine k h9 ⟨tn, rs2, es2, T2, _, hS', ?_⟩ so9
      rw [hS', hsum.2]
      have : (unitsS S : Int) - (diffN E Z : Int) = unitsS (pruneS S E) := by omega
      rw [this] at zz
      exact zz
end Go.Proofs.YtoccbnhahaoeiaaGreat.V.S
namespace Go.Proofs.YtoccbnhahaoeiaaGreat.V.S
open Go Go.Proofs.YtoccbnhahaoeiaaGreat.V
set_option linter.unusedVariables false
set_option linter.unusedSimpArgs false
set_option maxRecDepth 20000
abbrev oneA (v : Int) : S_api_Agg := ⟨1, v, v, v⟩
theorem one_spec {h : H} {v : Int} {Q : S_api_Agg → H → Prop} (k : ∀ h', Ext h h' → Q (oneA v) h') : F.spatelaw7_one v h Q := by
  unfold F.spatelaw7_one
  refine new_of fun m h1 hm b1 e1 s1 => ?_
  have b1' : Blk h1 m zA.cells.toArray tn_api_Agg := b1
  exact C.st_agg b1' (d := oneA v) fun h2 b2 o2 s2 => ⟨_, b2.cells, k h2 (e1.step o2 fun x hx hb => by omega)⟩
theorem right_one (a b c : Int) : RightIs ⟨1, a, b, c⟩ (decide (b = a ∧ c = a)) := fun h Q k => by
  unfold F.agg_Right
  refine new_of fun m h1 hm b1 e1 s1 => ?_
  have c0 : cellH h1 ⟨m, 0, none⟩ = some (.int .i64 1) := Blk.cells b1 0 _ rfl
  have c1 : cellH h1 ⟨m, 1, none⟩ = some (.int .i64 a) := Blk.cells b1 1 _ rfl
  have c2 : cellH h1 ⟨m, 2, none⟩ = some (.int .i64 b) := Blk.cells b1 2 _ rfl
  have c3 : cellH h1 ⟨m, 3, none⟩ = some (.int .i64 c) := Blk.cells b1 3 _ rfl
  simp only [add_lit, Nat.zero_add, Nat.add_zero]
  rw [ldI_iff c0]
  refine ⟨fun g => by have := of_decide_eq_true g; omega, fun _ => ?_⟩
  rw [ldI_iff c0]
  refine ⟨fun _ => ?_, fun g => by simp at g⟩
  rw [ldI_iff c2, ldI_iff c1]
  have k := k h1 e1
  refine ⟨fun g => ?_, fun g => ?_⟩
  · have g : b = a := by simpa using g
    rw [ldI_iff c3, ldI_iff c1]
    have : decide (b = a ∧ c = a) = (c == a) := by
      by_cases h : c = a <;> simp [g, h]
    rw [this] at k; exact k
  · have g : ¬ b = a := by simpa using g
    have : decide (b = a ∧ c = a) = false := by simp [g]
    rw [this] at k; exact k
theorem right_one' (v : Int) : RightIs (oneA v) true := by
  have := right_one v v v
  simpa using this
theorem agg_eq {a b : S_api_Agg} : ((a.Count == b.Count) && ((a.Sum == b.Sum) && ((a.Min == b.Min) && ((a.Max == b.Max) && true)))) = true ↔ a = b := by
  obtain ⟨a1, a2, a3, a4⟩ := a
  obtain ⟨b1, b2, b3, b4⟩ := b
  simp [and_assoc]
abbrev cA : Cel := ⟨0, ⟨#[97]⟩, 0⟩
theorem head_spec {h : H} {Q : Bool → H → Prop} (k : ∀ h', Ext h h' → Q true h') : F.spatelaw7_head h Q := by
  unfold F.spatelaw7_head
  refine New_spec (R := fun b => h.size ≤ b) (fun g => by omega) (fun b hb => hb) fun _ _ h1 n sh e1 hn => ⟨fun g => by simp at g, fun _ => ?_⟩
  unfold F.spatelaw7_head.j2
  refine ⟨fun g => by simp at g, fun _ => ?_⟩
  unfold F.spatelaw7_head.j1
  refine new_of fun m h4 hm b4 e4 s4 => ?_
  have b4' : Blk h4 m zeroC.cells.toArray tn_api_Cell := b4
  refine st_cel b4' (d := cA) fun h6 b6 o6 s6 => ⟨cA, b6.cells, ?_⟩
  have e16 : Ext h1 h6 := e4.step o6 fun x hx hb => by omega
  refine one_spec fun h9 e9 => ⟨(Blk.cells b6).ext e9, ?_⟩
  have sh9 := (sh.ext e16).ext e9
  have e09 : Ext h h9 := (e1.trans e16).trans e9
  have hR : ∀ {hh : H}, Ext h hh → ∀ b, hh.size ≤ b → h.size ≤ b := fun e b hb => by have := e.size; omega
  have b9 : Blk h9 m cA.cells.toArray tn_api_Cell := e9.block b6 fun f => f
  have mty : ¬ ShE tn_api_Cell := by unfold ShE; decide
  have keep : ∀ {a b : H}, SOnly (fun x => h.size ≤ x) a b → Blk a m cA.cells.toArray tn_api_Cell → Blk b m cA.cells.toArray tn_api_Cell := fun o hb => o.block hb fun ⟨_, e, h1, c, h2⟩ => mty (by
    have := hb.symm.trans h2
    simp at this
    rw [this.2]; exact h1)
  refine Put_spec (x := ⟨cA, oneA 5⟩) sh9 (right_one' 5) (hR e09) (fun g => absurd (by decide) g) fun _ h12 sh12 o12 => ?_
  have e012 : Ext h h12 := o12.base e09 fun b hb => hb
  have b12 := keep o12 b9
  refine ⟨cA, b12.cells, one_spec fun h16 e16' => ⟨(Blk.cells b12).ext e16', ?_⟩⟩
  have e016 := e012.trans e16'
  refine Put_spec (x := ⟨cA, oneA 6⟩) (sh12.ext e16') (right_one' 6) (hR e016) (fun g => absurd (by decide) g) fun _ h19 sh19 o19 => ?_
  have e019 : Ext h h19 := o19.base e016 fun b hb => hb
  have b19 := keep o19 (e16'.block b12 fun f => f)
  refine ⟨fun _ => ⟨fun _ => ?_, fun g => by simp at g⟩, fun g => by simp at g⟩
  simp only [nn_some, add_lit, Nat.zero_add, Nat.add_zero]
  refine Units_spec sh19 ⟨fun _ => ?_, fun g => absurd (show ((unitsS (putS (putS [] 1 cA (oneA 5)) 2 cA (oneA 6)) : Int) == 3) = true from by decide) (by rw [g]; decide)⟩
  refine Cells_spec sh19 ⟨fun _ => ?_, fun g => absurd (show ((thereS (putS (putS [] 1 cA (oneA 5)) 2 cA (oneA 6)) : Int) == 1) = true from by decide) (by rw [g]; decide)⟩
  refine Most_spec sh19 fun h33 e33 => ⟨fun _ => ?_, fun g => absurd (show ((mostS (putS (putS [] 1 cA (oneA 5)) 2 cA (oneA 6)) : Int) == 2) = true from by decide) (by rw [g]; decide)⟩
  refine ⟨cA, (Blk.cells b19).ext e33, Get_spec (sh19.ext e33) fun h38 e38 => one_spec fun h40 e40 => ?_⟩
  have e3340 := e38.trans e40
  refine ⟨fun _ => ?_, fun g => absurd (agg_eq.2 (show atS (putS (putS [] 1 cA (oneA 5)) 2 cA (oneA 6)) cA 0 = oneA 6 from rfl)) (by rw [g]; decide)⟩
  refine ⟨cA, (Blk.cells b19).ext (e33.trans e3340), At_spec (sh19.ext (e33.trans e3340)) fun h45 e45 => one_spec fun h47 e47 => ?_⟩
  have hat : atS (putS (putS [] 1 cA (oneA 5)) 2 cA (oneA 6)) cA 1 = oneA 5 := rfl
  rw [agg_eq.2 hat]
  exact k h47 ((e019.trans e33).trans (e3340.trans (e45.trans e47)))
end Go.Proofs.YtoccbnhahaoeiaaGreat.V.S
namespace Go.Proofs.YtoccbnhahaoeiaaGreat.V.S
open Go Go.Proofs.YtoccbnhahaoeiaaGreat.V
set_option linter.unusedVariables false
set_option linter.unusedSimpArgs false
set_option maxRecDepth 20000
/-- A number brought to 0 .. m - 1. -/
theorem key_some {t : ByteArray} (h : 1 ≤ t.size) : t.data.toList ≠ [] := fun e => by
  have := size_data (s := t)
  rw [e] at this
  simp only [List.length_nil] at this
  omega
def withinM (a m : Int) : Int := if Int.tmod a m < 0 then Int.tmod a m + m else Int.tmod a m
theorem within_range {a m : Int} (h : 0 < m) : 0 ≤ withinM a m ∧ withinM a m < m := by
  have h1 := Int.tmod_lt_of_pos a h
  have h2 : -m < Int.tmod a m := by
    have := Int.tmod_lt_of_pos (-a) h
    rw [Int.neg_tmod] at this
    omega
  unfold withinM
  split <;> omega
theorem within_spec {a m : Int} {h : H} {Q : Int → H → Prop} (h0 : 0 < m) (h1 : m < 4611686018427387904) (k : Q (withinM a m) h) : F.spatelaw7_within a m h Q := by
  have hr := Int.tmod_lt_of_pos a h0
  have h2 : -m < Int.tmod a m := by
    have := Int.tmod_lt_of_pos (-a) h0
    rw [Int.neg_tmod] at this
    omega
  unfold F.spatelaw7_within F.spatelaw7_within.j1
  unfold withinM at k
  refine ⟨by omega, fun g => ?_, fun g => ?_⟩
  · have g := of_decide_eq_true g
    rw [if_pos g] at k
    rw [w64 (by omega) (by omega)]; exact k
  · have g := of_decide_eq_false g
    rw [if_neg g] at k; exact k
def fewKey (k : ByteArray) : ByteArray := match k.data.toList with
  | [] => ⟨#[107]⟩
  | b :: _ => ⟨#[UInt8.ofNat (97 + b.toNat % 4)]⟩
def fewC (c : Cel) : Cel := ⟨withinM c.View 2, fewKey c.Key, Int.tmod c.Start 3⟩
theorem few_ok (c : Cel) : okC (fewC c) = 0 := by
  have h1 := within_range (a := c.View) (m := 2) (by omega)
  have h2 : (fewKey c.Key).size = 1 := by
    unfold fewKey
    split <;> rfl
  have h3 := Int.tmod_lt_of_pos c.Start (b := 3) (by omega)
  have h4 : -3 < Int.tmod c.Start 3 := by
    have := Int.tmod_lt_of_pos (-c.Start) (b := 3) (by omega)
    rw [Int.neg_tmod] at this
    omega
  unfold okC fewC
  simp only
  rw [if_neg (by omega), if_neg (by omega), if_neg (by omega)]
theorem few_spec {h : H} {c : Cel} {Q : S_api_Cell → H → Prop} (k : ∀ h', Ext h h' → Q (fewC c) h') : F.spatelaw7_few c h Q := by
  unfold F.spatelaw7_few
  refine new_of fun n h1 hn b1 e1 s1 => new_of fun n3 h3 hn3 b3 e3 s3 => ?_
  have b3' : Blk h3 n3 zeroC.cells.toArray tn_api_Cell := b3
  have c0 : ∀ {hh : H}, Ext h3 hh → cellH hh ⟨n, 0, none⟩ = some (.int .i64 c.View) := fun e => (e3.trans e).cell (Blk.cells b1 0 _ rfl) fun f => f
  have c1 : ∀ {hh : H}, Ext h3 hh → cellH hh ⟨n, 1, none⟩ = some (.string c.Key) := fun e => (e3.trans e).cell (Blk.cells b1 1 _ rfl) fun f => f
  have c2 : ∀ {hh : H}, Ext h3 hh → cellH hh ⟨n, 2, none⟩ = some (.int .i64 c.Start) := fun e => (e3.trans e).cell (Blk.cells b1 2 _ rfl) fun f => f
  have j1 : ∀ (key : ByteArray) (hh : H), Ext h3 hh → key = fewKey c.Key → F.spatelaw7_few.j1 Q ⟨n, 0, none⟩ ⟨n3, 0, none⟩ key hh := fun key hh e hk => by
    unfold F.spatelaw7_few.j1
    simp only [add_lit, Nat.zero_add, Nat.add_zero]
    refine ldI_of (c0 e) (ldI_of (c2 e) ⟨by omega, within_spec (by omega) (by omega) ⟨c2 e, ?_⟩⟩)
    have b3e : Blk hh n3 zeroC.cells.toArray tn_api_Cell := e.block b3' fun f => f
    refine st_cel b3e (d := ⟨withinM c.View 2, key, Int.tmod c.Start 3⟩) fun h5 b5 o5 s5 => ⟨_, b5.cells, ?_⟩
    rw [hk]
    exact k h5 (((e1.trans e3).trans e).step o5 fun x hx hb => by omega)
  simp only [add_lit, Nat.zero_add, Nat.add_zero]
  rw [ldS_iff (c1 (.refl _))]
  refine ⟨fun g => ldS_of (c1 (.refl _)) ?_, fun g => j1 _ h3 (.refl _) ?_⟩
  · have g := of_decide_eq_true g
    obtain ⟨b, r, hbr⟩ : ∃ b r, c.Key.data.toList = b :: r := by
      cases hl : c.Key.data.toList with
      | nil => exact absurd hl (key_some (by omega))
      | cons b r => exact ⟨b, r, rfl⟩
    refine idxS_of (i := 0) (b := b) (by rw [hbr]; rfl) rfl ⟨by omega, ?_⟩
    have hbt := b.toNat_lt
    have hb : IntKind.wrap .u8 (97 + Int.tmod ((b.toNat : Nat) : Int) 4) = (((UInt8.ofNat (97 + b.toNat % 4)).toNat : Nat) : Int) := by
      rw [wrap_u8, Int.tmod_eq_emod_of_nonneg (by omega)]
      simp
    rw [hb]
    refine newL_of fun n5 h5 hn5 b5 e5 s5 => ?_
    have rd : Reads h5 ⟨some ⟨n5, 0, none⟩, 1, 1⟩ 1 ([UInt8.ofNat (97 + b.toNat % 4)].flatMap cU) := blk_reads b5 rfl
    refine cvtT_of (l := [UInt8.ofNat (97 + b.toNat % 4)]) el_Sluint8.slice Tryz.underlying5 Tryz.underlying9 rd ?_
    exact j1 _ h5 e5 (by unfold fewKey; rw [hbr])
  · have g := of_decide_eq_false g
    unfold fewKey
    cases hl : c.Key.data.toList with
    | nil => rfl
    | cons b r => have e2 := size_data (s := c.Key); rw [hl] at e2; simp only [List.length_cons] at e2; omega
theorem tk_snoc {α : Type} {L : List α} {i : Nat} {x : α} (h : L[i]? = some x) : L.take (i + 1) = L.take i ++ [x] := by
  obtain ⟨h1, h2⟩ := List.getElem?_eq_some_iff.1 h
  rw [List.take_succ_eq_append_getElem h1, h2]
/-- A step, with the lists that it has. -/
structure St where
  x : S_spatelaw7_Step
  E : List Int
  C : List Cel
/-- The lists of a step are there to be read. -/
structure StOk (h : H) (y : St) : Prop where
  re : Reads h y.x.Held 1 (y.E.flatMap cI)
  be : y.E ≠ [] → ∀ b, y.x.Held.blk = some b → b < h.size
  oe : ∀ e ∈ y.E, -9223372036854775808 ≤ e ∧ e < 9223372036854775808
  rc : Reads h y.x.Cells 3 (y.C.flatMap S_api_Cell.cells)
  bc : y.C ≠ [] → ∀ b, y.x.Cells.blk = some b → b < h.size
  oc : ∀ c ∈ y.C, (-9223372036854775808 ≤ c.View ∧ c.View < 9223372036854775808) ∧ (-9223372036854775808 ≤ c.Start ∧ c.Start < 9223372036854775808) ∧ c.Key.size ≤ maxLen
  k64 : -9223372036854775808 ≤ y.x.Kind ∧ y.x.Kind < 9223372036854775808
  e64 : -9223372036854775808 ≤ y.x.Epoch ∧ y.x.Epoch < 9223372036854775808
  m64 : -9223372036854775808 ≤ y.x.Most ∧ y.x.Most < 9223372036854775808
  cel : (-9223372036854775808 ≤ y.x.Cell.View ∧ y.x.Cell.View < 9223372036854775808) ∧ (-9223372036854775808 ≤ y.x.Cell.Start ∧ y.x.Cell.Start < 9223372036854775808) ∧ y.x.Cell.Key.size ≤ maxLen
  agg : (-9223372036854775808 ≤ y.x.Agg.Count ∧ y.x.Agg.Count < 9223372036854775808) ∧ (-9223372036854775808 ≤ y.x.Agg.Sum ∧ y.x.Agg.Sum < 9223372036854775808) ∧ (-9223372036854775808 ≤ y.x.Agg.Min ∧ y.x.Agg.Min < 9223372036854775808) ∧ (-9223372036854775808 ≤ y.x.Agg.Max ∧ y.x.Agg.Max < 9223372036854775808)
  too : (-9223372036854775808 ≤ y.x.To.View ∧ y.x.To.View < 9223372036854775808) ∧ (-9223372036854775808 ≤ y.x.To.Start ∧ y.x.To.Start < 9223372036854775808) ∧ y.x.To.Key.size ≤ maxLen
def applyM (S : SL) (slots : Nat) (ep : Int) (y : St) : Int × SL :=
  if withinM y.x.Kind 4 = 0 then (killE S ep (fewC y.x.Cell), if killE S ep (fewC y.x.Cell) = 0 then killS S ep (fewC y.x.Cell) else S)
  else if withinM y.x.Kind 4 = 1 then (0, if y.E.length ≤ 20 then pruneS S y.E else S)
  else (putE S slots ep (fewC y.x.Cell) (oneA y.x.Agg.Sum) true, if putE S slots ep (fewC y.x.Cell) (oneA y.x.Agg.Sum) true = 0 then putS S ep (fewC y.x.Cell) (oneA y.x.Agg.Sum) else S)
theorem apply_spec {h : H} {n : Nat} {S : SL} {slots : Nat} {R : Nat → Prop} {ep : Int} {y : St} {Q : Int → H → Prop} (s : SH h n S slots R) (hR : ∀ b, h.size ≤ b → R b) (rd : Reads h y.x.Held 1 (y.E.flatMap cI)) (hb : y.E ≠ [] → ∀ b, y.x.Held.blk = some b → b < h.size ∧ ¬ R b)
    (k : ∀ h', SH h' n (applyM S slots ep y).2 slots R → SOnly R h h' → Q (applyM S slots ep y).1 h') : F.spatelaw7_apply (some ⟨n, 0, none⟩) ep y.x h Q := by
  unfold F.spatelaw7_apply
  refine new_of fun m h1 hm b1 e1 s1 => ?_
  have cs := Blk.cells b1
  have cc : Cells h1 ⟨m, 2, none⟩ y.x.Cell.cells := fun i v hv => by
    rw [add_lit]
    have hi : i < 3 := (List.getElem?_eq_some_iff.1 hv).1
    have := cs (2 + i) v (by
      match i, hi, hv with
      | 0, _, hv => exact hv
      | 1, _, hv => exact hv
      | 2, _, hv => exact hv)
    rwa [add_lit, Nat.zero_add] at this
  have k0 : cellH h1 ⟨m, 0, none⟩ = some (.int .i64 y.x.Kind) := cs 0 _ rfl
  have k6 : cellH h1 ⟨m, 6, none⟩ = some (.int .i64 y.x.Agg.Sum) := cs 6 _ rfl
  have k10 : cellH h1 ⟨m, 10, none⟩ = some y.x.Held.enc := cs 10 _ rfl
  simp only [add_lit, Nat.zero_add, Nat.add_zero]
  refine ⟨y.x.Cell, cc, few_spec fun h5 e5 => ?_⟩
  refine new_of fun m7 h7 hm7 b7 e7 s7 => ?_
  have b7' : Blk h7 m7 zeroC.cells.toArray tn_api_Cell := b7
  refine st_cel b7' (d := fewC y.x.Cell) fun h9 b9 o9 s9 => ?_
  have z5 := e5.size
  have e19 : Ext h1 h9 := (e5.trans e7).step o9 fun x hx hb => by omega
  have e09 := e1.trans e19
  refine ldI_of (e19.cell k0 fun f => f) (within_spec (by omega) (by omega) ?_)
  have sh := s.ext e09
  have hR9 : ∀ b, h9.size ≤ b → R b := fun b hb => hR b (by have := e09.size; omega)
  have so9 : SOnly R h h9 := SOnly.of e09
  have hwr := within_range (a := y.x.Kind) (m := 4) (by omega)
  unfold applyM at k
  refine ⟨fun g => ?_, fun g => ⟨fun g2 => ?_, fun g2 => ?_⟩⟩
  · have g : withinM y.x.Kind 4 = 0 := by simpa using g
    rw [if_pos g] at k
    refine ⟨_, b9.cells, Kill_spec sh hR9 (fun hne h' e' => ?_) fun h0 h' s' o' => ?_⟩
    · simp only [if_neg hne] at k
      exact k h' (sh.ext e') (so9.ext e')
    · rw [if_pos h0, h0] at k
      exact k h' s' (so9.trans o')
  · have g : withinM y.x.Kind 4 ≠ 0 := by simpa using g
    have g2 : withinM y.x.Kind 4 = 1 := by simpa using g2
    rw [if_neg g, if_pos g2] at k
    have kh := e19.cell k10 fun f => f
    have rd9 : Reads h9 y.x.Held 1 (y.E.flatMap cI) := rd.only e09 fun _ _ f => f
    have hl := rd_len cI_len (by omega) rd
    refine ldL_of kh ⟨fun g3 => ldL_of kh ?_, fun g3 => ?_⟩
    · have g3 := of_decide_eq_true g3
      rw [hl] at g3
      rw [if_pos (by omega)] at k
      exact Prune_spec sh rd9 (by omega) (fun hne b hbb => ⟨by have := (hb hne b hbb).1; have := e09.size; omega, fun hh => (hb hne b hbb).2 hh.1⟩) hR9 fun h' s' o' => k h' s' (so9.trans o')
    · have g3 := of_decide_eq_false g3
      rw [hl] at g3
      rw [if_neg (by omega)] at k
      exact k h9 sh so9
  · have g : withinM y.x.Kind 4 ≠ 0 := by simpa using g
    have g2 : withinM y.x.Kind 4 ≠ 1 := by simpa using g2
    rw [if_neg g, if_neg g2] at k
    refine ⟨_, b9.cells, ldI_of (e19.cell k6 fun f => f) (one_spec fun h31 e31 => ⟨(Blk.cells b9).ext e31, ?_⟩)⟩
    have sh31 := sh.ext e31
    refine Put_spec (x := ⟨fewC y.x.Cell, oneA y.x.Agg.Sum⟩) sh31 (right_one' _) (fun b hb => hR9 b (by have := e31.size; omega)) (fun hne h' e' => ?_) fun h0 h' s' o' => ?_
    · simp only [if_neg hne] at k
      exact k h' (sh31.ext e') (so9.ext (e31.trans e'))
    · rw [if_pos h0, h0] at k
      exact k h' s' ((so9.ext e31).trans o')
end Go.Proofs.YtoccbnhahaoeiaaGreat.V.S
namespace Go.Proofs.YtoccbnhahaoeiaaGreat.V.S
open Go Go.Proofs.YtoccbnhahaoeiaaGreat.V
set_option linter.unusedVariables false
set_option linter.unusedSimpArgs false
set_option maxRecDepth 20000
theorem cel_sh : ¬ ShE tn_api_Cell := by unfold ShE; decide
theorem SOnly.blk {R : Nat → Prop} {a b : H} {m : Nat} {cs : Array Value} {e : TypeId} (o : SOnly R a b) (hb : Blk a m cs e) (he : ¬ ShE e) : Blk b m cs e := o.block hb fun ⟨_, e', h1, c, h2⟩ => he (by
  have := hb.symm.trans h2
  simp at this
  rw [this.2]; exact h1)
end Go.Proofs.YtoccbnhahaoeiaaGreat.V.S
namespace Go.Proofs.YtoccbnhahaoeiaaGreat.V
open Go
set_option linter.unusedVariables false
set_option linter.unusedSimpArgs false
section
variable {T : Type} {P : Program} {enc : TypeId × Value → T} {w : World} {base : Nat} {spare : Nat → Bool} {held : Bool} {fuel : Nat}
theorem cells_of {a : Addr} {n : Nat} {cs : List Value} (h : w.cells? base a n = some cs) : cs.length = n ∧ ∀ j v, cs[j]? = some v → w.cell? (a.add j) = some v := by
  obtain ⟨h1, h2, h3⟩ := World.cells?_some h
  refine ⟨h2, fun j v hv => ?_⟩
  have hj : j < n := by rw [← h2]; exact (List.getElem?_eq_some_iff.1 hv).1
  rw [h3 j hj, hv]
/-- A slice that came in, each of whose things is asL G says. -/
theorem open_slice {t e : TypeId} {k : Nat} {v : Value} {x : DataW T × List MemPlace} (G : List Value → Prop) (ht : P.underlying t = some (.slice e)) (hk : P.cellsOf e = k) (hk0 : 0 < k) (h : DataW.trod enc P w base spare held fuel t [v] = some x)
    (hG : ∀ n cs y, DataW.trod enc P w base spare held n e cs = some y → cs.length = k → G cs) :
    ∃ s : Sl, v = s.enc ∧ s.len ≤ s.cap ∧ s.cap ≤ maxLen ∧ ∃ CS : List (List Value), CS.length = s.len ∧ (∀ c ∈ CS, c.length = k ∧ G c) ∧ Reads w.heap s k CS.flatten ∧ (CS ≠ [] → ∀ b, s.blk = some b → b < w.heap.size) := by
  rcases DataW.trod_slice ht h with ⟨h0, _⟩ | ⟨a, len, cap, elems, rest, n, _, h0, _, hb, hl, hm, hlen, hel, _, _⟩
  · simp at h0; subst h0
    exact ⟨⟨none, 0, 0⟩, rfl, Nat.le_refl _, Nat.zero_le _, [], rfl, (fun c hc => by cases hc), ⟨by simp, fun _ => ⟨rfl, rfl⟩, fun i v hv => by simp at hv⟩, fun h => absurd rfl h⟩
  · simp at h0; subst h0
    rw [hk] at hel
    have each : ∀ i, i < len → ∃ cs, w.cells? base (a.add (i * k)) k = some cs ∧ G cs := fun i hi => by
      have hx := hel i hi
      rw [List.getElem?_eq_getElem (by omega), Option.bind_eq_some_iff] at hx
      obtain ⟨cs, hc, ht'⟩ := hx
      exact ⟨cs, hc, hG _ _ _ ht' (cells_of hc).1⟩
    obtain ⟨CS, hCS, hall⟩ : ∃ CS : List (List Value), CS.length = len ∧ ∀ i c, CS[i]? = some c → w.cells? base (a.add (i * k)) k = some c ∧ G c := by
      clear hel h
      have : ∀ m, m ≤ len → ∃ CS : List (List Value), CS.length = m ∧ ∀ i c, CS[i]? = some c → w.cells? base (a.add (i * k)) k = some c ∧ G c := fun m => by
        induction m with
        | zero => intro _; exact ⟨[], rfl, fun i c hc => by simp at hc⟩
        | succ m ih =>
          intro hm2
          obtain ⟨CS, h1, h2⟩ := ih (by omega)
          obtain ⟨c, h3, h4⟩ := each m (by omega)
          refine ⟨CS ++ [c], by simp [h1], fun i d hd => ?_⟩
          by_cases hi : i < CS.length
          · rw [List.getElem?_append_left hi] at hd; exact h2 i d hd
          · rw [List.getElem?_append_right (by omega)] at hd
            have hi2 : i - CS.length = 0 := by
              have := (List.getElem?_eq_some_iff.1 hd).1
              simp at this; omega
            rw [hi2] at hd; simp at hd; subst hd
            have : i = m := by omega
            subst this; exact ⟨h3, h4⟩
      exact this len (Nat.le_refl _)
    have hlen' : ∀ c ∈ CS, c.length = k ∧ G c := fun c hc => by
      obtain ⟨i, hi⟩ := List.mem_iff_getElem?.1 hc
      exact ⟨(cells_of (hall i c hi).1).1, (hall i c hi).2⟩
    have hspot : 0 < len → a.spot = none ∧ a.block < w.heap.size := fun h0 => by
      obtain ⟨c, hc⟩ : ∃ c, CS[0]? = some c := ⟨_, List.getElem?_eq_getElem (by omega)⟩
      obtain ⟨h1, h2⟩ := cells_of (hall 0 c hc).1
      obtain ⟨v, hv⟩ : ∃ v, c[0]? = some v := ⟨_, List.getElem?_eq_getElem (by omega)⟩
      have hcell : cellH w.heap ((a.add (0 * k)).add 0) = some v := h2 0 v hv
      have e0 : ∀ p : Addr, p.add 0 = p := fun p => by unfold Addr.add; split <;> simp_all
      rw [Nat.zero_mul, e0, e0] at hcell
      unfold cellH at hcell
      split at hcell
      · rename_i hh
        refine ⟨?_, (Array.getElem?_eq_some_iff.1 hh).1⟩
        cases hs : a.spot with
        | none => rfl
        | some s => rw [hs] at hcell; simp at hcell
      · cases hcell
    refine ⟨⟨some a, len, cap⟩, rfl, hl, hm, CS, hCS, hlen', ⟨?_, (fun h => by cases h), fun i v hv => ?_⟩, fun hne b hb => ?_⟩
    · rw [← hCS]
      have : ∀ (L : List (List Value)), (∀ c ∈ L, c.length = k) → L.flatten.length = L.length * k := fun L => by
        induction L with
        | nil => intro _; simp
        | cons c r ih => intro hL; simp [hL c (by simp), ih fun c hc => hL c (List.mem_cons_of_mem _ hc), Nat.add_mul]; omega
      exact this CS fun c hc => (hlen' c hc).1
    · have : ∀ (L : List (List Value)) (m : Nat), (∀ c ∈ L, c.length = k) → (∀ i c, L[i]? = some c → ∀ j v, c[j]? = some v → w.cell? (a.add ((m + i) * k + j)) = some v) → ∀ i v, L.flatten[i]? = some v → w.cell? (a.add (m * k + i)) = some v := fun L => by
        induction L with
        | nil => intro m _ _ i v hv; simp at hv
        | cons c r ih =>
          intro m hL hc i v hv
          have hcl := hL c (by simp)
          rw [List.flatten_cons] at hv
          by_cases hi : i < c.length
          · rw [List.getElem?_append_left hi] at hv
            exact hc 0 c rfl i v hv
          · rw [List.getElem?_append_right (by omega)] at hv
            have := ih (m + 1) (fun c hc => hL c (List.mem_cons_of_mem _ hc)) (fun i d hd j v hj => by
              have := hc (i + 1) d (by simpa using hd) j v hj
              rwa [show m + (i + 1) = m + 1 + i from by omega] at this) _ v hv
            rwa [show (m + 1) * k + (i - c.length) = m * k + i from by rw [Nat.add_mul]; omega] at this
      have hlt : 0 < len := by
        rcases Nat.eq_zero_or_pos len with h0 | h0
        · have : CS = [] := List.eq_nil_of_length_eq_zero (by omega)
          subst this; simp at hv
        · exact h0
      obtain ⟨hsp, _⟩ := hspot hlt
      refine ⟨a, rfl, hsp, ?_⟩
      have := this CS 0 (fun c hc => (hlen' c hc).1) (fun i c hc j v hj => by
        have h1 := (cells_of (hall i c hc).1).2 j v hj
        obtain ⟨ab, ao, asp⟩ := a
        simp only at hsp; subst hsp
        rw [add_lit, add_lit] at h1
        rw [add_lit, Nat.zero_add, ← Nat.add_assoc]; exact h1) i v hv
      rw [Nat.zero_mul, Nat.zero_add] at this
      exact this
    · simp [Sl.blk] at hb
      subst hb
      have : 0 < len := by
        rw [← hCS]; exact List.length_pos_iff.2 hne
      exact (hspot this).2
end
end Go.Proofs.YtoccbnhahaoeiaaGreat.V
namespace Go.Proofs.YtoccbnhahaoeiaaGreat.V.S
open Go Go.Proofs.YtoccbnhahaoeiaaGreat.V
set_option linter.unusedVariables false
set_option linter.unusedSimpArgs false
abbrev W64 (n : Int) : Prop := -9223372036854775808 ≤ n ∧ n < 9223372036854775808
abbrev CelOk (c : Cel) : Prop := W64 c.View ∧ W64 c.Start ∧ c.Key.size ≤ maxLen
section
variable {T : Type} {enc : TypeId × Value → T} {w : World} {base : Nat} {spare : Nat → Bool} {held : Bool} {fuel : Nat}
theorem gen_open {α : Type} (f : α → List Value) (ok : α → Prop) {t e : TypeId} {k : Nat} {v : Value} {y : DataW T × List MemPlace} (hf : ∀ x, (f x).length = k) (ht : PP.underlying t = some (.slice e)) (hk : PP.cellsOf e = k) (hk0 : 0 < k) (h : DataW.trod enc PP w base spare held fuel t [v] = some y)
    (hG : ∀ n cs y, DataW.trod enc PP w base spare held n e cs = some y → cs.length = k → ∃ x, cs = f x ∧ ok x) :
    ∃ (s : Sl) (L : List α), v = s.enc ∧ Reads w.heap s k (L.flatMap f) ∧ s.len ≤ s.cap ∧ (L ≠ [] → ∀ b, s.blk = some b → b < w.heap.size) ∧ (∀ x ∈ L, ok x) ∧ L.length ≤ 9223372036854775807 := by
  obtain ⟨s, h1, h2, h3, CS, h4, h5, h6, h7⟩ := open_slice (fun cs => ∃ x : α, cs = f x ∧ ok x) ht hk hk0 h fun n cs y hy hl => hG n cs y hy hl
  have : ∀ (L : List (List Value)), (∀ c ∈ L, c.length = k ∧ ∃ x : α, c = f x ∧ ok x) → ∃ S : List α, L = S.map f ∧ ∀ x ∈ S, ok x := fun L => by
    induction L with
    | nil => intro _; exact ⟨[], rfl, fun n hn => by cases hn⟩
    | cons c r ih =>
      intro hL
      obtain ⟨E, h1, h2⟩ := ih fun c hc => hL c (List.mem_cons_of_mem _ hc)
      obtain ⟨_, n, rfl, hn⟩ := hL c (by simp)
      refine ⟨n :: E, by rw [h1]; rfl, fun m hm => ?_⟩
      rcases List.mem_cons.1 hm with e | e
      · subst e; exact hn
      · exact h2 m e
  obtain ⟨S, rfl, hS⟩ := this CS h5
  have hr : Reads w.heap s k (S.flatMap f) := by rw [List.flatMap_def]; exact h6
  refine ⟨s, S, h1, hr, h2, fun hn b hb => h7 (by simpa using hn) b hb, hS, ?_⟩
  have := rd_len hf hk0 hr
  simp only [maxLen] at h3; omega
theorem list4 {β : Type} : ∀ {l : List β}, l.length = 4 → ∃ a b c d, l = [a, b, c, d]
  | [a, b, c, d], _ => ⟨a, b, c, d, rfl⟩
theorem agg_open {cs : List Value} {y : DataW T × List MemPlace} (h : DataW.trod enc PP w base spare held fuel tn_api_Agg cs = some y) (hl : cs.length = 4) : ∃ x : S_api_Agg, cs = x.cells ∧ W64 x.Count ∧ W64 x.Sum ∧ W64 x.Min ∧ W64 x.Max := by
  obtain ⟨xs, n, _, _, _, hlen, hf⟩ := DataW.trod_struct ut_api_Agg h
  have hlen4 : xs.length = 4 := hlen
  have k2 : PP.cellsOf 2 = 1 := by kernel_rfl
  obtain ⟨c0, c1, c2, c3, rfl⟩ := list4 hl
  obtain ⟨y0, y1, y2, y3, rfl⟩ := list4 hlen4
  have f0 : DataW.trod enc PP w base spare held n 2 (([c0, c1, c2, c3].drop 0).take (PP.cellsOf 2)) = some y0 := hf 0 _ rfl
  have f1 : DataW.trod enc PP w base spare held n 2 (([c0, c1, c2, c3].drop 1).take (PP.cellsOf 2)) = some y1 := hf 1 _ rfl
  have f2 : DataW.trod enc PP w base spare held n 2 (([c0, c1, c2, c3].drop 2).take (PP.cellsOf 2)) = some y2 := hf 2 _ rfl
  have f3 : DataW.trod enc PP w base spare held n 2 (([c0, c1, c2, c3].drop 3).take (PP.cellsOf 2)) = some y3 := hf 3 _ rfl
  rw [k2] at f0 f1 f2 f3
  simp only [List.drop_zero, List.drop_succ_cons, List.take_succ_cons, List.take_zero] at f0 f1 f2 f3
  obtain ⟨m0, e0, _, w0⟩ := DataW.trod_int Tryz.underlying2 f0
  obtain ⟨m1, e1, _, w1⟩ := DataW.trod_int Tryz.underlying2 f1
  obtain ⟨m2, e2, _, w2⟩ := DataW.trod_int Tryz.underlying2 f2
  obtain ⟨m3, e3, _, w3⟩ := DataW.trod_int Tryz.underlying2 f3
  simp only [List.cons.injEq, and_true] at e0 e1 e2 e3
  subst e0; subst e1; subst e2; subst e3
  exact ⟨⟨m0, m1, m2, m3⟩, rfl, i64_of w0, i64_of w1, i64_of w2, i64_of w3⟩
theorem list3 {β : Type} : ∀ {l : List β}, l.length = 3 → ∃ a b c, l = [a, b, c]
  | [a, b, c], _ => ⟨a, b, c, rfl⟩
theorem cell_open {cs : List Value} {y : DataW T × List MemPlace} (h : DataW.trod enc PP w base spare held fuel tn_api_Cell cs = some y) (hl : cs.length = 3) :
    ∃ c : Cel, cs = c.cells ∧ CelOk c := by
  obtain ⟨xs, n, _, _, _, hlen, hf⟩ := DataW.trod_struct ut_api_Cell h
  have hlen3 : xs.length = 3 := hlen
  have k3 : PP.cellsOf 3 = 1 := by kernel_rfl
  have k9 : PP.cellsOf 9 = 1 := by kernel_rfl
  have k2 : PP.cellsOf 2 = 1 := by kernel_rfl
  obtain ⟨c0, c1, c2, rfl⟩ := list3 hl
  obtain ⟨y0, y1, y2, rfl⟩ := list3 hlen3
  have f0 : DataW.trod enc PP w base spare held n 3 (([c0, c1, c2].drop 0).take (PP.cellsOf 3)) = some y0 := hf 0 _ rfl
  have f1 : DataW.trod enc PP w base spare held n 9 (([c0, c1, c2].drop 1).take (PP.cellsOf 9)) = some y1 := hf 1 _ rfl
  have f2 : DataW.trod enc PP w base spare held n 2 (([c0, c1, c2].drop 2).take (PP.cellsOf 2)) = some y2 := hf 2 _ rfl
  rw [k3] at f0
  rw [k9] at f1
  rw [k2] at f2
  simp only [List.drop_zero, List.drop_succ_cons, List.take_succ_cons, List.take_zero] at f0 f1 f2
  obtain ⟨m0, e0, _, w0⟩ := DataW.trod_int Tryz.underlying3 f0
  obtain ⟨s1, e1, _, w1⟩ := DataW.trod_string Tryz.underlying9 f1
  obtain ⟨m2, e2, _, w2⟩ := DataW.trod_int Tryz.underlying2 f2
  simp only [List.cons.injEq, and_true] at e0 e1 e2
  subst e0; subst e1; subst e2
  exact ⟨⟨m0, s1, m2⟩, rfl, i64_of w0, i64_of w2, w1⟩
theorem ints_open {v : Value} {y : DataW T × List MemPlace} (h : DataW.trod enc PP w base spare held fuel tn_Slint [v] = some y) :
    ∃ (s : Sl) (L : List Int), v = s.enc ∧ Reads w.heap s 1 (L.flatMap cI) ∧ s.len ≤ s.cap ∧ (L ≠ [] → ∀ b, s.blk = some b → b < w.heap.size) ∧ (∀ x ∈ L, W64 x) ∧ L.length ≤ 9223372036854775807 :=
  gen_open cI W64 cI_len ut_Slint (show PP.cellsOf 3 = 1 from by kernel_rfl) (by omega) h fun n cs y hy _ => by
    obtain ⟨m, e1, _, e2⟩ := DataW.trod_int Tryz.underlying3 hy
    exact ⟨m, e1, i64_of e2⟩
theorem cells_open {v : Value} {y : DataW T × List MemPlace} (h : DataW.trod enc PP w base spare held fuel tn_Slapi_Cell [v] = some y) :
    ∃ (s : Sl) (L : List Cel), v = s.enc ∧ Reads w.heap s 3 (L.flatMap S_api_Cell.cells) ∧ s.len ≤ s.cap ∧ (L ≠ [] → ∀ b, s.blk = some b → b < w.heap.size) ∧ (∀ x ∈ L, CelOk x) ∧ L.length ≤ 9223372036854775807 :=
  gen_open S_api_Cell.cells CelOk (fun _ => rfl) ut_Slapi_Cell (show PP.cellsOf tn_api_Cell = 3 from by kernel_rfl) (by omega) h fun n cs y hy hl => cell_open hy hl
theorem list15 {β : Type} : ∀ {l : List β}, l.length = 15 → ∃ c0 c1 c2 c3 c4 c5 c6 c7 c8 c9 c10 c11 c12 c13 c14, l = [c0, c1, c2, c3, c4, c5, c6, c7, c8, c9, c10, c11, c12, c13, c14]
  | [c0, c1, c2, c3, c4, c5, c6, c7, c8, c9, c10, c11, c12, c13, c14], _ => ⟨c0, c1, c2, c3, c4, c5, c6, c7, c8, c9, c10, c11, c12, c13, c14, rfl⟩
theorem list8 {β : Type} : ∀ {l : List β}, l.length = 8 → ∃ a b c d e f g h, l = [a, b, c, d, e, f, g, h]
  | [a, b, c, d, e, f, g, h], _ => ⟨a, b, c, d, e, f, g, h, rfl⟩
theorem step_len (y : St) : y.x.cells.length = 15 := rfl
theorem step_open {cs : List Value} {y : DataW T × List MemPlace} (h : DataW.trod enc PP w base spare held fuel tn_spatelaw7_Step cs = some y) (hl : cs.length = 15) : ∃ x : St, cs = x.x.cells ∧ StOk w.heap x := by
  obtain ⟨xs, n, _, _, _, hlen, hf⟩ := DataW.trod_struct ut_spatelaw7_Step h
  have hlen8 : xs.length = 8 := hlen
  have k3 : PP.cellsOf 3 = 1 := by kernel_rfl
  have kc : PP.cellsOf tn_api_Cell = 3 := by kernel_rfl
  have ka : PP.cellsOf tn_api_Agg = 4 := by kernel_rfl
  have kl : PP.cellsOf tn_Slapi_Cell = 1 := by kernel_rfl
  have ki : PP.cellsOf tn_Slint = 1 := by kernel_rfl
  obtain ⟨c0, c1, c2, c3, c4, c5, c6, c7, c8, c9, c10, c11, c12, c13, c14, rfl⟩ := list15 hl
  obtain ⟨y0, y1, y2, y3, y4, y5, y6, y7, rfl⟩ := list8 hlen8
  have f0 : DataW.trod enc PP w base spare held n 3 (([c0, c1, c2, c3, c4, c5, c6, c7, c8, c9, c10, c11, c12, c13, c14].drop 0).take (PP.cellsOf 3)) = some y0 := hf 0 _ rfl
  rw [k3] at f0
  have f1 : DataW.trod enc PP w base spare held n 3 (([c0, c1, c2, c3, c4, c5, c6, c7, c8, c9, c10, c11, c12, c13, c14].drop 1).take (PP.cellsOf 3)) = some y1 := hf 1 _ rfl
  rw [k3] at f1
  have f2 : DataW.trod enc PP w base spare held n tn_api_Cell (([c0, c1, c2, c3, c4, c5, c6, c7, c8, c9, c10, c11, c12, c13, c14].drop 2).take (PP.cellsOf tn_api_Cell)) = some y2 := hf 2 _ rfl
  rw [kc] at f2
  have f3 : DataW.trod enc PP w base spare held n tn_api_Agg (([c0, c1, c2, c3, c4, c5, c6, c7, c8, c9, c10, c11, c12, c13, c14].drop 5).take (PP.cellsOf tn_api_Agg)) = some y3 := hf 3 _ rfl
  rw [ka] at f3
  have f4 : DataW.trod enc PP w base spare held n tn_Slapi_Cell (([c0, c1, c2, c3, c4, c5, c6, c7, c8, c9, c10, c11, c12, c13, c14].drop 9).take (PP.cellsOf tn_Slapi_Cell)) = some y4 := hf 4 _ rfl
  rw [kl] at f4
  have f5 : DataW.trod enc PP w base spare held n tn_Slint (([c0, c1, c2, c3, c4, c5, c6, c7, c8, c9, c10, c11, c12, c13, c14].drop 10).take (PP.cellsOf tn_Slint)) = some y5 := hf 5 _ rfl
  rw [ki] at f5
  have f6 : DataW.trod enc PP w base spare held n tn_api_Cell (([c0, c1, c2, c3, c4, c5, c6, c7, c8, c9, c10, c11, c12, c13, c14].drop 11).take (PP.cellsOf tn_api_Cell)) = some y6 := hf 6 _ rfl
  rw [kc] at f6
  have f7 : DataW.trod enc PP w base spare held n 3 (([c0, c1, c2, c3, c4, c5, c6, c7, c8, c9, c10, c11, c12, c13, c14].drop 14).take (PP.cellsOf 3)) = some y7 := hf 7 _ rfl
  rw [k3] at f7
  simp only [List.drop_zero, List.drop_succ_cons, List.take_succ_cons, List.take_zero] at f0 f1 f2 f3 f4 f5 f6 f7
  obtain ⟨m0, e0, _, w0⟩ := DataW.trod_int Tryz.underlying3 f0
  obtain ⟨m1, e1, _, w1⟩ := DataW.trod_int Tryz.underlying3 f1
  obtain ⟨x2, e2, w2⟩ := cell_open f2 rfl
  obtain ⟨x3, e3, w3⟩ := agg_open f3 rfl
  obtain ⟨s4, L4, e4, r4, _, b4, o4, _⟩ := cells_open f4
  obtain ⟨s5, L5, e5, r5, _, b5, o5, _⟩ := ints_open f5
  obtain ⟨x6, e6, w6⟩ := cell_open f6 rfl
  obtain ⟨m7, e7, _, w7⟩ := DataW.trod_int Tryz.underlying3 f7
  refine ⟨⟨⟨m0, m1, x2, x3, s4, s5, x6, m7⟩, L5, L4⟩, ?_, ⟨r5, b5, o5, r4, b4, o4, i64_of w0, i64_of w1, i64_of w7, w2, w3, w6⟩⟩
  have : [c0, c1, c2, c3, c4, c5, c6, c7, c8, c9, c10, c11, c12, c13, c14] = [c0] ++ [c1] ++ [c2, c3, c4] ++ [c5, c6, c7, c8] ++ [c9] ++ [c10] ++ [c11, c12, c13] ++ [c14] := rfl
  rw [this, e0, e1, e2, e3, e4, e5, e6, e7]; rfl
theorem steps_open {v : Value} {y : DataW T × List MemPlace} (h : DataW.trod enc PP w base spare held fuel tn_Slspatelaw7_Step [v] = some y) :
    ∃ (s : Sl) (L : List St), v = s.enc ∧ Reads w.heap s 15 (L.flatMap fun y => y.x.cells) ∧ s.len ≤ s.cap ∧ (L ≠ [] → ∀ b, s.blk = some b → b < w.heap.size) ∧ (∀ x ∈ L, StOk w.heap x) ∧ L.length ≤ 9223372036854775807 :=
  gen_open (fun y : St => y.x.cells) (StOk w.heap) step_len ut_Slspatelaw7_Step (show PP.cellsOf tn_spatelaw7_Step = 15 from by kernel_rfl) (by omega) h fun n cs y hy hl => step_open hy hl
end
end Go.Proofs.YtoccbnhahaoeiaaGreat.V.S
namespace Go.Proofs.YtoccbnhahaoeiaaGreat.V.S
open Go Go.Proofs.YtoccbnhahaoeiaaGreat.V
set_option linter.unusedVariables false
set_option linter.unusedSimpArgs false
set_option maxRecDepth 20000
def cellM (n : Nat) : Cel := ⟨0, ⟨#[UInt8.ofNat (97 + n / 160000 % 20), UInt8.ofNat (97 + n / 8000 % 20), UInt8.ofNat (97 + n / 400 % 20), UInt8.ofNat (97 + n / 20 % 20)]⟩, ((n % 20 : Nat) : Int)⟩
theorem u8lt {x y : Nat} (hx : x < 20) (hy : y < 20) : (UInt8.ofNat (97 + x) < UInt8.ofNat (97 + y)) ↔ x < y := by
  rw [UInt8.lt_iff_toNat_lt]
  simp
  omega
theorem cb_lt {x y : Nat} (hx : x < 20) (hy : y < 20) (h : x < y) (A B : List UInt8) : Lib.compareBytes (UInt8.ofNat (97 + x) :: A) (UInt8.ofNat (97 + y) :: B) = -1 := by
  simp only [Lib.compareBytes]
  rw [if_pos ((u8lt hx hy).2 h)]
theorem cb_eq {x y : Nat} (h : x = y) (A B : List UInt8) : Lib.compareBytes (UInt8.ofNat (97 + x) :: A) (UInt8.ofNat (97 + y) :: B) = Lib.compareBytes A B := by
  subst h
  simp only [Lib.compareBytes, u8_irr, if_false]
theorem cell_lt {a b : Nat} (h : a < b) (hb : b < 3200000) : cmpC (cellM a) (cellM b) = -1 := by
  rw [cC_lt]
  refine .inr ⟨rfl, ?_⟩
  show Lib.compareBytes [UInt8.ofNat (97 + a / 160000 % 20), UInt8.ofNat (97 + a / 8000 % 20), UInt8.ofNat (97 + a / 400 % 20), UInt8.ofNat (97 + a / 20 % 20)] [UInt8.ofNat (97 + b / 160000 % 20), UInt8.ofNat (97 + b / 8000 % 20), UInt8.ofNat (97 + b / 400 % 20), UInt8.ofNat (97 + b / 20 % 20)] = -1 ∨ ([UInt8.ofNat (97 + a / 160000 % 20), UInt8.ofNat (97 + a / 8000 % 20), UInt8.ofNat (97 + a / 400 % 20), UInt8.ofNat (97 + a / 20 % 20)] = [UInt8.ofNat (97 + b / 160000 % 20), UInt8.ofNat (97 + b / 8000 % 20), UInt8.ofNat (97 + b / 400 % 20), UInt8.ofNat (97 + b / 20 % 20)] ∧ ((a % 20 : Nat) : Int) < ((b % 20 : Nat) : Int))
  have ka := Nat.mod_lt (a / 160000) (show 20 > 0 by omega)
  by_cases e1 : a / 160000 % 20 = b / 160000 % 20
  · rw [cb_eq e1]
    by_cases e2 : a / 8000 % 20 = b / 8000 % 20
    · rw [cb_eq e2]
      by_cases e3 : a / 400 % 20 = b / 400 % 20
      · rw [cb_eq e3]
        by_cases e4 : a / 20 % 20 = b / 20 % 20
        · rw [e1, e2, e3, e4]; exact .inr ⟨rfl, by omega⟩
        · exact .inl (cb_lt (by omega) (by omega) (by omega) _ _)
      · exact .inl (cb_lt (by omega) (by omega) (by omega) _ _)
    · exact .inl (cb_lt (by omega) (by omega) (by omega) _ _)
  · exact .inl (cb_lt (by omega) (by omega) (by omega) _ _)
end Go.Proofs.YtoccbnhahaoeiaaGreat.V.S
namespace Go.Proofs.YtoccbnhahaoeiaaGreat.V.S
open Go Go.Proofs.YtoccbnhahaoeiaaGreat.V
set_option linter.unusedVariables false
set_option linter.unusedSimpArgs false
set_option maxRecDepth 20000
theorem step_at {h0 h : H} {x0 : Sl} {L : List St} {i : Nat} {y : St} {n : Nat} {S : SL} {slots : Nat} {R : Nat → Prop} {ep : Int} {Q : Int → H → Prop} (rd : Reads h0 x0 15 (L.flatMap fun y => y.x.cells)) (e : Ext h0 h) (hy : L[i]? = some y) (ok : StOk h0 y) (s : SH h n S slots R) (hR : ∀ b, h.size ≤ b → R b) (hR0 : ∀ b, b < h0.size → ¬ R b)
    (k : ∀ h', SH h' n (applyM S slots ep y).2 slots R → SOnly R h h' → Q (applyM S slots ep y).1 h') : idxA x0 (i : Int) 15 fun a => ld_S_spatelaw7_Step h a fun y => F.spatelaw7_apply (some ⟨n, 0, none⟩) ep y h Q := by
  obtain ⟨p, p1, p2, p3⟩ := rd_at (f := fun y : St => y.x.cells) step_len (by omega) (rd.ext e) hy
  have hl := rd_len (f := fun y : St => y.x.cells) step_len (by omega) rd
  refine idxR_of (i := i) p1 (by have := (List.getElem?_eq_some_iff.1 hy).1; omega) rfl ⟨y.x, p3, ?_⟩
  exact apply_spec s hR (ok.re.ext e) (fun hne b hb => ⟨by have := ok.be hne b hb; have := e.size; omega, hR0 b (ok.be hne b hb)⟩) k
end Go.Proofs.YtoccbnhahaoeiaaGreat.V.S
namespace Go.Proofs.YtoccbnhahaoeiaaGreat.V
open Go
set_option linter.unusedVariables false
set_option linter.unusedSimpArgs false
theorem put_at {α : Type} {f : α → List Value} {kk : Nat} {e : TypeId} {h : H} {s : Sl} {D : List α} {i : Nat} {x : α} {K : H → Prop} (hf : ∀ x, (f x).length = kk) (hk : 0 < kk) (w : Owns h s e kk (D.flatMap f)) (hi : i < D.length)
    (k : ∀ h', Owns h' s e kk ((D.set i x).flatMap f) → Only (fun b => s.blk = some b) h h' → K h') : idxA s (i : Int) kk fun a => stH h a (f x) K := by
  obtain ⟨b, p1, p2⟩ := own_at hf hk w (i := i) (x := D[i]) (List.getElem?_eq_getElem hi)
  have hl := own_len hf hk w
  refine idxA_of (i := i) p1 (by rw [hl]; exact hi) rfl ?_
  exact own_setAt (i := i) (x := x) hf w p1 hi fun h' w' o _ => k h' w' o
section
variable {α : Type} {f : α → List Value} {kk : Nat} {e : TypeId} {base h h' : H} {Z : List (Sl × List α)}
end
end Go.Proofs.YtoccbnhahaoeiaaGreat.V
namespace Go.Proofs.YtoccbnhahaoeiaaGreat.V.S
open Go Go.Proofs.YtoccbnhahaoeiaaGreat.V
set_option linter.unusedVariables false
set_option linter.unusedSimpArgs false
set_option maxRecDepth 20000
theorem SH.turn {h : H} {n : Nat} {S : SL} {slots : Nat} {R R' : Nat → Prop} (s : SH h n S slots R) (hr : ∀ b, b < h.size → R b → R' b) : SH h n S slots R' := by
  obtain ⟨tn, rs, es, T, Z, hZ, z⟩ := s
  exact ⟨tn, rs, es, T, Z, hZ, z.turn (fun r hr h => h) hr⟩
theorem nb {b : Bool} (h : b = true) {P : Prop} : (!b) = true → P := fun g => by subst h; cases g
end Go.Proofs.YtoccbnhahaoeiaaGreat.V.S
namespace Go.Proofs.YtoccbnhahaoeiaaGreat.V.S
open Go Go.Proofs.YtoccbnhahaoeiaaGreat.V
set_option linter.unusedVariables false
set_option linter.unusedSimpArgs false
set_option maxRecDepth 20000
/-- No version is of a later epoch. -/
def EB (S : SL) (ep : Int) : Prop := ∀ x ∈ S, ∀ v ∈ x.2, v.epoch ≤ ep
theorem EB.mono {S : SL} {a b : Int} (h : EB S a) (hab : a ≤ b) : EB S b := fun x hx v hv => Int.le_trans (h x hx v hv) hab
theorem EB.lay {S : SL} {ep : Int} (h : EB S ep) (hs : SortS S) {c : Cel} {x : Ver} (hx : x.epoch ≤ ep) : EB (setS S c (C.layM ((getS S c).getD []) x)) ep := fun y hy v hv => by
  rcases (mem_set hs).1 hy with hy | hy
  · subst hy
    have hv' : v = x ∨ v ∈ (getS S c).getD [] := by
      unfold C.layM at hv
      split at hv
      · rcases List.mem_append.1 hv with hv | hv
        · exact .inr (List.dropLast_subset _ hv)
        · exact .inl (List.mem_singleton.1 hv)
      · rcases List.mem_append.1 hv with hv | hv
        · exact .inr hv
        · exact .inl (List.mem_singleton.1 hv)
    rcases hv' with hv' | hv'
    · subst hv'; exact hx
    · cases hg : getS S c with
      | none => rw [hg] at hv'; cases hv'
      | some vs =>
        rw [hg] at hv'
        unfold getS at hg
        obtain ⟨z, hz, rfl⟩ := Option.map_eq_some_iff.1 hg
        exact h z (getK_some hz).1 v hv'
  · exact h y hy.1 v hv
theorem EB.prune {S : SL} {ep : Int} (h : EB S ep) (E : List Int) : EB (pruneS S E) ep := fun y hy v hv => by
  unfold pruneS at hy
  obtain ⟨h1, _⟩ := List.mem_filter.1 hy
  obtain ⟨x, hx, rfl⟩ := List.mem_map.1 h1
  exact h x hx v ((C.prune_sub _ _).subset hv)
theorem EB.apply {S : SL} {ep : Int} (h : EB S ep) (hs : SortS S) {slots : Nat} {y : St} : EB (applyM S slots ep y).2 ep := by
  unfold applyM
  split
  · simp only
    split
    · exact h.lay hs (Int.le_refl _)
    · exact h
  · split
    · simp only
      split
      · exact h.prune _
      · exact h
    · simp only
      split
      · exact h.lay hs (Int.le_refl _)
      · exact h
end Go.Proofs.YtoccbnhahaoeiaaGreat.V.S
namespace Go.Proofs.YtoccbnhahaoeiaaGreat.V.S
open Go Go.Proofs.YtoccbnhahaoeiaaGreat.V
set_option linter.unusedVariables false
set_option linter.unusedSimpArgs false
set_option maxRecDepth 20000
theorem newest_le {S : SL} {ep : Int} (h : EB S ep) (h1 : 1 ≤ ep) (c : Cel) : ¬ (C.newestM ((getS S c).getD [])).2.1 > ep := by
  cases hg : getS S c with
  | none => show ¬ (0 : Int) > ep; omega
  | some vs =>
    unfold getS at hg
    obtain ⟨z, hz, rfl⟩ := Option.map_eq_some_iff.1 hg
    have hm := (getK_some hz).1
    show ¬ (C.newestM z.2).2.1 > ep
    unfold C.newestM
    cases hl : z.2.getLast? with
    | none => show ¬ (0 : Int) > ep; omega
    | some v =>
      have := h z hm v (List.mem_of_getLast? hl)
      show ¬ v.epoch > ep; omega
theorem need_0 (S : SL) (e : Int) (c : Cel) : 0 ≤ needS S e c ∧ needS S e c ≤ 2 := by
  unfold needS
  split
  · omega
  · unfold needV
    split
    · omega
    · split
      · omega
      · split
        · omega
        · split <;> omega
/-- What a put answers. -/
theorem room_put {S : SL} (hok : SOk S) {slots : Nat} {ep v : Int} (hb : EB S ep) (h1 : 1 ≤ ep) (h2 : ep ≤ 1099511627776) {c : Cel} (hc : okC c = 0) :
    ((unitsS S : Int) + needS S ep c ≤ slots ∧ putE S slots ep c (oneA v) true = 0 ∧ (unitsS (putS S ep c (oneA v)) : Int) = unitsS S + needS S ep c) ∨ (¬ (unitsS S : Int) + needS S ep c ≤ slots ∧ putE S slots ep c (oneA v) true = 31) := by
  have hle := newest_le hb h1 c
  unfold putE
  have hno : ¬ (ep < 1 ∨ ep > 1099511627776 ∨ (oneA v).Count = 0 ∨ true = false) := by
    rintro (h | h | h | h)
    · omega
    · omega
    · exact absurd (show (1 : Int) = 0 from h) (by decide)
    · cases h
  rw [if_neg (fun h => h hc), if_neg hno, if_neg hle]
  by_cases hf : (unitsS S : Int) + needS S ep c ≤ slots
  · exact .inl ⟨hf, if_neg (by omega), (put_units hok hc hle).1⟩
  · exact .inr ⟨hf, if_pos (by omega)⟩
end Go.Proofs.YtoccbnhahaoeiaaGreat.V.S
namespace Go.Proofs.YtoccbnhahaoeiaaGreat.V.S
open Go Go.Proofs.YtoccbnhahaoeiaaGreat.V
set_option linter.unusedVariables false
set_option linter.unusedSimpArgs false
set_option maxRecDepth 20000
section
open Classical
variable {α : Type}
/-- The first i things, but none that is what stands ahead of it. -/
noncomputable def cpN (L : List α) : Nat → List α
  | 0 => []
  | i + 1 => match L[i]? with
    | none => cpN L i
    | some x => if i ≠ 0 ∧ L[i - 1]? = some x then cpN L i else cpN L i ++ [x]
theorem cp_same {L : List α} {i : Nat} {x : α} (h : L[i]? = some x) (h0 : i ≠ 0) (h1 : L[i - 1]? = some x) : cpN L (i + 1) = cpN L i := by
  show (match L[i]? with
    | none => cpN L i
    | some x => if i ≠ 0 ∧ L[i - 1]? = some x then cpN L i else cpN L i ++ [x]) = _
  rw [h]; exact if_pos ⟨h0, h1⟩
theorem cp_new {L : List α} {i : Nat} {x : α} (h : L[i]? = some x) (h1 : i = 0 ∨ L[i - 1]? ≠ some x) : cpN L (i + 1) = cpN L i ++ [x] := by
  show (match L[i]? with
    | none => cpN L i
    | some x => if i ≠ 0 ∧ L[i - 1]? = some x then cpN L i else cpN L i ++ [x]) = _
  rw [h]
  refine if_neg fun ⟨g1, g2⟩ => ?_
  rcases h1 with h1 | h1
  · exact g1 h1
  · exact h1 g2
theorem cp_len (L : List α) : ∀ i, (cpN L i).length ≤ i
  | 0 => Nat.le_refl _
  | i + 1 => by
    have ih := cp_len L i
    cases h : L[i]? with
    | none =>
      have : cpN L (i + 1) = cpN L i := by
        show (match L[i]? with
          | none => cpN L i
          | some x => if i ≠ 0 ∧ L[i - 1]? = some x then cpN L i else cpN L i ++ [x]) = _
        rw [h]
      rw [this]; omega
    | some x =>
      by_cases h1 : i ≠ 0 ∧ L[i - 1]? = some x
      · rw [cp_same h h1.1 h1.2]; omega
      · rw [cp_new h (by
          by_cases h2 : i = 0
          · exact .inl h2
          · exact .inr fun e => h1 ⟨h2, e⟩)]
        rw [List.length_append]; simp; omega
theorem cp_mem {L : List α} {c : α} : ∀ i, i ≤ L.length → (c ∈ cpN L i ↔ c ∈ L.take i)
  | 0, _ => by simp [cpN]
  | i + 1, hi => by
    have ih := cp_mem (L := L) (c := c) i (by omega)
    obtain ⟨x, h⟩ : ∃ x, L[i]? = some x := ⟨_, List.getElem?_eq_getElem (by omega)⟩
    rw [tk_snoc h]
    by_cases h1 : i ≠ 0 ∧ L[i - 1]? = some x
    · rw [cp_same h h1.1 h1.2, ih, List.mem_append, List.mem_singleton]
      refine ⟨.inl, fun g => g.elim id fun e => ?_⟩
      rw [e]
      exact List.mem_of_getElem? (i := i - 1) (by rw [List.getElem?_take_of_lt (by omega)]; exact h1.2)
    · rw [cp_new h (by
        by_cases h2 : i = 0
        · exact .inl h2
        · exact .inr fun e => h1 ⟨h2, e⟩), List.mem_append, ih, List.mem_append]
end
/-- Cells that do not fall. -/
abbrev Asc (L : List Cel) : Prop := L.Pairwise fun a b => cmpC a b ≤ 0
theorem cC_le {a b c : Cel} (h1 : cmpC a b ≤ 0) (h2 : cmpC b c ≤ 0) : cmpC a c ≤ 0 := by
  have r1 := cC_range a b
  have r2 := cC_range b c
  by_cases e1 : cmpC a b = 0
  · rw [cC_zero.1 e1]; exact h2
  · by_cases e2 : cmpC b c = 0
    · rw [← cC_zero.1 e2]; exact h1
    · rw [cC_trans (by omega : cmpC a b = -1) (by omega : cmpC b c = -1)]; decide
theorem cp_nodup {L : List Cel} (h : Asc L) : ∀ i, i ≤ L.length → (cpN L i).Nodup
  | 0, _ => by simp [cpN]
  | i + 1, hi => by
    have ih := cp_nodup h i (by omega)
    obtain ⟨x, hx⟩ : ∃ x, L[i]? = some x := ⟨_, List.getElem?_eq_getElem (by omega)⟩
    by_cases h1 : i ≠ 0 ∧ L[i - 1]? = some x
    · rw [cp_same hx h1.1 h1.2]; exact ih
    · have h1' : i = 0 ∨ L[i - 1]? ≠ some x := by
        by_cases h2 : i = 0
        · exact .inl h2
        · exact .inr fun e => h1 ⟨h2, e⟩
      rw [cp_new hx h1', List.nodup_append]
      refine ⟨ih, by simp, fun a ha b hb e => ?_⟩
      rw [List.mem_singleton] at hb
      subst hb; subst e
      rw [cp_mem i (by omega)] at ha
      obtain ⟨j, hj⟩ := List.mem_iff_getElem?.1 ha
      have hji : j < i := by
        have := (List.getElem?_eq_some_iff.1 hj).1
        rw [List.length_take] at this; omega
      rw [List.getElem?_take_of_lt hji] at hj
      obtain ⟨y, hy⟩ : ∃ y, L[i - 1]? = some y := ⟨_, List.getElem?_eq_getElem (by omega)⟩
      have le : ∀ {p q : Nat} {u v : Cel}, p < q → L[p]? = some u → L[q]? = some v → cmpC u v ≤ 0 := fun {p q u v} hpq hu hv => by
        obtain ⟨p1, rfl⟩ := List.getElem?_eq_some_iff.1 hu
        obtain ⟨q1, rfl⟩ := List.getElem?_eq_some_iff.1 hv
        exact List.pairwise_iff_getElem.1 h p q p1 q1 hpq
      have l2 := le (show i - 1 < i by omega) hy hx
      have l1 : cmpC a y ≤ 0 := by
        by_cases e : j = i - 1
        · rw [e, hy] at hj; cases hj; rw [cC_self]; decide
        · exact le (by omega) hj hy
      have : cmpC a y = 0 := by
        have := cC_anti a y; have := cC_range a y; have := cC_range y a
        omega
      rw [← cC_zero.1 this] at hy
      rcases h1' with h1' | h1'
      · omega
      · exact h1' hy
section
open Classical
/-- Each thing once. -/
noncomputable def ddL {α : Type} : List α → List α
  | [] => []
  | x :: r => if x ∈ r then ddL r else x :: ddL r
theorem dd_mem {α : Type} {c : α} : ∀ {L : List α}, c ∈ ddL L ↔ c ∈ L
  | [] => by simp [ddL]
  | x :: r => by
    have ih := dd_mem (c := c) (L := r)
    unfold ddL
    split
    · rename_i h
      rw [ih, List.mem_cons]
      refine ⟨.inr, fun g => g.elim (fun e => by rw [e]; exact h) id⟩
    · rw [List.mem_cons, List.mem_cons, ih]
theorem dd_nodup {α : Type} : ∀ (L : List α), (ddL L).Nodup
  | [] => by simp [ddL]
  | x :: r => by
    unfold ddL
    split
    · exact dd_nodup r
    · rename_i h
      rw [List.nodup_cons]
      exact ⟨fun g => h (dd_mem.1 g), dd_nodup r⟩
theorem sum_erase {α : Type} [DecidableEq α] (f : α → Int) : ∀ {L : List α} {x : α}, x ∈ L → (L.map f).sum = f x + ((L.erase x).map f).sum
  | [], x, h => by cases h
  | y :: r, x, h => by
    by_cases e : y = x
    · subst e; simp
    · have hr : x ∈ r := by
        rcases List.mem_cons.1 h with g | g
        · exact absurd g.symm e
        · exact g
      have ih := sum_erase f hr
      rw [List.erase_cons_tail (by simpa using e), List.map_cons, List.sum_cons, List.map_cons, List.sum_cons, ih]
      omega
theorem sum_same {α : Type} [DecidableEq α] (f : α → Int) : ∀ {D E : List α}, D.Nodup → E.Nodup → (∀ c, c ∈ D ↔ c ∈ E) → (D.map f).sum = (E.map f).sum
  | [], E, _, _, h => by
    have : E = [] := List.eq_nil_iff_forall_not_mem.2 fun c hc => by have := (h c).2 hc; cases this
    rw [this]
  | x :: D, E, h1, h2, h => by
    rw [List.nodup_cons] at h1
    have hx : x ∈ E := (h x).1 (by simp)
    have ih := sum_same f (D := D) (E := E.erase x) h1.2 (h2.erase x) fun c => by
      rw [h2.mem_erase_iff]
      constructor
      · intro g
        exact ⟨fun e => h1.1 (by rw [← e]; exact g), (h c).1 (by simp [g])⟩
      · rintro ⟨g1, g2⟩
        rcases List.mem_cons.1 ((h c).2 g2) with g | g
        · exact absurd g g1
        · exact g
    rw [sum_erase f hx, List.map_cons, List.sum_cons, ih]
/-- What cells would take: each once. -/
def needD (S : SL) (e : Int) (D : List Cel) : Int := (D.map (needS S e)).sum
noncomputable def needT (S : SL) (e : Int) (L : List Cel) : Int := needD S e (ddL L)
theorem need_same {S : SL} {e : Int} {D E : List Cel} (h1 : D.Nodup) (h2 : E.Nodup) (h : ∀ c, c ∈ D ↔ c ∈ E) : needD S e D = needD S e E := sum_same _ h1 h2 h
theorem needT_of {S : SL} {e : Int} {D L : List Cel} (h1 : D.Nodup) (h : ∀ c, c ∈ D ↔ c ∈ L) : needD S e D = needT S e L := need_same h1 (dd_nodup L) fun c => by rw [h, dd_mem]
theorem needT_congr {S : SL} {e : Int} {L M : List Cel} (h : ∀ c, c ∈ L ↔ c ∈ M) : needT S e L = needT S e M := need_same (dd_nodup L) (dd_nodup M) fun c => by rw [dd_mem, dd_mem, h]
theorem needD_range (S : SL) (e : Int) : ∀ D : List Cel, 0 ≤ needD S e D ∧ needD S e D ≤ 2 * D.length
  | [] => by simp [needD]
  | c :: D => by
    have ih := needD_range S e D
    have := need_0 S e c
    unfold needD at ih ⊢
    rw [List.map_cons, List.sum_cons, List.length_cons]
    omega
theorem needD_snoc (S : SL) (e : Int) (D : List Cel) (c : Cel) : needD S e (D ++ [c]) = needD S e D + needS S e c := by
  unfold needD; rw [List.map_append, List.sum_append]; simp
end
end Go.Proofs.YtoccbnhahaoeiaaGreat.V.S
namespace Go.Proofs.YtoccbnhahaoeiaaGreat.V.S
open Go Go.Sort Go.Proofs.YtoccbnhahaoeiaaGreat.V
set_option linter.unusedVariables false
set_option linter.unusedSimpArgs false
set_option maxRecDepth 20000
instance : Inhabited Cel := ⟨zeroC⟩
theorem cC_len (x : Cel) : (S_api_Cell.cells x).length = 3 := rfl
theorem flat_list {α : Type} [Inhabited α] {f : α → List Value} {k : Nat} (hf : ∀ x, (f x).length = k) (hk : 0 < k) (L : List α) : (flatK f k L.toArray).toList = L.flatMap f := by
  apply List.ext_getElem?
  intro j
  have hsz : L.toArray.size = L.length := List.size_toArray
  by_cases hj : j < L.length * k
  · have hd : j = (j / k) * k + j % k := by rw [Nat.mul_comm]; exact (Nat.div_add_mod j k).symm
    have hm : j % k < k := Nat.mod_lt _ hk
    have hq : j / k < L.length := Nat.div_lt_of_lt_mul (by rw [Nat.mul_comm]; exact hj)
    have h1 := flat_get f k hf L (j / k) L[j / k] (List.getElem?_eq_getElem hq) (j % k) hm
    rw [← hd] at h1
    rw [h1]
    have hj2 : j < (flatK f k L.toArray).size := by rw [size_flatK, hsz]; exact hj
    have h2 := get_flatK f k L.toArray j (by rw [hsz]; exact hj)
    rw [getElem!_pos _ j hj2] at h2
    rw [Array.getElem?_toList, Array.getElem?_eq_getElem hj2, h2, getElem!_pos L.toArray (j / k) (by rw [hsz]; exact hq)]
    simp only [List.getElem_toArray]
    rw [getElem!_pos (f L[j / k]) (j % k) (by rw [hf]; exact hm), List.getElem?_eq_getElem]
  · rw [List.getElem?_eq_none (by rw [Array.length_toList, size_flatK, hsz]; omega), List.getElem?_eq_none (by rw [flat_len f k hf]; omega)]
theorem holds_flat {w : World} {g : Nat} {c : Array Value} {e : TypeId} {vs : List Value} {F : Array Value} (hF : F.toList = vs) (hb : w.heap[g]? = some (.cells c e (0, 0))) (ht : c.toList.take vs.length = vs) : Holds id w g 0 F := fun j hj => by
  have hj2 : j < vs.length := by rw [← hF, Array.length_toList]; exact hj
  refine ⟨?_, by simp [World.frozen?, hb]⟩
  have h1 : (c.toList.take vs.length)[j]? = F.toList[j]? := by rw [ht, hF]
  rw [List.getElem?_take_of_lt hj2, Array.getElem?_toList, Array.getElem?_toList, Array.getElem?_eq_getElem hj] at h1
  rw [getElem!_pos F j hj]
  simp only [World.cell?, hb, Nat.zero_add, Option.isSome_none, Bool.false_eq_true, if_false, id]
  exact h1
theorem heap_flat {w : World} {g n : Nat} {os : Array Obj} {cur : Array Value} {e : TypeId} {fr : Nat × Nat} (F : Array Value) (hb : w.heap[g]? = some (.cells cur e fr)) :
    (grow (putRow id (Sort.ahead w n) g 0 F) os).heap[g]? = some (.cells (putCells id 0 F cur) e fr) := by
  have hg : g < w.heap.size := (Array.getElem?_eq_some_iff.1 hb).1
  rw [heap_grow_old _ _ (by simpa using hg)]
  simp [putRow, mapBlock, Sort.ahead, Array.getElem?_modify, hb, onCells]
theorem grownBy_flat {w : World} {g n : Nat} {os : Array Obj} (F : Array Value) : w.grownBy (grow (putRow id (Sort.ahead w n) g 0 F) os) (some g) := by
  refine ⟨rfl, rfl, rfl, by simp, fun k hk hne => ?_⟩
  rw [heap_grow_old _ _ (by simpa using hk)]
  have : g ≠ k := fun e => hne (by rw [e])
  simp [putRow, mapBlock, Sort.ahead, Array.getElem?_modify, this]
theorem take_flat (cur F : Array Value) (h : F.size ≤ cur.size) : (putCells id 0 F cur).toList.take F.toList.length = F.toList := by
  apply List.ext_getElem?
  intro j
  rw [Array.length_toList]
  by_cases hj : j < F.size
  · rw [List.getElem?_take_of_lt hj, Array.getElem?_toList]
    simp [putCells, hj, show j < cur.size by omega]
  · rw [List.getElem?_take_eq_none (by omega), List.getElem?_eq_none (by simp; omega)]
/-- A world that has grown alone. -/
theorem grown_of {w w' : World} (hl : Like w w') (e : Ext w.heap w'.heap) : ∃ q os', w' = grow (w.drewN q) os' := by
  refine ⟨w'.drawn - w.drawn, w'.heap.extract w.heap.size w'.heap.size, ?_⟩
  have hd := hl.drawn
  have hh : w'.heap = w.heap ++ w'.heap.extract w.heap.size w'.heap.size := by
    have hs := e.size
    apply Array.ext_getElem?
    intro j
    by_cases hj : j < w.heap.size
    · rw [e.same j hj (fun f => f), Array.getElem?_append_left hj]
    · rw [Array.getElem?_append_right (by omega)]
      by_cases hj2 : j < w'.heap.size
      · rw [Array.getElem?_eq_getElem hj2, Array.getElem?_eq_getElem (by simp; omega), Array.getElem_extract]
        congr 2; omega
      · rw [Array.getElem?_eq_none (by omega), Array.getElem?_eq_none (by simp; omega)]
  obtain ⟨h', t', d', o', u'⟩ := w'
  obtain ⟨h0, t0, d0, o0, u0⟩ := w
  obtain ⟨p1, p2, p3, p4⟩ := hl
  simp only at p1 p2 p3 hd hh
  subst p1; subst p2; subst p3
  unfold grow World.drewN
  simp only
  congr 1
  omega
theorem cmp_lays (blk off size : Nat) (w : World) : CmpLays Tryz.prog no_merge_Compare #[] S_api_Cell.cells 3 cmpC blk off size w := fun m os dk _ x y => by
  have hf : Fn PP no_merge_Compare [.agg x.cells.toArray, .agg y.cells.toArray].toArray (sortWorldK S_api_Cell.cells 3 w blk off m dk os).heap fun r h' => r = .int .i64 (cmpC x y) ∧ Ext (sortWorldK S_api_Cell.cells 3 w blk off m dk os).heap h' :=
    (F.merge_Compare_ok (Compare_spec (Q := fun r h' => r = cmpC x y ∧ Ext (sortWorldK S_api_Cell.cells 3 w blk off m dk os).heap h') fun h' e' => ⟨rfl, e'⟩)).mono fun r h' ⟨r0, e, hk⟩ => ⟨by rw [e, hk.1], hk.2⟩
  exact Calls.mono (callsIn_wide.1 (hf _ rfl)) fun e w' ⟨r, he, hl, hr, hx⟩ => ⟨by rw [he, hr], grown_of hl hx⟩
theorem cC_swo : SWO (ltOf cmpC) where
  irrefl x := by unfold ltOf; rw [cC_self]; rfl
  trans x y z h1 h2 := by
    unfold ltOf at *
    have h1 := of_decide_eq_true h1
    have h2 := of_decide_eq_true h2
    have r1 := cC_range x y
    have r2 := cC_range y z
    rw [cC_trans (by omega : cmpC x y = -1) (by omega : cmpC y z = -1)]; rfl
  ntrans x y z h1 h2 := by
    unfold ltOf at *
    have h1 := of_decide_eq_false h1
    have h2 := of_decide_eq_false h2
    have a1 := cC_anti x y
    have a2 := cC_anti y z
    have a3 := cC_anti x z
    have r1 := cC_range x y
    have r2 := cC_range y z
    have r3 := cC_range x z
    have := cC_le (a := z) (b := y) (c := x) (by omega) (by omega)
    exact decide_eq_false (by omega)
theorem sort_fn {h : H} {s : Sl} {L : List Cel} {f : Nat} {K : Value → H → Prop} (hf : srfRen.f 6 = f) (ow : Owns h s tn_api_Cell 3 (L.flatMap S_api_Cell.cells)) (hl : L.length < 4611686018427387904)
    (k : ∀ h' L', L'.Perm L → Asc L' → Owns h' s tn_api_Cell 3 (L'.flatMap S_api_Cell.cells) → Only (fun b => s.blk = some b) h h' → K (.tuple #[]) h') : Fn Tryz.prog f [s.enc, (.func (.func no_merge_Compare) #[] #[])].toArray h K := fun w hw => by
  subst hw
  subst hf
  obtain ⟨hlen, ⟨h1, h2, h3⟩ | ⟨g, c, h1, h2, h3, h4, h5, h6⟩⟩ := id ow
  · obtain ⟨sp, sl, sc⟩ := s
    simp only at h1 h2 h3
    subst h1; subst h2; subst h3
    have hs : L = [] := by
      have := hlen
      rw [flat_len _ 3 cC_len] at this
      simp only at this
      exact List.eq_nil_of_length_eq_zero (by omega)
    subst hs
    have hc := AnyF.slices_SortFunc_none srf none 0 (.func (.func no_merge_Compare) #[] #[]) w
    refine callsIn_wide.2 (hc.mono fun e w' ⟨he, hn⟩ => ?_)
    subst he
    subst hn
    exact ⟨_, rfl, Like.refl _, k _ [] (.refl _) List.Pairwise.nil ow (.refl _)⟩
  · obtain ⟨sp, sl, sc⟩ := s
    simp only at h1 h3 h4 h5
    subst h1
    have hsl : sl = L.length := by
      have := hlen
      rw [flat_len _ 3 cC_len] at this
      simp only at this
      omega
    subst hsl
    have hH : HoldsK S_api_Cell.cells 3 w g 0 L.toArray := holds_flat (flat_list cC_len (by omega) L) h2 h6
    have hc := AnyQ.slices_SortFunc srf 3 srf_agg srf_size S_api_Cell.cells cC_len (fun x => ones_S_api_Cell x) cmpC cC_swo no_merge_Compare #[] g 0 sc L.toArray w no_merge_Compare_call (cmp_lays g 0 L.toArray.size w) hH (Array.getElem?_eq_some_iff.1 h2).1 (by rw [List.size_toArray]; exact hl)
    rw [List.size_toArray] at hc
    refine callsIn_wide.2 (hc.mono fun e w' ⟨he, d', n, os, hp, hsd, hn⟩ => ?_)
    subst he
    have hd : d'.size = L.length := by rw [hp.1, List.size_toArray]
    have hpm : d'.toList.Perm L := by
      have := hp.2.2
      rw [Array.extract_eq_self_of_le (by omega), Array.extract_eq_self_of_le (by simp)] at this
      simpa using this
    have hasc : Asc d'.toList := by
      refine List.pairwise_iff_getElem.2 fun i j hi hj hij => ?_
      rw [Array.length_toList] at hi hj
      have := hsd i j (Nat.zero_le _) hij (by omega)
      rw [getElem!_pos d' i hi, getElem!_pos d' j hj] at this
      unfold ltOf at this
      have := of_decide_eq_false this
      have a1 := cC_anti d'[i] d'[j]
      simp only [Array.getElem_toList]
      omega
    have hfl : (flatK S_api_Cell.cells 3 d').toList = d'.toList.flatMap S_api_Cell.cells := by
      have := flat_list (f := S_api_Cell.cells) (k := 3) cC_len (by omega) d'.toList
      simpa using this
    have hg : w.grownBy w' (some g) := by rw [hn]; exact grownBy_flat _
    have hso := heap_flat (n := n) (os := os) (flatK S_api_Cell.cells 3 d') h2
    have hso' : w'.heap[g]? = some (Obj.cells (putCells id 0 (flatK S_api_Cell.cells 3 d') c) tn_api_Cell (0, 0)) := by rw [hn]; exact hso
    have hdl : d'.toList.length = L.length := by rw [Array.length_toList, hd]
    refine ⟨_, rfl, ⟨hg.os, hg.tape, hg.output, by rw [hn]; exact Nat.le_add_right _ _⟩, k _ d'.toList hpm hasc ⟨?_, .inr ⟨g, _, rfl, hso', ?_, h4, h5, ?_⟩⟩ ((heap_ext hg).mono fun b _ e => by simpa [Sl.blk] using e)⟩
    · rw [flat_len _ 3 cC_len, hdl]
    · simp only [putCells]; simpa using h3
    · rw [← hfl]
      exact take_flat c _ (by rw [size_flatK, hd, h3]; exact Nat.mul_le_mul_right _ h4)
end Go.Proofs.YtoccbnhahaoeiaaGreat.V.S
namespace Go.Proofs.YtoccbnhahaoeiaaGreat.V
open Go
set_option linter.unusedVariables false
set_option linter.unusedSimpArgs false
theorem setCells_heap (b : Nat) : ∀ (vs : List Value) (o i : Nat) (w : World), (w.setCells b (o + i) vs).heap = setHs w.heap ⟨b, o, none⟩ vs i
  | [], _, _, _ => rfl
  | v :: r, o, i, w => by
    show ((w.setCell ⟨b, o + i, none⟩ v).setCells b (o + (i + 1)) r).heap = setHs (setH w.heap ((⟨b, o, none⟩ : Addr).add i) v) ⟨b, o, none⟩ r (i + 1)
    rw [add_lit, setCells_heap b r o (i + 1)]
    rfl
theorem setCells_like (b : Nat) : ∀ (vs : List Value) (o : Nat) (w : World), Like w (w.setCells b o vs)
  | [], _, w => Like.refl w
  | v :: r, o, w => Like.trans (b := w.setCell ⟨b, o, none⟩ v) ⟨rfl, rfl, rfl, Nat.le_refl _⟩ (setCells_like b r (o + 1) _)
theorem flat_take {α : Type} (f : α → List Value) (k : Nat) (hf : ∀ x, (f x).length = k) : ∀ (L : List α) (i : Nat), i ≤ L.length → (L.flatMap f).take (i * k) = (L.take i).flatMap f
  | L, 0, _ => by simp
  | [], i + 1, h => by simp at h
  | x :: r, i + 1, h => by
    have ih := flat_take f k hf r i (by simpa using h)
    rw [List.flatMap_cons, List.take_succ_cons, List.flatMap_cons, ← ih, Nat.add_mul, Nat.one_mul, Nat.add_comm, ← hf x, List.take_length_add_append]
section
variable {P : Program} {α : Type} {f : α → List Value} {kk : Nat} {e t ty : TypeId} {bytes : Nat} {z : Value} {h : H} {s : Sl} {D : List α}
/-- The first of what a slice owns. -/
theorem own_first (hf : ∀ x, (f x).length = kk) (hk : 0 < kk) (w : Owns h s e kk (D.flatMap f)) {i : Nat} (hi : i ≤ D.length) : Owns h (slcut s 0 i kk) e kk ((D.take i).flatMap f) := by
  have hsl := own_len hf hk w
  have hll : ((D.take i).flatMap f).length = i * kk := by rw [flat_len f kk hf, List.length_take, Nat.min_eq_left hi]
  obtain ⟨hl, ⟨h1, h2, h3⟩ | ⟨b, c, h1, h2, h3, h4, h5, h6⟩⟩ := w
  · refine ⟨by rw [hll]; rfl, .inl ⟨by simp only [slcut]; rw [h1]; split <;> rfl, by simp only [slcut]; omega, by simp only [slcut]; omega⟩⟩
  · refine ⟨by rw [hll]; rfl, .inr ⟨b, c, by simp only [slcut]; rw [h1]; split <;> simp [add_lit], h2, by simp only [slcut]; simpa using h3, by simp only [slcut]; omega, by simp only [slcut]; omega, ?_⟩⟩
    rw [hll, ← flat_take f kk hf D i hi, ← h6, List.take_take, Nat.min_eq_left]
    rw [flat_len f kk hf]
    exact Nat.mul_le_mul_right _ hi
/-- clear of what is behind the first i. -/
theorem clear_own {K : H → Prop} (el : El P t e kk bytes z) (hf : ∀ x, (f x).length = kk) (hk : 0 < kk) (one : ∀ v ∈ z.cells.toList, v.oneCell' = true) (w : Owns h s e kk (D.flatMap f)) {i : Nat} (hi : i ≤ D.length)
    (k : ∀ h', Only (fun b => s.blk = some b) h h' → Owns h' (slcut s 0 i kk) e kk ((D.take i).flatMap f) → K h') : RunS P (Builtin.clear_ #[t] ty #[(slcut s i s.len kk).enc]) h fun u h' => u = (.tuple #[]) ∧ K h' := by
  have hsl := own_len hf hk w
  intro w0 hw
  subst hw
  obtain ⟨inf, hinf, hz, hsz, hby⟩ := el.info
  have hzv : (zeroValue e).run P w0 = .ok z w0 := by
    simp [zeroValue, typeInfo, hinf, hz, go_sem]
  by_cases hn : i = D.length
  · refine ⟨.tuple #[], w0, ?_, Like.refl _, rfl, k _ (.refl _) (own_first hf hk w hi)⟩
    rw [hsl, hn]
    simp only [slcut, Sl.enc, Nat.sub_self]
    generalize (if s.cap = D.length then s.ptr else s.ptr.map fun x => x.add (D.length * kk)) = p
    cases p with
    | none => simp [Builtin.clear_, run_underlying el.slice]
    | some a => simp [Builtin.clear_, run_underlying el.slice]
  · have own1 := own_first hf hk w hi
    obtain ⟨hl, ⟨h1, h2, h3⟩ | ⟨b, c, h1, h2, h3, h4, h5, h6⟩⟩ := w
    · omega
    obtain ⟨sp, sl, sc⟩ := s
    simp only at h1 h3 h4 h5 hsl hl
    subst h1
    have hvl : (Builtin.zeroCells z.cells (sl - i)).toList.length = (sl - i) * kk := by simp [Builtin.zeroCells, el.zero]
    have hbound : i * kk + (sl - i) * kk ≤ c.size := by
      rw [← Nat.add_mul, h3]; exact Nat.mul_le_mul_right _ (by omega)
    have hst := run_storeCells_cells (P := P) b (i * kk) (Builtin.zeroCells z.cells (sl - i)).toList 0 w0 (fun j hj => by
        rw [hvl] at hj
        have : cellH w0.heap ⟨b, i * kk + 0 + j, none⟩ = some c[i * kk + 0 + j] := Blk.cell (h := w0.heap) h2 (Array.getElem?_eq_getElem (by omega))
        show (cellH w0.heap ⟨b, i * kk + 0 + j, none⟩).isSome = true
        rw [this]; rfl) (fun j hj => Blk.frozen (h := w0.heap) h2) (fun v hv => by
        simp only [Builtin.zeroCells, Array.toList_map, List.mem_map, Array.toList_range] at hv
        obtain ⟨j, _, rfl⟩ := hv
        have hm : j % z.cells.size < z.cells.size := Nat.mod_lt _ (by rw [el.zero]; exact hk)
        rw [getElem!_pos z.cells _ hm]
        exact one _ (by rw [Array.mem_toList_iff]; exact Array.getElem_mem hm))
    have hr : (Builtin.clear_ #[t] ty #[(slcut ⟨some ⟨b, 0, none⟩, sl, sc⟩ i sl kk).enc]).run P w0 = .ok (.tuple #[]) (w0.setCells b (i * kk + 0) (Builtin.zeroCells z.cells (sl - i)).toList) := by
      obtain ⟨m, hm⟩ : ∃ m, sl - i = m + 1 := ⟨sl - i - 1, by omega⟩
      simp only [slcut, Sl.enc]
      rw [if_neg (show ¬ sc = i by omega)]
      rw [hm] at hst ⊢
      simp only [Option.map_some, add_lit, Nat.zero_add]
      simp [Builtin.clear_, run_underlying el.slice, hzv, hst]
    obtain ⟨a1, a2, a3⟩ := setHs_blk (h := w0.heap) h2 (i * kk) (Builtin.zeroCells z.cells (sl - i)).toList 0
    refine ⟨_, _, hr, setCells_like b _ _ w0, rfl, k _ ?_ ?_⟩
    · rw [setCells_heap]
      exact a2.mono fun n _ e => by subst e; simp [Sl.blk]
    · rw [setCells_heap]
      obtain ⟨q1, q2⟩ := own1
      refine ⟨q1, .inr ⟨b, _, by simp only [slcut]; split <;> simp [add_lit], a1, by rw [writeA_size]; simp only [slcut]; simpa using h3, by simp only [slcut]; omega, by simp only [slcut]; omega, ?_⟩⟩
      have hll : ((D.take i).flatMap f).length = i * kk := by rw [flat_len f kk hf, List.length_take, Nat.min_eq_left hi]
      rw [hll, ← flat_take f kk hf D i hi, ← h6]
      apply List.ext_getElem?
      intro j
      by_cases hj : j < i * kk
      · have hb2 : i * kk ≤ (D.flatMap f).length := by rw [flat_len f kk hf]; exact Nat.mul_le_mul_right _ hi
        rw [List.getElem?_take_of_lt hj, List.getElem?_take_of_lt hj, List.getElem?_take_of_lt (by omega), Array.getElem?_toList, Array.getElem?_toList, Nat.add_zero, writeA_get (by rw [hvl]; exact hbound), if_pos hj]
      · rw [List.getElem?_take_eq_none (by omega), List.getElem?_take_eq_none (by omega)]
end
end Go.Proofs.YtoccbnhahaoeiaaGreat.V
namespace Go.Proofs.YtoccbnhahaoeiaaGreat.V.S
open Go Go.Proofs.YtoccbnhahaoeiaaGreat.V
set_option linter.unusedVariables false
set_option linter.unusedSimpArgs false
set_option maxRecDepth 20000
theorem copy8 {α : Type} {f : α → List Value} {kk : Nat} {t e : TypeId} {bytes : Nat} {z : Value} {h0 h : H} {s : Sl} {D : List α} {K : Sl → H → Prop} (el : El PP t e kk bytes z) (hf : ∀ x, (f x).length = kk) (hk : 0 < kk) (one : ∀ x, ∀ v ∈ f x, v.oneCell' = true)
    (e0 : Ext h0 h) (w : Reads h s kk (D.flatMap f)) (hl : (0 + D.length + (0 + D.length) / 4 + 256) * bytes ≤ 281474976710656)
    (k : ∀ s' h', Owns h' s' e kk (D.flatMap f) → Mine h s' → Ext h h' → K s' h') :
    newL h #[] e 0 fun s7 h6 => runL PP (Builtin.append_ #[t, t] t #[s7.enc, s.enc]) h6 fun s9 h8 => K s9 h8 := by
  refine newL_of fun n6 h6 hn6 b6 e6 sz6 => ?_
  have w6 : Owns h6 ⟨some ⟨n6, 0, none⟩, 0, 0⟩ e kk (([] : List α).flatMap f) := blk_owns (cs := []) b6 (by simp) (by simp [maxLen])
  refine app_list (L := []) (M := D) hf hk el w6 (w.only e6 fun _ _ f => f) one (by simpa using hl) fun r7 h7 q1 q2 q3 => ?_
  refine k r7 h7 (by simpa using q1) (fun b hb => ?_) (e6.mine (fun b hb => by simp [Sl.blk] at hb; omega) q2)
  rcases q3 with q3 | ⟨b', q3, q4⟩
  · rw [q3] at hb; simp [Sl.blk] at hb; omega
  · rw [q3] at hb; cases hb; have := e6.size; omega
theorem cellAt {h : H} {s : Sl} {A : List Cel} (rd : Reads h s 3 (A.flatMap S_api_Cell.cells)) {i : Nat} {x : Cel} (hx : A[i]? = some x) {K : Addr → Prop} (k : ∀ a, Cells h a x.cells → K a) : idxA s (i : Int) 3 K := by
  obtain ⟨p, p1, p2, p3⟩ := rd_at cC_len (by omega) rd hx
  have hl := rd_len cC_len (by omega) rd
  exact idxR_of (i := i) p1 (by have := (List.getElem?_eq_some_iff.1 hx).1; omega) rfl (k _ p3)
theorem cel_eq {x y : Cel} : ((x.View == y.View) && ((x.Key.toList == y.Key.toList) && ((x.Start == y.Start) && true))) = true ↔ x = y := by
  obtain ⟨a1, ⟨⟨a2⟩⟩, a3⟩ := x
  obtain ⟨b1, ⟨⟨b2⟩⟩, b3⟩ := y
  simp [toList_data, and_assoc]
theorem clone_spec {h : H} {s : Sl} {L : List Cel} {Q : Sl → H → Prop} (rd : Reads h s 3 (L.flatMap S_api_Cell.cells)) (hL : L.length ≤ 1000000) (k : ∀ r h', Owns h' r tn_api_Cell 3 (L.flatMap S_api_Cell.cells) → Mine h r → Ext h h' → Q r h') : F.slices_Clone_Slapi_Cell_api_Cell s h Q := by
  unfold F.slices_Clone_Slapi_Cell_api_Cell
  refine ⟨fun g => ?_, fun _ => copy8 el_Slapi_Cell cC_len (by omega) (fun x => ones_S_api_Cell x) (.refl h) rd (by omega) k⟩
  have hp : s.ptr = none := by simpa using g
  have := rd_len cC_len (by omega) rd
  have h0 := (rd.2.1 hp).1
  have hL : L = [] := List.eq_nil_of_length_eq_zero (by omega)
  subst hL
  exact k _ h (Owns.nil _ _ _) (Mine.nil _ _ _) (.refl _)
theorem Compact_spec {h : H} {s : Sl} {L : List Cel} {Q : Sl → H → Prop} (w : Owns h s tn_api_Cell 3 (L.flatMap S_api_Cell.cells)) (hL : L.length ≤ 1000000)
    (k : ∀ r h', Reads h' r 3 ((cpN L L.length).flatMap S_api_Cell.cells) → Only (fun b => s.blk = some b) h h' → Q r h') : F.slices_Compact_Slapi_Cell_api_Cell s h Q := by
  have hl := own_len cC_len (by omega) w
  unfold F.slices_Compact_Slapi_Cell_api_Cell
  rw [hl]
  refine ⟨fun g => ?_, fun g => ⟨L.length + 1, ?_⟩⟩
  · have g := of_decide_eq_true g
    have : cpN L L.length = L := by
      match L, g with
      | [], _ => rfl
      | [x], _ => simp [cpN]
      | x :: y :: r, g => simp at g; omega
    refine k s h ?_ (.refl _)
    rw [this]; exact w.reads
  have g := of_decide_eq_false g
  -- the inner loop
  have inner : ∀ (i0 : Nat) (hi0 : 1 ≤ i0) (hiL : i0 < L.length) (C1 : Sl → Int → H → Prop) (d j c : Nat) (D : List Cel) (hh : H), Owns hh s tn_api_Cell 3 (D.flatMap S_api_Cell.cells) → Only (fun b => s.blk = some b) h hh → D.length = L.length → 1 ≤ j → i0 + j ≤ L.length → c + 1 ≤ i0 + j → D.take c = cpN L (i0 + j) → (∀ p, i0 + j ≤ p + 1 → D[p]? = L[p]?) → L.length - (i0 + j) < d →
      F.slices_Compact_Slapi_Cell_api_Cell.l2 Q C1 d s (c : Int) (slcut s i0 L.length 3) (j : Int) hh := by
    intro i0 hi0 hiL C1 d
    induction d with
    | zero => intro j c D hh _ _ _ _ _ _ _ _ hm; omega
    | succ d ih =>
      intro j c D hh wD oD hDl hj hij hc htk hrest hm
      have hsl := own_len cC_len (by omega) wD
      unfold F.slices_Compact_Slapi_Cell_api_Cell.l2
      have hlen : ((slcut s i0 L.length 3).len : Int) = ((L.length - i0 : Nat) : Int) := rfl
      rw [hlen]
      have rd2 : Reads hh (slcut s i0 L.length 3) 3 (((D.drop i0).take (L.length - i0)).flatMap S_api_Cell.cells) := cut_reads cC_len (by omega) wD.reads (by omega) (by omega) wD.le_cap
      have get2 : ∀ {q : Nat}, q < L.length - i0 → ((D.drop i0).take (L.length - i0))[q]? = D[i0 + q]? := fun {q} hq => by rw [List.getElem?_take_of_lt hq, List.getElem?_drop]
      refine ⟨fun g2 => ?_, fun g2 => ?_⟩
      · have g2 := of_decide_eq_true g2
        obtain ⟨x, hx⟩ : ∃ x, L[i0 + j]? = some x := ⟨_, List.getElem?_eq_getElem (by omega)⟩
        obtain ⟨y, hy⟩ : ∃ y, L[i0 + j - 1]? = some y := ⟨_, List.getElem?_eq_getElem (by omega)⟩
        have hx2 : ((D.drop i0).take (L.length - i0))[j]? = some x := by rw [get2 (by omega), hrest _ (by omega)]; exact hx
        have hy2 : ((D.drop i0).take (L.length - i0))[j - 1]? = some y := by rw [get2 (by omega), hrest _ (by omega), show i0 + (j - 1) = i0 + j - 1 by omega]; exact hy
        rw [w64 (n := (j : Int) - 1) (by omega) (by omega), show ((j : Int) - 1) = ((j - 1 : Nat) : Int) by omega]
        refine cellAt rd2 hx2 fun a ca => ⟨x, ca, cellAt rd2 hy2 fun a2 ca2 => ⟨y, ca2, fun g3 => ?_, fun g3 => ?_⟩⟩
        · have hne : x ≠ y := fun e => by rw [cel_eq.2 e] at g3; cases g3
          refine cellAt rd2 hx2 fun a3 ca3 => ⟨x, ca3, put_at (D := D) (i := c) (x := x) cC_len (by omega) wD (by omega) fun h30 w30 o30 => ?_⟩
          unfold F.slices_Compact_Slapi_Cell_api_Cell.j3
          rw [w64s (by omega), w64s (by omega)]
          refine ih (j + 1) (c + 1) (D.set c x) h30 w30 (oD.trans o30 fun _ _ e => e) (by rw [List.length_set]; exact hDl) (by omega) (by omega) (by omega) ?_ (fun p hp => ?_) (by omega)
          · have : (D.set c x)[c]? = some x := by rw [List.getElem?_set_self (by omega)]
            rw [tk_snoc this, List.take_set_of_le (by omega), htk, show i0 + (j + 1) = i0 + j + 1 by omega]
            exact (cp_new hx (.inr fun e => hne (by rw [hy] at e; cases e; rfl))).symm
          · rw [List.getElem?_set_ne (by omega)]
            exact hrest p (by omega)
        · have he : x = y := cel_eq.1 (by simpa using g3)
          unfold F.slices_Compact_Slapi_Cell_api_Cell.j3
          rw [w64s (by omega)]
          refine ih (j + 1) c D hh wD oD hDl (by omega) (by omega) (by omega) ?_ (fun p hp => hrest p (by omega)) (by omega)
          rw [htk, show i0 + (j + 1) = i0 + j + 1 by omega]
          exact (cp_same hx (by omega) (by rw [he]; exact hy)).symm
      · have g2 := of_decide_eq_false g2
        have hall : i0 + j = L.length := by omega
        rw [hall] at htk
        refine cutL_of (lo := c) (hi := s.len) rfl rfl (by omega) wD.le_cap ?_
        refine RunS.mono (clear_own (D := D) (i := c) (K := fun h33 => cutL s 0 (c : Int) 3 fun s36 => Q s36 h33) el_Slapi_Cell cC_len (by omega) (fun v hv => ones_S_api_Cell zeroC v hv) wD (by omega) fun h33 o33 w33 => ?_) fun u h' hu => hu
        refine cutL_of (lo := 0) (hi := c) rfl rfl (by omega) (by have := wD.le_cap; omega) ?_
        rw [htk] at w33
        exact k _ h33 w33.reads (oD.trans o33 fun _ _ e => e)
  have outer : ∀ (d i : Nat), 1 ≤ i → i ≤ L.length → cpN L i = L.take i → L.length - i < d → F.slices_Compact_Slapi_Cell_api_Cell.l1 Q d s (i : Int) h := by
    intro d
    induction d with
    | zero => intro i _ _ _ hm; omega
    | succ d ih =>
      intro i h1 hi hcp hm
      unfold F.slices_Compact_Slapi_Cell_api_Cell.l1
      rw [hl]
      refine ⟨fun g2 => ?_, fun g2 => ?_⟩
      · have g2 := of_decide_eq_true g2
        obtain ⟨x, hx⟩ : ∃ x, L[i]? = some x := ⟨_, List.getElem?_eq_getElem (by omega)⟩
        obtain ⟨y, hy⟩ : ∃ y, L[i - 1]? = some y := ⟨_, List.getElem?_eq_getElem (by omega)⟩
        rw [w64 (n := (i : Int) - 1) (by omega) (by omega), show ((i : Int) - 1) = ((i - 1 : Nat) : Int) by omega]
        refine cellAt w.reads hx fun a ca => ⟨x, ca, cellAt w.reads hy fun a2 ca2 => ⟨y, ca2, fun g3 => ?_, fun g3 => ?_⟩⟩
        · have he : x = y := cel_eq.1 g3
          refine cutL_of (lo := i) (hi := L.length) rfl rfl (by omega) (by have := w.le_cap; omega) ⟨L.length, ?_⟩
          refine inner i h1 (by omega) _ L.length 1 i L h w (.refl _) rfl (Nat.le_refl _) (by omega) (by omega) ?_ (fun p _ => rfl) (by omega)
          rw [cp_same hx (by omega) (by rw [he]; exact hy), hcp]
        · have hne : x ≠ y := fun e => by rw [cel_eq.2 e] at g3; cases g3
          rw [w64s (by omega)]
          refine ih (i + 1) (by omega) (by omega) ?_ (by omega)
          rw [cp_new hx (.inr fun e => hne (by rw [hy] at e; cases e; rfl)), hcp, tk_snoc hx]
      · have g2 := of_decide_eq_false g2
        have hall : i = L.length := by omega
        subst hall
        refine k s h ?_ (.refl _)
        rw [hcp, List.take_length]; exact w.reads
  refine outer _ 1 (by omega) (by omega) ?_ (by omega)
  obtain ⟨x, hx⟩ : ∃ x, L[0]? = some x := ⟨_, List.getElem?_eq_getElem (by omega)⟩
  rw [cp_new hx (.inl rfl), tk_snoc hx]; simp [cpN]
theorem need_loop {h : H} {n : Nat} {S : SL} {slots : Nat} {R : Nat → Prop} {ep : Int} {D : List Cel} {s : Sl} {Q : Int → H → Prop} (sh : SH h n S slots R) (rd : Reads h s 3 (D.flatMap S_api_Cell.cells)) (hD : D.length ≤ 1000000) (k : ∀ h', Ext h h' → Q (needD S ep D) h') : ∃ m, F.shard_Shard_Need.l1 Q m (some ⟨n, 0, none⟩) ep 0 s (s.len : Int) 0 h := by
  have hl := rd_len cC_len (by omega) rd
  rw [hl]
  refine ⟨D.length + 1, ?_⟩
  have loop : ∀ (d i : Nat) (hh : H), i ≤ D.length → D.length - i < d → Ext h hh → F.shard_Shard_Need.l1 Q d (some ⟨n, 0, none⟩) ep (needD S ep (D.take i)) s (D.length : Int) (i : Int) hh := by
    intro d
    induction d with
    | zero => intro i _ _ hm; omega
    | succ d ih =>
      intro i hh hi hm e
      unfold F.shard_Shard_Need.l1
      refine ⟨fun g => ?_, fun g => ?_⟩
      · have g := of_decide_eq_true g
        obtain ⟨c, hc⟩ : ∃ c, D[i]? = some c := ⟨_, List.getElem?_eq_getElem (by omega)⟩
        refine cellAt (rd.ext e) hc fun a ca => ⟨c, ca, new_of fun m h1 hm b1 e1 s1 => ?_⟩
        have b1' : Blk h1 m zeroC.cells.toArray tn_api_Cell := b1
        refine st_cel b1' (d := c) fun h3 b3 o3 s3 => ⟨c, b3.cells, ?_⟩
        have e3 : Ext hh h3 := e1.step o3 fun x hx hb => by omega
        obtain ⟨tn, rs, es, T, Z, hZ, z⟩ := sh
        refine need_spec (z.ext (e.trans e3)) fun h4 e4 => ?_
        rw [hZ]
        have hr := need_0 S ep c
        have hq := needD_range S ep (D.take i)
        rw [List.length_take] at hq
        rw [w64 (n := needD S ep (D.take i) + needS S ep c) (by omega) (by omega), w64s (by omega)]
        have := ih (i + 1) h4 (by omega) (by omega) ((e.trans e3).trans e4)
        rw [tk_snoc hc, needD_snoc] at this
        exact this
      · have g := of_decide_eq_false g
        have hall : i = D.length := by omega
        subst hall
        rw [List.take_length]; exact k hh e
  have := loop (D.length + 1) 0 h (by omega) (by omega) (.refl _)
  simpa [needD] using this
/-- What cells would take. -/
theorem Need_spec {h : H} {n : Nat} {S : SL} {slots : Nat} {R : Nat → Prop} {ep : Int} {L : List Cel} {s : Sl} {Q : Int → H → Prop} (sh : SH h n S slots R) (rd : Reads h s 3 (L.flatMap S_api_Cell.cells)) (hL : L.length ≤ 1000000) (k : ∀ h', Ext h h' → Q (needT S ep L) h') : F.shard_Shard_Need (some ⟨n, 0, none⟩) ep s h Q := by
  unfold F.shard_Shard_Need
  refine clone_spec rd hL fun r h1 w1 m1 e1 => sort_fn rfl w1 (by omega) fun h3 L' hp ha w3 o3 => ⟨rfl, ?_⟩
  have hll := hp.length_eq
  refine Compact_spec w3 (by omega) fun r5 h4 rd4 o4 => ?_
  have e3 := e1.mine m1 o3
  have e4 := e3.mine m1 o4
  refine need_loop (sh.ext e4) rd4 (by have := cp_len L' L'.length; omega) fun h5 e5 => ?_
  have := k h5 (e4.trans e5)
  rw [← needT_of (D := cpN L' L'.length) (cp_nodup ha _ (Nat.le_refl _)) fun c => by rw [cp_mem _ (Nat.le_refl _), List.take_length, hp.mem_iff]] at this
  exact this
theorem Fits_spec {h : H} {n : Nat} {S : SL} {slots : Nat} {R : Nat → Prop} {ep : Int} {L : List Cel} {s : Sl} {Q : Bool → H → Prop} (sh : SH h n S slots R) (rd : Reads h s 3 (L.flatMap S_api_Cell.cells)) (hL : L.length ≤ 1000000) (k : ∀ h', Ext h h' → Q (decide ((unitsS S : Int) + needT S ep L ≤ slots)) h') : F.shard_Shard_Fits (some ⟨n, 0, none⟩) ep s h Q := by
  unfold F.shard_Shard_Fits
  have us := sh.us
  have sh' := sh
  obtain ⟨tn, rs, es, T, Z, rfl, z⟩ := sh'
  simp only [nn_some, add_lit, Nat.zero_add, Nat.add_zero]
  rw [ldI_iff z.cs0, ldI_iff z.cs2]
  refine Need_spec sh rd hL fun h9 e9 => ⟨e9.cell z.cs2 fun f => f, e9.cell z.cs0 fun f => f, ?_⟩
  have hq := needD_range (toS Z) ep (ddL L)
  have hd : (ddL L).length ≤ L.length := by
    have : ∀ M : List Cel, (ddL M).length ≤ M.length := fun M => by
      induction M with
      | nil => simp [ddL]
      | cons x r ih => unfold ddL; split <;> simp <;> omega
    exact this L
  have hn : needT (toS Z) ep L = needD (toS Z) ep (ddL L) := rfl
  rw [w64 (by omega) (by omega)]
  exact k h9 e9
end Go.Proofs.YtoccbnhahaoeiaaGreat.V.S
namespace Go.Proofs.YtoccbnhahaoeiaaGreat.V.S
open Go Go.Proofs.YtoccbnhahaoeiaaGreat.V
set_option linter.unusedVariables false
set_option linter.unusedSimpArgs false
set_option maxRecDepth 20000
theorem make0C {n : Nat} {h : H} {K : Sl → H → Prop} (hn : n ≤ 1000000)
    (k : ∀ b h', b = h.size → Owns h' ⟨some ⟨b, 0, none⟩, 0, n⟩ tn_api_Cell 3 [] → Ext h h' → K ⟨some ⟨b, 0, none⟩, 0, n⟩ h') : runL PP (Instr.makeSlice tn_Slapi_Cell (.int .i64 0) (.int .i64 (n : Int))) h K := by
  obtain ⟨i, hi, hz, hsz, hby⟩ := el_Slapi_Cell.info
  intro w hw
  subst hw
  have hr := run_make (P := PP) w tn_Slapi_Cell tn_api_Cell i _ el_Slapi_Cell.slice hi hz .i64 .i64 0 n (by omega) (by omega) (by rw [hby]; omega) (by omega)
  simp only [Int.toNat_natCast, Int.toNat_zero] at hr
  refine ⟨_, _, hr, ⟨rfl, rfl, rfl, by first | exact Nat.le_refl _ | exact Nat.le_succ _⟩, ⟨some ⟨w.heap.size, 0, none⟩, 0, n⟩, rfl, k _ _ rfl ⟨by simp, .inr ⟨_, _, rfl, Blk.new _ _ _, ?_, by simp, by simp [maxLen]; omega, by simp⟩⟩ (.push _ _)⟩
  rw [size_madeCells, hsz]
section
variable {α : Type} {f : α → List Value} {k : Nat} {e : TypeId} {h : H} {s : Sl} {D : List α}
theorem own_ptr (hf : ∀ x, (f x).length = k) (hk : 0 < k) (w : Owns h s e k (D.flatMap f)) (hD : D ≠ []) : ∃ b, s = ⟨some ⟨b, 0, none⟩, D.length, s.cap⟩ := by
  have hl := own_len hf hk w
  have := List.length_pos_iff.2 hD
  obtain ⟨_, ⟨h1, h2, h3⟩ | ⟨b, c, h1, h2, h3, h4, h5, h6⟩⟩ := w
  · omega
  · refine ⟨b, ?_⟩
    obtain ⟨sp, sl, sc⟩ := s
    simp only at h1 hl
    rw [h1, hl]
theorem own_pre {b n c : Nat} (hf : ∀ x, (f x).length = k) (hk : 0 < k) (w : Owns h ⟨some ⟨b, 0, none⟩, D.length, c⟩ e k (D.flatMap f)) (hn : n ≤ D.length) : Owns h ⟨some ⟨b, 0, none⟩, n, c⟩ e k ((D.take n).flatMap f) := by
  have := own_first hf hk w hn
  have he : slcut ⟨some ⟨b, 0, none⟩, D.length, c⟩ 0 n k = ⟨some ⟨b, 0, none⟩, n, c⟩ := by
    simp only [slcut]; split <;> simp [add_lit]
  rwa [he] at this
end
abbrev mkC : Cel := ⟨-77, ⟨#[]⟩, 0⟩
/-- A list lent, in memory of its own, with its mark. -/
abbrev LentC (h : H) (b c : Nat) (L : List Cel) : Prop := Owns h ⟨some ⟨b, 0, none⟩, (L ++ [mkC]).length, c⟩ tn_api_Cell 3 ((L ++ [mkC]).flatMap S_api_Cell.cells)
theorem LentC.reads {h : H} {b c : Nat} {L : List Cel} (w : LentC h b c L) : Owns h ⟨some ⟨b, 0, none⟩, L.length, c⟩ tn_api_Cell 3 (L.flatMap S_api_Cell.cells) := by
  have := own_pre (n := L.length) cC_len (by omega) w (by simp)
  rwa [List.take_left] at this
theorem LendCells_spec {h : H} {s : Sl} {L : List Cel} {Q : Sl → H → Prop} (rd : Reads h s 3 (L.flatMap S_api_Cell.cells)) (hl : L.length ≤ 100000) (k : ∀ b c h', LentC h' b c L → h.size ≤ b → Ext h h' → Q ⟨some ⟨b, 0, none⟩, L.length, c⟩ h') : F.spatelaw7_LendCells s h Q := by
  unfold F.spatelaw7_LendCells
  have hlen := rd_len cC_len (by omega) rd
  rw [hlen, show IntKind.wrap .i64 ((L.length : Int) + 3) = ((L.length + 3 : Nat) : Int) by rw [w64 (by omega) (by omega)]; omega]
  refine make0C (by omega) fun b h1 hb w1 e1 => ?_
  refine app_mine (h0 := h) (L := []) (M := L) e1 (fun x hx => by simp [Sl.blk] at hx; omega) cC_len (by omega) el_Slapi_Cell w1 (rd.ext e1) (fun x => ones_S_api_Cell x) (by simp only [List.length_nil]; omega) fun s4 h3 w4 e3 m4 _ _ => ?_
  refine push_mine (x := mkC) e3 m4 cC_len (by omega) el_Slapi_Cell w4 (fun x => ones_S_api_Cell x) (by rw [List.length_append, List.length_nil]; omega) fun s8 h7 w8 e7 m8 _ _ => ?_
  rw [List.nil_append] at w8
  obtain ⟨b8, hb8⟩ := own_ptr cC_len (by omega) w8 (by simp)
  have hc := w8.le_cap
  have hl8 := own_len cC_len (by omega) w8
  rw [List.length_append] at hl8
  refine cutL_of (lo := 0) (hi := L.length) rfl rfl (Nat.zero_le _) (by simp at hl8; omega) ?_
  have he : slcut s8 0 L.length 3 = ⟨some ⟨b8, 0, none⟩, L.length, s8.cap⟩ := by
    rw [hb8]; simp only [slcut]; split <;> simp [add_lit]
  rw [he]
  refine k b8 s8.cap h7 (by rw [hb8] at w8; exact w8) (m8 b8 (by rw [hb8]; rfl)) e7
end Go.Proofs.YtoccbnhahaoeiaaGreat.V.S
namespace Go.Proofs.YtoccbnhahaoeiaaGreat.V.S
open Go Go.Proofs.YtoccbnhahaoeiaaGreat.V
set_option linter.unusedVariables false
set_option linter.unusedSimpArgs false
set_option maxRecDepth 20000
theorem get_put (S : SL) (e : Int) (c : Cel) (a : S_api_Agg) (d : Cel) : getS (putS S e c a) d = if cmpC c d = 0 then some (C.layM ((getS S c).getD []) ⟨e, a, false⟩) else getS S d := by
  unfold putS getS setS
  rw [getK_set]
  by_cases h : cmpC c d = 0
  · rw [if_pos h, if_pos h]; rfl
  · rw [if_neg h, if_neg h]
theorem need_put_ne {S : SL} {e e' : Int} {c d : Cel} {a : S_api_Agg} (h : c ≠ d) : needS (putS S e c a) e' d = needS S e' d := by
  unfold needS; rw [get_put, if_neg (fun g => h (cC_zero.1 g))]
theorem need_put_eq {S : SL} {e : Int} {c : Cel} {a : S_api_Agg} : needS (putS S e c a) e c = 0 := by
  unfold needS
  split
  · rfl
  · rw [get_put, if_pos (cC_self c)]
    unfold needV alive
    simp only
    rw [lay_newest]
    simp
theorem needD_app (S : SL) (e : Int) (A B : List Cel) : needD S e (A ++ B) = needD S e A + needD S e B := by
  unfold needD; rw [List.map_append, List.sum_append]
theorem needD_take (S : SL) (e : Int) (U : List Cel) (j : Nat) : needD S e (U.take j) ≤ needD S e U := by
  have := needD_app S e (U.take j) (U.drop j)
  rw [List.take_append_drop] at this
  have := (needD_range S e (U.drop j)).1
  omega
theorem needD_zero {S : SL} {e : Int} : ∀ {U : List Cel}, (∀ c ∈ U, needS S e c = 0) → needD S e U = 0
  | [], _ => rfl
  | c :: U, h => by
    have ih := needD_zero (S := S) (e := e) (U := U) fun d hd => h d (by simp [hd])
    have hc := h c (by simp)
    unfold needD at ih ⊢
    rw [List.map_cons, List.sum_cons, ih, hc]; rfl
theorem EB.put {S : SL} {ep : Int} (h : EB S ep) (hs : SortS S) {c : Cel} {a : S_api_Agg} : EB (putS S ep c a) ep := h.lay hs (Int.le_refl _)
theorem EB.apply_le {S : SL} {ep e : Int} (h : EB S ep) (hs : SortS S) (he : e ≤ ep) {slots : Nat} {y : St} : EB (applyM S slots e y).2 ep := by
  unfold applyM
  split
  · simp only
    split
    · exact h.lay hs he
    · exact h
  · split
    · simp only
      split
      · exact h.prune _
      · exact h
    · simp only
      split
      · exact h.lay hs he
      · exact h
theorem ShardTogether_spec {slots0 : Int} {l cl : Sl} {L : List St} {CL : List Cel} {h : H} {Q : Bool → H → Prop} (rd : Reads h l 15 (L.flatMap fun y => y.x.cells)) (ok : ∀ y ∈ L, StOk h y) (hL : L.length ≤ 9223372036854775807)
    (rc : Reads h cl 3 (CL.flatMap S_api_Cell.cells)) (hC : CL.length ≤ 9223372036854775807) (k : ∀ h', Ext h h' → Q true h') : F.spatelaw7_ShardTogether slots0 l cl h Q := by
  unfold F.spatelaw7_ShardTogether
  have hl := rd_len (f := fun y : St => y.x.cells) step_len (by omega) rd
  have hcl := rd_len cC_len (by omega) rc
  refine within_spec (by omega) (by omega) ?_
  have r1 := within_range (a := slots0) (m := 40) (by omega)
  generalize hsl : withinM slots0 40 = sl at r1 ⊢
  rw [w64 (n := 2 + sl) (by omega) (by omega)]
  refine New_spec (R := fun b => h.size ≤ b) (fun g => by omega) (fun b hb => hb) fun _ _ h1 nd sh1 e1 hnd => ⟨fun g => by simp at g, fun _ => ⟨fun g => by simp at g, fun _ => ?_⟩⟩
  have hx0 : 2 + sl = (((2 + sl).toNat : Nat) : Int) := by omega
  generalize (2 + sl).toNat = slots at sh1 hx0
  unfold F.spatelaw7_ShardTogether.j10 F.spatelaw7_ShardTogether.j1
  refine ⟨fun _ => head_spec fun h' e' => k h' (e1.trans e'), fun g60 => ?_⟩
  have g60 := of_decide_eq_false g60
  rw [hcl] at g60
  have hR : ∀ {hh : H}, Ext h hh → ∀ b, hh.size ≤ b → h.size ≤ b := fun e b hb => by have := e.size; omega
  -- all are put
  have puts : ∀ (U : List Cel) (x10 : Sl) (S0 : SL) (h0 : H), U.Nodup → (∀ c ∈ U, okC c = 0) → U.length ≤ 60 → EB S0 6 → (unitsS S0 : Int) + needD S0 6 U ≤ slots → SH h0 nd S0 slots (fun b => h.size ≤ b) → Owns h0 x10 tn_api_Cell 3 (U.flatMap S_api_Cell.cells) → Ext h h0 →
      ∃ m, F.spatelaw7_ShardTogether.l9 Q m (some ⟨nd, 0, none⟩) x10 (needD S0 6 U) (unitsS S0 : Int) 0 h0 := by
    intro U x10 S0 h0 hnd' hok hU hEB hfit sh0 wx e0
    have hx := own_len cC_len (by omega) wx
    have hu0 := sh0.us
    have hnr := needD_range S0 6 U
    have loop : ∀ (d j : Nat) (S : SL) (hh : H), j ≤ U.length → U.length - j < d → SH hh nd S slots (fun b => h.size ≤ b) → Owns hh x10 tn_api_Cell 3 (U.flatMap S_api_Cell.cells) → Ext h hh → EB S 6 → (unitsS S : Int) = unitsS S0 + needD S0 6 (U.take j) → (∀ c ∈ U.take j, needS S 6 c = 0) → (∀ c, c ∉ U.take j → needS S 6 c = needS S0 6 c) →
        F.spatelaw7_ShardTogether.l9 Q d (some ⟨nd, 0, none⟩) x10 (needD S0 6 U) (unitsS S0 : Int) (j : Int) hh := by
      intro d
      induction d with
      | zero => intro j _ _ _ hm; omega
      | succ d ih =>
        intro j S hh hj hm sh wx eh heb hus hz hnz
        unfold F.spatelaw7_ShardTogether.l9
        rw [hx]
        refine ⟨fun g => ?_, fun g => ?_⟩
        · have g := of_decide_eq_true g
          obtain ⟨c, hc⟩ : ∃ c, U[j]? = some c := ⟨_, List.getElem?_eq_getElem (by omega)⟩
          have hco := hok c (List.mem_of_getElem? hc)
          have hni : c ∉ U.take j := fun hm => by
            have h2 := hnd'
            rw [← List.take_append_drop j U, List.nodup_append] at h2
            have hd : c ∈ U.drop j := List.mem_of_getElem? (i := 0) (by rw [List.getElem?_drop]; exact hc)
            exact h2.2.2 c hm c hd rfl
          have hle := needD_take S0 6 U (j + 1)
          rw [tk_snoc hc, needD_snoc] at hle
          have hn := hnz c hni
          refine cellAt wx.reads hc fun a ca => ⟨c, ca, one_spec fun h70 e70 => ⟨fun i v hv => e70.cell (ca i v hv) fun f => f, ?_⟩⟩
          have sh70 := sh.ext e70
          rcases room_put (v := (j : Int)) sh.ok (slots := slots) heb (by omega) (by omega) hco with ⟨q1, q2, q3⟩ | ⟨q1, q2⟩
          · refine Put_spec (x := ⟨c, oneA (j : Int)⟩) sh70 (right_one' _) (hR (eh.trans e70)) (fun hne h' e' => absurd q2 hne) fun h0' h' s' o' => ⟨fun g2 => by simp at g2, fun _ => ?_⟩
            rw [w64s (by omega)]
            refine ih (j + 1) _ h' (by omega) (by omega) s' (o'.owns (wx.ext e70) cel_sh) ((eh.trans e70).step o' fun b hb hh => by have := hh.1; omega) (heb.put sh.ok.sort) ?_ (fun d hd => ?_) (fun d hd => ?_)
            · rw [q3, hus, tk_snoc hc, needD_snoc, hn]; omega
            · by_cases hcd : c = d
              · subst hcd; exact need_put_eq
              · rw [need_put_ne hcd]
                rw [tk_snoc hc, List.mem_append] at hd
                rcases hd with hd | hd
                · exact hz d hd
                · exact absurd (List.mem_singleton.1 hd).symm hcd
            · rw [tk_snoc hc, List.mem_append] at hd
              have hcd : c ≠ d := fun e => hd (.inr (by rw [e]; simp))
              rw [need_put_ne hcd]
              exact hnz d fun h => hd (.inl h)
          · exact absurd (show (unitsS S : Int) + needS S 6 c ≤ slots by rw [hus, hn]; omega) q1
        · have g := of_decide_eq_false g
          have hj : j = U.length := by omega
          subst hj
          rw [List.take_length] at hus hz hnz
          simp only [nn_some, add_lit, Nat.add_zero]
          refine Units_spec sh ?_
          rw [w64 (n := (unitsS S0 : Int) + needD S0 6 U) (by omega) (by omega)]
          refine ⟨fun _ => Need_spec sh wx.reads (by omega) fun h81 e81 => ⟨fun _ => head_spec fun h' e' => k h' ((eh.trans e81).trans e'), fun g2 => ?_⟩, fun g2 => by rw [hus] at g2; simp at g2⟩
          rw [← needT_of hnd' fun c => Iff.rfl, needD_zero hz] at g2
          simp at g2
    exact ⟨U.length + 1, loop _ 0 S0 h0 (by omega) (by omega) sh0 wx e0 hEB (by simp [needD]) (fun c hc => by simp at hc) (fun c _ => rfl)⟩
  -- the cells, each once
  have lists : ∀ (S0 : SL), EB S0 6 → ∀ (d i : Nat) (U : List Cel) (x10 : Sl) (hh : H), i ≤ CL.length → CL.length - i < d → U.length ≤ i → U.Nodup → (∀ c ∈ U, okC c = 0) → SH hh nd S0 slots (fun b => h.size ≤ b) → Owns hh x10 tn_api_Cell 3 (U.flatMap S_api_Cell.cells) → Mine h x10 → Ext h hh →
      F.spatelaw7_ShardTogether.l5 Q d slots0 cl (some ⟨nd, 0, none⟩) x10 (i : Int) hh := by
    intro S0 hEB d
    induction d with
    | zero => intro i _ _ _ _ hm; omega
    | succ d ih =>
      intro i U x10 hh hi hm hUi hU hok sh wx mx eh
      have hx := own_len cC_len (by omega) wx
      unfold F.spatelaw7_ShardTogether.l5
      rw [hcl]
      refine ⟨fun g => ?_, fun g => ?_⟩
      · have g := of_decide_eq_true g
        obtain ⟨c0, hc0⟩ : ∃ c, CL[i]? = some c := ⟨_, List.getElem?_eq_getElem (by omega)⟩
        refine cellAt (rc.ext eh) hc0 fun a ca => ⟨c0, ca, few_spec fun h19 e19 => ?_⟩
        have hfo := few_ok c0
        generalize fewC c0 = c at hfo ⊢
        refine new_of fun m h21 hm21 b21 e21 s21 => ?_
        have b21' : Blk h21 m zeroC.cells.toArray tn_api_Cell := b21
        refine st_cel b21' (d := c) fun h23 b23 o23 s23 => ?_
        have z19 := e19.size
        have e23 : Ext hh h23 := (e19.trans e21).step o23 fun x hx hb => by omega
        have sh23 := sh.ext e23
        have wx23 := wx.ext e23
        have eh23 := eh.trans e23
        have next : ∀ (U' : List Cel) (x' : Sl) (h' : H), U'.length ≤ i + 1 → U'.Nodup → (∀ c ∈ U', okC c = 0) → SH h' nd S0 slots (fun b => h.size ≤ b) → Owns h' x' tn_api_Cell 3 (U'.flatMap S_api_Cell.cells) → Mine h x' → Ext h h' →
            F.spatelaw7_ShardTogether.j6 Q (F.spatelaw7_ShardTogether.l5 Q d) slots0 cl (some ⟨nd, 0, none⟩) x' (i : Int) h' := fun U' x' h' q1 q2 q3 q4 q5 q6 q7 => by
          unfold F.spatelaw7_ShardTogether.j6
          rw [w64s (by omega)]
          exact ih (i + 1) U' x' h' (by omega) (by omega) q1 q2 q3 q4 q5 q6 q7
        have inner : ∀ (d2 q : Nat) (bb : Bool), q ≤ U.length → U.length - q < d2 → (bb = true ↔ c ∈ U.take q) → F.spatelaw7_ShardTogether.l7 Q (F.spatelaw7_ShardTogether.l5 Q d) d2 slots0 cl (some ⟨nd, 0, none⟩) x10 (i : Int) ⟨m, 0, none⟩ bb (q : Int) h23 := by
          intro d2
          induction d2 with
          | zero => intro q _ _ hm; omega
          | succ d2 ih2 =>
            intro q bb hq hm2 hbb
            unfold F.spatelaw7_ShardTogether.l7
            rw [hx]
            refine ⟨fun g2 => ?_, fun g2 => ⟨fun g3 => ?_, fun g3 => ?_⟩⟩
            · have g2 := of_decide_eq_true g2
              obtain ⟨u, hu⟩ : ∃ u, U[q]? = some u := ⟨_, List.getElem?_eq_getElem (by omega)⟩
              refine ⟨fun g3 => ?_, fun g3 => ?_⟩
              · unfold F.spatelaw7_ShardTogether.j8
                rw [w64s (by omega)]
                refine ih2 (q + 1) true (by omega) (by omega) ⟨fun _ => ?_, fun _ => rfl⟩
                rw [tk_snoc hu, List.mem_append]; exact .inl (hbb.1 g3)
              · refine cellAt wx23.reads hu fun a1 c1 => ⟨u, c1, c, Blk.cells b23, ?_⟩
                unfold F.spatelaw7_ShardTogether.j8
                rw [w64s (by omega)]
                refine ih2 (q + 1) _ (by omega) (by omega) ?_
                rw [cel_eq, tk_snoc hu, List.mem_append, List.mem_singleton]
                refine ⟨fun e => .inr e.symm, fun e => ?_⟩
                rcases e with e | e
                · rw [hbb.2 e] at g3; cases g3
                · exact e.symm
            · have g2 := of_decide_eq_false g2
              have hq' : q = U.length := by omega
              rw [hq', List.take_length] at hbb
              have hnc : c ∉ U := fun e => by rw [hbb.2 e] at g3; cases g3
              refine ⟨c, Blk.cells b23, ?_⟩
              refine push_mine (x := c) (h0 := h) eh23 mx cC_len (by omega) el_Slapi_Cell wx23 (fun x => ones_S_api_Cell x) (by omega) fun r h37 w37 e37 m37 o37 _ => ?_
              exact next (U ++ [c]) r h37 (by simp; omega) (List.nodup_append.2 ⟨hU, by simp, fun a ha b hb e => hnc (by rw [List.mem_singleton] at hb; rw [← hb, ← e]; exact ha)⟩) (fun d hd => by
                rcases List.mem_append.1 hd with hd | hd
                · exact hok d hd
                · rw [List.mem_singleton.1 hd]; exact hfo) (sh23.oth o37 wx23 cel_sh) w37 m37 e37
            · exact next U x10 h23 (by omega) hU hok sh23 wx23 mx eh23
        exact ⟨U.length + 1, inner _ 0 false (by omega) (by omega) (by simp)⟩
      · -- what they take
        have g := of_decide_eq_false g
        have hul : U.length ≤ 60 := by omega
        have hnT : needT S0 6 U = needD S0 6 U := (needT_of hU fun c => Iff.rfl).symm
        refine LendCells_spec wx.reads (by omega) fun b c h40 w40 hb40 e40 => ?_
        refine Need_spec (sh.ext e40) (LentC.reads w40).reads (by omega) fun h42 e42 => ?_
        rw [hnT]
        have e4042 := e40.trans e42
        have sh42 := sh.ext e4042
        have wx42 := wx.ext e4042
        refine copy8 (h0 := h42) el_Slapi_Cell cC_len (by omega) (fun x => ones_S_api_Cell x) (.refl _) wx42.reads (by omega) fun s47 h46 w47 m47 e46 => ?_
        have wx46 := wx42.ext e46
        refine app_mine (h0 := h42) (L := U) (M := U) e46 m47 cC_len (by omega) el_Slapi_Cell w47 wx46.reads (fun x => ones_S_api_Cell x) (by omega) fun s49 h48 w49 e48 m49 _ _ => ?_
        have sh48 := sh42.ext e48
        refine Need_spec sh48 w49.reads (by simp; omega) fun h50 e50 => ?_
        rw [needT_congr (M := U) (fun x => by simp), hnT]
        refine ⟨fun g2 => by simp at g2, fun _ => ?_⟩
        simp only [nn_some, add_lit, Nat.add_zero]
        have sh50 := sh48.ext e50
        refine Units_spec sh50 ?_
        have wx50 := (wx42.ext e48).ext e50
        have e4250 := e48.trans e50
        refine Fits_spec sh50 wx50.reads (by omega) fun h57 e57 => ?_
        rw [hnT]
        have eh57 := ((eh.trans e4042).trans e4250).trans e57
        have us := sh.us
        have hnr := needD_range S0 6 U
        refine ⟨fun g2 => ?_, fun g2 => ?_⟩
        · have g2 : ¬ (unitsS S0 : Int) + needD S0 6 U ≤ slots := by simpa using g2
          refine within_spec (by omega) (by omega) ?_
          rw [hsl, w64 (n := 2 + sl) (by omega) (by omega), w64 (n := (unitsS S0 : Int) + needD S0 6 U) (by omega) (by omega)]
          exact ⟨fun _ => head_spec fun h' e' => k h' (eh57.trans e'), fun g3 => by have := of_decide_eq_false g3; omega⟩
        · have g2 : (unitsS S0 : Int) + needD S0 6 U ≤ slots := by simpa using g2
          exact puts U x10 S0 h57 hU hok hul hEB g2 (sh50.ext e57) (wx50.ext e57) eh57
  -- the steps
  have steps : ∀ (d i : Nat) (S : SL) (hh : H), i ≤ L.length → L.length - i < d → SH hh nd S slots (fun b => h.size ≤ b) → Ext h hh → EB S 6 → i ≤ 30 → F.spatelaw7_ShardTogether.l2 Q d slots0 l cl (some ⟨nd, 0, none⟩) (i : Int) hh := by
    intro d
    induction d with
    | zero => intro i _ _ _ hm; omega
    | succ d ih =>
      intro i S hh hi hm sh eh heb hi30
      unfold F.spatelaw7_ShardTogether.l2
      rw [hl]
      have done : ∀ (C1 : Int → Sl → Sl → (Option Addr) → Int → H → Prop), F.spatelaw7_ShardTogether.j4 Q C1 slots0 l cl (some ⟨nd, 0, none⟩) (i : Int) false hh := fun C1 => by
        unfold F.spatelaw7_ShardTogether.j4
        exact ⟨fun g => (by cases g), fun _ => ⟨CL.length + 1, lists S heb _ 0 [] _ hh (by omega) (by omega) (by simp) (by simp) (fun c hc => by cases hc) sh (Owns.nil _ _ _) (Mine.nil _ _ _) eh⟩⟩
      refine ⟨fun gg => ?_, fun _ => done _⟩
      have gg := of_decide_eq_true gg
      by_cases g30 : i < 30
      · rw [decide_eq_true (by omega)]
        have hiL : i < L.length := by omega
        obtain ⟨y, hy⟩ : ∃ y, L[i]? = some y := ⟨_, List.getElem?_eq_getElem hiL⟩
        have yok := ok y (List.mem_of_getElem? hy)
        unfold F.spatelaw7_ShardTogether.j4 F.spatelaw7_ShardTogether.j3
        refine ⟨fun _ => ⟨by decide, ?_⟩, fun g => by cases g⟩
        have htd : Int.tdiv (i : Int) 6 = ((i / 6 : Nat) : Int) := rfl
        have h6 : i / 6 ≤ 4 := by omega
        rw [htd, w64 (n := ((i / 6 : Nat) : Int)) (by omega) (by omega), w64 (n := 1 + ((i / 6 : Nat) : Int)) (by omega) (by omega)]
        refine step_at rd eh hy yok sh (hR eh) (fun b hb => by show ¬ h.size ≤ b; omega) fun h' sh' o' => ?_
        rw [w64s (by omega)]
        refine ih (i + 1) _ h' (by omega) (by omega) sh' (eh.step o' fun b hb hh => by have := hh.1; omega) (heb.apply_le sh.ok.sort (by omega)) (by omega)
      · rw [decide_eq_false (by omega)]
        exact done _
  exact ⟨L.length + 1, steps _ 0 [] h1 (by omega) (by omega) sh1 e1 (fun x hx => (by cases hx)) (by omega)⟩
end Go.Proofs.YtoccbnhahaoeiaaGreat.V.S
