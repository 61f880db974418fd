/- Maps with whole numbers as keys, as lists that rise; gone over while they turn; no program; no condition. -/
import Derived.Test.YtgcmojbajjajgaaGreatVu
namespace Go.Proofs.YtgcmojbajjajgaaGreat.V.N
open Go Go.ChangeMaps Go.MapKept Go.Proofs.YtgcmojbajjajgaaGreat.V
set_option linter.unusedVariables false
set_option linter.unusedSimpArgs false
abbrev KL := List (Int × Value)
/-- The keys rise. -/
def SK (L : KL) : Prop := L.Pairwise fun p q => p.1 < q.1
def putS : KL → Int → Value → KL
  | [], k, v => [(k, v)]
  | p :: r, k, v => if k < p.1 then (k, v) :: p :: r else if k = p.1 then (k, v) :: r else p :: putS r k v
def delS (L : KL) (k : Int) : KL := L.filter fun p => p.1 != k
theorem SK.nodup {L : KL} (s : SK L) : (L.map (·.1)).Nodup := by
  rw [List.nodup_iff_pairwise_ne, List.pairwise_map]
  exact s.imp fun h => by omega
theorem mem_putS {k : Int} {v : Value} {p : Int × Value} : ∀ {L : KL}, SK L → (p ∈ putS L k v ↔ p = (k, v) ∨ (p ∈ L ∧ p.1 ≠ k))
  | [], _ => by simp [putS]
  | q :: r, s => by
    have s2 : SK r := (List.pairwise_cons.1 s).2
    have s1 := (List.pairwise_cons.1 s).1
    unfold putS
    split
    · rename_i h
      simp only [List.mem_cons]
      constructor
      · rintro (h1 | h1 | h1)
        · exact .inl h1
        · subst h1; exact .inr ⟨.inl rfl, by omega⟩
        · have := s1 p h1; exact .inr ⟨.inr h1, by omega⟩
      · rintro (h1 | ⟨h1, _⟩)
        · exact .inl h1
        · exact .inr h1
    · split
      · rename_i h1 h2
        simp only [List.mem_cons]
        constructor
        · rintro (h3 | h3)
          · exact .inl h3
          · have := s1 p h3; exact .inr ⟨.inr h3, by omega⟩
        · rintro (h3 | ⟨h3 | h3, h4⟩)
          · exact .inl h3
          · subst h3; omega
          · exact .inr h3
      · rename_i h1 h2
        simp only [List.mem_cons, mem_putS s2]
        constructor
        · rintro (h3 | h3 | ⟨h3, h4⟩)
          · subst h3; exact .inr ⟨.inl rfl, by omega⟩
          · exact .inl h3
          · exact .inr ⟨.inr h3, h4⟩
        · rintro (h3 | ⟨h3 | h3, h4⟩)
          · exact .inr (.inl h3)
          · exact .inl h3
          · exact .inr (.inr ⟨h3, h4⟩)
theorem sk_putS {k : Int} {v : Value} : ∀ {L : KL}, SK L → SK (putS L k v)
  | [], _ => by simp [putS, SK]
  | q :: r, s => by
    have s2 : SK r := (List.pairwise_cons.1 s).2
    have s1 := (List.pairwise_cons.1 s).1
    unfold putS
    split
    · rename_i h
      refine List.pairwise_cons.2 ⟨fun p hp => ?_, s⟩
      rcases List.mem_cons.1 hp with rfl | hp
      · exact h
      · have := s1 p hp; show k < p.1; omega
    · split
      · rename_i h1 h2
        exact List.pairwise_cons.2 ⟨fun p hp => by have := s1 p hp; show k < p.1; omega, s2⟩
      · rename_i h1 h2
        refine List.pairwise_cons.2 ⟨fun p hp => ?_, sk_putS s2⟩
        rcases (mem_putS s2).1 hp with rfl | ⟨hp, _⟩
        · show q.1 < k; omega
        · exact s1 p hp
theorem sk_delS {k : Int} {L : KL} (s : SK L) : SK (delS L k) := List.Pairwise.filter _ s
theorem mem_delS {k : Int} {p : Int × Value} {L : KL} : p ∈ delS L k ↔ p ∈ L ∧ p.1 ≠ k := by simp [delS]
/-! ### The lists as they come -/
theorem mem_getK {k : Int} {v : Value} : ∀ {M : KL}, (M.map (·.1)).Nodup → (getK M k = some v ↔ (k, v) ∈ M)
  | [], _ => by simp [getK]
  | q :: r, h => by
    rw [List.map_cons, List.nodup_cons] at h
    unfold getK
    rw [List.find?_cons]
    by_cases e : k = q.1
    · subst e
      simp only [beq_self_eq_true, Option.map_some, Option.some.injEq, List.mem_cons]
      constructor
      · intro h1; subst h1; exact .inl rfl
      · rintro (h1 | h1)
        · have := congrArg Prod.snd h1; exact this.symm
        · exact absurd (List.mem_map.2 ⟨_, h1, rfl⟩) h.1
    · have e' : (k == q.1) = false := by simpa using e
      rw [e']
      have := mem_getK (k := k) (v := v) h.2
      unfold getK at this
      simp only [List.mem_cons]
      rw [this]
      constructor
      · exact .inr
      · rintro (h1 | h1)
        · subst h1; exact absurd rfl e
        · exact h1
theorem getK_congr {k : Int} {M L : KL} (hm : (M.map (·.1)).Nodup) (hp : M.Perm L) : getK M k = getK L k := by
  have hl : (L.map (·.1)).Nodup := (hp.map _).nodup_iff.1 hm
  apply Option.ext
  intro v
  rw [mem_getK hm, mem_getK hl]
  exact hp.mem_iff
theorem mem_putK {k : Int} {v : Value} {p : Int × Value} {M : KL} (hm : (M.map (·.1)).Nodup) : p ∈ putK M k v ↔ p = (k, v) ∨ (p ∈ M ∧ p.1 ≠ k) := by
  unfold putK
  rcases getK_pos (M := M) (k := k) with ⟨h1, h2⟩ | ⟨i, q, h1, hq, hk, h2⟩
  · rw [h1]
    simp only [List.mem_append, List.mem_singleton]
    constructor
    · rintro (h | h)
      · exact .inr ⟨h, none_keys h1 p h⟩
      · exact .inl h
    · rintro (h | ⟨h, _⟩)
      · exact .inr h
      · exact .inl h
  · rw [h1]
    subst hk
    have hi := (List.getElem?_eq_some_iff.1 hq).1
    simp only []
    constructor
    · intro h
      obtain ⟨j, hj⟩ := List.mem_iff_getElem?.1 h
      rw [List.getElem?_set] at hj
      split at hj
      · rename_i e; subst e; simp [hi] at hj; exact .inl hj.symm
      · rename_i e
        refine .inr ⟨List.mem_iff_getElem?.2 ⟨j, hj⟩, fun he => e ?_⟩
        have a1 : (M.map (·.1))[i]? = some q.1 := by rw [List.getElem?_map, hq]; rfl
        have a2 : (M.map (·.1))[j]? = some q.1 := by rw [List.getElem?_map, hj]; simp [he]
        exact (List.getElem?_inj (by simpa using hi) hm).1 (a1.trans a2.symm)
    · rintro (h | ⟨h, hne⟩)
      · subst h; exact List.mem_iff_getElem?.2 ⟨i, by rw [List.getElem?_set]; simp [hi]⟩
      · obtain ⟨j, hj⟩ := List.mem_iff_getElem?.1 h
        refine List.mem_iff_getElem?.2 ⟨j, ?_⟩
        rw [List.getElem?_set]
        split
        · rename_i e; subst e; rw [hq] at hj; cases hj; exact absurd rfl hne
        · exact hj
theorem mem_delK {k : Int} {p : Int × Value} {M : KL} (hm : (M.map (·.1)).Nodup) : p ∈ delK M k ↔ p ∈ M ∧ p.1 ≠ k := by
  unfold delK
  rcases getK_pos (M := M) (k := k) with ⟨h1, h2⟩ | ⟨i, q, h1, hq, hk, h2⟩
  · rw [h1]
    exact ⟨fun h => ⟨h, none_keys h1 p h⟩, fun h => h.1⟩
  · rw [h1]
    subst hk
    have hi := (List.getElem?_eq_some_iff.1 hq).1
    have hinj : ∀ j, M[j]? = some p → p.1 = q.1 → j = i := fun j hj he => by
      have a1 : (M.map (·.1))[i]? = some q.1 := by rw [List.getElem?_map, hq]; rfl
      have a2 : (M.map (·.1))[j]? = some q.1 := by rw [List.getElem?_map, hj]; simp [he]
      exact ((List.getElem?_inj (by simpa using hi) hm).1 (a1.trans a2.symm)).symm
    simp only []
    rw [List.mem_eraseIdx_iff_getElem?]
    constructor
    · rintro ⟨j, hne, hj⟩
      exact ⟨List.mem_iff_getElem?.2 ⟨j, hj⟩, fun he => hne (hinj j hj he)⟩
    · rintro ⟨h, hne⟩
      obtain ⟨j, hj⟩ := List.mem_iff_getElem?.1 h
      exact ⟨j, fun e => by subst e; rw [hq] at hj; cases hj; exact hne rfl, hj⟩
theorem nodup_keys {M : KL} (h : (M.map (·.1)).Nodup) : M.Nodup := nodup_of h
theorem perm_of_mem {M L : KL} (hm : (M.map (·.1)).Nodup) (hl : (L.map (·.1)).Nodup) (h : ∀ p, p ∈ M ↔ p ∈ L) : M.Perm L :=
  (List.perm_ext_iff_of_nodup (nodup_keys hm) (nodup_keys hl)).2 h
/-! ### A map that has these entries, put into order -/
def MS (h : H) (b : Nat) (L : KL) : Prop := ∃ M, MapH h b M ∧ M.Perm L ∧ SK L
theorem MapH.keys {h : H} {b : Nat} {M : KL} (m : MapH h b M) : (M.map (·.1)).Nodup := by obtain ⟨_, _, _, r⟩ := m; exact r.keys
theorem MS.only {S : Nat → Prop} {h h' : H} {b : Nat} {L : KL} (m : MS h b L) (o : Only S h h') (hn : ¬ S b) : MS h' b L := by
  obtain ⟨M, m, p, s⟩ := m; exact ⟨M, m.only o hn, p, s⟩
theorem MS.ext {h h' : H} {b : Nat} {L : KL} (m : MS h b L) (o : Ext h h') : MS h' b L := m.only o fun e => e
theorem MS.lt {h : H} {b : Nat} {L : KL} (m : MS h b L) : b < h.size := by obtain ⟨M, m, _⟩ := m; exact m.lt
theorem MS.sk {h : H} {b : Nat} {L : KL} (m : MS h b L) : SK L := by obtain ⟨M, m, _, s⟩ := m; exact s
theorem MS.not_blk {h : H} {b : Nat} {L : KL} (m : MS h b L) {c : Array Value} {e : TypeId} : ¬ Blk h b c e := fun k => by
  obtain ⟨M, ⟨es, clock, hb, _⟩, _⟩ := m
  unfold Blk at k; rw [hb] at k; cases k
section
variable {P : Program} {h : H} {b : Nat} {L : KL} {t kt et : TypeId}
theorem makeS_of {r : Option Value} {K : Value → H → Prop} (hr : r = none ∨ ((∃ n k, r = some (.int k n)) ∧ P.underlying t = some (.map kt et)))
    (k : ∀ b h', b = h.size → MS h' b [] → Ext h h' → h'.size = h.size + 1 → K (.map (some b)) h') : RunS P (Instr.makeMap t r) h K :=
  makeM_of hr fun m e => k _ _ rfl ⟨[], m, .refl _, by simp [SK]⟩ e (by simp)
theorem lookS_of {k : Int} {ok : Bool} {z : Value} {K : Value → H → Prop} (ht : P.underlying t = some (.map kt et)) (hk : P.underlying kt = some (.int .i64)) (hz : ∀ w, (zeroValue et).run P w = .ok z w) (m : MS h b L)
    (kk : K (if ok then .tuple #[(getK L k).getD z, .bool (getK L k).isSome] else (getK L k).getD z) h) : RunS P (Instr.lookup t (.map (some b)) (.int .i64 k) ok) h K := by
  obtain ⟨M, m, p, s⟩ := m
  exact lookM_of ht hk hz m (by rw [getK_congr m.keys p]; exact kk)
theorem lenS_of {K : Value → H → Prop} (ht : P.underlying t = some (.map kt et)) (m : MS h b L) {ty : TypeId} (kk : K (.int .i64 (L.length : Int)) h) : RunS P (Builtin.len_ #[t] ty #[.map (some b)]) h K := by
  obtain ⟨M, m, p, s⟩ := m
  exact lenM_of ht m (by rw [p.length_eq]; exact kk)
theorem updS_of {k : Int} {v : Value} {K : Unit → H → Prop} (ht : P.underlying t = some (.map kt et)) (hk : P.underlying kt = some (.int .i64)) (m : MS h b L)
    (kk : ∀ h', MS h' b (putS L k v) → Only (· = b) h h' → h'.size = h.size → K () h') : RunS P (Instr.mapUpdate t (.map (some b)) (.int .i64 k) v) h K := by
  obtain ⟨M, m, p, s⟩ := m
  refine updM_of ht hk m fun h' m' o e => kk h' ⟨_, m', ?_, sk_putS s⟩ o e
  refine perm_of_mem m'.keys (sk_putS s).nodup fun q => ?_
  rw [mem_putK m.keys, mem_putS s, p.mem_iff]
/-- What a deletion leaves. -/
theorem del_run {k : Int} {K : Value → H → Prop} {ty : TypeId} (ht : P.underlying t = some (.map kt et)) (hk : P.underlying kt = some (.int .i64)) {es : Array MapEntry} {clock : Nat} {M : KL} (hb : h[b]? = some (.map es clock)) (r : MpRep es clock M)
    (kk : ∀ h' es', h'[b]? = some (.map es' clock) → MpRep es' clock (delK M k) → (∀ e ∈ es'.toList, e ∈ es.toList) → Only (· = b) h h' → h'.size = h.size → K (.tuple #[]) h') : RunS P (Builtin.delete_ #[t, kt] ty #[.map (some b), .int .i64 k]) h K := fun w hw => by
  subst hw
  have hset : ∀ o : Obj, Only (· = b) w.heap (setBlock w b o).heap ∧ (setBlock w b o).heap.size = w.heap.size := fun o => by
    refine ⟨⟨by simp [setBlock], fun n hn hne => ?_⟩, by simp [setBlock]⟩
    exact heap_setBlock_other hb _ (fun e => hne e)
  rcases getK_pos (M := M) (k := k) with ⟨h1, h2⟩ | ⟨i, p, h1, hp, hpk, h2⟩
  · refine ⟨_, setBlock w b (.map es clock), ?_, ⟨rfl, rfl, rfl⟩, kk _ es (heap_setBlock_same hb _) ?_ (fun e he => he) (hset _).1 (hset _).2⟩
    · simp only [Builtin.delete_, List.getElem?_toArray, List.getElem?_cons_zero, List.getElem?_cons_succ, Sem.run_bind, run_underlying ht, Result.andThen_ok, MapKept.run_getObj_map hb, check_run hk, find_run hk k r, h1, h2, MapKept.run_setObj_map _ hb]
      rfl
    · unfold delK; rw [h1]; exact r
  · subst hpk
    have hil : i < es.size := by rw [r.len]; exact (List.getElem?_eq_some_iff.1 hp).1
    refine ⟨_, setBlock w b (.map (es.eraseIdxIfInBounds i) clock), ?_, ⟨rfl, rfl, rfl⟩, kk _ (es.eraseIdxIfInBounds i) (heap_setBlock_same hb _) ?_ ?_ (hset _).1 (hset _).2⟩
    · simp only [Builtin.delete_, List.getElem?_toArray, List.getElem?_cons_zero, List.getElem?_cons_succ, Sem.run_bind, run_underlying ht, Result.andThen_ok, MapKept.run_getObj_map hb, check_run hk, find_run hk p.1 r, h1, h2, MapKept.run_setObj_map _ hb]
      rfl
    · have hl : (es.eraseIdxIfInBounds i).toList = es.toList.eraseIdx i := by simp [Array.eraseIdxIfInBounds, hil]
      unfold delK; rw [h1]
      refine ⟨?_, ?_, ?_, ?_⟩
      · rw [hl, ← map_erase, r.eq, map_erase]
      · rw [hl]; intro e he; exact r.old e (List.mem_of_mem_eraseIdx he)
      · rw [hl, ← map_erase]; exact r.born.sublist (List.eraseIdx_sublist _ _)
      · rw [← map_erase]; exact r.keys.sublist (List.eraseIdx_sublist _ _)
    · have hl : (es.eraseIdxIfInBounds i).toList = es.toList.eraseIdx i := by simp [Array.eraseIdxIfInBounds, hil]
      rw [hl]; intro e he; exact List.mem_of_mem_eraseIdx he
theorem delS_of {k : Int} {K : Value → H → Prop} {ty : TypeId} (ht : P.underlying t = some (.map kt et)) (hk : P.underlying kt = some (.int .i64)) (m : MS h b L)
    (kk : ∀ h', MS h' b (delS L k) → Only (· = b) h h' → h'.size = h.size → K (.tuple #[]) h') : RunS P (Builtin.delete_ #[t, kt] ty #[.map (some b), .int .i64 k]) h K := by
  obtain ⟨M, ⟨es, clock, hb, r⟩, p, s⟩ := m
  refine del_run ht hk hb r fun h' es' hb' r' _ o e => kk h' ⟨_, ⟨_, _, hb', r'⟩, ?_, sk_delS s⟩ o e
  refine perm_of_mem r'.keys (sk_delS s).nodup fun q => ?_
  rw [mem_delK r.keys, mem_delS, p.mem_iff]
/-! ### Nil maps -/
theorem lookN_of {k : Int} {ok : Bool} {z : Value} {K : Value → H → Prop} (ht : P.underlying t = some (.map kt et)) (hk : P.underlying kt = some (.int .i64)) (hz : ∀ w, (zeroValue et).run P w = .ok z w)
    (kk : K (if ok then .tuple #[z, .bool false] else z) h) : RunS P (Instr.lookup t (.map none) (.int .i64 k) ok) h K := fun w hw => by
  refine ⟨_, w, ?_, .refl _, by rw [hw]; exact kk⟩
  have hf : (Instr.findKey kt (.int .i64 k) (#[] : Array MapEntry).toList).run P w = .ok none w := find_run hk k rep_nil w
  simp only [Instr.lookup, Sem.run_bind, run_underlying ht, Result.andThen_ok, check_run hk, Sem.run_pure, hf, hz]
theorem lenN_of {K : Value → H → Prop} (ht : P.underlying t = some (.map kt et)) {ty : TypeId} (kk : K (.int .i64 0) h) : RunS P (Builtin.len_ #[t] ty #[.map none]) h K := fun w hw => by
  refine ⟨_, w, ?_, .refl _, by rw [hw]; exact kk⟩
  simp only [Builtin.len_, List.getElem?_toArray, List.getElem?_cons_zero, Sem.run_bind, run_underlying ht, Result.andThen_ok]
  rfl
end
/-! ### Gone over -/
/-- An iterator over a map: of the keys that are there, those of D have been told. -/
def ItK (h : H) (r b : Nat) (M : KL) (D : List Int) : Prop := r ≠ b ∧ ∃ es clock since seen c0, h[b]? = some (.map es clock) ∧ MpRep es clock M ∧ h[r]? = some (.mapIter (some b) since seen c0) ∧ (∀ e ∈ es.toList, e.born < since) ∧ since ≤ c0 ∧ since ≤ clock ∧
  ∀ e ∈ es.toList, ∀ k, e.key = .int .i64 k → (e.born ∈ seen.toList ↔ k ∈ D)
def ItS (h : H) (r b : Nat) (L : KL) (D : List Int) : Prop := ∃ M, ItK h r b M D ∧ M.Perm L ∧ SK L
theorem ItS.map {h : H} {r b : Nat} {L : KL} {D : List Int} (i : ItS h r b L D) : MS h b L := by
  obtain ⟨M, ⟨_, es, clock, since, seen, c0, h1, h2, _⟩, p, s⟩ := i; exact ⟨M, ⟨es, clock, h1, h2⟩, p, s⟩
theorem ItS.lt {h : H} {r b : Nat} {L : KL} {D : List Int} (i : ItS h r b L D) : r < h.size := by
  obtain ⟨M, ⟨_, es, clock, since, seen, c0, h1, h2, h3, _⟩, p, s⟩ := i; exact block_lt h3
theorem ItS.only {S : Nat → Prop} {h h' : H} {r b : Nat} {L : KL} {D : List Int} (i : ItS h r b L D) (o : Only S h h') (h1 : ¬ S b) (h2 : ¬ S r) : ItS h' r b L D := by
  obtain ⟨M, ⟨hne, es, clock, since, seen, c0, hb, hr, hi, rest⟩, p, s⟩ := i
  exact ⟨M, ⟨hne, es, clock, since, seen, c0, o.block hb h1, hr, o.block hi h2, rest⟩, p, s⟩
theorem ItS.not_map {h : H} {r b b' : Nat} {L L' : KL} {D : List Int} (i : ItS h r b L D) (m : MS h b' L') : r ≠ b' := fun e => by
  obtain ⟨M, ⟨_, es, clock, since, seen, c0, h1, h2, h3, _⟩, p, s⟩ := i
  obtain ⟨M', ⟨es', clock', hb, _⟩, _⟩ := m
  subst e; rw [h3] at hb; cases hb
theorem ItS.not_blk {h : H} {r b : Nat} {L : KL} {D : List Int} (i : ItS h r b L D) {c : Array Value} {e : TypeId} : ¬ Blk h r c e := fun k => by
  obtain ⟨M, ⟨_, es, clock, since, seen, c0, h1, h2, h3, _⟩, p, s⟩ := i
  unfold Blk at k; rw [h3] at k; cases k
section
variable {P : Program} {h : H} {b r : Nat} {L : KL} {D : List Int} {t kt et : TypeId}
theorem rangeS_of {K : Value → H → Prop} (ht : P.underlying t = some (.map kt et)) (m : MS h b L)
    (kk : ∀ r h', r = h.size → ItS h' r b L [] → Ext h h' → h'.size = h.size + 1 → K (.pointer (some ⟨r, 0, none⟩)) h') : RunS P (Instr.range t (.map (some b))) h K := fun w hw => by
  subst hw
  have hlt := m.lt
  obtain ⟨M, ⟨es, clock, hb, r⟩, p, s⟩ := m
  refine ⟨_, _, run_range_map w t kt et b es clock ht hb, ⟨rfl, rfl, rfl⟩, kk _ _ rfl ⟨M, ⟨by omega, es, clock, clock, #[], clock, ?_, r, ?_, r.old, Nat.le_refl _, Nat.le_refl _, by simp⟩, p, s⟩ (.push _ _) (by simp)⟩
  · exact ((MapKept.heap_alloc w _).2 b hlt).trans hb
  · exact (MapKept.heap_alloc w _).1
/-- The step: it is over, all are told; or one more is. -/
theorem nextS_of {K : Value → H → Prop} {ty : TypeId} (i : ItS h r b L D)
    (k0 : (∀ p ∈ L, p.1 ∈ D) → K (.tuple #[.bool false]) h)
    (k1 : ∀ h' k v, ItS h' r b L (D ++ [k]) → (k, v) ∈ L → k ∉ D → Only (· = r) h h' → h'.size = h.size → (∀ K2 : Value → H → Prop, K2 (.tuple #[.int .i64 k, v]) h' → RunS P (Instr.entry (.pointer (some ⟨r, 0, none⟩))) h' K2) → K (.tuple #[.bool true, .int .i64 k, v]) h') :
    RunS P (Instr.next (.pointer (some ⟨r, 0, none⟩)) false ty) h K := fun w hw => by
  subst hw
  obtain ⟨M, ⟨hne, es, clock, since, seen, c0, hb, rp, hr, hold, hsc, hsk, hD⟩, pm, sk⟩ := i
  have hkey : ∀ e ∈ es.toList, ∃ p ∈ M, e.key = .int .i64 p.1 ∧ e.val = p.2 := fun e he => by
    obtain ⟨j, hj⟩ := List.mem_iff_getElem?.1 he
    obtain ⟨p, p1, p2, p3⟩ := rp.get hj
    exact ⟨p, List.mem_of_getElem? p1, p2, p3⟩
  rcases run_next_at (P := P) w ty r b since c0 seen es clock hr hb hold hsc with ⟨h0, hrun⟩ | ⟨e, he, w1, hal, hrun⟩
  · refine ⟨_, w, hrun, Like.refl w, k0 fun p hp => ?_⟩
    have hall := all_seen es seen h0
    have hpM : p ∈ M := pm.mem_iff.2 hp
    obtain ⟨j, hj⟩ := List.mem_iff_getElem?.1 hpM
    have hjl : j < es.size := by rw [rp.len]; exact (List.getElem?_eq_some_iff.1 hj).1
    have hem : es[j] ∈ es.toList := by simp
    obtain ⟨q, q1, q2, q3⟩ := rp.get (i := j) (e := es[j]) (by simp [hjl])
    rw [hj] at q1; cases q1
    exact (hD _ hem p.1 q2).1 (by simpa using hall _ hem)
  · obtain ⟨hem, hes⟩ := mem_left he
    have hr1 : w1.heap[r]? = some (.mapIter (some b) since seen c0) := by rcases hal with rfl | rfl <;> exact hr
    have hb1 : w1.heap[b]? = some (.map es clock) := by rcases hal with rfl | rfl <;> exact hb
    have hset := heap_set (o' := .mapIter (some b) since (seen.push e.born) clock) hr1
    have hb' : (setBlock w1 r (.mapIter (some b) since (seen.push e.born) clock)).heap[b]? = some (.map es clock) := (hset.2 b (fun e1 => hne e1.symm)).trans hb1
    obtain ⟨p, p1, p2, p3⟩ := hkey e hem
    have hnew : e.born ∉ seen.toList := by simpa using hes
    have hw1 : w1.heap = w.heap := by rcases hal with rfl | rfl <;> rfl
    rw [p2, p3] at hrun
    refine ⟨_, _, hrun, ?_, k1 _ p.1 p.2 ⟨M, ⟨hne, es, clock, since, seen.push e.born, clock, hb', rp, hset.1, hold, hsk, hsk, fun x hx k hk => ?_⟩, pm, sk⟩ (pm.mem_iff.1 p1) (fun hd => hnew ((hD e hem p.1 p2).2 hd)) ?_ ?_ fun K2 kk2 => ?_⟩
    · rcases hal with rfl | rfl <;> exact ⟨rfl, rfl, rfl⟩
    · simp only [Array.toList_push, List.mem_append, List.mem_singleton]
      rw [hD x hx k hk]
      have : x.born = e.born ↔ k = p.1 := by
        constructor
        · intro hb
          have := born_inj rp.born hx hem hb
          subst this; rw [p2] at hk; cases hk; rfl
        · intro hkp
          subst hkp
          have hnd := rp.keys
          have hxe : x = e := by
            obtain ⟨i1, hi1⟩ := List.mem_iff_getElem?.1 hx
            obtain ⟨i2, hi2⟩ := List.mem_iff_getElem?.1 hem
            obtain ⟨a, a1, a2, a3⟩ := rp.get hi1
            obtain ⟨c, c1, c2, c3⟩ := rp.get hi2
            rw [hk] at a2; injection a2 with _ a2
            rw [p2] at c2; injection c2 with _ c2
            have b1 : (M.map (·.1))[i1]? = some a.1 := by rw [List.getElem?_map, a1]; rfl
            have b2 : (M.map (·.1))[i2]? = some c.1 := by rw [List.getElem?_map, c1]; rfl
            have hlt : i1 < (M.map (·.1)).length := (List.getElem?_eq_some_iff.1 b1).1
            have : i1 = i2 := (List.getElem?_inj hlt hnd).1 (by rw [b1, b2, ← a2, c2])
            subst this; rw [hi1] at hi2; cases hi2; rfl
          rw [hxe]
      rw [this]
    · refine ⟨by simp [setBlock, hw1], fun n hn hne' => ?_⟩
      exact (hset.2 n hne').trans (by rw [hw1])
    · simp [setBlock, hw1]
    · intro w2 hw2
      refine ⟨_, w2, ?_, Like.refl w2, by rw [hw2]; exact kk2⟩
      have := run_entry_at (P := P) w2 r b since seen es clock e (by rw [hw2]; exact hset.1) (by rw [hw2]; exact hb') hem rp.born
      rw [p2, p3] at this
      exact this
/-- A key that is there is written anew while the map is gone over. -/
theorem ItS.upd_of {k : Int} {v : Value} {K : Unit → H → Prop} (ht : P.underlying t = some (.map kt et)) (hk : P.underlying kt = some (.int .i64)) (i : ItS h r b L D) {u : Value} (hin : (k, u) ∈ L)
    (kk : ∀ h', ItS h' r b (putS L k v) D → Only (· = b) h h' → h'.size = h.size → K () h') : RunS P (Instr.mapUpdate t (.map (some b)) (.int .i64 k) v) h K := fun w hw => by
  subst hw
  obtain ⟨M, ⟨hne, es, clock, since, seen, c0, hb, rp, hr, hold, hsc, hsk, hD⟩, pm, sk⟩ := i
  have hset : ∀ o : Obj, Only (· = b) w.heap (setBlock w b o).heap ∧ (setBlock w b o).heap.size = w.heap.size := fun o => by
    refine ⟨⟨by simp [setBlock], fun n hn hne => ?_⟩, by simp [setBlock]⟩
    exact heap_setBlock_other hb _ (fun e => hne e)
  have hgM : getK M k = some u := (mem_getK rp.keys).2 (pm.mem_iff.2 hin)
  rcases getK_pos (M := M) (k := k) with ⟨h1, h2⟩ | ⟨i, p, h1, hp, hpk, h2⟩
  · rw [h2] at hgM; cases hgM
  · subst hpk
    have hil : i < es.size := by rw [rp.len]; exact (List.getElem?_eq_some_iff.1 hp).1
    have hei : es[i]? = some es[i] := Array.getElem?_eq_getElem hil
    obtain ⟨q, q1, q2, q3⟩ := rp.get (i := i) (e := es[i]) (by simp [hil])
    rw [hp] at q1; cases q1
    have hnew : (es.modify i fun e => { e with key := .int .i64 p.1, val := v }).toList = es.toList.set i { es[i] with key := .int .i64 p.1, val := v } := by
      rw [Array.toList_modify]
      apply List.ext_getElem?
      intro j
      rw [List.getElem?_modify, List.getElem?_set]
      by_cases hij : i = j
      · subst hij; simp [hil]
      · simp [hij]
    have hmem : ∀ e ∈ (es.modify i fun e => { e with key := .int .i64 p.1, val := v }).toList, ∃ e0 ∈ es.toList, e0.born = e.born ∧ e0.key = e.key := by
      rw [hnew]
      intro e he
      rcases List.mem_or_eq_of_mem_set he with he | rfl
      · exact ⟨e, he, rfl, rfl⟩
      · exact ⟨es[i], by simp, rfl, q2⟩
    have hrep : MpRep (es.modify i fun e => { e with key := .int .i64 p.1, val := v }) clock (putK M p.1 v) := by
      refine ⟨?_, ?_, ?_, ?_⟩
      · unfold putK; rw [h1, hnew]
        simp only [List.map_set, rp.eq]
      · intro e he
        obtain ⟨e0, h0, e1, _⟩ := hmem e he
        rw [← e1]; exact rp.old e0 h0
      · rw [hnew, List.map_set]
        have : (es.toList.map (·.born)).set i es[i].born = es.toList.map (·.born) := by
          apply List.ext_getElem?
          intro j
          rw [List.getElem?_set]
          split
          · rename_i hij; subst hij
            simp [hil]
          · rfl
        rw [this]; exact rp.born
      · unfold putK; rw [h1]
        simp only [List.map_set]
        have : (M.map (·.1)).set i p.1 = M.map (·.1) := by
          apply List.ext_getElem?
          intro j
          rw [List.getElem?_set]
          split
          · rename_i hij; subst hij
            have hl := (List.getElem?_eq_some_iff.1 hp).1
            rw [if_pos (by simpa using hl), List.getElem?_map, hp]
            rfl
          · rfl
        rw [this]; exact rp.keys
    refine ⟨(), setBlock w b (.map (es.modify i fun e => { e with key := .int .i64 p.1, val := v }) clock), ?_, ⟨rfl, rfl, rfl⟩, kk _ ⟨_, ⟨hne, _, clock, since, seen, c0, heap_setBlock_same hb _, hrep, ?_, ?_, hsc, hsk, ?_⟩, ?_, sk_putS sk⟩ (hset _).1 (hset _).2⟩
    · simp only [Instr.mapUpdate, Sem.run_bind, run_underlying ht, Result.andThen_ok, MapKept.run_getObj_map hb, check_run hk, find_run hk p.1 rp, h1, h2, hei, Option.map_some, Option.getD_some, q2, stay_run, MapKept.run_setObj_map _ hb]
      rfl
    · exact ((hset _).1.same r (block_lt hr) hne).trans hr
    · intro e he
      obtain ⟨e0, h0, e1, _⟩ := hmem e he
      rw [← e1]; exact hold e0 h0
    · intro e he k hk'
      obtain ⟨e0, h0, e1, e2⟩ := hmem e he
      rw [← e1]; exact hD e0 h0 k (e2.trans hk')
    · refine perm_of_mem hrep.keys (sk_putS sk).nodup fun q => ?_
      rw [mem_putK rp.keys, mem_putS sk, pm.mem_iff]
/-- A key goes while the map is gone over. -/
theorem ItS.del_of {k : Int} {K : Value → H → Prop} {ty : TypeId} (ht : P.underlying t = some (.map kt et)) (hk : P.underlying kt = some (.int .i64)) (i : ItS h r b L D)
    (kk : ∀ h', ItS h' r b (delS L k) D → Only (· = b) h h' → h'.size = h.size → K (.tuple #[]) h') : RunS P (Builtin.delete_ #[t, kt] ty #[.map (some b), .int .i64 k]) h K := by
  obtain ⟨M, ⟨hne, es, clock, since, seen, c0, hb, rp, hr, hold, hsc, hsk, hD⟩, pm, sk⟩ := i
  refine del_run ht hk hb rp fun h' es' hb' r' hsub o e => kk h' ⟨_, ⟨hne, es', clock, since, seen, c0, hb', r', o.block hr hne, fun x hx => hold x (hsub x hx), hsc, hsk, fun x hx => hD x (hsub x hx)⟩, ?_, sk_delS sk⟩ o e
  refine perm_of_mem r'.keys (sk_delS sk).nodup fun q => ?_
  rw [mem_delK rp.keys, mem_delS, pm.mem_iff]
end
end Go.Proofs.YtgcmojbajjajgaaGreat.V.N
