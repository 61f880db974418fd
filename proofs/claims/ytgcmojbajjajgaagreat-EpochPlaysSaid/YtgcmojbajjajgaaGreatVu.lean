/- Maps with whole numbers as keys; turned out of XVr; no program; no condition. -/
import Derived.Test.YtgcmojbajjajgaaGreatVr
namespace Go.Proofs.YtgcmojbajjajgaaGreat.V.N
open Go Go.ChangeMaps Go.MapKept Go.Proofs.YtgcmojbajjajgaaGreat.V
set_option linter.unusedVariables false
set_option linter.unusedSimpArgs false
theorem in_self (k : Int) : (k == k) = true := by simp
theorem in_ne {k p : Int} (h : ¬ k = p) : (k == p) = false := by simpa using h
structure MpRep (es : Array MapEntry) (clock : Nat) (M : List (Int × Value)) : Prop where
  eq : es.toList.map (fun e => (e.key, e.val)) = M.map fun p => (.int .i64 p.1, p.2)
  old : ∀ e ∈ es.toList, e.born < clock
  born : (es.toList.map (·.born)).Nodup
  keys : (M.map (·.1)).Nodup
/-- Block b is a map that has these entries. -/
def MapH (h : H) (b : Nat) (M : List (Int × Value)) : Prop := ∃ es clock, h[b]? = some (.map es clock) ∧ MpRep es clock M
theorem MapH.only {S : Nat → Prop} {h h' : H} {b : Nat} {M : List (Int × Value)} (m : MapH h b M) (o : Only S h h') (hn : ¬ S b) : MapH h' b M := by
  obtain ⟨es, clock, hb, r⟩ := m
  exact ⟨es, clock, o.block hb hn, r⟩
theorem MapH.lt {h : H} {b : Nat} {M : List (Int × Value)} (m : MapH h b M) : b < h.size := by
  obtain ⟨es, clock, hb, r⟩ := m; exact block_lt hb
theorem rep_nil : MpRep #[] 0 [] := ⟨rfl, by simp, by simp, by simp⟩
theorem MpRep.get {es : Array MapEntry} {clock : Nat} {M : List (Int × Value)} (r : MpRep es clock M) {i : Nat} {e : MapEntry} (h : es.toList[i]? = some e) : ∃ p, M[i]? = some p ∧ e.key = .int .i64 p.1 ∧ e.val = p.2 := by
  have := congrArg (fun l => l[i]?) r.eq
  simp only [List.getElem?_map, h, Option.map_some] at this
  cases hp : M[i]? with
  | none => rw [hp] at this; cases this
  | some p =>
    rw [hp] at this
    simp only [Option.map_some, Option.some.injEq, Prod.mk.injEq] at this
    exact ⟨p, rfl, this.1, this.2⟩
theorem MpRep.len {es : Array MapEntry} {clock : Nat} {M : List (Int × Value)} (r : MpRep es clock M) : es.size = M.length := by
  have := congrArg List.length r.eq
  simpa using this
/-- Where a key stands. -/
def posK (M : List (Int × Value)) (k : Int) : Option Nat := M.findIdx? fun p => k == p.1
def getK (M : List (Int × Value)) (k : Int) : Option Value := (M.find? fun p => k == p.1).map (·.2)
theorem findNow_str (k : Int) : ∀ (es : List MapEntry) (M : List (Int × Value)) (n : Nat), es.map (fun e => (e.key, e.val)) = M.map (fun p => (.int .i64 p.1, p.2)) →
    Instr.findNow (.int .i64) (.int .i64 k) es n = some (match M.findIdx? fun p => k == p.1, getK M k with | some i, some v => some (n + i, v) | _, _ => none)
  | [], [], n, _ => rfl
  | [], p :: M, n, h => by cases h
  | e :: es, [], n, h => by cases h
  | e :: es, p :: M, n, h => by
    simp only [List.map_cons, List.cons.injEq, Prod.mk.injEq] at h
    obtain ⟨⟨h1, h2⟩, h3⟩ := h
    unfold Instr.findNow
    rw [h1]
    simp only [Instr.sameNow, if_true]
    by_cases hk : k = p.1
    · subst hk
      rw [in_self]
      simp only [List.findIdx?_cons, in_self, if_true, getK, List.find?_cons, Option.map_some, h2]
      rfl
    · have hf : (k == p.1) = false := in_ne hk
      rw [hf]
      simp only [List.findIdx?_cons, hf, Bool.false_eq_true, if_false, getK, List.find?_cons]
      rw [findNow_str k es M (n + 1) h3]
      unfold getK
      cases hi : M.findIdx? fun q => k == q.1 with
      | none => simp
      | some i =>
        cases hv : M.find? fun q => k == q.1 with
        | none => simp
        | some v => simp; omega
theorem getK_pos {M : List (Int × Value)} {k : Int} : (M.findIdx? fun p => k == p.1) = none ∧ getK M k = none ∨ ∃ i p, (M.findIdx? fun p => k == p.1) = some i ∧ M[i]? = some p ∧ k = p.1 ∧ getK M k = some p.2 := by
  induction M with
  | nil => exact .inl ⟨rfl, rfl⟩
  | cons p M ih =>
    by_cases hk : k = p.1
    · subst hk
      exact .inr ⟨0, p, by simp [List.findIdx?_cons, in_self], rfl, rfl, by simp [getK, List.find?_cons, in_self]⟩
    · have hf : (k == p.1) = false := in_ne hk
      rcases ih with ⟨h1, h2⟩ | ⟨i, q, h1, h2, h3, h4⟩
      · exact .inl ⟨by rw [List.findIdx?_cons, hf, h1]; rfl, by unfold getK at *; rw [List.find?_cons, hf]; exact h2⟩
      · exact .inr ⟨i + 1, q, by rw [List.findIdx?_cons, hf, h1]; rfl, by simpa using h2, h3, by unfold getK at *; rw [List.find?_cons, hf]; exact h4⟩
section
variable {P : Program} {h : H} {b : Nat} {M : List (Int × Value)} {t kt et : TypeId}
theorem find_run (hk : P.underlying kt = some (.int .i64)) (k : Int) {es : Array MapEntry} {clock : Nat} (r : MpRep es clock M) (w : World) :
    (Instr.findKey kt (.int .i64 k) es.toList).run P w = .ok (match M.findIdx? fun p => k == p.1, getK M k with | some i, some v => some (i, v) | _, _ => none) w := by
  simp only [Instr.findKey, Sem.run_bind, run_underlying hk, Result.andThen_ok, findNow_str k es.toList M 0 r.eq]
  simp [go_sem]
theorem check_run (hk : P.underlying kt = some (.int .i64)) (k : Int) (e : Bool) (w : World) : (Instr.checkKey e 10000 kt (.int .i64 k)).run P w = .ok () w := by
  show (Instr.checkKey e (9999 + 1) kt (.int .i64 k)).run P w = _
  unfold Instr.checkKey
  rw [Sem.run_bind, run_underlying hk, Result.andThen_ok]
  rfl
theorem makeM_of {r : Option Value} {K : Value → H → Prop} (hr : r = none ∨ ((∃ n k, r = some (.int k n)) ∧ P.underlying t = some (.map kt et))) (k : MapH (h.push (.map #[] 0)) h.size [] → Ext h (h.push (.map #[] 0)) → K (.map (some h.size)) (h.push (.map #[] 0))) : RunS P (Instr.makeMap t r) h K := fun w hw => by
  subst hw
  have hrun : (Instr.makeMap t r).run P w = .ok (.map (some w.heap.size)) (w.alloc (.map #[] 0)) := by
    rcases hr with rfl | ⟨⟨n, q, rfl⟩, ht⟩
    · simp [Instr.makeMap, go_sem]
    · simp [Instr.makeMap, run_underlying ht, asInt, go_sem]
  exact ⟨_, _, hrun, ⟨rfl, rfl, rfl⟩, k ⟨#[], 0, by simp, rep_nil⟩ (.push _ _)⟩
theorem lookM_of {k : Int} {ok : Bool} {z : Value} {K : Value → H → Prop} (ht : P.underlying t = some (.map kt et)) (hk : P.underlying kt = some (.int .i64)) (hz : ∀ w, (zeroValue et).run P w = .ok z w) (m : MapH h b M)
    (kk : K (if ok then .tuple #[(getK M k).getD z, .bool (getK M k).isSome] else (getK M k).getD z) h) : RunS P (Instr.lookup t (.map (some b)) (.int .i64 k) ok) h K := fun w hw => by
  subst hw
  obtain ⟨es, clock, hb, r⟩ := m
  refine ⟨_, w, ?_, Like.refl w, kk⟩
  have hf := find_run hk k r w
  rcases getK_pos (M := M) (k := k) with ⟨h1, h2⟩ | ⟨i, p, h1, _, _, h2⟩
  · rw [h1, h2] at hf
    rw [h2]
    cases ok <;> simp [Instr.lookup, run_underlying ht, MapKept.run_getObj_map hb, check_run hk, hf, hz, go_sem]
  · rw [h1, h2] at hf
    rw [h2]
    cases ok <;> simp [Instr.lookup, run_underlying ht, MapKept.run_getObj_map hb, check_run hk, hf, go_sem]
theorem lenM_of {K : Value → H → Prop} (ht : P.underlying t = some (.map kt et)) (m : MapH h b M) {ty : TypeId} (kk : K (.int .i64 (M.length : Int)) h) : RunS P (Builtin.len_ #[t] ty #[.map (some b)]) h K := fun w hw => by
  subst hw
  obtain ⟨es, clock, hb, r⟩ := m
  refine ⟨_, w, ?_, Like.refl w, kk⟩
  simp [Builtin.len_, run_underlying ht, MapKept.run_getObj_map hb, go_sem, r.len, goInt]
def putK (M : List (Int × Value)) (k : Int) (v : Value) : List (Int × Value) := match M.findIdx? fun p => k == p.1 with
  | some i => M.set i (k, v)
  | none => M ++ [(k, v)]
def delK (M : List (Int × Value)) (k : Int) : List (Int × Value) := match M.findIdx? fun p => k == p.1 with
  | some i => M.eraseIdx i
  | none => M
theorem stay_run (k : Int) (w : World) : (Instr.keyThatStays (.int .i64 k) (.int .i64 k)).run P w = .ok (.int .i64 k) w := by
  simp [Instr.keyThatStays, Instr.sameBits, in_self, go_sem]
theorem none_keys {M : List (Int × Value)} {k : Int} (h : (M.findIdx? fun p => k == p.1) = none) : ∀ p ∈ M, p.1 ≠ k := fun p hp e => by
  rw [List.findIdx?_eq_none_iff] at h
  have := h p hp
  subst e
  rw [in_self] at this; cases this
theorem updM_of {k : Int} {v : Value} {K : Unit → H → Prop} (ht : P.underlying t = some (.map kt et)) (hk : P.underlying kt = some (.int .i64)) (m : MapH h b M)
    (kk : ∀ h', MapH h' b (putK M k v) → Only (· = b) h h' → h'.size = h.size → K () h') : RunS P (Instr.mapUpdate t (.map (some b)) (.int .i64 k) v) h K := fun w hw => by
  subst hw
  obtain ⟨es, clock, hb, r⟩ := m
  have hset : ∀ o : Obj, Only (· = b) w.heap (setBlock w b o).heap ∧ (setBlock w b o).heap.size = w.heap.size := fun o => by
    refine ⟨⟨by simp [setBlock], fun n hn hne => ?_⟩, by simp [setBlock]⟩
    exact heap_setBlock_other hb _ (fun e => hne e)
  rcases getK_pos (M := M) (k := k) with ⟨h1, h2⟩ | ⟨i, p, h1, hp, hpk, h2⟩
  · refine ⟨(), setBlock w b (.map (es.push { key := .int .i64 k, val := v, born := clock }) (clock + 1)), ?_, ⟨rfl, rfl, rfl⟩, kk _ ⟨_, _, heap_setBlock_same hb _, ?_, ?_, ?_, ?_⟩ (hset _).1 (hset _).2⟩
    · simp only [Instr.mapUpdate, Sem.run_bind, run_underlying ht, Result.andThen_ok, MapKept.run_getObj_map hb, check_run hk, find_run hk k r, h1, h2, MapKept.run_setObj_map _ hb]
      rfl
    · unfold putK; rw [h1]
      simp [r.eq]
    · intro e he
      simp at he
      rcases he with he | rfl
      · have := r.old e (by simpa using he); omega
      · simp
    · simp only [Array.toList_push, List.map_append, List.map_cons, List.map_nil]
      rw [List.nodup_append]
      refine ⟨r.born, by simp, fun a ha c hc => ?_⟩
      simp at hc; subst hc
      obtain ⟨e, he, rfl⟩ := List.mem_map.1 ha
      have := r.old e he; omega
    · unfold putK; rw [h1]
      simp only [List.map_append, List.map_cons, List.map_nil]
      rw [List.nodup_append]
      refine ⟨r.keys, by simp, fun a ha c hc => ?_⟩
      simp at hc; subst hc
      obtain ⟨e, he, rfl⟩ := List.mem_map.1 ha
      exact none_keys h1 e he
  · subst hpk
    have hil : i < es.size := by rw [r.len]; exact (List.getElem?_eq_some_iff.1 hp).1
    have hei : es[i]? = some es[i] := Array.getElem?_eq_getElem hil
    obtain ⟨q, q1, q2, q3⟩ := r.get (i := i) (e := es[i]) (by simp [hil])
    rw [hp] at q1; cases q1
    have hnew : (es.modify i fun e => { e with key := .int .i64 p.1, val := v }).toList = es.toList.set i { es[i] with key := .int .i64 p.1, val := v } := by
      rw [Array.toList_modify]
      apply List.ext_getElem?
      intro j
      rw [List.getElem?_modify, List.getElem?_set]
      by_cases hij : i = j
      · subst hij; simp [hil]
      · simp [hij]
    refine ⟨(), setBlock w b (.map (es.modify i fun e => { e with key := .int .i64 p.1, val := v }) clock), ?_, ⟨rfl, rfl, rfl⟩, kk _ ⟨_, _, heap_setBlock_same hb _, ?_, ?_, ?_, ?_⟩ (hset _).1 (hset _).2⟩
    · simp only [Instr.mapUpdate, Sem.run_bind, run_underlying ht, Result.andThen_ok, MapKept.run_getObj_map hb, check_run hk, find_run hk p.1 r, h1, h2, hei, Option.map_some, Option.getD_some, q2, stay_run, MapKept.run_setObj_map _ hb]
      rfl
    · unfold putK; rw [h1, hnew]
      simp only [List.map_set, r.eq]
    · rw [hnew]
      intro e he
      rcases List.mem_or_eq_of_mem_set he with he | rfl
      · exact r.old e he
      · exact r.old es[i] (by simp)
    · rw [hnew, List.map_set]
      have : (es.toList.map (·.born)).set i es[i].born = es.toList.map (·.born) := by
        apply List.ext_getElem?
        intro j
        rw [List.getElem?_set]
        split
        · rename_i hij; subst hij
          simp [hil]
        · rfl
      rw [this]; exact r.born
    · unfold putK; rw [h1]
      simp only [List.map_set]
      have : (M.map (·.1)).set i p.1 = M.map (·.1) := by
        apply List.ext_getElem?
        intro j
        rw [List.getElem?_set]
        split
        · rename_i hij; subst hij
          have hl := (List.getElem?_eq_some_iff.1 hp).1
          rw [if_pos (by simpa using hl), List.getElem?_map, hp]
          rfl
        · rfl
      rw [this]; exact r.keys
end
end Go.Proofs.YtgcmojbajjajgaaGreat.V.N
