/- Maps: each operation on them as a step that may turn the heap; no program; no condition. -/
import Derived.Test.YtidpbnbjpglhfaaVn
import Derived.Test.YtidpbnbjpglhfaaVl
import Derived.Maps.RangeRun
import Derived.ChangeMaps5
namespace Go.Proofs.Ytidpbnbjpglhfaa.V
open Go Go.ChangeMaps Go.MapKept
set_option linter.unusedVariables false
set_option linter.unusedSimpArgs false
section
variable {P : Program} {rd : Option Nat} {L : List (Nat × Value)} {h : H} {d : Option Tmp} {ty : TypeId} {ps : String} {af : Array Edge} {g : Option (Nat × Bool)} {x y m : Operand} {vx vy vm : Value} {K : Value → H → Prop}
theorem f_mkS {t : TypeId} (hx : evL L x = some vx) (k : RunS P (Instr.makeMap t (some vx)) h K) : EV rd P ⟨d, .makeMap t (some x), ty, ps, af, g⟩ L h K := ev_of (by simp) (fun a ha => by simp only [execOp, Option.map_some, ha.ev hx]) k
theorem f_mkN {t : TypeId} (k : RunS P (Instr.makeMap t none) h K) : EV rd P ⟨d, .makeMap t none, ty, ps, af, g⟩ L h K := ev_of (by simp) (fun a ha => by simp only [execOp, Option.map_none]) k
theorem f_mu {t : TypeId} {K : H → Prop} (hm : evL L m = some vm) (hx : evL L x = some vx) (hy : evL L y = some vy) (k : RunS P (Instr.mapUpdate t vm vx vy) h fun _ h' => K h') : EV rd P ⟨d, .mapUpdate t m x y, ty, ps, af, g⟩ L h fun v h' => v = undef ∧ K h' :=
  eu_of (by simp) (fun a ha => by simp only [execOp, ha.ev hm, ha.ev hx, ha.ev hy]) (k.mono fun _ h' kk => ⟨rfl, kk⟩)
theorem f_lk {t : TypeId} {ok : Bool} (hm : evL L m = some vm) (hx : evL L x = some vx) (k : RunS P (Instr.lookup t vm vx ok) h K) : EV rd P ⟨d, .lookup t m x ok, ty, ps, af, g⟩ L h K := ev_of (by simp) (fun a ha => by simp only [execOp, ha.ev hm, ha.ev hx]) k
theorem f_rg {t : TypeId} (hx : evL L x = some vx) (k : RunS P (Instr.range t vx) h K) : EV rd P ⟨d, .range t x, ty, ps, af, g⟩ L h K := ev_of (by simp) (fun a ha => by simp only [execOp, ha.ev hx]) k
theorem f_nx {b : Bool} (hx : evL L x = some vx) (k : RunS P (Instr.next vx b ty) h K) : EV rd P ⟨d, .next x b, ty, ps, af, g⟩ L h K := ev_of (by simp) (fun a ha => by simp only [execOp, ha.ev hx]) k
theorem f_en (hx : evL L x = some vx) (k : RunS P (Instr.entry vx) h K) : EV rd P ⟨d, .entry x, ty, ps, af, g⟩ L h K := ev_of (by simp) (fun a ha => by simp only [execOp, ha.ev hx]) k
theorem f_del {as : List Operand} {ts : Array TypeId} {vs : List Value} (ha : evLs L as = some vs) (k : RunS P (Builtin.delete_ ts ty vs.toArray) h K) : EV rd P ⟨d, .call { callee := .builtin .delete, args := as.toArray, argTypes := ts }, ty, ps, af, g⟩ L h K := f_bi ha (fun _ => rfl) k
theorem f_lenM {as : List Operand} {ts : Array TypeId} {vs : List Value} (ha : evLs L as = some vs) (k : RunS P (Builtin.len_ ts ty vs.toArray) h K) : EV rd P ⟨d, .call { callee := .builtin .len, args := as.toArray, argTypes := ts }, ty, ps, af, g⟩ L h K := f_bi ha (fun _ => rfl) k
theorem y_ext0 {b : Bool} {t : Array Value} (hx : evL L x = some (.tuple (#[.bool b] ++ t))) : YP rd P ⟨d, .extract x 0, ty, ps, af, g⟩ L (.bool b) := yp_of (by simp) fun a w ha => by
  simp only [execOp, ha.ev hx]
  have h0 : (#[Value.bool b] ++ t)[0]? = some (.bool b) := by rw [Array.getElem?_append_left (by simp)]; rfl
  simp only [Instr.extract, h0]
  simp [go_sem]
end
theorem ba_beq (a b : ByteArray) : (a == b) = decide (a = b) := by
  cases a with | mk x => cases b with | mk y =>
  rw [show ((⟨x⟩ : ByteArray) == ⟨y⟩) = (x == y) from rfl]
  by_cases h : x = y
  · subst h; simp
  · simp [h]
theorem ba_self (k : ByteArray) : (k == k) = true := by rw [ba_beq]; simp
theorem ba_ne {k p : ByteArray} (h : ¬ k = p) : (k == p) = false := by rw [ba_beq]; simpa using h
/-! ### A map with texts as keys -/
structure MpRep (es : Array MapEntry) (clock : Nat) (M : List (ByteArray × Value)) : Prop where
  eq : es.toList.map (fun e => (e.key, e.val)) = M.map fun p => (.string p.1, p.2)
  old : ∀ e ∈ es.toList, e.born < clock
  born : (es.toList.map (·.born)).Nodup
  keys : (M.map (·.1)).Nodup
/-- Block b is a map that has these entries. -/
def MapH (h : H) (b : Nat) (M : List (ByteArray × Value)) : Prop := ∃ es clock, h[b]? = some (.map es clock) ∧ MpRep es clock M
theorem MapH.only {S : Nat → Prop} {h h' : H} {b : Nat} {M : List (ByteArray × Value)} (m : MapH h b M) (o : Only S h h') (hn : ¬ S b) : MapH h' b M := by
  obtain ⟨es, clock, hb, r⟩ := m
  exact ⟨es, clock, o.block hb hn, r⟩
theorem MapH.lt {h : H} {b : Nat} {M : List (ByteArray × Value)} (m : MapH h b M) : b < h.size := by
  obtain ⟨es, clock, hb, r⟩ := m; exact block_lt hb
theorem rep_nil : MpRep #[] 0 [] := ⟨rfl, by simp, by simp, by simp⟩
theorem MpRep.get {es : Array MapEntry} {clock : Nat} {M : List (ByteArray × Value)} (r : MpRep es clock M) {i : Nat} {e : MapEntry} (h : es.toList[i]? = some e) : ∃ p, M[i]? = some p ∧ e.key = .string p.1 ∧ e.val = p.2 := by
  have := congrArg (fun l => l[i]?) r.eq
  simp only [List.getElem?_map, h, Option.map_some] at this
  cases hp : M[i]? with
  | none => rw [hp] at this; cases this
  | some p =>
    rw [hp] at this
    simp only [Option.map_some, Option.some.injEq, Prod.mk.injEq] at this
    exact ⟨p, rfl, this.1, this.2⟩
theorem MpRep.len {es : Array MapEntry} {clock : Nat} {M : List (ByteArray × Value)} (r : MpRep es clock M) : es.size = M.length := by
  have := congrArg List.length r.eq
  simpa using this
theorem nodup_of {α β : Type} {f : α → β} : ∀ {l : List α}, (l.map f).Nodup → l.Nodup
  | [], _ => List.nodup_nil
  | a :: l, h => by
    rw [List.map_cons, List.nodup_cons] at h
    rw [List.nodup_cons]
    exact ⟨fun hm => h.1 (List.mem_map.2 ⟨a, hm, rfl⟩), nodup_of h.2⟩
theorem map_erase {α β : Type} (f : α → β) : ∀ (l : List α) (i : Nat), (l.map f).eraseIdx i = (l.eraseIdx i).map f
  | [], i => by simp
  | a :: l, 0 => by simp
  | a :: l, i + 1 => by simp [map_erase f l i]
/-- Where a key stands. -/
def posK (M : List (ByteArray × Value)) (k : ByteArray) : Option Nat := M.findIdx? fun p => k == p.1
def getK (M : List (ByteArray × Value)) (k : ByteArray) : Option Value := (M.find? fun p => k == p.1).map (·.2)
theorem findNow_str (k : ByteArray) : ∀ (es : List MapEntry) (M : List (ByteArray × Value)) (n : Nat), es.map (fun e => (e.key, e.val)) = M.map (fun p => (.string p.1, p.2)) →
    Instr.findNow .string (.string k) es n = some (match M.findIdx? fun p => k == p.1, getK M k with | some i, some v => some (n + i, v) | _, _ => none)
  | [], [], n, _ => rfl
  | [], p :: M, n, h => by cases h
  | e :: es, [], n, h => by cases h
  | e :: es, p :: M, n, h => by
    simp only [List.map_cons, List.cons.injEq, Prod.mk.injEq] at h
    obtain ⟨⟨h1, h2⟩, h3⟩ := h
    unfold Instr.findNow
    rw [h1]
    simp only [Instr.sameNow]
    by_cases hk : k = p.1
    · subst hk
      rw [ba_self]
      simp only [List.findIdx?_cons, ba_self, if_true, getK, List.find?_cons, Option.map_some, h2]
      rfl
    · have hf : (k == p.1) = false := ba_ne hk
      rw [hf]
      simp only [List.findIdx?_cons, hf, Bool.false_eq_true, if_false, getK, List.find?_cons]
      rw [findNow_str k es M (n + 1) h3]
      unfold getK
      cases hi : M.findIdx? fun q => k == q.1 with
      | none => simp
      | some i =>
        cases hv : M.find? fun q => k == q.1 with
        | none => simp
        | some v => simp; omega
theorem getK_pos {M : List (ByteArray × Value)} {k : ByteArray} : (M.findIdx? fun p => k == p.1) = none ∧ getK M k = none ∨ ∃ i p, (M.findIdx? fun p => k == p.1) = some i ∧ M[i]? = some p ∧ k = p.1 ∧ getK M k = some p.2 := by
  induction M with
  | nil => exact .inl ⟨rfl, rfl⟩
  | cons p M ih =>
    by_cases hk : k = p.1
    · subst hk
      exact .inr ⟨0, p, by simp [List.findIdx?_cons, ba_self], rfl, rfl, by simp [getK, List.find?_cons, ba_self]⟩
    · have hf : (k == p.1) = false := ba_ne hk
      rcases ih with ⟨h1, h2⟩ | ⟨i, q, h1, h2, h3, h4⟩
      · exact .inl ⟨by rw [List.findIdx?_cons, hf, h1]; rfl, by unfold getK at *; rw [List.find?_cons, hf]; exact h2⟩
      · exact .inr ⟨i + 1, q, by rw [List.findIdx?_cons, hf, h1]; rfl, by simpa using h2, h3, by unfold getK at *; rw [List.find?_cons, hf]; exact h4⟩
section
variable {P : Program} {h : H} {b : Nat} {M : List (ByteArray × Value)} {t kt et : TypeId}
theorem find_run (hk : P.underlying kt = some .string) (k : ByteArray) {es : Array MapEntry} {clock : Nat} (r : MpRep es clock M) (w : World) :
    (Instr.findKey kt (.string k) es.toList).run P w = .ok (match M.findIdx? fun p => k == p.1, getK M k with | some i, some v => some (i, v) | _, _ => none) w := by
  simp only [Instr.findKey, Sem.run_bind, run_underlying hk, Result.andThen_ok, findNow_str k es.toList M 0 r.eq]
  simp [go_sem]
theorem check_run (hk : P.underlying kt = some .string) (k : ByteArray) (e : Bool) (w : World) : (Instr.checkKey e 10000 kt (.string k)).run P w = .ok () w := by
  show (Instr.checkKey e (9999 + 1) kt (.string k)).run P w = _
  unfold Instr.checkKey
  rw [Sem.run_bind, run_underlying hk, Result.andThen_ok]
  rfl
theorem makeM_of {r : Option Value} {K : Value → H → Prop} (hr : r = none ∨ ((∃ n k, r = some (.int k n)) ∧ P.underlying t = some (.map kt et))) (k : MapH (h.push (.map #[] 0)) h.size [] → Ext h (h.push (.map #[] 0)) → K (.map (some h.size)) (h.push (.map #[] 0))) : RunS P (Instr.makeMap t r) h K := fun w hw => by
  subst hw
  have hrun : (Instr.makeMap t r).run P w = .ok (.map (some w.heap.size)) (w.alloc (.map #[] 0)) := by
    rcases hr with rfl | ⟨⟨n, q, rfl⟩, ht⟩
    · simp [Instr.makeMap, go_sem]
    · simp [Instr.makeMap, run_underlying ht, asInt, go_sem]
  exact ⟨_, _, hrun, ⟨rfl, rfl, rfl⟩, k ⟨#[], 0, by simp, rep_nil⟩ (.push _ _)⟩
theorem lookM_of {k : ByteArray} {ok : Bool} {z : Value} {K : Value → H → Prop} (ht : P.underlying t = some (.map kt et)) (hk : P.underlying kt = some .string) (hz : ∀ w, (zeroValue et).run P w = .ok z w) (m : MapH h b M)
    (kk : K (if ok then .tuple #[(getK M k).getD z, .bool (getK M k).isSome] else (getK M k).getD z) h) : RunS P (Instr.lookup t (.map (some b)) (.string k) ok) h K := fun w hw => by
  subst hw
  obtain ⟨es, clock, hb, r⟩ := m
  refine ⟨_, w, ?_, Like.refl w, kk⟩
  have hf := find_run hk k r w
  rcases getK_pos (M := M) (k := k) with ⟨h1, h2⟩ | ⟨i, p, h1, _, _, h2⟩
  · rw [h1, h2] at hf
    rw [h2]
    cases ok <;> simp [Instr.lookup, run_underlying ht, MapKept.run_getObj_map hb, check_run hk, hf, hz, go_sem]
  · rw [h1, h2] at hf
    rw [h2]
    cases ok <;> simp [Instr.lookup, run_underlying ht, MapKept.run_getObj_map hb, check_run hk, hf, go_sem]
theorem lenM_of {K : Value → H → Prop} (ht : P.underlying t = some (.map kt et)) (m : MapH h b M) {ty : TypeId} (kk : K (.int .i64 (M.length : Int)) h) : RunS P (Builtin.len_ #[t] ty #[.map (some b)]) h K := fun w hw => by
  subst hw
  obtain ⟨es, clock, hb, r⟩ := m
  refine ⟨_, w, ?_, Like.refl w, kk⟩
  simp [Builtin.len_, run_underlying ht, MapKept.run_getObj_map hb, go_sem, r.len, goInt]
def putK (M : List (ByteArray × Value)) (k : ByteArray) (v : Value) : List (ByteArray × Value) := match M.findIdx? fun p => k == p.1 with
  | some i => M.set i (k, v)
  | none => M ++ [(k, v)]
def delK (M : List (ByteArray × Value)) (k : ByteArray) : List (ByteArray × Value) := match M.findIdx? fun p => k == p.1 with
  | some i => M.eraseIdx i
  | none => M
theorem stay_run (k : ByteArray) (w : World) : (Instr.keyThatStays (.string k) (.string k)).run P w = .ok (.string k) w := by
  simp [Instr.keyThatStays, Instr.sameBits, ba_self, go_sem]
theorem none_keys {M : List (ByteArray × Value)} {k : ByteArray} (h : (M.findIdx? fun p => k == p.1) = none) : ∀ p ∈ M, p.1 ≠ k := fun p hp e => by
  rw [List.findIdx?_eq_none_iff] at h
  have := h p hp
  subst e
  rw [ba_self] at this; cases this
theorem updM_of {k : ByteArray} {v : Value} {K : Unit → H → Prop} (ht : P.underlying t = some (.map kt et)) (hk : P.underlying kt = some .string) (m : MapH h b M)
    (kk : ∀ h', MapH h' b (putK M k v) → Only (· = b) h h' → h'.size = h.size → K () h') : RunS P (Instr.mapUpdate t (.map (some b)) (.string k) v) h K := fun w hw => by
  subst hw
  obtain ⟨es, clock, hb, r⟩ := m
  have hset : ∀ o : Obj, Only (· = b) w.heap (setBlock w b o).heap ∧ (setBlock w b o).heap.size = w.heap.size := fun o => by
    refine ⟨⟨by simp [setBlock], fun n hn hne => ?_⟩, by simp [setBlock]⟩
    exact heap_setBlock_other hb _ (fun e => hne e)
  rcases getK_pos (M := M) (k := k) with ⟨h1, h2⟩ | ⟨i, p, h1, hp, hpk, h2⟩
  · refine ⟨(), setBlock w b (.map (es.push { key := .string k, val := v, born := clock }) (clock + 1)), ?_, ⟨rfl, rfl, rfl⟩, kk _ ⟨_, _, heap_setBlock_same hb _, ?_, ?_, ?_, ?_⟩ (hset _).1 (hset _).2⟩
    · simp only [Instr.mapUpdate, Sem.run_bind, run_underlying ht, Result.andThen_ok, MapKept.run_getObj_map hb, check_run hk, find_run hk k r, h1, h2, MapKept.run_setObj_map _ hb]
      rfl
    · unfold putK; rw [h1]
      simp [r.eq]
    · intro e he
      simp at he
      rcases he with he | rfl
      · have := r.old e (by simpa using he); omega
      · simp
    · simp only [Array.toList_push, List.map_append, List.map_cons, List.map_nil]
      rw [List.nodup_append]
      refine ⟨r.born, by simp, fun a ha c hc => ?_⟩
      simp at hc; subst hc
      obtain ⟨e, he, rfl⟩ := List.mem_map.1 ha
      have := r.old e he; omega
    · unfold putK; rw [h1]
      simp only [List.map_append, List.map_cons, List.map_nil]
      rw [List.nodup_append]
      refine ⟨r.keys, by simp, fun a ha c hc => ?_⟩
      simp at hc; subst hc
      obtain ⟨e, he, rfl⟩ := List.mem_map.1 ha
      exact none_keys h1 e he
  · subst hpk
    have hil : i < es.size := by rw [r.len]; exact (List.getElem?_eq_some_iff.1 hp).1
    have hei : es[i]? = some es[i] := Array.getElem?_eq_getElem hil
    obtain ⟨q, q1, q2, q3⟩ := r.get (i := i) (e := es[i]) (by simp [hil])
    rw [hp] at q1; cases q1
    have hnew : (es.modify i fun e => { e with key := .string p.1, val := v }).toList = es.toList.set i { es[i] with key := .string p.1, val := v } := by
      rw [Array.toList_modify]
      apply List.ext_getElem?
      intro j
      rw [List.getElem?_modify, List.getElem?_set]
      by_cases hij : i = j
      · subst hij; simp [hil]
      · simp [hij]
    refine ⟨(), setBlock w b (.map (es.modify i fun e => { e with key := .string p.1, val := v }) clock), ?_, ⟨rfl, rfl, rfl⟩, kk _ ⟨_, _, heap_setBlock_same hb _, ?_, ?_, ?_, ?_⟩ (hset _).1 (hset _).2⟩
    · simp only [Instr.mapUpdate, Sem.run_bind, run_underlying ht, Result.andThen_ok, MapKept.run_getObj_map hb, check_run hk, find_run hk p.1 r, h1, h2, hei, Option.map_some, Option.getD_some, q2, stay_run, MapKept.run_setObj_map _ hb]
      rfl
    · unfold putK; rw [h1, hnew]
      simp only [List.map_set, r.eq]
    · rw [hnew]
      intro e he
      rcases List.mem_or_eq_of_mem_set he with he | rfl
      · exact r.old e he
      · exact r.old es[i] (by simp)
    · rw [hnew, List.map_set]
      have : (es.toList.map (·.born)).set i es[i].born = es.toList.map (·.born) := by
        apply List.ext_getElem?
        intro j
        rw [List.getElem?_set]
        split
        · rename_i hij; subst hij
          simp [hil]
        · rfl
      rw [this]; exact r.born
    · unfold putK; rw [h1]
      simp only [List.map_set]
      have : (M.map (·.1)).set i p.1 = M.map (·.1) := by
        apply List.ext_getElem?
        intro j
        rw [List.getElem?_set]
        split
        · rename_i hij; subst hij
          have hl := (List.getElem?_eq_some_iff.1 hp).1
          rw [if_pos (by simpa using hl), List.getElem?_map, hp]
          rfl
        · rfl
      rw [this]; exact r.keys
theorem delM_of {k : ByteArray} {K : Value → H → Prop} {ty : TypeId} (ht : P.underlying t = some (.map kt et)) (hk : P.underlying kt = some .string) (m : MapH h b M)
    (kk : ∀ h', MapH h' b (delK M k) → Only (· = b) h h' → h'.size = h.size → K (.tuple #[]) h') : RunS P (Builtin.delete_ #[t, kt] ty #[.map (some b), .string k]) h K := fun w hw => by
  subst hw
  obtain ⟨es, clock, hb, r⟩ := m
  have hset : ∀ o : Obj, Only (· = b) w.heap (setBlock w b o).heap ∧ (setBlock w b o).heap.size = w.heap.size := fun o => by
    refine ⟨⟨by simp [setBlock], fun n hn hne => ?_⟩, by simp [setBlock]⟩
    exact heap_setBlock_other hb _ (fun e => hne e)
  rcases getK_pos (M := M) (k := k) with ⟨h1, h2⟩ | ⟨i, p, h1, hp, hpk, h2⟩
  · refine ⟨_, setBlock w b (.map es clock), ?_, ⟨rfl, rfl, rfl⟩, kk _ ⟨_, _, heap_setBlock_same hb _, ?_⟩ (hset _).1 (hset _).2⟩
    · simp [Builtin.delete_, run_underlying ht, MapKept.run_getObj_map hb, check_run hk, find_run hk k r, h1, h2, MapKept.run_setObj_map _ hb, Result.andThen, setBlock]
    · unfold delK; rw [h1]; exact r
  · have hil : i < es.size := by rw [r.len]; exact (List.getElem?_eq_some_iff.1 hp).1
    have hsub : (es.eraseIdxIfInBounds i).toList = es.toList.eraseIdx i := by
      unfold Array.eraseIdxIfInBounds
      rw [dif_pos hil]
      simp
    refine ⟨_, setBlock w b (.map (es.eraseIdxIfInBounds i) clock), ?_, ⟨rfl, rfl, rfl⟩, kk _ ⟨_, _, heap_setBlock_same hb _, ?_, ?_, ?_, ?_⟩ (hset _).1 (hset _).2⟩
    · simp [Builtin.delete_, run_underlying ht, MapKept.run_getObj_map hb, check_run hk, find_run hk k r, h1, h2, MapKept.run_setObj_map _ hb, Result.andThen, setBlock]
    · unfold delK; rw [h1, hsub]
      rw [← map_erase, ← map_erase, r.eq]
    · rw [hsub]
      intro e he
      exact r.old e ((List.eraseIdx_sublist _ _).subset he)
    · rw [hsub]
      exact r.born.sublist ((List.eraseIdx_sublist _ _).map _)
    · unfold delK; rw [h1]
      exact r.keys.sublist ((List.eraseIdx_sublist _ _).map _)
/-- An iterator over a map: what it has told. -/
def ItH (h : H) (r b : Nat) (M D : List (ByteArray × Value)) : Prop := r ≠ b ∧ ∃ es clock since seen c0, h[b]? = some (.map es clock) ∧ MpRep es clock M ∧ h[r]? = some (.mapIter (some b) since seen c0) ∧ (∀ e ∈ es.toList, e.born < since) ∧ since ≤ c0 ∧ since ≤ clock ∧
  ∃ E : List MapEntry, (∀ e ∈ E, e ∈ es.toList) ∧ E.map (·.born) = seen.toList ∧ (E.map (·.born)).Nodup ∧ E.map (fun e => (e.key, e.val)) = D.map fun p => (.string p.1, p.2)
theorem ItH.map {h : H} {r b : Nat} {M D : List (ByteArray × Value)} (i : ItH h r b M D) : MapH h b M := by
  obtain ⟨_, es, clock, since, seen, c0, h1, h2, _⟩ := i; exact ⟨es, clock, h1, h2⟩
theorem ItH.only {S : Nat → Prop} {h h' : H} {r b : Nat} {M D : List (ByteArray × Value)} (i : ItH h r b M D) (o : Only S h h') (h1 : ¬ S b) (h2 : ¬ S r) : ItH h' r b M D := by
  obtain ⟨hne, es, clock, since, seen, c0, hb, hr, hi, rest⟩ := i
  exact ⟨hne, es, clock, since, seen, c0, o.block hb h1, hr, o.block hi h2, rest⟩
theorem rangeM_of {K : Value → H → Prop} (ht : P.underlying t = some (.map kt et)) (m : MapH h b M)
    (kk : ∀ h', ItH h' h.size b M [] → Ext h h' → h'.size = h.size + 1 → K (.pointer (some ⟨h.size, 0, none⟩)) h') : RunS P (Instr.range t (.map (some b))) h K := fun w hw => by
  subst hw
  have hlt := m.lt
  obtain ⟨es, clock, hb, r⟩ := m
  refine ⟨_, _, run_range_map w t kt et b es clock ht hb, ⟨rfl, rfl, rfl⟩, kk _ ⟨by omega, es, clock, clock, #[], clock, ?_, r, ?_, r.old, Nat.le_refl _, Nat.le_refl _, [], by simp, by simp, by simp, rfl⟩ (.push _ _) (by simp)⟩
  · exact ((MapKept.heap_alloc w _).2 b hlt).trans hb
  · exact (MapKept.heap_alloc w _).1
/-- The step: it is over, all are told; or one more is. -/
theorem nextM_of {K : Value → H → Prop} {r : Nat} {D : List (ByteArray × Value)} {ty : TypeId} (i : ItH h r b M D)
    (k0 : D.Perm M → K (.tuple #[.bool false]) h)
    (k1 : ∀ h' p, ItH h' r b M (D ++ [p]) → p ∈ M → Only (· = r) h h' → h'.size = h.size → (∀ K2 : Value → H → Prop, K2 (.tuple #[.string p.1, p.2]) h' → RunS P (Instr.entry (.pointer (some ⟨r, 0, none⟩))) h' K2) → K (.tuple #[.bool true, .string p.1, p.2]) h') :
    RunS P (Instr.next (.pointer (some ⟨r, 0, none⟩)) false ty) h K := fun w hw => by
  subst hw
  obtain ⟨hne, es, clock, since, seen, c0, hb, rp, hr, hold, hsc, hsk, E, e1, e2, e3, e4⟩ := i
  rcases run_next_at (P := P) w ty r b since c0 seen es clock hr hb hold hsc with ⟨h0, hrun⟩ | ⟨e, he, w1, hal, hrun⟩
  · refine ⟨_, w, hrun, Like.refl w, k0 ?_⟩
    have hall := all_seen es seen h0
    have hnd : es.toList.Nodup := nodup_of rp.born
    have hEn : E.Nodup := nodup_of e3
    have hp : E.Perm es.toList := (List.perm_ext_iff_of_nodup hEn hnd).2 fun x => ⟨e1 x, fun hx => by
      have hs := hall x hx
      have : x.born ∈ seen.toList := by simpa using hs
      rw [← e2] at this
      obtain ⟨y, hy, hyx⟩ := List.mem_map.1 this
      have := born_inj rp.born (e1 y hy) hx hyx
      rw [← this]; exact hy⟩
    have hq := hp.map fun e => (e.key, e.val)
    rw [e4, rp.eq] at hq
    have hinj : ∀ (A B : List (ByteArray × Value)), (A.map fun p => ((Value.string p.1, p.2) : Value × Value)).Perm (B.map fun p => (Value.string p.1, p.2)) → A.Perm B := fun A B hAB => by
      have := hAB.map (fun q : Value × Value => ((match q.1 with | .string s => s | _ => ⟨#[]⟩ : ByteArray), q.2))
      simpa [List.map_map, Function.comp_def] using this
    exact hinj _ _ hq
  · obtain ⟨hem, hes⟩ := mem_left he
    have hr1 : w1.heap[r]? = some (.mapIter (some b) since seen c0) := by rcases hal with rfl | rfl <;> exact hr
    have hb1 : w1.heap[b]? = some (.map es clock) := by rcases hal with rfl | rfl <;> exact hb
    have hset := heap_set (o' := .mapIter (some b) since (seen.push e.born) clock) hr1
    have hb' : (setBlock w1 r (.mapIter (some b) since (seen.push e.born) clock)).heap[b]? = some (.map es clock) := (hset.2 b (fun e1 => hne e1.symm)).trans hb1
    obtain ⟨j, hj⟩ := List.mem_iff_getElem?.1 hem
    obtain ⟨p, p1, p2, p3⟩ := rp.get hj
    have hnew : e.born ∉ seen.toList := by simpa using hes
    have hw1 : w1.heap = w.heap := by rcases hal with rfl | rfl <;> rfl
    rw [p2, p3] at hrun
    refine ⟨_, _, hrun, ?_, k1 _ p ⟨hne, es, clock, since, seen.push e.born, clock, hb', rp, hset.1, hold, hsk, hsk, E ++ [e], fun x hx => ?_, by simp [e2], ?_, by simp [e4, p2, p3]⟩ (List.mem_of_getElem? p1) ?_ ?_ fun K2 kk2 => ?_⟩
    · rcases hal with rfl | rfl <;> exact ⟨rfl, rfl, rfl⟩
    · simp at hx
      rcases hx with hx | rfl
      · exact e1 x hx
      · exact hem
    · rw [List.map_append, List.nodup_append]
      refine ⟨e3, by simp, fun a ha c hc => ?_⟩
      simp at hc; subst hc
      rw [e2] at ha
      exact fun e => hnew (e ▸ ha)
    · refine ⟨by simp [setBlock, hw1], fun n hn hne' => ?_⟩
      exact (hset.2 n hne').trans (by rw [hw1])
    · simp [setBlock, hw1]
    · intro w2 hw2
      refine ⟨_, w2, ?_, Like.refl w2, by rw [hw2]; exact kk2⟩
      have := run_entry_at (P := P) w2 r b since seen es clock e (by rw [hw2]; exact hset.1) (by rw [hw2]; exact hb') hem rp.born
      rw [p2, p3] at this
      exact this
end
end Go.Proofs.Ytidpbnbjpglhfaa.V
