/- Heaps: what is left as it was; a block that is known whole; slices that own their rows; append; no condition. -/
import Derived.Test.YtidpbnbjpglhfaaVf
namespace Go.Proofs.Ytidpbnbjpglhfaa.V
open Go
set_option linter.unusedVariables false
set_option linter.unusedSimpArgs false

/-- From h to h' nothing has gone, and of what was there only blocks of S may have turned. -/
structure Only (S : Nat → Prop) (h h' : H) : Prop where
  size : h.size ≤ h'.size
  same : ∀ b, b < h.size → ¬ S b → h'[b]? = h[b]?
abbrev Ext (h h' : H) : Prop := Only (fun _ => False) h h'
theorem Only.refl {S : Nat → Prop} (h : H) : Only S h h := ⟨Nat.le_refl _, fun _ _ _ => rfl⟩
theorem Only.mono {S S' : Nat → Prop} {h h' : H} (o : Only S h h') (hs : ∀ b, b < h.size → S b → S' b) : Only S' h h' := ⟨o.size, fun b hb hn => o.same b hb fun s => hn (hs b hb s)⟩
theorem Only.trans {S S' : Nat → Prop} {a b c : H} (o : Only S a b) (p : Only S' b c) (hs : ∀ n, n < a.size → S' n → S n) : Only S a c :=
  ⟨Nat.le_trans o.size p.size, fun n hn hS => (p.same n (Nat.lt_of_lt_of_le hn o.size) fun s => hS (hs n hn s)).trans (o.same n hn hS)⟩
theorem Only.ext {S : Nat → Prop} {a b c : H} (o : Only S a b) (p : Ext b c) : Only S a c := o.trans p fun _ _ f => f.elim
theorem Ext.only {S : Nat → Prop} {a b : H} (o : Ext a b) : Only S a b := o.mono fun _ _ f => f.elim
theorem Ext.trans {a b c : H} (o : Ext a b) (p : Ext b c) : Ext a c := Only.trans o p fun _ _ f => f
theorem Only.push {S : Nat → Prop} (h : H) (o : Obj) : Only S h (h.push o) := ⟨by simp, fun b hb _ => by rw [Array.getElem?_push, if_neg (by omega)]⟩
theorem Only.block {S : Nat → Prop} {h h' : H} (o : Only S h h') {b : Nat} {x : Obj} (hb : h[b]? = some x) (hn : ¬ S b) : h'[b]? = some x :=
  (o.same b (Array.getElem?_eq_some_iff.1 hb).1 hn).trans hb
theorem block_lt {h : H} {b : Nat} {x : Obj} (hb : h[b]? = some x) : b < h.size := (Array.getElem?_eq_some_iff.1 hb).1
theorem cell_block {h h' : H} {a : Addr} (e : h'[a.block]? = h[a.block]?) : cellH h' a = cellH h a := by unfold cellH; rw [e]
theorem frozen_block {h h' : H} {a : Addr} (e : h'[a.block]? = h[a.block]?) : frozenH h' a = frozenH h a := by unfold frozenH; rw [e]
theorem cell_lt {h : H} {a : Addr} {v : Value} (hc : cellH h a = some v) : a.block < h.size := by
  unfold cellH at hc
  cases hb : h[a.block]? with
  | none => simp [hb] at hc
  | some o => exact block_lt hb
theorem Only.cell {S : Nat → Prop} {h h' : H} (o : Only S h h') {a : Addr} {v : Value} (hc : cellH h a = some v) (hn : ¬ S a.block) : cellH h' a = some v :=
  (cell_block (o.same _ (cell_lt hc) hn)).trans hc

/-- Block b is these cells, none of them frozen. -/
abbrev Blk (h : H) (b : Nat) (c : Array Value) (e : TypeId) : Prop := h[b]? = some (.cells c e (0, 0))
theorem Blk.cell {h : H} {b i : Nat} {c : Array Value} {e : TypeId} {v : Value} (k : Blk h b c e) (hv : c[i]? = some v) : cellH h ⟨b, i, none⟩ = some v := by
  unfold cellH; rw [show h[(⟨b, i, none⟩ : Addr).block]? = _ from k]; exact hv
theorem Blk.frozen {h : H} {b i : Nat} {c : Array Value} {e : TypeId} (k : Blk h b c e) : frozenH h ⟨b, i, none⟩ = false := by
  unfold frozenH; rw [show h[(⟨b, i, none⟩ : Addr).block]? = _ from k]; simp
theorem Blk.new (h : H) (c : Array Value) (e : TypeId) : Blk (h.push (.cells c e)) h.size c e := by simp [Blk]
theorem add_lit (b o i : Nat) : (⟨b, o, none⟩ : Addr).add i = ⟨b, o + i, none⟩ := by
  unfold Addr.add; split
  · subst_vars; rfl
  · rfl
/-- c with vs from place i on. -/
def writeA (c : Array Value) : Nat → List Value → Array Value
  | _, [] => c
  | i, v :: r => writeA (c.setIfInBounds i v) (i + 1) r
theorem writeA_size (c : Array Value) (i : Nat) (vs : List Value) : (writeA c i vs).size = c.size := by
  induction vs generalizing c i with
  | nil => rfl
  | cons v r ih => simp [writeA, ih]
theorem writeA_get {c : Array Value} {i : Nat} {vs : List Value} (hl : i + vs.length ≤ c.size) (j : Nat) : (writeA c i vs)[j]? = if j < i then c[j]? else if j < i + vs.length then vs[j - i]? else c[j]? := by
  induction vs generalizing c i with
  | nil => simp [writeA]; intros; omega
  | cons v r ih =>
    simp only [List.length_cons] at hl
    rw [writeA, ih (by simp; omega)]
    by_cases h1 : j < i
    · simp [h1, show j < i + 1 by omega, Array.getElem?_setIfInBounds_ne (show i ≠ j by omega)]
    · by_cases h2 : j = i
      · subst h2
        simp [show j < c.size by omega]
      · have h3 : ¬ j < i + 1 := by omega
        simp only [h1, h3, if_false, List.length_cons]
        by_cases h4 : j < i + (r.length + 1)
        · rw [if_pos (by omega), if_pos h4]
          rw [show j - i = (j - (i + 1)) + 1 from by omega, List.getElem?_cons_succ]
        · rw [if_neg (by omega), if_neg h4, Array.getElem?_setIfInBounds_ne (by omega)]
theorem setHs_blk {h : H} {b : Nat} {c : Array Value} {e : TypeId} (k : Blk h b c e) (off : Nat) (vs : List Value) (i : Nat) : Blk (setHs h ⟨b, off, none⟩ vs i) b (writeA c (off + i) vs) e ∧ Only (· = b) h (setHs h ⟨b, off, none⟩ vs i) ∧ (setHs h ⟨b, off, none⟩ vs i).size = h.size := by
  induction vs generalizing h c i with
  | nil => exact ⟨k, .refl _, rfl⟩
  | cons v r ih =>
    have k1 : Blk (setH h ((⟨b, off, none⟩ : Addr).add i) v) b (c.setIfInBounds (off + i) v) e := by
      rw [add_lit]
      have hk : h[b]? = some (.cells c e (0, 0)) := k
      simp [Blk, setH, Array.getElem?_modify, hk]
    have o1 : Only (· = b) h (setH h ((⟨b, off, none⟩ : Addr).add i) v) := ⟨by simp [setH], fun n hn hne => by
      rw [add_lit]
      have hne' : ¬ b = n := fun e => hne e.symm
      simp [setH, Array.getElem?_modify, hne']⟩
    obtain ⟨a1, a2, a3⟩ := ih k1 (i + 1)
    exact ⟨a1, o1.trans a2 (fun _ _ s => s), by rw [setHs, a3]; simp [setH]⟩

/-! ### The words, to be used -/
theorem nn_of {a : Addr} {K : Addr → Prop} (k : K a) : nn (some a) K := ⟨a, rfl, k⟩
theorem ldI_of {k : IntKind} {h : H} {a : Addr} {n : Int} {K : Int → Prop} (hc : cellH h a = some (.int k n)) (kk : K n) : ldI k h a K := ⟨n, hc, kk⟩
theorem ldB_of {h : H} {a : Addr} {n : Bool} {K : Bool → Prop} (hc : cellH h a = some (.bool n)) (kk : K n) : ldB h a K := ⟨n, hc, kk⟩
theorem ldS_of {h : H} {a : Addr} {n : ByteArray} {K : ByteArray → Prop} (hc : cellH h a = some (.string n)) (kk : K n) : ldS h a K := ⟨n, hc, kk⟩
theorem ldP_of {h : H} {a : Addr} {n : Option Addr} {K : Option Addr → Prop} (hc : cellH h a = some (.pointer n)) (kk : K n) : ldP h a K := ⟨n, hc, kk⟩
theorem ldL_of {h : H} {a : Addr} {n : Sl} {K : Sl → Prop} (hc : cellH h a = some n.enc) (kk : K n) : ldL h a K := ⟨n, hc, kk⟩
theorem ldV_of {h : H} {a : Addr} {n : Value} {K : Value → Prop} (hc : cellH h a = some n) (kk : K n) : ldV h a K := ⟨n, hc, kk⟩
theorem new_of {h : H} {cs : Array Value} {e : TypeId} {K : Addr → H → Prop} (k : ∀ n h', n = h.size → Blk h' n cs e → Ext h h' → h'.size = h.size + 1 → K ⟨n, 0, none⟩ h') : new h cs e K :=
  k _ _ rfl (Blk.new h cs e) (.push h _) (by simp)
theorem newL_of {h : H} {cs : Array Value} {e : TypeId} {m : Nat} {K : Sl → H → Prop} (k : ∀ n h', n = h.size → Blk h' n cs e → Ext h h' → h'.size = h.size + 1 → K ⟨some ⟨n, 0, none⟩, m, m⟩ h') : newL h cs e m K :=
  k _ _ rfl (Blk.new h cs e) (.push h _) (by simp)
theorem stH_of {h : H} {b off : Nat} {c : Array Value} {e : TypeId} {vs : List Value} {K : H → Prop} (kb : Blk h b c e) (hl : off + vs.length ≤ c.size) (k : ∀ h', Blk h' b (writeA c off vs) e → Only (· = b) h h' → h'.size = h.size → K h') : stH h ⟨b, off, none⟩ vs K := by
  refine ⟨fun j hj => ?_, ?_⟩
  · rw [add_lit, kb.frozen]
    refine ⟨?_, rfl⟩
    obtain ⟨v, hv⟩ : ∃ v, c[off + j]? = some v := ⟨c[off + j]'(by omega), Array.getElem?_eq_getElem _⟩
    rw [kb.cell hv]; rfl
  · obtain ⟨a1, a2, a3⟩ := setHs_blk kb off vs 0
    exact k _ a1 a2 a3

/-! ### Slices that own their rows -/
def Sl.blk (s : Sl) : Option Nat := s.ptr.map (·.block)
/-- The slice is nil; or it begins a row of its own, whose first cells are cs. -/
def Owns (h : H) (s : Sl) (e : TypeId) (size : Nat) (cs : List Value) : Prop :=
  cs.length = s.len * size ∧ ((s.ptr = none ∧ s.len = 0 ∧ s.cap = 0) ∨
    ∃ b c, s.ptr = some ⟨b, 0, none⟩ ∧ Blk h b c e ∧ c.size = s.cap * size ∧ s.len ≤ s.cap ∧ s.cap ≤ maxLen ∧ c.toList.take cs.length = cs)
/-- The slice's cells, as they read. -/
def Reads (h : H) (s : Sl) (size : Nat) (cs : List Value) : Prop :=
  cs.length = s.len * size ∧ (s.ptr = none → s.len = 0 ∧ s.cap = 0) ∧ ∀ i v, cs[i]? = some v → ∃ p, s.ptr = some p ∧ p.spot = none ∧ cellH h (p.add i) = some v
theorem Owns.nil (h : H) (e : TypeId) (size : Nat) : Owns h ⟨none, 0, 0⟩ e size [] := ⟨by simp, .inl ⟨rfl, rfl, rfl⟩⟩
theorem Owns.get {h : H} {s : Sl} {e : TypeId} {size : Nat} {cs : List Value} (o : Owns h s e size cs) {i : Nat} {v : Value} (hv : cs[i]? = some v) : ∃ b, s.ptr = some ⟨b, 0, none⟩ ∧ cellH h ⟨b, i, none⟩ = some v := by
  obtain ⟨hl, ⟨h1, h2, h3⟩ | ⟨b, c, h1, h2, h3, h4, _, h5⟩⟩ := o
  · rw [h2, Nat.zero_mul] at hl
    rw [List.eq_nil_of_length_eq_zero hl] at hv; simp at hv
  · refine ⟨b, h1, h2.cell ?_⟩
    have hlt : i < cs.length := (List.getElem?_eq_some_iff.1 hv).1
    have : (c.toList.take cs.length)[i]? = some v := by rw [h5]; exact hv
    rw [List.getElem?_take_of_lt hlt] at this
    simpa using this
theorem Owns.reads {h : H} {s : Sl} {e : TypeId} {size : Nat} {cs : List Value} (o : Owns h s e size cs) : Reads h s size cs := ⟨o.1, (fun hp => by
  obtain ⟨_, ⟨_, h2, h3⟩ | ⟨b, c, h1, _⟩⟩ := o
  · exact ⟨h2, h3⟩
  · rw [h1] at hp; cases hp), fun i v hv => by
  obtain ⟨b, h1, h2⟩ := o.get hv
  exact ⟨_, h1, rfl, by rw [add_lit, Nat.zero_add]; exact h2⟩⟩
theorem Owns.only {S : Nat → Prop} {h h' : H} {s : Sl} {e : TypeId} {size : Nat} {cs : List Value} (o : Owns h s e size cs) (k : Only S h h') (hn : ∀ b, s.blk = some b → ¬ S b) : Owns h' s e size cs := by
  obtain ⟨hl, h1 | ⟨b, c, h1, h2, h3⟩⟩ := o
  · exact ⟨hl, .inl h1⟩
  · exact ⟨hl, .inr ⟨b, c, h1, k.block h2 (hn b (by simp [Sl.blk, h1])), h3⟩⟩
theorem Reads.only {S : Nat → Prop} {h h' : H} {s : Sl} {size : Nat} {cs : List Value} (o : Reads h s size cs) (k : Only S h h') (hn : ∀ b, s.blk = some b → ¬ S b) : Reads h' s size cs :=
  ⟨o.1, o.2.1, fun i v hv => by
    obtain ⟨p, h1, h2, h3⟩ := o.2.2 i v hv
    exact ⟨p, h1, h2, k.cell h3 (by rw [Addr.add_block]; exact hn _ (by simp [Sl.blk, h1]))⟩⟩
theorem Owns.blk_lt {h : H} {s : Sl} {e : TypeId} {size : Nat} {cs : List Value} (o : Owns h s e size cs) {b : Nat} (hb : s.blk = some b) : b < h.size := by
  obtain ⟨hl, ⟨h1, _⟩ | ⟨b', c, h1, h2, h3⟩⟩ := o
  · simp [Sl.blk, h1] at hb
  · simp [Sl.blk, h1] at hb; subst hb; exact block_lt h2
end Go.Proofs.Ytidpbnbjpglhfaa.V
