/- make; lists of things in owned slices: what lies at a place, and a place written anew; no condition. -/
import Derived.Test.YtidpbnbjpglhfaaVi
namespace Go.Proofs.Ytidpbnbjpglhfaa.V
open Go
set_option linter.unusedVariables false
set_option linter.unusedSimpArgs false

theorem nn_some {a : Addr} {K : Addr → Prop} : nn (some a) K ↔ K a := ⟨fun ⟨_, e, k⟩ => by cases e; exact k, fun k => ⟨a, rfl, k⟩⟩
theorem enc_inj {s t : Sl} : s.enc = t.enc ↔ s = t := ⟨fun h => by cases s; cases t; simp [Sl.enc] at h; obtain ⟨rfl, rfl, rfl⟩ := h; rfl, fun h => by rw [h]⟩
theorem ldI_iff {k : IntKind} {h : H} {a : Addr} {n : Int} {K : Int → Prop} (hc : cellH h a = some (.int k n)) : ldI k h a K ↔ K n := ⟨fun ⟨m, e, kk⟩ => by rw [hc] at e; cases e; exact kk, fun kk => ⟨n, hc, kk⟩⟩
theorem ldB_iff {h : H} {a : Addr} {n : Bool} {K : Bool → Prop} (hc : cellH h a = some (.bool n)) : ldB h a K ↔ K n := ⟨fun ⟨m, e, kk⟩ => by rw [hc] at e; cases e; exact kk, fun kk => ⟨n, hc, kk⟩⟩
theorem ldS_iff {h : H} {a : Addr} {n : ByteArray} {K : ByteArray → Prop} (hc : cellH h a = some (.string n)) : ldS h a K ↔ K n := ⟨fun ⟨m, e, kk⟩ => by rw [hc] at e; cases e; exact kk, fun kk => ⟨n, hc, kk⟩⟩
theorem ldP_iff {h : H} {a : Addr} {n : Option Addr} {K : Option Addr → Prop} (hc : cellH h a = some (.pointer n)) : ldP h a K ↔ K n := ⟨fun ⟨m, e, kk⟩ => by rw [hc] at e; cases e; exact kk, fun kk => ⟨n, hc, kk⟩⟩
theorem ldV_iff {h : H} {a : Addr} {n : Value} {K : Value → Prop} (hc : cellH h a = some n) : ldV h a K ↔ K n := ⟨fun ⟨m, e, kk⟩ => by rw [hc] at e; cases e; exact kk, fun kk => ⟨n, hc, kk⟩⟩
theorem ldL_iff {h : H} {a : Addr} {n : Sl} {K : Sl → Prop} (hc : cellH h a = some n.enc) : ldL h a K ↔ K n := ⟨fun ⟨m, e, kk⟩ => by rw [hc, Option.some.injEq, enc_inj] at e; subst e; exact kk, fun kk => ⟨n, hc, kk⟩⟩
theorem idxA_of {s : Sl} {b i size : Nat} {n : Int} {K : Addr → Prop} (hp : s.ptr = some ⟨b, 0, none⟩) (hi : i < s.len) (hn : n = (i : Int)) (k : K ⟨b, i * size, none⟩) : idxA s n size K :=
  ⟨_, ⟨⟨b, 0, none⟩, hp, by omega, by omega, rfl⟩, by rw [add_lit, Nat.zero_add, hn, Int.toNat_natCast]; exact k⟩
theorem w64 {n : Int} (h0 : -9223372036854775808 ≤ n) (h1 : n < 9223372036854775808) : IntKind.wrap .i64 n = n := by
  unfold IntKind.wrap
  simp [IntKind.bits, IntKind.signed]
  omega
/-! ### Lists of things -/
theorem flat_get {α : Type} (f : α → List Value) (k : Nat) (hf : ∀ x, (f x).length = k) : ∀ (L : List α) (i : Nat) (x : α), L[i]? = some x → ∀ j, j < k → (L.flatMap f)[i * k + j]? = (f x)[j]?
  | [], i, x, hx => by simp at hx
  | y :: r, 0, x, hx => fun j hj => by
    simp at hx; subst hx
    simp only [List.flatMap_cons, Nat.zero_mul, Nat.zero_add]
    rw [List.getElem?_append_left (by rw [hf]; exact hj)]
  | y :: r, i + 1, x, hx => fun j hj => by
    simp only [List.getElem?_cons_succ] at hx
    simp only [List.flatMap_cons]
    rw [List.getElem?_append_right (by rw [hf, Nat.add_mul]; omega), hf, show (i + 1) * k + j - k = i * k + j from by rw [Nat.add_mul]; omega]
    exact flat_get f k hf r i x hx j hj
theorem flat_len {α : Type} (f : α → List Value) (k : Nat) (hf : ∀ x, (f x).length = k) (L : List α) : (L.flatMap f).length = L.length * k := by
  induction L with
  | nil => simp
  | cons y r ih => simp [hf, ih, Nat.add_mul]; omega
theorem flat_set {α : Type} (f : α → List Value) (k : Nat) (hf : ∀ x, (f x).length = k) : ∀ (L : List α) (i : Nat) (x : α), i < L.length → (L.set i x).flatMap f = (L.flatMap f).take (i * k) ++ f x ++ (L.flatMap f).drop (i * k + (f x).length)
  | [], i, x, hx => by simp at hx
  | y :: r, 0, x, hx => by
    have hk : (f y).length = k := hf y
    rw [hf x, Nat.zero_mul, Nat.zero_add, ← hk]
    simp only [List.set_cons_zero, List.flatMap_cons, List.take_zero, List.nil_append, List.drop_left]
  | y :: r, i + 1, x, hx => by
    have hk : (f y).length = k := hf y
    have e1 : (i + 1) * k = (f y).length + i * k := by rw [Nat.add_mul, hk]; omega
    have e2 : (i + 1) * k + (f x).length = (f y).length + (i * k + (f x).length) := by omega
    rw [e2, e1]
    simp only [List.set_cons_succ, List.flatMap_cons, List.take_length_add_append, List.drop_length_add_append, flat_set f k hf r i x (by simpa using hx)]
    simp
theorem writeA_all {c : Array Value} {vs : List Value} (hl : vs.length = c.size) : writeA c 0 vs = vs.toArray := by
  apply Array.ext_getElem?
  intro i
  rw [writeA_get (by omega)]
  by_cases hi : i < vs.length
  · rw [if_neg (by omega), if_pos (by omega)]; simp
  · rw [if_neg (by omega), if_neg (by omega), Array.getElem?_eq_none (by omega)]; simp; omega
theorem Cells.ext {h h' : H} {a : Addr} {cs : List Value} (c : Cells h a cs) (o : Ext h h') : Cells h' a cs := fun j v hv => o.cell (c j v hv) (fun f => f)
theorem Cells.only {S : Nat → Prop} {h h' : H} {a : Addr} {cs : List Value} (c : Cells h a cs) (o : Only S h h') (hn : ¬ S a.block) : Cells h' a cs := fun j v hv => o.cell (c j v hv) (by rw [Addr.add_block]; exact hn)

section
variable {P : Program} {h : H}
/-- Cells of an owned row are written. -/
theorem own_set {h : H} {s : Sl} {e : TypeId} {size : Nat} {cs vs : List Value} {b o : Nat} {K : H → Prop} (ow : Owns h s e size cs) (hp : s.ptr = some ⟨b, 0, none⟩) (ho : o + vs.length ≤ cs.length)
    (k : ∀ h', Owns h' s e size (cs.take o ++ vs ++ cs.drop (o + vs.length)) → Only (fun b => s.blk = some b) h h' → h'.size = h.size → K h') : stH h ⟨b, o, none⟩ vs K := by
  obtain ⟨hl, ⟨h1, _⟩ | ⟨b', c, h1, h2, h3, h4, h5, h6⟩⟩ := ow
  · rw [h1] at hp; cases hp
  · rw [h1] at hp; cases hp
    have hcl : cs.length ≤ c.size := by
      have := congrArg List.length h6
      simp at this; omega
    refine stH_of h2 (by omega) fun h' k1 k2 k3 => k h' ⟨by simp; omega, .inr ⟨b, _, h1, k1, by rw [writeA_size]; exact h3, h4, h5, ?_⟩⟩ (k2.mono fun n _ e => by simp [Sl.blk, h1, e]) k3
    apply List.ext_getElem?
    intro i
    have hlen : (cs.take o ++ vs ++ cs.drop (o + vs.length)).length = cs.length := by simp; omega
    rw [hlen]
    by_cases hi : i < cs.length
    · rw [List.getElem?_take_of_lt hi]
      have hcs : ∀ i, i < cs.length → c[i]? = cs[i]? := fun i hi => by
        have : (c.toList.take cs.length)[i]? = cs[i]? := by rw [h6]
        rw [List.getElem?_take_of_lt hi] at this
        simpa using this
      have hw := writeA_get (c := c) (i := o) (vs := vs) (by omega) i
      rw [Array.getElem?_toList, hw]
      by_cases h1 : i < o
      · rw [if_pos h1, hcs i hi, List.append_assoc, List.getElem?_append_left (by simp; omega), List.getElem?_take_of_lt h1]
      · rw [if_neg h1]
        by_cases h2 : i < o + vs.length
        · rw [if_pos h2, List.getElem?_append_left (by simp; omega), List.getElem?_append_right (by simp; omega)]
          congr 1; simp; omega
        · rw [if_neg h2, hcs i hi, List.getElem?_append_right (by simp; omega), List.getElem?_drop]
          congr 1; simp; omega
    · rw [List.getElem?_eq_none (by simp; omega), List.getElem?_eq_none (by omega)]
theorem blk_reads {h : H} {n size m : Nat} {e : TypeId} {cs : List Value} (k : Blk h n cs.toArray e) (hl : cs.length = m * size) : Reads h ⟨some ⟨n, 0, none⟩, m, m⟩ size cs :=
  ⟨hl, (fun h => by cases h), fun i v hv => ⟨_, rfl, rfl, by rw [add_lit, Nat.zero_add]; exact k.cell (by simpa using hv)⟩⟩
theorem blk_owns {h : H} {n size m : Nat} {e : TypeId} {cs : List Value} (k : Blk h n cs.toArray e) (hl : cs.length = m * size) (hm : m ≤ maxLen) : Owns h ⟨some ⟨n, 0, none⟩, m, m⟩ e size cs :=
  ⟨hl, .inr ⟨n, _, rfl, k, by simpa using hl, Nat.le_refl _, hm, by simp⟩⟩
variable {α : Type} {f : α → List Value} {k : Nat} {s : Sl} {e : TypeId} {L : List α}
theorem own_len (hf : ∀ x, (f x).length = k) (hk : 0 < k) (o : Owns h s e k (L.flatMap f)) : s.len = L.length := by
  have := o.1
  rw [flat_len _ k hf] at this
  exact (Nat.eq_of_mul_eq_mul_right hk this).symm
theorem rd_len (hf : ∀ x, (f x).length = k) (hk : 0 < k) (o : Reads h s k (L.flatMap f)) : s.len = L.length := by
  have := o.1
  rw [flat_len _ k hf] at this
  exact (Nat.eq_of_mul_eq_mul_right hk this).symm
/-- Where thing i of an owned list lies. -/
theorem own_at (hf : ∀ x, (f x).length = k) (hk : 0 < k) (o : Owns h s e k (L.flatMap f)) {i : Nat} {x : α} (hx : L[i]? = some x) : ∃ b, s.ptr = some ⟨b, 0, none⟩ ∧ Cells h ⟨b, i * k, none⟩ (f x) := by
  have g := flat_get f k hf L i x hx
  have h0 : ∃ v, (f x)[0]? = some v := ⟨_, List.getElem?_eq_getElem (by rw [hf]; exact hk)⟩
  obtain ⟨v, hv⟩ := h0
  obtain ⟨b, h1, h2⟩ := o.get (i := i * k + 0) (v := v) (by rw [g 0 hk]; exact hv)
  refine ⟨b, h1, fun j v hv => ?_⟩
  have hj : j < k := by rw [← hf x]; exact (List.getElem?_eq_some_iff.1 hv).1
  obtain ⟨b', h1', h3⟩ := o.get (i := i * k + j) (v := v) (by rw [g j hj]; exact hv)
  rw [h1] at h1'; cases h1'
  rw [add_lit]; exact h3
theorem rd_at (hf : ∀ x, (f x).length = k) (hk : 0 < k) (o : Reads h s k (L.flatMap f)) {i : Nat} {x : α} (hx : L[i]? = some x) : ∃ p, s.ptr = some p ∧ p.spot = none ∧ Cells h (p.add (i * k)) (f x) := by
  have g := flat_get f k hf L i x hx
  have h0 : ∃ v, (f x)[0]? = some v := ⟨_, List.getElem?_eq_getElem (by rw [hf]; exact hk)⟩
  obtain ⟨v, hv⟩ := h0
  obtain ⟨p, h1, h2, h3⟩ := o.2.2 (i * k + 0) v (by rw [g 0 hk]; exact hv)
  refine ⟨p, h1, h2, fun j v hv => ?_⟩
  have hj : j < k := by rw [← hf x]; exact (List.getElem?_eq_some_iff.1 hv).1
  obtain ⟨p', h1', h2', h3'⟩ := o.2.2 (i * k + j) v (by rw [g j hj]; exact hv)
  rw [h1] at h1'; cases h1'
  obtain ⟨b, o', sp⟩ := p
  simp only at h2; subst h2
  simp only [add_lit] at h3' ⊢
  rw [Nat.add_assoc]; exact h3'
/-- idxA in a list that is read. -/
theorem idxR_of {s : Sl} {p : Addr} {i size : Nat} {n : Int} {K : Addr → Prop} (hp : s.ptr = some p) (hi : i < s.len) (hn : n = (i : Int)) (k : K (p.add (i * size))) : idxA s n size K :=
  ⟨_, ⟨p, hp, by omega, by omega, rfl⟩, by rw [hn, Int.toNat_natCast]; exact k⟩
/-- Thing i of an owned list is written anew. -/
theorem own_setAt {b i : Nat} {x : α} {K : H → Prop} (hf : ∀ x, (f x).length = k) (o : Owns h s e k (L.flatMap f)) (hp : s.ptr = some ⟨b, 0, none⟩) (hi : i < L.length)
    (kk : ∀ h', Owns h' s e k ((L.set i x).flatMap f) → Only (fun b => s.blk = some b) h h' → h'.size = h.size → K h') : stH h ⟨b, i * k, none⟩ (f x) K :=
  own_set o hp (by
    rw [flat_len f k hf, hf]
    have : (i + 1) * k ≤ L.length * k := Nat.mul_le_mul_right _ hi
    rw [Nat.add_mul] at this; omega) fun h' h1 h2 h3 => kk h' (by rw [flat_set f k hf L i x hi]; exact h1) h2 h3
theorem make_of {t e : TypeId} {size bytes n : Nat} {z : Value} {kl kc : IntKind} {K : Sl → H → Prop} (el : El P t e size bytes z) (hlim : bytes * n ≤ 281474976710656) (hn : n ≤ maxLen)
    (k : ∀ b h', b = h.size → Owns h' ⟨some ⟨b, 0, none⟩, n, n⟩ e size (madeCells z.cells (n * size)).toList → Ext h h' → K ⟨some ⟨b, 0, none⟩, n, n⟩ h') : runL P (Instr.makeSlice t (.int kl (n : Int)) (.int kc (n : Int))) h K := by
  obtain ⟨i, hi, hz, hsz, hby⟩ := el.info
  intro w hw
  subst hw
  have hr := run_make (P := P) w t e i z el.slice hi hz kl kc n n (by omega) (Int.le_refl _) (by
    rw [hby]
    have : ((bytes * n : Nat) : Int) ≤ 281474976710656 := by omega
    rwa [Int.natCast_mul] at this) (by simp only [maxLen] at hn; omega)
  simp only [Int.toNat_natCast] at hr
  refine ⟨_, _, hr, ⟨rfl, rfl, rfl⟩, ⟨some ⟨w.heap.size, 0, none⟩, n, n⟩, rfl, k _ _ rfl ⟨?_, .inr ⟨_, _, rfl, Blk.new _ _ _, ?_, Nat.le_refl _, hn, ?_⟩⟩ (.push _ _)⟩
  · simp [size_madeCells]
  · rw [size_madeCells, hsz]
  · rw [hsz]; exact List.take_of_length_le (by simp)
theorem made_one (z : Value) (n : Nat) : (madeCells #[z] n).toList = List.replicate n z := by
  apply List.ext_getElem?
  intro j
  by_cases hj : j < n
  · simp [madeCells, hj, Nat.mod_one]
  · simp [madeCells, hj]
theorem flat_replicate {α : Type} (f : α → List Value) (x : α) (v : Value) (hv : f x = [v]) : ∀ n, (List.replicate n x).flatMap f = List.replicate n v
  | 0 => rfl
  | n + 1 => by rw [List.replicate_succ, List.flatMap_cons, hv, flat_replicate f x v hv n]; rfl
end
abbrev cI (n : Int) : List Value := [.int .i64 n]
abbrev cB (b : Bool) : List Value := [.bool b]
abbrev cT (s : ByteArray) : List Value := [.string s]
theorem cI_len (n : Int) : (cI n).length = 1 := rfl
theorem cB_len (n : Bool) : (cB n).length = 1 := rfl
theorem cT_len (n : ByteArray) : (cT n).length = 1 := rfl
theorem Cells.one {h : H} {a : Addr} {v : Value} (c : Cells h a [v]) : cellH h a = some v := by have := c 0 v rfl; rw [show a.add 0 = a from by unfold Addr.add; simp] at this; exact this
end Go.Proofs.Ytidpbnbjpglhfaa.V
