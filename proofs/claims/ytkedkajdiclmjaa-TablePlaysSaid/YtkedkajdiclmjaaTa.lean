/- Rows of places, probed one by one from a key's home on: what is found, what stays so when a place is written; no program; no condition. -/
import Derived.Test.YtkedkajdiclmjaaVj
namespace Go.Proofs.Ytkedkajdiclmjaa.V
set_option linter.unusedVariables false
set_option linter.unusedSimpArgs false

structure Pl (α : Type) where
  is_ : Nat
  key : ByteArray
  value : α
abbrev kL (k : ByteArray) : List UInt8 := k.data.toList
theorem kL_inj {a b : ByteArray} (h : kL a = kL b) : a = b := by
  obtain ⟨x⟩ := a
  obtain ⟨y⟩ := b
  congr 1
  exact Array.toList_inj.1 h
def hashL (l : List UInt8) : Nat := l.foldl (fun h c => ((h ^^^ c.toNat) * 1099511628211) % 18446744073709551616) 14695981039346656037
def hashM (k : ByteArray) : Nat := hashL (kL k)
section
variable {α : Type}
def probe (R : List (Pl α)) (key : ByteArray) : Nat → Nat → Option (Nat × Bool)
  | 0, _ => none
  | f + 1, i => match R[i]? with
    | none => none
    | some p => if p.is_ = 0 then some (i, false) else if p.is_ = 1 ∧ kL p.key = kL key then some (i, true) else probe R key f ((i + 1) % R.length)
def homeM (R : List (Pl α)) (key : ByteArray) : Nat := hashM key % R.length
def findM (R : List (Pl α)) (key : ByteArray) : Option (Nat × Bool) := if R.length = 0 then some (0, false) else probe R key (R.length + 1) (homeM R key)
/-- How far i lies behind h, on the ring of n. -/
def dist (n h i : Nat) : Nat := if h ≤ i then i - h else i + n - h
theorem dist_lt {n h i : Nat} (hh : h < n) (hi : i < n) : dist n h i < n := by unfold dist; split <;> omega
theorem ring_dist {n h i : Nat} (hh : h < n) (hi : i < n) : (h + dist n h i) % n = i := by
  unfold dist
  split
  · rw [show h + (i - h) = i from by omega, Nat.mod_eq_of_lt hi]
  · rw [show h + (i + n - h) = i + n from by omega, Nat.add_mod_right, Nat.mod_eq_of_lt hi]
theorem ring_val {n h k : Nat} (hh : h < n) (hk : k < n) : (h + k) % n = if h + k < n then h + k else h + k - n := by
  split
  · rename_i g; exact Nat.mod_eq_of_lt g
  · rename_i g
    rw [show h + k = (h + k - n) + n from by omega, Nat.add_mod_right, Nat.mod_eq_of_lt (by omega)]
    omega
theorem dist_ring {n h k : Nat} (hh : h < n) (hk : k < n) : dist n h ((h + k) % n) = k := by
  rw [ring_val hh hk]; unfold dist
  split <;> split <;> omega
theorem ring_inj {n h j k : Nat} (hh : h < n) (hj : j < n) (hk : k < n) (e : (h + j) % n = (h + k) % n) : j = k := by
  rw [← dist_ring hh hj, ← dist_ring hh hk, e]
theorem ring_lt {n h k : Nat} (hn : 0 < n) : (h + k) % n < n := Nat.mod_lt _ hn
theorem ring_succ {n h k : Nat} : ((h + k) % n + 1) % n = (h + (k + 1)) % n := by
  rw [Nat.add_mod ((h + k) % n), Nat.mod_mod, ← Nat.add_mod, Nat.add_assoc]
/-- Place i is not empty. -/
def Full (R : List (Pl α)) (i : Nat) : Prop := ∃ p, R[i]? = some p ∧ p.is_ ≠ 0
def Hit (R : List (Pl α)) (key : ByteArray) (i : Nat) : Prop := ∃ p, R[i]? = some p ∧ p.is_ = 1 ∧ kL p.key = kL key
def Empty (R : List (Pl α)) (i : Nat) : Prop := ∃ p, R[i]? = some p ∧ p.is_ = 0
theorem Full.not_empty {R : List (Pl α)} {i : Nat} (h : Full R i) : ¬ Empty R i := fun ⟨q, h1, h2⟩ => by
  obtain ⟨p, h3, h4⟩ := h
  rw [h1] at h3; cases h3; exact h4 h2
theorem full_or_empty {R : List (Pl α)} {i : Nat} (h : i < R.length) : Full R i ∨ Empty R i := by
  by_cases e : R[i].is_ = 0
  · exact .inr ⟨_, List.getElem?_eq_getElem h, e⟩
  · exact .inl ⟨_, List.getElem?_eq_getElem h, e⟩
theorem Hit.full {R : List (Pl α)} {key : ByteArray} {i : Nat} (h : Hit R key i) : Full R i := by
  obtain ⟨p, h1, h2, _⟩ := h
  exact ⟨p, h1, by omega⟩
theorem Empty.lt {R : List (Pl α)} {i : Nat} (h : Empty R i) : i < R.length := by
  obtain ⟨p, h1, _⟩ := h; exact (List.getElem?_eq_some_iff.1 h1).1
theorem Hit.lt {R : List (Pl α)} {key : ByteArray} {i : Nat} (h : Hit R key i) : i < R.length := by
  obtain ⟨p, h1, _⟩ := h; exact (List.getElem?_eq_some_iff.1 h1).1
theorem probe_go {R : List (Pl α)} {key : ByteArray} {h : Nat} (hn : h < R.length) : ∀ (K f : Nat), (∀ k, k < K → Full R ((h + k) % R.length) ∧ ¬ Hit R key ((h + k) % R.length)) → ∀ j, j ≤ K → probe R key (f + (K - j)) ((h + j) % R.length) = probe R key f ((h + K) % R.length) := by
  intro K f hk j hj
  obtain ⟨d, hd⟩ : ∃ d, K = j + d := ⟨K - j, by omega⟩
  subst hd
  induction d generalizing j with
  | zero => simp
  | succ d ih =>
    rw [show j + (d + 1) - j = d + 1 from by omega, ← Nat.add_assoc f d 1, probe]
    obtain ⟨⟨p, h1, h2⟩, h3⟩ := hk j (by omega)
    rw [h1]
    simp only [h2, if_false]
    rw [if_neg (fun hh => h3 ⟨p, h1, hh.1, hh.2⟩), ring_succ]
    have := ih (j + 1) (fun k hk2 => hk k (by omega)) (by omega)
    rw [show j + 1 + d - (j + 1) = d from by omega, show j + 1 + d = j + (d + 1) from by omega] at this
    exact this
theorem probe_hit {R : List (Pl α)} {key : ByteArray} {h K f : Nat} (hn : h < R.length) (hk : ∀ k, k < K → Full R ((h + k) % R.length) ∧ ¬ Hit R key ((h + k) % R.length)) (hh : Hit R key ((h + K) % R.length)) (hf : K < f) : probe R key f h = some ((h + K) % R.length, true) := by
  have := probe_go hn K (f - K) hk 0 (by omega)
  rw [show f - K + (K - 0) = f from by omega, Nat.add_zero, Nat.mod_eq_of_lt hn] at this
  rw [this, show f - K = (f - K - 1) + 1 from by omega, probe]
  obtain ⟨p, h1, h2, h3⟩ := hh
  rw [h1]
  simp [h2, h3]
theorem probe_miss {R : List (Pl α)} {key : ByteArray} {h K f : Nat} (hn : h < R.length) (hk : ∀ k, k < K → Full R ((h + k) % R.length) ∧ ¬ Hit R key ((h + k) % R.length)) (hh : Empty R ((h + K) % R.length)) (hf : K < f) : probe R key f h = some ((h + K) % R.length, false) := by
  have := probe_go hn K (f - K) hk 0 (by omega)
  rw [show f - K + (K - 0) = f from by omega, Nat.add_zero, Nat.mod_eq_of_lt hn] at this
  rw [this, show f - K = (f - K - 1) + 1 from by omega, probe]
  obtain ⟨p, h1, h2⟩ := hh
  rw [h1]
  simp [h2]
theorem least {P : Nat → Prop} : ∀ m, (∃ k, k < m ∧ P k) → ∃ k, k < m ∧ P k ∧ ∀ j, j < k → ¬ P j
  | 0, ⟨k, h, _⟩ => by omega
  | m + 1, ⟨k, h, hp⟩ => by
    by_cases e : ∃ k, k < m ∧ P k
    · obtain ⟨k, h1, h2, h3⟩ := least m e
      exact ⟨k, by omega, h2, h3⟩
    · exact ⟨k, h, hp, fun j hj hpj => e ⟨j, by omega, hpj⟩⟩
/-- The places from a key's home up to i (but i itself) are not empty. -/
def Chain (R : List (Pl α)) (key : ByteArray) (i : Nat) : Prop := ∀ k, k < dist R.length (homeM R key) i → Full R ((homeM R key + k) % R.length)
theorem home_lt {R : List (Pl α)} {key : ByteArray} (h : 0 < R.length) : homeM R key < R.length := Nat.mod_lt _ h
theorem find_hit {R : List (Pl α)} {key : ByteArray} {i : Nat} (hh : Hit R key i) (hc : Chain R key i) (hu : ∀ j, Hit R key j → j = i) : findM R key = some (i, true) := by
  have hlt := hh.lt
  have hn : 0 < R.length := by omega
  have hm := home_lt (R := R) (key := key) hn
  unfold findM
  rw [if_neg (by omega)]
  have hr := ring_dist hm hlt
  have hd := dist_lt hm hlt
  rw [probe_hit (K := dist R.length (homeM R key) i) hm (fun k hk => ⟨hc k hk, fun hk2 => ?_⟩) (by rw [hr]; exact hh) (by omega), hr]
  have := hu _ hk2
  have h2 := dist_ring hm (show k < R.length by omega)
  rw [this] at h2; omega
theorem find_miss {R : List (Pl α)} {key : ByteArray} (hn : ∀ j, ¬ Hit R key j) (hr : ∃ i, Empty R i) : ∃ i, findM R key = some (i, false) ∧ Empty R i ∧ Chain R key i := by
  obtain ⟨e, he⟩ := hr
  have hlt := he.lt
  have hm := home_lt (R := R) (key := key) (by omega)
  obtain ⟨K, h1, h2, h3⟩ := least (P := fun k => Empty R ((homeM R key + k) % R.length)) R.length ⟨dist R.length (homeM R key) e, dist_lt hm hlt, by rw [ring_dist hm hlt]; exact he⟩
  have full : ∀ k, k < K → Full R ((homeM R key + k) % R.length) := fun k hk => (full_or_empty (ring_lt (by omega))).resolve_right (h3 k hk)
  refine ⟨(homeM R key + K) % R.length, ?_, h2, fun k hk => ?_⟩
  · unfold findM
    rw [if_neg (by omega)]
    exact probe_miss hm (fun k hk => ⟨full k hk, hn _⟩) h2 (by omega)
  · rw [dist_ring hm h1] at hk; exact full k hk
theorem find_nil {key : ByteArray} : findM ([] : List (Pl α)) key = some (0, false) := rfl
/-! ### Rows in order -/
structure RowOk (R : List (Pl α)) : Prop where
  chain : ∀ (i : Nat) (p : Pl α), R[i]? = some p → p.is_ = 1 → Chain R p.key i
  uniq : ∀ (i j : Nat) (p q : Pl α), R[i]? = some p → R[j]? = some q → p.is_ = 1 → q.is_ = 1 → kL p.key = kL q.key → i = j
theorem RowOk.hit {R : List (Pl α)} (r : RowOk R) {key : ByteArray} {i : Nat} (h : Hit R key i) : findM R key = some (i, true) := by
  obtain ⟨p, h1, h2, h3⟩ := h
  have hk := kL_inj h3
  refine find_hit ⟨p, h1, h2, h3⟩ (by rw [← hk]; exact r.chain i p h1 h2) fun j ⟨q, g1, g2, g3⟩ => r.uniq j i q p g1 h1 g2 h2 (g3.trans h3.symm)
theorem set_full {R : List (Pl α)} {i j : Nat} {p : Pl α} (h : Full R j) (hp : p.is_ ≠ 0) : Full (R.set i p) j := by
  obtain ⟨q, h1, h2⟩ := h
  by_cases e : i = j
  · subst e; exact ⟨p, by rw [List.getElem?_set, if_pos rfl, if_pos (List.getElem?_eq_some_iff.1 h1).1], hp⟩
  · exact ⟨q, by rw [List.getElem?_set, if_neg e]; exact h1, h2⟩
theorem set_chain {R : List (Pl α)} {i j : Nat} {p : Pl α} {key : ByteArray} (h : Chain R key j) (hp : p.is_ ≠ 0) : Chain (R.set i p) key j := by
  unfold Chain homeM at *
  rw [List.length_set]
  exact fun k hk => set_full (h k hk) hp
theorem set_get {R : List (Pl α)} {i j : Nat} {p q : Pl α} (h : (R.set i p)[j]? = some q) : (i = j ∧ q = p ∧ i < R.length) ∨ (i ≠ j ∧ R[j]? = some q) := by
  rw [List.getElem?_set] at h
  split at h
  · rename_i e
    split at h
    · exact .inl ⟨e, (Option.some.inj h).symm, by assumption⟩
    · cases h
  · rename_i e; exact .inr ⟨e, h⟩
/-- A new key in an empty place that its chain leads to. -/
theorem RowOk.put {R : List (Pl α)} (r : RowOk R) {p : Pl α} {i : Nat} (h1 : p.is_ = 1) (hc : Chain R p.key i) (hn : ∀ j, ¬ Hit R p.key j) : RowOk (R.set i p) := by
  refine ⟨fun j q hq hq1 => ?_, fun j k q s hq hs hq1 hs1 he => ?_⟩
  · rcases set_get hq with ⟨rfl, rfl, _⟩ | ⟨_, hq⟩
    · exact set_chain hc (by omega)
    · exact set_chain (r.chain j q hq hq1) (by omega)
  · rcases set_get hq with ⟨rfl, rfl, _⟩ | ⟨_, gq⟩
    · rcases set_get hs with ⟨rfl, _, _⟩ | ⟨_, gs⟩
      · rfl
      · exact absurd ⟨s, gs, hs1, he.symm⟩ (hn k)
    · rcases set_get hs with ⟨rfl, rfl, _⟩ | ⟨_, gs⟩
      · exact absurd ⟨q, gq, hq1, he⟩ (hn j)
      · exact r.uniq j k q s gq gs hq1 hs1 he
/-- A key's value is written anew. -/
theorem RowOk.anew {R : List (Pl α)} (r : RowOk R) {p q : Pl α} {i : Nat} (h0 : R[i]? = some p) (hp : p.is_ = 1) (h1 : q.is_ = 1) (hk : kL q.key = kL p.key) : RowOk (R.set i q) := by
  have hk' := kL_inj hk
  refine ⟨fun j s hs hs1 => ?_, fun j k s t hs ht hs1 ht1 he => ?_⟩
  · rcases set_get hs with ⟨rfl, rfl, _⟩ | ⟨_, hs⟩
    · rw [hk']; exact set_chain (r.chain i p h0 hp) (by omega)
    · exact set_chain (r.chain j s hs hs1) (by omega)
  · rcases set_get hs with ⟨rfl, rfl, _⟩ | ⟨_, gs⟩
    · rcases set_get ht with ⟨rfl, _, _⟩ | ⟨_, gt⟩
      · rfl
      · exact r.uniq i k p t h0 gt hp ht1 (hk.symm.trans he)
    · rcases set_get ht with ⟨rfl, rfl, _⟩ | ⟨_, gt⟩
      · exact r.uniq j i s p gs h0 hs1 hp (he.trans hk)
      · exact r.uniq j k s t gs gt hs1 ht1 he
/-- A place that is marked as gone. -/
theorem RowOk.gone {R : List (Pl α)} (r : RowOk R) {q : Pl α} {i : Nat} (h1 : q.is_ ≠ 1) (h0 : q.is_ ≠ 0) : RowOk (R.set i q) := by
  refine ⟨fun j s hs hs1 => ?_, fun j k s t hs ht hs1 ht1 he => ?_⟩
  · rcases set_get hs with ⟨rfl, rfl, _⟩ | ⟨_, hs⟩
    · exact absurd hs1 h1
    · exact set_chain (r.chain j s hs hs1) h0
  · rcases set_get hs with ⟨rfl, rfl, _⟩ | ⟨_, hs⟩
    · exact absurd hs1 h1
    · rcases set_get ht with ⟨rfl, rfl, _⟩ | ⟨_, ht⟩
      · exact absurd ht1 h1
      · exact r.uniq j k s t hs ht hs1 ht1 he
/-! ### How many are taken; what lies under a key -/
def cntT (R : List (Pl α)) : Nat := R.countP fun p => decide (p.is_ = 1)
theorem cntT_set : ∀ (R : List (Pl α)) (i : Nat) (p q : Pl α), R[i]? = some q → cntT (R.set i p) + (if q.is_ = 1 then 1 else 0) = cntT R + (if p.is_ = 1 then 1 else 0)
  | [], i, p, q, h => by simp at h
  | x :: r, 0, p, q, h => by
    simp at h; subst h
    simp only [List.set_cons_zero, cntT, List.countP_cons]
    by_cases h1 : x.is_ = 1 <;> by_cases h2 : p.is_ = 1 <;> simp [h1, h2]
  | x :: r, i + 1, p, q, h => by
    have := cntT_set r i p q (by simpa using h)
    simp only [List.set_cons_succ, cntT, List.countP_cons] at *
    omega
theorem room_of {R : List (Pl α)} (h01 : ∀ p ∈ R, p.is_ ≤ 1) (h : cntT R < R.length) : ∃ i, Empty R i := by
  apply Classical.byContradiction
  intro hn
  have : cntT R = R.length := by
    unfold cntT
    rw [List.countP_eq_length]
    intro p hp
    obtain ⟨i, hi, rfl⟩ := List.mem_iff_getElem.1 hp
    have := h01 _ hp
    have : ¬ R[i].is_ = 0 := fun e => hn ⟨i, _, List.getElem?_eq_getElem hi, e⟩
    simp; omega
  omega
def valOf (R : List (Pl α)) (key : ByteArray) : Option α := (R.find? fun p => decide (p.is_ = 1 ∧ kL p.key = kL key)).map (·.value)
theorem valOf_hit {R : List (Pl α)} (r : RowOk R) {key : ByteArray} {i : Nat} {p : Pl α} (h0 : R[i]? = some p) (h1 : p.is_ = 1) (h2 : kL p.key = kL key) : valOf R key = some p.value := by
  unfold valOf
  cases hf : R.find? fun p => decide (p.is_ = 1 ∧ kL p.key = kL key) with
  | none =>
    rw [List.find?_eq_none] at hf
    have := hf p (List.mem_of_getElem? h0)
    simp [h1, h2] at this
  | some q =>
    have hq : q.is_ = 1 ∧ kL q.key = kL key := by simpa only [decide_eq_true_eq] using List.find?_some hf
    have hm := List.mem_of_find?_eq_some hf
    obtain ⟨j, hj⟩ := List.mem_iff_getElem?.1 hm
    have := r.uniq j i q p hj h0 hq.1 h1 (by rw [hq.2]; exact h2.symm)
    subst this
    rw [h0] at hj; cases hj; rfl
theorem valOf_none {R : List (Pl α)} {key : ByteArray} (h : ∀ j, ¬ Hit R key j) : valOf R key = none := by
  unfold valOf
  rw [Option.map_eq_none_iff, List.find?_eq_none]
  intro p hp
  obtain ⟨j, hj⟩ := List.mem_iff_getElem?.1 hp
  intro hh
  simp only [decide_eq_true_eq] at hh
  exact h j ⟨p, hj, hh.1, hh.2⟩
theorem valOf_some {R : List (Pl α)} {key : ByteArray} {v : α} (h : valOf R key = some v) : ∃ (i : Nat) (p : Pl α), R[i]? = some p ∧ p.is_ = 1 ∧ kL p.key = kL key ∧ p.value = v := by
  unfold valOf at h
  obtain ⟨p, hp, rfl⟩ := Option.map_eq_some_iff.1 h
  have hq : p.is_ = 1 ∧ kL p.key = kL key := by simpa only [decide_eq_true_eq] using List.find?_some hp
  obtain ⟨j, hj⟩ := List.mem_iff_getElem?.1 (List.mem_of_find?_eq_some hp)
  exact ⟨j, p, hj, hq.1, hq.2, rfl⟩
theorem hit_or (R : List (Pl α)) (key : ByteArray) : (∃ i, Hit R key i) ∨ ∀ j, ¬ Hit R key j := by
  by_cases h : ∃ i, Hit R key i
  · exact .inl h
  · exact .inr fun j hj => h ⟨j, hj⟩
/-- What lies under a key when place i is written. -/
theorem valOf_set {R : List (Pl α)} {i : Nat} {p q : Pl α} (r' : RowOk (R.set i q)) (r : RowOk R) (h0 : R[i]? = some p) (key : ByteArray) (hp : ¬ (p.is_ = 1 ∧ kL p.key = kL key)) : valOf (R.set i q) key = if q.is_ = 1 ∧ kL q.key = kL key then some q.value else valOf R key := by
  have hi := (List.getElem?_eq_some_iff.1 h0).1
  have hg : (R.set i q)[i]? = some q := by rw [List.getElem?_set, if_pos rfl, if_pos hi]
  split
  · rename_i h; exact valOf_hit r' hg h.1 h.2
  · rename_i h
    rcases hit_or R key with ⟨j, s, g1, g2, g3⟩ | hn
    · have hij : i ≠ j := fun e => by subst e; rw [h0] at g1; cases g1; exact hp ⟨g2, g3⟩
      rw [valOf_hit r g1 g2 g3, valOf_hit r' (i := j) (by rw [List.getElem?_set, if_neg hij]; exact g1) g2 g3]
    · rw [valOf_none hn, valOf_none]
      intro j ⟨s, g1, g2, g3⟩
      rcases set_get g1 with ⟨rfl, rfl, _⟩ | ⟨_, g1⟩
      · exact h ⟨g2, g3⟩
      · exact hn j ⟨s, g1, g2, g3⟩
/-- The place's key is taken away. -/
theorem valOf_away {R : List (Pl α)} {i : Nat} {p q : Pl α} (r : RowOk R) (h0 : R[i]? = some p) (h1 : p.is_ = 1) (hq : q.is_ ≠ 1) (key : ByteArray) (hk : kL p.key = kL key) : valOf (R.set i q) key = none := by
  apply valOf_none
  intro j ⟨s, g1, g2, g3⟩
  rcases set_get g1 with ⟨rfl, rfl, _⟩ | ⟨e, g1⟩
  · exact hq g2
  · exact e (r.uniq i j p s h0 g1 h1 g2 (hk.trans g3.symm))
end
end Go.Proofs.Ytkedkajdiclmjaa.V
