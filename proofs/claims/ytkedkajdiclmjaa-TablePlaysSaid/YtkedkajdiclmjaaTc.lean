/- Drop: a key's place is emptied, and what lies behind it is moved up; as lists; no program; no condition. -/
import Derived.Test.YtkedkajdiclmjaaTb
namespace Go.Proofs.Ytkedkajdiclmjaa.V
set_option linter.unusedVariables false
set_option linter.unusedSimpArgs false

section
variable {α : Type} (z : α)
def shiftM : Nat → List (Pl α) → Nat → Nat → Option (List (Pl α))
  | 0, _, _, _ => none
  | f + 1, R, at_, k => match R[k]? with
    | none => none
    | some p => if p.is_ = 0 then some (R.set at_ (emptP z)) else if dist R.length (homeM R p.key) k ≥ dist R.length at_ k then shiftM f (R.set at_ p) k ((k + 1) % R.length) else shiftM f R at_ ((k + 1) % R.length)
def dropM (T : Tb α) (key : ByteArray) : Option (Tb α × (α × Bool)) := match moveM z T 4 with
  | none => none
  | some T1 => match findM T1.elder key with
    | none => none
    | some (i, true) => (match T1.elder[i]? with
      | none => none
      | some p => some (⟨T1.row, T1.elder.set i (goneP z), T1.moved, T1.count - 1⟩, (p.value, true)))
    | some (_, false) => match findM T1.row key with
      | none => none
      | some (_, false) => some (T1, (z, false))
      | some (i, true) => match T1.row[i]? with
        | none => none
        | some p => match shiftM z (T1.row.length + 1) T1.row i ((i + 1) % T1.row.length) with
          | none => none
          | some R => some (⟨R, T1.elder, T1.moved, T1.count - 1⟩, (p.value, true))
end
section
variable {α : Type} {z : α}
theorem dist_succ {n k e : Nat} (hk : k < n) (he : e < n) (hne : k ≠ e) : dist n ((k + 1) % n) e + 1 = dist n k e := by
  rw [ring_val hk (show 1 < n by omega)]
  unfold dist
  split <;> split <;> split <;> omega
theorem dist_self {n k : Nat} : dist n k k = 0 := by unfold dist; simp
/-- Taken things away from place a. -/
def Els (R : List (Pl α)) (a : Nat) (q : Pl α) : Prop := ∃ i, i ≠ a ∧ R[i]? = some q ∧ q.is_ = 1
structure Sh (R : List (Pl α)) (a k : Nat) : Prop where
  ha : a < R.length
  hk : k < R.length
  ne : a ≠ k
  uniq : ∀ (i j : Nat) (p q : Pl α), i ≠ a → j ≠ a → R[i]? = some p → R[j]? = some q → p.is_ = 1 → q.is_ = 1 → kL p.key = kL q.key → i = j
  chain : ∀ (i : Nat) (p : Pl α), i ≠ a → R[i]? = some p → p.is_ = 1 → Chain R p.key i
  full : ∀ i, i < R.length → i ≠ a → dist R.length a i < dist R.length a k → Full R i
  off : ∀ (i : Nat) (p : Pl α), i ≠ a → R[i]? = some p → p.is_ = 1 → dist R.length a i < dist R.length a k → dist R.length (homeM R p.key) i < dist R.length a i
  stale : ∃ p, R[a]? = some p ∧ p.is_ = 1
  room : ∃ e, Empty R e
  r01 : ∀ p ∈ R, p.is_ ≤ 1
theorem home_set {R : List (Pl α)} {i : Nat} {p : Pl α} (key : ByteArray) : homeM (R.set i p) key = homeM R key := by unfold homeM; rw [List.length_set]
theorem chain_at {R : List (Pl α)} {key : ByteArray} {i j : Nat} (c : Chain R key i) (hi : i < R.length) (hj : j < R.length) (h : dist R.length (homeM R key) j < dist R.length (homeM R key) i) : Full R j := by
  have := c _ h
  rwa [ring_dist (home_lt (by omega)) hj] at this
/-- A chain to i that does not meet a place. -/
theorem dist_meets {n h a i : Nat} (hh : h < n) (ha : a < n) (hi : i < n) (hne : a ≠ i) : dist n h i ≥ dist n a i ↔ dist n h a < dist n h i := by
  unfold dist
  split <;> split <;> split <;> omega
theorem dist_between {n h a k i : Nat} (hh : h < n) (ha : a < n) (hk : k < n) (hi : i < n) (h1 : dist n h a < dist n h i) (h2 : dist n a k < dist n a i) : dist n h k < dist n h i := by
  revert h1 h2
  unfold dist
  split <;> split <;> split <;> split <;> split <;> omega
theorem dist_zero {n a i : Nat} (ha : a < n) (hi : i < n) (h : dist n a i = 0) : a = i := by
  revert h; unfold dist; split <;> omega
theorem Sh.final {R : List (Pl α)} {a k : Nat} (s : Sh R a k) (hk : Empty R k) : RowOk (R.set a (emptP z)) := by
  have ha := s.ha
  have hkl := s.hk
  refine ⟨fun i p hp h1 => ?_, fun i j p q hp hq h1 h2 he => ?_⟩
  · rcases set_get hp with ⟨_, rfl, _⟩ | ⟨hne, hp⟩
    · simp [emptP] at h1
    · have hi := (List.getElem?_eq_some_iff.1 hp).1
      have c := s.chain i p (Ne.symm hne) hp h1
      have hh := home_lt (R := R) (key := p.key) (by omega)
      unfold Chain
      rw [home_set, List.length_set]
      intro x hx
      have f := c x hx
      obtain ⟨q, q1, q2⟩ := f
      have hxl : x < R.length := by have := dist_lt hh hi; omega
      have hne2 : a ≠ (homeM R p.key + x) % R.length := fun e => by
        have hd : dist R.length (homeM R p.key) a < dist R.length (homeM R p.key) i := by rw [e, dist_ring hh hxl]; exact hx
        by_cases hb : dist R.length a i < dist R.length a k
        · have := s.off i p (Ne.symm hne) hp h1 hb
          have := (dist_meets hh ha hi hne).2 hd
          omega
        · by_cases hki : k = i
          · subst hki
            obtain ⟨q', g1, g2⟩ := hk
            rw [hp] at g1; cases g1; omega
          · have hlt : dist R.length a k < dist R.length a i := by
              rcases Nat.lt_or_ge (dist R.length a k) (dist R.length a i) with h | h
              · exact h
              · exfalso
                have : dist R.length a k = dist R.length a i := by omega
                have e1 := ring_dist ha hkl
                have e2 := ring_dist ha hi
                rw [this, e2] at e1; exact hki e1.symm
            have := dist_between hh ha hkl hi hd hlt
            exact (chain_at c hi hkl this).not_empty hk
      exact ⟨q, by rw [List.getElem?_set, if_neg hne2]; exact q1, q2⟩
  · rcases set_get hp with ⟨_, rfl, _⟩ | ⟨hn1, hp⟩
    · simp [emptP] at h1
    · rcases set_get hq with ⟨_, rfl, _⟩ | ⟨hn2, hq⟩
      · simp [emptP] at h2
      · exact s.uniq i j p q (Ne.symm hn1) (Ne.symm hn2) hp hq h1 h2 he
theorem next_ne {n k e : Nat} (hk : k < n) (h : k ≠ e) (he : e < n) : (k + 1) % n ≠ k := by
  rw [ring_val hk (show 1 < n by omega)]
  split <;> omega
theorem Sh.skip {R : List (Pl α)} {a k : Nat} {p : Pl α} (s : Sh R a k) (hp : R[k]? = some p) (h1 : p.is_ = 1) (hd : dist R.length (homeM R p.key) k < dist R.length a k) : Sh R a ((k + 1) % R.length) := by
  have ha := s.ha
  have hk := s.hk
  obtain ⟨e, he⟩ := s.room
  have hel := he.lt
  obtain ⟨q, hq1, hq2⟩ := s.stale
  have hae : a ≠ e := fun h => by
    subst h; obtain ⟨q', g1, g2⟩ := he
    rw [hq1] at g1; cases g1; omega
  have hke : k ≠ e := fun h => by
    subst h; obtain ⟨q', g1, g2⟩ := he
    rw [hp] at g1; cases g1; omega
  have hnext : (k + 1) % R.length ≠ a := fun h => by
    -- then e lies nowhere
    have hf : dist R.length a e < dist R.length a k ∨ dist R.length a k < dist R.length a e := by
      rcases Nat.lt_trichotomy (dist R.length a e) (dist R.length a k) with g | g | g
      · exact .inl g
      · exfalso
        have e1 := ring_dist ha hk
        have e2 := ring_dist ha hel
        rw [← g, e2] at e1; exact hke e1.symm
      · exact .inr g
    rcases hf with hf | hf
    · exact (s.full e hel (Ne.symm hae) hf).not_empty he
    · have := dist_lt ha hel
      rw [ring_val hk (by omega)] at h
      revert hf this
      unfold dist
      split at h <;> split <;> split <;> omega
  have hdk : ∀ i, i < R.length → i ≠ a → dist R.length a i < dist R.length a ((k + 1) % R.length) → i = k ∨ dist R.length a i < dist R.length a k := fun i hi hia hlt => by
    by_cases hik : i = k
    · exact .inl hik
    · right
      revert hlt
      rw [ring_val hk (by omega)] at hnext ⊢
      unfold dist
      split at hnext <;> split <;> split <;> split <;> omega
  refine ⟨ha, ring_lt (by omega), Ne.symm hnext, s.uniq, s.chain, fun i hi hia hlt => ?_, fun i q hia hq hq1 hlt => ?_, s.stale, s.room, s.r01⟩
  · rcases hdk i hi hia hlt with rfl | h
    · exact ⟨p, hp, by omega⟩
    · exact s.full i hi hia h
  · rcases hdk i (List.getElem?_eq_some_iff.1 hq).1 hia hlt with rfl | h
    · rw [hp] at hq; cases hq; exact hd
    · exact s.off i q hia hq hq1 h
theorem Sh.move {R : List (Pl α)} {a k : Nat} {p : Pl α} (s : Sh R a k) (hp : R[k]? = some p) (h1 : p.is_ = 1) (hd : dist R.length (homeM R p.key) k ≥ dist R.length a k) : Sh (R.set a p) k ((k + 1) % R.length) ∧ (∀ q, Els (R.set a p) k q ↔ Els R a q) ∧ cntT (R.set a p) = cntT R := by
  have ha := s.ha
  have hk := s.hk
  obtain ⟨e, he⟩ := s.room
  have hel := he.lt
  obtain ⟨q, hq1, hq2⟩ := s.stale
  have hae : a ≠ e := fun h => by
    subst h; obtain ⟨q', g1, g2⟩ := he
    rw [hq1] at g1; cases g1; omega
  have hke : k ≠ e := fun h => by
    subst h; obtain ⟨q', g1, g2⟩ := he
    rw [hp] at g1; cases g1; omega
  have hh := home_lt (R := R) (key := p.key) (by omega)
  have hat : (R.set a p)[a]? = some p := by rw [List.getElem?_set, if_pos rfl, if_pos ha]
  have hkt : (R.set a p)[k]? = some p := by rw [List.getElem?_set, if_neg s.ne]; exact hp
  refine ⟨⟨by simpa using hk, by rw [List.length_set]; exact ring_lt (by omega), Ne.symm (next_ne hk hke hel), ?_, ?_, ?_, ?_, ⟨p, hkt, h1⟩, ⟨e, ?_⟩, ?_⟩, fun x => ⟨fun ⟨i, h2, h3, h4⟩ => ?_, fun ⟨i, h2, h3, h4⟩ => ?_⟩, ?_⟩
  · intro i j x y hi hj hx hy hx1 hy1 hxy
    rcases set_get hx with ⟨gi, gx, _⟩ | ⟨gi, gx⟩
    · rcases set_get hy with ⟨gj, gy, _⟩ | ⟨gj, gy⟩
      · exact gi.symm.trans gj
      · subst gx
        exact absurd (s.uniq k j _ y (Ne.symm s.ne) (Ne.symm gj) hp gy h1 hy1 hxy).symm hj
    · rcases set_get hy with ⟨gj, gy, _⟩ | ⟨gj, gy⟩
      · subst gy
        exact absurd (s.uniq i k x _ (Ne.symm gi) (Ne.symm s.ne) gx hp hx1 h1 hxy) hi
      · exact s.uniq i j x y (Ne.symm gi) (Ne.symm gj) gx gy hx1 hy1 hxy
  · intro i x hi hx hx1
    rcases set_get hx with ⟨rfl, rfl, _⟩ | ⟨gi, hx⟩
    · refine set_chain (fun y hy => ?_) (by omega)
      have c := s.chain k x (Ne.symm s.ne) hp h1
      have := (dist_meets hh ha hk s.ne).1 hd
      exact c y (by omega)
    · exact set_chain (s.chain i x (Ne.symm gi) hx hx1) (by omega)
  · intro i hi hik hlt
    rw [List.length_set] at hi hlt
    exfalso
    revert hlt
    rw [ring_val hk (by omega)]
    unfold dist
    split <;> split <;> split <;> omega
  · intro i x hik hx hx1 hlt
    have hi := (List.getElem?_eq_some_iff.1 hx).1
    rw [List.length_set] at hi hlt
    exfalso
    revert hlt
    rw [ring_val hk (by omega)]
    unfold dist
    split <;> split <;> split <;> omega
  · obtain ⟨q', g1, g2⟩ := he
    exact ⟨q', by rw [List.getElem?_set, if_neg hae]; exact g1, g2⟩
  · intro x hx
    obtain ⟨j, hj⟩ := List.mem_iff_getElem?.1 hx
    rcases set_get hj with ⟨_, rfl, _⟩ | ⟨_, hj⟩
    · omega
    · exact s.r01 x (List.mem_of_getElem? hj)
  · rcases set_get h3 with ⟨rfl, rfl, _⟩ | ⟨gi, h3⟩
    · exact ⟨k, Ne.symm s.ne, hp, h4⟩
    · exact ⟨i, Ne.symm gi, h3, h4⟩
  · by_cases hik : i = k
    · subst hik; rw [hp] at h3; cases h3; exact ⟨a, s.ne, hat, h4⟩
    · exact ⟨i, hik, by rw [List.getElem?_set, if_neg (Ne.symm h2)]; exact h3, h4⟩
  · have := cntT_set R a p q hq1
    rw [if_pos hq2, if_pos h1] at this
    omega
theorem shift_loop : ∀ (f : Nat) (R : List (Pl α)) (a k : Nat), Sh R a k → (∃ e, Empty R e ∧ dist R.length k e < f) → ∃ R', shiftM z f R a k = some R' ∧ RowOk R' ∧ (∀ p ∈ R', p.is_ ≤ 1) ∧ R'.length = R.length ∧ cntT R' + 1 = cntT R ∧ ∀ q : Pl α, (∃ i : Nat, R'[i]? = some q ∧ q.is_ = 1) ↔ Els R a q
  | 0, R, a, k, s, ⟨e, _, h⟩ => by omega
  | f + 1, R, a, k, s, ⟨e, he, hf⟩ => by
    have hk := s.hk
    have ha := s.ha
    have hel := he.lt
    obtain ⟨p, hp⟩ : ∃ p, R[k]? = some p := ⟨_, List.getElem?_eq_getElem hk⟩
    unfold shiftM
    rw [hp]
    simp only
    by_cases h0 : p.is_ = 0
    · rw [if_pos h0]
      obtain ⟨q, hq1, hq2⟩ := s.stale
      refine ⟨_, rfl, s.final ⟨p, hp, h0⟩, fun x hx => ?_, by simp, ?_, fun x => ⟨fun ⟨i, g1, g2⟩ => ?_, fun ⟨i, g0, g1, g2⟩ => ⟨i, by rw [List.getElem?_set, if_neg (Ne.symm g0)]; exact g1, g2⟩⟩⟩
      · obtain ⟨j, hj⟩ := List.mem_iff_getElem?.1 hx
        rcases set_get hj with ⟨_, rfl, _⟩ | ⟨_, hj⟩
        · simp [emptP]
        · exact s.r01 x (List.mem_of_getElem? hj)
      · have := cntT_set R a (emptP z) q hq1
        rw [if_pos hq2, if_neg (by simp [emptP])] at this
        omega
      · rcases set_get g1 with ⟨_, rfl, _⟩ | ⟨gi, g1⟩
        · simp [emptP] at g2
        · exact ⟨i, Ne.symm gi, g1, g2⟩
    · rw [if_neg h0]
      have h1 : p.is_ = 1 := by have := s.r01 p (List.mem_of_getElem? hp); omega
      have hke : k ≠ e := fun h => by
        subst h; obtain ⟨q', g1, g2⟩ := he
        rw [hp] at g1; cases g1; omega
      have hds := dist_succ hk hel hke
      by_cases hd : dist R.length (homeM R p.key) k ≥ dist R.length a k
      · rw [if_pos hd]
        obtain ⟨s1, s2, s3⟩ := s.move hp h1 hd
        obtain ⟨q, hq1, hq2⟩ := s.stale
        have hae : a ≠ e := fun h => by
          subst h; obtain ⟨q', g1, g2⟩ := he
          rw [hq1] at g1; cases g1; omega
        obtain ⟨R', r1, r2, r3, r4, r5, r6⟩ := shift_loop f (R.set a p) k ((k + 1) % R.length) s1 ⟨e, by
          obtain ⟨q', g1, g2⟩ := he
          exact ⟨q', by rw [List.getElem?_set, if_neg hae]; exact g1, g2⟩, by rw [List.length_set]; omega⟩
        exact ⟨R', r1, r2, r3, by simpa using r4, by omega, fun x => (r6 x).trans (s2 x)⟩
      · rw [if_neg hd]
        exact shift_loop f R a _ (s.skip hp h1 (by omega)) ⟨e, he, by omega⟩
theorem shift_ok {R : List (Pl α)} {i : Nat} {d : Pl α} (r : RowOk R) (h01 : ∀ p ∈ R, p.is_ ≤ 1) (hroom : ∃ e, Empty R e) (hd : R[i]? = some d) (h1 : d.is_ = 1) :
    ∃ R', shiftM z (R.length + 1) R i ((i + 1) % R.length) = some R' ∧ RowOk R' ∧ (∀ p ∈ R', p.is_ ≤ 1) ∧ R'.length = R.length ∧ cntT R' + 1 = cntT R ∧ (∀ key, valOf R' key = if kL key = kL d.key then none else valOf R key) ∧
      ∀ q : Pl α, (∃ i : Nat, R'[i]? = some q ∧ q.is_ = 1) → ∃ i : Nat, R[i]? = some q ∧ q.is_ = 1 := by
  have hi := (List.getElem?_eq_some_iff.1 hd).1
  obtain ⟨e, he⟩ := hroom
  have hel := he.lt
  have hie : i ≠ e := fun h => by
    subst h; obtain ⟨q', g1, g2⟩ := he
    rw [hd] at g1; cases g1; omega
  have hn1 : dist R.length i ((i + 1) % R.length) = 1 := by
    rw [ring_val hi (by omega)]
    unfold dist
    split <;> split <;> omega
  have s : Sh R i ((i + 1) % R.length) := ⟨hi, ring_lt (by omega), Ne.symm (next_ne hi hie hel), fun a b p q _ _ ha hb hp hq h => r.uniq a b p q ha hb hp hq h, fun a p _ hp hp1 => r.chain a p hp hp1, fun a ha hne hlt => by
      have := dist_zero hi ha (by omega)
      exact absurd this.symm hne, fun a p hne hp hp1 hlt => by
      have := dist_zero hi (List.getElem?_eq_some_iff.1 hp).1 (by omega)
      exact absurd this.symm hne, ⟨d, hd, h1⟩, ⟨e, he⟩, h01⟩
  obtain ⟨R', r1, r2, r3, r4, r5, r6⟩ := shift_loop (z := z) (R.length + 1) R i _ s ⟨e, he, by have := dist_lt (ring_lt (h := i) (k := 1) (n := R.length) (by omega)) hel; omega⟩
  refine ⟨R', r1, r2, r3, r4, r5, fun key => ?_, fun q hq => ?_⟩
  · split
    · rename_i hk
      refine valOf_none fun j ⟨q, g1, g2, g3⟩ => ?_
      obtain ⟨a, h2, h3, h4⟩ := (r6 q).1 ⟨j, g1, g2⟩
      exact h2 (r.uniq a i q d h3 hd h4 h1 (g3.trans hk))
    · rename_i hk
      cases hv : valOf R key with
      | none =>
        refine valOf_none fun j ⟨q, g1, g2, g3⟩ => ?_
        obtain ⟨a, h2, h3, h4⟩ := (r6 q).1 ⟨j, g1, g2⟩
        rw [valOf_hit r h3 h4 g3] at hv; cases hv
      | some v =>
        obtain ⟨a, q, g1, g2, g3, g4⟩ := valOf_some hv
        have hai : a ≠ i := fun h => by subst h; rw [hd] at g1; cases g1; exact hk g3.symm
        obtain ⟨b, h2, h3⟩ := (r6 q).2 ⟨a, hai, g1, g2⟩
        rw [valOf_hit r2 h2 h3 g3, g4]
  · obtain ⟨a, _, h3, h4⟩ := (r6 q).1 hq
    exact ⟨a, h3, h4⟩
/-- Drop. -/
theorem drop_ok {T : Tb α} (t : TOk T) (key : ByteArray) :
    ∃ T', dropM z T key = some (T', ((getM T key).getD z, (getM T key).isSome)) ∧ TOk T' ∧ Rest T' ∧ (∀ k, getM T' k = if kL k = kL key then none else getM T k) ∧ T'.count = T.count - (if (getM T key).isSome then 1 else 0) ∧ T'.row.length = T.row.length ∧ leftT T' = leftT T - 4 := by
  obtain ⟨T1, m1, m2, m3, m4, m5, m6, m7⟩ := move_ok (z := z) t 4
  unfold dropM
  rw [m1, ← m7, ← m5, ← m6]
  simp only
  have m4' : leftT T1 = leftT T - 4 := by rw [m4]; rfl
  rw [← m4']
  have back : ∀ k, getM T k = getM T1 k := fun k => (m7 k).symm
  simp only [back]
  clear m1 m7 m5 m6 m4 m4' back t
  rcases hit_or T1.elder key with ⟨i, hi⟩ | hne
  · rw [m2.elder.hit hi]
    obtain ⟨p, h1, h2, h3⟩ := hi
    simp only [h1]
    have hil := (List.getElem?_eq_some_iff.1 h1).1
    have hn : ∀ k, kL k = kL key → ∀ j, ¬ Hit T1.row k j := fun k hk j ⟨q, g1, g2, g3⟩ => m2.apart j i q p g1 h1 g2 h2 (g3.trans (hk.trans h3.symm))
    have hg := get_elder m2 (hn key rfl) h1 h2 h3
    rw [hg]
    have r1 : RowOk (T1.elder.set i (goneP z)) := m2.elder.gone (by simp [goneP]) (by simp [goneP])
    have hc1 := m2.cnt_elder h1 h2
    have hcnt := m2.cnt
    refine ⟨_, rfl, ⟨m2.row, m2.row01, m2.pos, r1, fun hne => ?_, fun j q hj hq => ?_, by simpa using m2.mle, fun a b q s hq hs hq1 hs1 => ?_, ?_, ?_⟩, ?_, fun k => ?_, rfl, rfl, by simp [leftT]⟩
    · obtain ⟨j, q, g1, g2⟩ := m2.eroom (fun e => by rw [e] at h1; simp at h1)
      have : i ≠ j := fun e => by subst e; rw [h1] at g1; cases g1; omega
      exact ⟨j, q, by rw [List.getElem?_set, if_neg this]; exact g1, g2⟩
    · rcases set_get hq with ⟨_, rfl, _⟩ | ⟨_, gq⟩
      · simp [goneP]
      · exact m2.behind j q hj gq
    · rcases set_get hs with ⟨_, rfl, _⟩ | ⟨_, gs⟩
      · simp [goneP] at hs1
      · exact m2.apart a b q s hq gs hq1 hs1
    · have c1 := cntT_set T1.elder i (goneP z) p h1
      rw [if_pos h2, if_neg (by simp [goneP])] at c1
      show cntT T1.row + cntT (T1.elder.set i (goneP z)) = T1.count - 1
      omega
    · have := m2.load
      show (T1.elder.set i (goneP z)).length - T1.moved + 4 * (T1.count - 1) ≤ 3 * T1.row.length
      unfold leftT at this
      rw [List.length_set]; omega
    · rcases m3 with hr | hr
      · rw [hr] at h1; simp at h1
      · exact .inr (by simpa using hr)
    · show (match valOf T1.row k with | some v => some v | none => valOf (T1.elder.set i (goneP z)) k) = _
      by_cases hk : kL k = kL key
      · have a1 : valOf T1.row k = none := valOf_none (R := T1.row) (hn k hk)
        have a2 : valOf (T1.elder.set i (goneP z)) k = none := valOf_none (R := T1.elder.set i (goneP z)) fun j ⟨q, g1, g2, g3⟩ => by
          rcases set_get g1 with ⟨_, rfl, _⟩ | ⟨gi, g1⟩
          · simp [goneP] at g2
          · exact gi (m2.elder.uniq i j p q h1 g1 h2 g2 (h3.trans (hk.symm.trans g3.symm)))
        rw [if_pos hk, a1, a2]
      · rw [if_neg hk, valOf_set r1 m2.elder h1 k (fun h => hk (h.2.symm.trans h3)), if_neg (by simp [goneP])]; rfl
  · have hfe : ∃ i, findM T1.elder key = some (i, false) := by
      by_cases he : T1.elder = []
      · exact ⟨0, by rw [he]; rfl⟩
      · obtain ⟨j, g1, _, _⟩ := find_miss hne (m2.eroom he)
        exact ⟨j, g1⟩
    obtain ⟨j, hj⟩ := hfe
    rw [hj]
    simp only
    rcases hit_or T1.row key with ⟨i, hi⟩ | hn
    · rw [m2.row.hit hi]
      obtain ⟨p, h1, h2, h3⟩ := hi
      simp only [h1]
      obtain ⟨R', r1, r2, r3, r4, r5, r6, r7⟩ := shift_ok (z := z) m2.row m2.row01 (m2.room m2.cnt_row) h1 h2
      rw [r1]
      have hg := get_row m2 h1 h2 h3
      rw [hg]
      have hcnt := m2.cnt
      have hpos := m2.pos
      refine ⟨_, rfl, ⟨r2, r3, by show 2 ≤ R'.length; omega, m2.elder, m2.eroom, m2.behind, m2.mle, fun a b q s hq hs hq1 hs1 => ?_, ?_, ?_⟩, m3, fun k => ?_, rfl, r4, rfl⟩
      · obtain ⟨a', ha, hb⟩ := r7 q ⟨a, hq, hq1⟩
        exact m2.apart a' b q s ha hs hb hs1
      · show cntT R' + cntT T1.elder = T1.count - 1
        omega
      · have := m2.load
        show T1.elder.length - T1.moved + 4 * (T1.count - 1) ≤ 3 * R'.length
        unfold leftT at this
        omega
      · show (match valOf R' k with | some v => some v | none => valOf T1.elder k) = _
        rw [r6]
        by_cases hk : kL k = kL key
        · have a2 : valOf T1.elder k = none := valOf_none (R := T1.elder) fun j ⟨q, g1, g2, g3⟩ => hne j ⟨q, g1, g2, g3.trans hk⟩
          rw [if_pos hk, if_pos (hk.trans h3.symm), a2]
        · rw [if_neg hk, if_neg (fun h => hk (h.trans h3))]; rfl
    · obtain ⟨i, f1, _, _⟩ := find_miss hn (m2.room m2.cnt_row)
      rw [f1]
      have hg := get_none hn hne
      rw [hg]
      refine ⟨T1, rfl, m2, m3, fun k => ?_, by simp, rfl, rfl⟩
      by_cases hk : kL k = kL key
      · rw [if_pos hk]
        exact get_none (fun j ⟨q, g1, g2, g3⟩ => hn j ⟨q, g1, g2, g3.trans hk⟩) (fun j ⟨q, g1, g2, g3⟩ => hne j ⟨q, g1, g2, g3.trans hk⟩)
      · rw [if_neg hk]
end
end Go.Proofs.Ytkedkajdiclmjaa.V
