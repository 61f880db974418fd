/- append, make and copy, of slices that own their rows; no condition. -/
import Derived.Test.YtidpbnbjpglhfaaVh
namespace Go.Proofs.Ytidpbnbjpglhfaa.V
open Go
set_option linter.unusedVariables false
set_option linter.unusedSimpArgs false

section
variable {P : Program} {h : H}
theorem RunS.choose {q : Question} {K : Nat → H → Prop} (hf : q.forced = false) (k : ∀ t, K (q.cut t) h) : RunS P (choose q) h K := fun w hw => by
  subst hw
  refine ⟨q.cut (w.tape w.drawn q), { w with drawn := w.drawn + 1 }, ?_, ⟨rfl, rfl, rfl⟩, k _⟩
  simp [Go.choose, Sem.run, hf]
theorem RunS.mark {m : Mark} {K : Unit → H → Prop} (k : K () h) : RunS P (mark m) h K := fun w hw => ⟨(), w, rfl, Like.refl w, hw ▸ k⟩
theorem RunS.askRoom {n : Nat} {K : Unit → H → Prop} (k : K () h) : RunS P (askRoom n) h K := by
  unfold Go.askRoom
  split
  · exact RunS.mark k
  · exact RunS.pure k
theorem RunS.loadCells {p : Addr} {cs : List Value} {n : Nat} {K : Array Value → H → Prop} (hn : cs.length = n) (hc : ∀ i v, cs[i]? = some v → cellH h (p.add i) = some v) (k : K cs.toArray h) : RunS P (loadCells p n) h K :=
  RunS.of_run (fun w hw => by subst hw; subst hn; exact run_loadCells_list (P := P) (w := w) p cs fun j v hj => hc j v hj) k
theorem RunS.firstCells {s : Sl} {size n : Nat} {cs : List Value} {K : Array Value → H → Prop} (hn : n = s.len) (hr : Reads h s size cs) (k : K cs.toArray h) : RunS P (Builtin.firstCells size n s.enc) h K := by
  subst hn
  obtain ⟨hl, _, hc⟩ := hr
  obtain ⟨p, l, c⟩ := s
  cases p with
  | none =>
    have : cs = [] := by
      cases cs with
      | nil => rfl
      | cons v r => obtain ⟨p, hp, _⟩ := hc 0 v rfl; cases hp
    subst this
    exact RunS.pure k
  | some a =>
    refine RunS.loadCells (cs := cs) hl (fun i v hv => ?_) k
    obtain ⟨p, hp, _, h2⟩ := hc i v hv
    cases hp; exact h2
theorem growBy_lt {n : Nat} : ∀ (r c : Nat), c ≤ n → Builtin.growBy n r c ≤ n + n / 4 + 256
  | 0, c, hc => by unfold Builtin.growBy; omega
  | r + 1, c, hc => by
    unfold Builtin.growBy
    split
    · omega
    · by_cases h : c + (c + 768) / 4 ≤ n
      · exact growBy_lt r _ h
      · cases r with
        | zero => unfold Builtin.growBy; omega
        | succ r =>
          unfold Builtin.growBy
          rw [if_pos (by omega)]; omega
theorem nextcap_le {n c : Nat} (h : c < n) : Builtin.nextslicecap n c ≤ n + n / 4 + 256 := by
  unfold Builtin.nextslicecap
  split
  · omega
  · split
    · omega
    · exact Nat.le_trans (growBy_lt 4 c (by omega)) (by omega)
theorem range_map_get (n : Nat) (f : Nat → Value) (i : Nat) (hi : i < n) : ((Array.range n).map f)[i]? = some (f i) := by simp [hi]
/-- What is known of a slice's type. -/
structure El (P : Program) (t e : TypeId) (size bytes : Nat) (z : Value) : Prop where
  slice : P.underlying t = some (.slice e)
  info : ∃ i, P.info? e = some i ∧ i.zero = some z ∧ i.size = size ∧ i.bytes = bytes
  zero : z.cells.size = size
  pos : 0 < size
  bpos : 0 < bytes
theorem heap_ext {w w' : World} {row : Option Nat} (hg : w.grownBy w' row) : Only (fun b => row = some b) w.heap w'.heap :=
  ⟨hg.size, fun b hb hn => hg.block b hb fun e => hn e.symm⟩
/-- append onto a slice that owns its row. -/
theorem app_of {t e ty : TypeId} {s x : Sl} {size bytes : Nat} {cs ys : List Value} {z : Value} {K : Sl → H → Prop} (el : El P t e size bytes z)
    (hs : Owns h s e size cs) (hx : Reads h x size ys) (ho : ∀ v ∈ ys, v.oneCell' = true) (hlim : (s.len + x.len + (s.len + x.len) / 4 + 256) * bytes ≤ 281474976710656)
    (k : ∀ r h', Owns h' r e size (cs ++ ys) → r.len = s.len + x.len → Only (fun b => s.blk = some b) h h' → (r.blk = s.blk ∨ ∃ b, r.blk = some b ∧ h.size ≤ b) → K r h') :
    runL P (Builtin.append_ #[t, t] ty #[s.enc, x.enc]) h K := by
  obtain ⟨i, hi, hz, hsz, hby⟩ := el.info
  have hpos := el.pos
  have hlx : ys.length = x.len * size := hx.1
  have hlc : cs.length = s.len * size := hs.1
  have hbp := el.bpos
  have hsum : s.len + x.len ≤ 9223372036854775807 := by
    have : s.len + x.len ≤ (s.len + x.len + (s.len + x.len) / 4 + 256) * bytes := Nat.le_trans (by omega) (Nat.le_mul_of_pos_right _ hbp)
    omega
  intro w hw
  subst hw
  suffices hsuf : ∃ (r : Sl) (w' : World), (Builtin.append_ #[t, t] ty #[s.enc, x.enc]).run P w = .ok r.enc w' ∧ Like w w' ∧ Owns w'.heap r e size (cs ++ ys) ∧ r.len = s.len + x.len ∧ Only (fun b => s.blk = some b) w.heap w'.heap ∧ (r.blk = s.blk ∨ ∃ b, r.blk = some b ∧ w.heap.size ≤ b) by
    obtain ⟨r, w', h1, h2, h3, h4, h5, h6⟩ := hsuf
    exact ⟨r.enc, w', h1, h2, r, rfl, k r _ h3 h4 h5 h6⟩
  obtain ⟨xp, xl, xc⟩ := x
  obtain ⟨sp, sl, sc⟩ := s
  simp only at *
  -- what is owned, in the kit's words
  have hown : w.ownsRow 0 e size (.slice sp sl sc) sl cs := by
    refine ⟨hlc, ?_⟩
    obtain ⟨_, ⟨h1, h2, h3⟩ | ⟨b, c, h1, h2, h3, h4, hcap, h5⟩⟩ := hs
    · simp only at h1 h2 h3; subst h1; subst h2; subst h3; exact .inl ⟨rfl, rfl⟩
    · simp only at h1 h3 h4 hcap; subst h1
      exact .inr ⟨b, sc, c, rfl, Nat.zero_le _, h2, h4, hcap, h3, by rw [← hlc]; exact h5⟩
  cases xp with
  | none =>
    obtain ⟨e1, e2⟩ := hx.2.1 rfl
    simp only at e1 e2; subst e1; subst e2
    have hy : ys = [] := List.eq_nil_of_length_eq_zero (by simpa using hlx)
    subst hy
    refine ⟨⟨sp, sl, sc⟩, w, run_append_owned_none w 0 t ty e i size el.slice hi (.slice sp sl sc) sl cs hown, Like.refl w, by simpa using hs, rfl, .refl _, .inl rfl⟩
  | some a =>
    have hc : ∀ j u, ys[j]? = some u → w.cell? (a.add j) = some u := fun j u hu => by
      obtain ⟨p, hp, _, h2⟩ := hx.2.2 j u hu
      cases hp; exact h2
    obtain ⟨_, ⟨h1, h2, h3⟩ | ⟨b, c, h1, h2, h3, h4, hcap, h5⟩⟩ := hs
    · simp only at h1 h2 h3; subst h1; subst h2; subst h3
      have hcs : cs = [] := List.eq_nil_of_length_eq_zero (by simpa using hlc)
      subst hcs
      by_cases h0 : xl = 0
      · subst h0
        have hy : ys = [] := List.eq_nil_of_length_eq_zero (by simpa using hlx)
        subst hy
        obtain ⟨v', w', r1, r2, r3, r4⟩ := run_append_own (P := P) w 0 t ty e i z size bytes el.slice hi hz hsz hby el.zero hpos (.slice none 0 0) 0 [] hown a 0 xc [] (by simp) (by simp) (by simp) (by simp [maxLen]) (by simp) (Nat.zero_le _)
        have : v' = .slice none 0 0 := r4.2 ⟨rfl, rfl⟩
        subst this
        refine ⟨⟨none, 0, 0⟩, w', r1, ⟨r3.os, r3.tape, r3.output⟩, Owns.nil _ _ _, rfl, (heap_ext r3).mono (fun b _ e => by simp [Value.ownBlock] at e), .inl rfl⟩
      · have hr := run_append_nil (P := P) w t ty e i z el.slice hi hz a xl xc ys (by rw [hlx, hsz]) hc (by omega) (by simp only [Nat.zero_add] at hsum; omega) (by
          rw [hby]; have : xl * bytes ≤ (0 + xl + (0 + xl) / 4 + 256) * bytes := Nat.mul_le_mul_right _ (by omega)
          omega)
        refine ⟨⟨some ⟨w.heap.size, 0, none⟩, xl, grownCap w xl 0 e⟩, w.drew.alloc (.cells (ys.toArray ++ Builtin.zeroCells z.cells (grownCap w xl 0 e - xl)) e), hr, ⟨rfl, rfl, rfl⟩, ⟨by simp [hlx], .inr ⟨w.heap.size, _, rfl, Blk.new _ _ _, ?_, grownCap_ge w xl 0 e, grownCap_le_maxLen w xl 0 e (by simp only [maxLen, Nat.zero_add] at *; omega), ?_⟩⟩, by simp, .push _ _, .inr ⟨_, rfl, Nat.le_refl _⟩⟩
        · have := grownCap_ge w xl 0 e
          simp only [Array.size_append, List.size_toArray, hlx, Builtin.zeroCells, Array.size_map, Array.size_range, el.zero]
          rw [← Nat.add_mul]; congr 1; omega
        · simp
    · simp only at h1 h3 h4 hcap; subst h1
      by_cases hfit : sl + xl ≤ sc
      · obtain ⟨w', r1, r2, r3⟩ := run_append_fits (P := P) w 0 t ty e i size el.slice hi hsz b sl sc cs hown a xl xc ys hlx hc ho hfit
        refine ⟨⟨some ⟨b, 0, none⟩, sl + xl, sc⟩, w', r1, ⟨r3.os, r3.tape, r3.output⟩, ?_, rfl, (heap_ext r3).mono (fun n _ e => by simpa [Sl.blk] using e), .inl rfl⟩
        obtain ⟨q1, ⟨q2, _⟩ | ⟨g, cap, cur, q2, _, q3, q4, q7, q5, q6⟩⟩ := r2
        · cases q2
        · cases q2
          exact ⟨q1, .inr ⟨b, cur, rfl, q3, q5, q4, q7, by rw [q1]; exact q6⟩⟩
      · have hnc := nextcap_le (n := sl + xl) (c := sc) (by omega)
        have hold : ∀ j v, cs[j]? = some v → w.cell? ((⟨b, 0, none⟩ : Addr).add j) = some v := fun j v hv => by
          have hlt : j < cs.length := (List.getElem?_eq_some_iff.1 hv).1
          have hc2 : c[j]? = some v := by
            have h6 : (c.toList.take cs.length)[j]? = some v := by rw [h5]; exact hv
            rw [List.getElem?_take_of_lt hlt] at h6
            simpa using h6
          rw [add_lit, Nat.zero_add]
          exact Blk.cell (h := w.heap) h2 hc2
        have hr := run_append_grow (P := P) w t ty e i z el.slice hi hz ⟨b, 0, none⟩ sl sc cs (by rw [hlc, hsz]) hold a xl xc ys (by rw [hlx, hsz]) hc (by omega) (by omega) (by
          rw [hby]; have : Builtin.nextslicecap (sl + xl) sc * bytes ≤ (sl + xl + (sl + xl) / 4 + 256) * bytes := Nat.mul_le_mul_right _ hnc
          omega)
        refine ⟨⟨some ⟨w.heap.size, 0, none⟩, sl + xl, grownCap w (sl + xl) sc e⟩, w.drew.alloc (.cells (cs.toArray ++ ys.toArray ++ Builtin.zeroCells z.cells (grownCap w (sl + xl) sc e - (sl + xl))) e), hr, ⟨rfl, rfl, rfl⟩, ⟨by simp [hlx, hlc, Nat.add_mul], .inr ⟨w.heap.size, _, rfl, Blk.new _ _ _, ?_, grownCap_ge w (sl + xl) sc e, grownCap_le_maxLen w (sl + xl) sc e (by simp only [maxLen]; omega), ?_⟩⟩, rfl, .push _ _, .inr ⟨_, rfl, Nat.le_refl _⟩⟩
        · have := grownCap_ge w (sl + xl) sc e
          simp only [Array.size_append, List.size_toArray, hlx, hlc, Builtin.zeroCells, Array.size_map, Array.size_range, el.zero]
          rw [← Nat.add_mul, ← Nat.add_mul]; congr 1; omega
        · simp only [Array.toList_append, List.length_append]
          rw [← List.length_append, List.take_left]
end
end Go.Proofs.Ytidpbnbjpglhfaa.V
