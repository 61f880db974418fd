/- A row of bytes made of a text is written on behind its end; the law TableGreat's names; no condition. -/
import Derived.Test.YtkedkajdiclmjaaTh
import Derived.Test.YtkedkajdiclmjaaTg
import Derived.ArgAppend
namespace Go.Proofs.Ytkedkajdiclmjaa.V
open Go
set_option linter.unusedVariables false
set_option linter.unusedSimpArgs false

/-- A row of bytes that is the call's own, made of a text or by append. -/
def BR (h : H) (s : Sl) (l : List UInt8) : Prop := ∃ b c fr, s.ptr = some ⟨b, 0, none⟩ ∧ h[b]? = some (.cells c 5 fr) ∧ (c.size ≤ fr.1 ∨ fr = (0, 0)) ∧ c.size = s.cap ∧ s.len = l.length ∧ s.len ≤ s.cap ∧ c.toList.take l.length = l.flatMap cU
theorem BR.cell {h : H} {b : Nat} {c : Array Value} {fr : Nat × Nat} {e : TypeId} (hb : h[b]? = some (.cells c e fr)) {i : Nat} {v : Value} (hv : c[i]? = some v) : cellH h ⟨b, i, none⟩ = some v := by
  unfold cellH
  rw [show h[(⟨b, i, none⟩ : Addr).block]? = _ from hb]; exact hv
theorem BR.reads {h : H} {s : Sl} {l : List UInt8} (r : BR h s l) : Reads h s 1 (l.flatMap cU) := by
  obtain ⟨b, c, fr, h1, h2, h3, h4, h5, h6, h7⟩ := r
  refine ⟨by rw [flat_len cU 1 cU_len, h5], (fun hp => by rw [h1] at hp; cases hp), fun i v hv => ⟨_, h1, rfl, ?_⟩⟩
  rw [add_lit, Nat.zero_add]
  have hi : i < l.length := by
    have := (List.getElem?_eq_some_iff.1 hv).1
    rw [flat_len cU 1 cU_len] at this; omega
  refine BR.cell h2 ?_
  have h8 : (c.toList.take l.length)[i]? = some v := by rw [h7]; exact hv
  rw [List.getElem?_take_of_lt hi] at h8
  simpa using h8
theorem BR.ext {h h' : H} {s : Sl} {l : List UInt8} (r : BR h s l) (e : Ext h h') : BR h' s l := by
  obtain ⟨b, c, fr, h1, h2, h3⟩ := r
  exact ⟨b, c, fr, h1, e.block h2 (fun f => f), h3⟩
theorem BR.len {h : H} {s : Sl} {l : List UInt8} (r : BR h s l) : s.len = l.length := by obtain ⟨b, c, fr, h1, h2, h3, h4, h5, h6, h7⟩ := r; exact h5
theorem cvtR_of {t d : TypeId} {h : H} {b : ByteArray} {K : Sl → H → Prop} (hs : PP.underlying t = some .string) (hd : PP.underlying d = some (.slice 5)) (he : PP.underlying 5 = some (.int .u8))
    (k : ∀ r h', BR h' r b.data.toList → Ext h h' → (∀ x, r.blk = some x → h.size ≤ x) → K r h') : runL PP (convert t d (.string b)) h K := fun w hw => by
  subst hw
  have hge := grownCap_ge w b.size 0 5
  have hsz : (bytesRow b (grownCap w b.size 0 5)).size = grownCap w b.size 0 5 := by
    simp only [bytesRow, Array.size_append, Array.size_map, Array.size_replicate]
    have : b.data.size = b.size := rfl
    omega
  refine ⟨_, _, run_bytes_of_string w t d 5 b hs hd he, ⟨rfl, rfl, rfl⟩, ⟨some ⟨w.heap.size, 0, none⟩, b.size, grownCap w b.size 0 5⟩, rfl, k _ _ ⟨w.heap.size, bytesRow b (grownCap w b.size 0 5), ((bytesRow b (grownCap w b.size 0 5)).size, (bytesRow b (grownCap w b.size 0 5)).size + 1), rfl, ?_, .inl (Nat.le_refl _), hsz, size_data, hge, ?_⟩ (.push _ _) fun x hx => ?_⟩
  · show (w.heap.push _)[w.heap.size]? = _
    simp
  · apply List.ext_getElem?
    intro j
    by_cases hj : j < b.data.toList.length
    · rw [List.getElem?_take_of_lt hj, Array.getElem?_toList]
      have h9 := flat_get cU 1 cU_len b.data.toList j _ (List.getElem?_eq_getElem hj) 0 (by omega)
      rw [Nat.mul_one, Nat.add_zero] at h9
      rw [h9]
      simp only [Array.length_toList] at hj
      simp only [bytesRow]
      rw [Array.getElem?_append_left (by simpa using hj)]
      simp [hj]
      exact ⟨_, Array.getElem?_eq_getElem hj, rfl⟩
    · rw [List.getElem?_eq_none (by rw [List.length_take]; omega), List.getElem?_eq_none (by rw [flat_len cU 1 cU_len]; omega)]
  · simp [Sl.blk] at hx; omega
theorem app1_of {h : H} {s x : Sl} {l : List UInt8} {v : UInt8} {K : Sl → H → Prop} (hs : BR h s l) (hx : Reads h x 1 ([v].flatMap cU)) (hl : l.length < 100000000)
    (k : ∀ r h', BR h' r (l ++ [v]) → Only (fun b => s.blk = some b) h h' → (r.blk = s.blk ∨ ∃ b, r.blk = some b ∧ h.size ≤ b) → K r h') : runL PP (Builtin.append_ #[70, 70] 70 #[s.enc, x.enc]) h K := by
  obtain ⟨b, c, fr, h1, h2, h3, h4, h5, h6, h7⟩ := id hs
  have hrd := hs.reads
  have hxl : x.len = 1 := by have := hx.1; simp at this; omega
  obtain ⟨xa, hxp, _, hxc⟩ := hx.2.2 0 (.int .u8 (v.toNat : Int)) rfl
  obtain ⟨xp, xl, xc⟩ := x
  obtain ⟨sp, sl, sc⟩ := s
  simp only at hxp hxl h1 h4 h5 h6
  subst hxp; subst hxl; subst h1; subst h5
  obtain ⟨i, hi, hz, hsz, hby⟩ : ∃ i, PP.info? 5 = some i ∧ i.zero = some (.int .u8 0) ∧ i.size = 1 ∧ i.bytes = 1 := ⟨Try.t5, by kernel_rfl, by kernel_rfl, by kernel_rfl, by kernel_rfl⟩
  intro w hw
  subst hw
  have hnews : ∀ j u, [Value.int .u8 (v.toNat : Int)][j]? = some u → w.cell? (xa.add j) = some u := fun j u hu => by
    have : j = 0 := by
      have := (List.getElem?_eq_some_iff.1 hu).1
      simpa using this
    subst this
    simp at hu; subst hu; exact hxc
  by_cases hfit : l.length + 1 ≤ sc
  · have hcell : ∀ o, o < sc → (w.cell? ⟨b, o, none⟩).isSome = true := fun o ho => by
      obtain ⟨u, hu⟩ : ∃ u, c[o]? = some u := ⟨_, Array.getElem?_eq_getElem (by omega)⟩
      have := BR.cell h2 hu
      rw [cellH_eq, this]; rfl
    have hfro : w.frozen? ⟨b, l.length, none⟩ = false := by
      rw [frozenH_eq]
      unfold frozenH
      rw [show w.heap[(⟨b, l.length, none⟩ : Addr).block]? = _ from h2]
      rcases h3 with h3 | h3
      · simp; omega
      · subst h3; simp
    have hr := run_append_room_cells (P := PP) w 70 70 5 i Try.underlying70 hi b 0 l.length sc xa 1 xc [.int .u8 (v.toNat : Int)] (by rw [hsz]; rfl) hnews (by simp [Value.oneCell']) hfit
      (fun j hj => by
        have : j = 0 := by simpa using hj
        subst this
        rw [hsz]; exact hcell _ (by omega)) (fun j hj => by
        have : j = 0 := by simpa using hj
        subst this
        rw [hsz]; simpa using hfro)
    refine ⟨_, _, hr, ⟨rfl, rfl, rfl⟩, ⟨some ⟨b, 0, none⟩, l.length + 1, sc⟩, rfl, ?_⟩
    rw [hsz, Nat.mul_one, Nat.zero_add]
    have hset : (setH w.heap ⟨b, l.length, none⟩ (.int .u8 (v.toNat : Int)))[b]? = some (.cells (c.setIfInBounds l.length (.int .u8 (v.toNat : Int))) 5 fr) := by
      simp [setH, Array.getElem?_modify, h2]
    refine k _ (setH w.heap ⟨b, l.length, none⟩ (.int .u8 (v.toNat : Int))) ⟨b, _, fr, rfl, hset, by simpa using h3, by simpa using h4, by simp, hfit, ?_⟩ ⟨by simp [setH], fun m hm hne => ?_⟩ (.inl rfl)
    · rw [Array.toList_setIfInBounds, List.length_append, List.length_singleton, List.flatMap_append, ← h7]
      have hlt : l.length < c.toList.length := by simp; omega
      rw [List.take_add_one, List.take_set_of_le (Nat.le_refl _), List.getElem?_set, if_pos rfl, if_pos hlt]
      rfl
    · have : ¬ b = m := fun e => hne (by simp [Sl.blk, e])
      simp [setH, Array.getElem?_modify, this]
  · have hcap : sc = l.length := by omega
    have holds : ∀ j u, (l.flatMap cU)[j]? = some u → w.cell? ((⟨b, 0, none⟩ : Addr).add j) = some u := fun j u hu => by
      obtain ⟨p, hp, _, h2⟩ := hrd.2.2 j u hu
      cases hp; exact h2
    have hnc := nextcap_le (n := l.length + 1) (c := sc) (by omega)
    have hll : (l.flatMap cU).length = l.length := by rw [flat_len cU 1 cU_len, Nat.mul_one]
    have hr := run_append_grow (P := PP) w 70 70 5 i (.int .u8 0) Try.underlying70 hi hz ⟨b, 0, none⟩ l.length sc (l.flatMap cU) (by rw [hsz, hll, Nat.mul_one]) holds xa 1 xc [.int .u8 (v.toNat : Int)] (by rw [hsz]; rfl) hnews (by omega) (by omega) (by rw [hby]; omega)
    refine ⟨_, _, hr, ⟨rfl, rfl, rfl⟩, ⟨some ⟨w.heap.size, 0, none⟩, l.length + 1, grownCap w (l.length + 1) sc 5⟩, rfl, ?_⟩
    have hge := grownCap_ge w (l.length + 1) sc 5
    refine k _ _ ⟨w.heap.size, _, (0, 0), rfl, Blk.new _ _ _, .inr rfl, ?_, by simp, hge, ?_⟩ (.push _ _) (.inr ⟨_, rfl, Nat.le_refl _⟩)
    · simp only [Array.size_append, List.size_toArray, hll, Builtin.zeroCells, Array.size_map, Array.size_range, Value.cells, List.length_singleton]
      simp
      omega
    · simp only [Array.toList_append, List.length_append, List.length_singleton, List.flatMap_append]
      have : (l.flatMap cU ++ [Value.int .u8 (v.toNat : Int)]).length = l.length + 1 := by simp [hll]
      rw [← this, List.take_left]
      rfl
def revD : Nat → List UInt8
  | 0 => []
  | n + 1 => UInt8.ofNat (48 + (n + 1) % 10) :: revD ((n + 1) / 10)
decreasing_by omega
theorem revD_pos {n : Nat} (h : 0 < n) : revD n = UInt8.ofNat (48 + n % 10) :: revD (n / 10) := by
  cases n with
  | zero => omega
  | succ n => rw [revD]
theorem revD_zero : revD 0 = [] := by rw [revD]
def digs (n : Nat) : List UInt8 := if n = 0 then [48] else revD n
def nameM (n : Nat) (salt : ByteArray) : ByteArray := ⟨(salt.data.toList ++ digs n).toArray⟩
theorem digit_inj {a b : Nat} (ha : a < 10) (hb : b < 10) (h : UInt8.ofNat (48 + a) = UInt8.ofNat (48 + b)) : a = b := by
  have := congrArg UInt8.toNat h
  simp at this
  omega
theorem revD_inj : ∀ n m, revD n = revD m → n = m := by
  intro n
  induction n using Nat.strongRecOn with
  | ind n ih =>
    intro m h
    by_cases hn : n = 0
    · by_cases hm : m = 0
      · omega
      · subst hn
        rw [revD_pos (n := m) (by omega), revD_zero] at h; cases h
    · by_cases hm : m = 0
      · subst hm
        rw [revD_pos (n := n) (by omega), revD_zero] at h; cases h
      · rw [revD_pos (n := n) (by omega), revD_pos (n := m) (by omega)] at h
        injection h with h1 h2
        have := ih (n / 10) (by omega) (m / 10) h2
        have := digit_inj (Nat.mod_lt _ (by omega)) (Nat.mod_lt _ (by omega)) h1
        omega
theorem digs_inj {n m : Nat} (h : digs n = digs m) : n = m := by
  unfold digs at h
  have one : ∀ m, ¬ m = 0 → revD m ≠ [48] := fun m hm e => by
    rw [revD_pos (n := m) (by omega)] at e
    injection e with e1 e2
    have : m / 10 = 0 := revD_inj _ 0 (by rw [e2, revD_zero])
    have := digit_inj (a := m % 10) (b := 0) (Nat.mod_lt _ (by omega)) (by omega) e1
    omega
  split at h
  · split at h
    · omega
    · exact absurd h.symm (one m (by assumption))
  · split at h
    · exact absurd h (one n (by assumption))
    · exact revD_inj _ _ h
theorem name_inj {n m : Nat} {salt : ByteArray} (h : kL (nameM n salt) = kL (nameM m salt)) : n = m := by
  have : salt.data.toList ++ digs n = salt.data.toList ++ digs m := by simpa [nameM] using h
  exact digs_inj (List.append_cancel_left this)
theorem revD_len (n : Nat) : (revD n).length ≤ n := by
  induction n using Nat.strongRecOn with
  | ind n ih =>
    by_cases hn : n = 0
    · subst hn; rw [revD_zero]; simp
    · rw [revD_pos (by omega), List.length_cons]
      have := ih (n / 10) (by omega)
      omega
theorem name_small {n : Nat} {salt : ByteArray} (hn : n < 100000) (hs : salt.size ≤ 100) : SmallK (nameM n salt) := by
  have h1 : (digs n).length ≤ n + 1 := by
    unfold digs
    split
    · simp
    · have := revD_len n; omega
  have h2 : (nameM n salt).size = salt.data.toList.length + (digs n).length := by
    rw [size_data]; simp [nameM]
  unfold SmallK
  rw [h2, ← size_data]; omega
theorem name_loop {h0 : H} {salt : ByteArray} {N : Nat} {Q : ByteArray → H → Prop} (hs : salt.size ≤ 100) (k : ∀ h', Ext h0 h' → Q (nameM N salt) h') :
    ∀ (m n : Nat) (done : List UInt8) (s : Sl) (h : H), BR h s (salt.data.toList ++ done) → Ext h0 h → (∀ b, s.blk = some b → h0.size ≤ b) → n + (if done = [] then 1 else 0) < m → n + done.length < 100001 → done ++ (if n = 0 ∧ done = [] then [48] else revD n) = digs N → F.spatelaw6_name.l1 Q m (n : Int) salt s h
  | 0, n, done, s, h, br, e0, hb, hm, hl, hd => by omega
  | m + 1, n, done, s, h, br, e0, hb, hm, hl, hd => by
    unfold F.spatelaw6_name.l1
    have hlen := br.len
    rw [List.length_append] at hlen
    have hsz : salt.data.toList.length = salt.size := size_data.symm
    have stp : (0 < n ∨ done = []) → F.spatelaw6_name.j2 Q (F.spatelaw6_name.l1 Q m) (n : Int) salt s h := fun hc => by
      unfold F.spatelaw6_name.j2
      refine ⟨by omega, ?_⟩
      refine newL_of fun b h3 hb3 b3 e3 _ => ?_
      have hw : IntKind.wrap .u8 (IntKind.wrap .i64 (48 + Int.tmod (n : Int) 10)) = ((UInt8.ofNat (48 + n % 10)).toNat : Int) := by
        have : Int.tmod (n : Int) 10 = ((n % 10 : Nat) : Int) := by rw [show (10 : Int) = ((10 : Nat) : Int) from rfl, ← Int.ofNat_tmod]
        rw [this, w64 (by omega) (by omega)]
        have h10 : n % 10 < 10 := Nat.mod_lt _ (by omega)
        generalize n % 10 = y at *
        rcases (show y = 0 ∨ y = 1 ∨ y = 2 ∨ y = 3 ∨ y = 4 ∨ y = 5 ∨ y = 6 ∨ y = 7 ∨ y = 8 ∨ y = 9 by omega) with rfl | rfl | rfl | rfl | rfl | rfl | rfl | rfl | rfl | rfl <;> rfl
      rw [hw] at b3
      have ow : Reads h3 ⟨some ⟨b, 0, none⟩, 1, 1⟩ 1 ([UInt8.ofNat (48 + n % 10)].flatMap cU) := blk_reads (m := 1) b3 rfl
      refine app1_of (br.ext e3) ow (by rw [List.length_append]; omega) fun r h4 br4 e4 hr4 => ?_
      refine ⟨by omega, ?_⟩
      have hdv : Int.tdiv (n : Int) 10 = ((n / 10 : Nat) : Int) := by rw [show (10 : Int) = ((10 : Nat) : Int) from rfl, ← Int.ofNat_tdiv]
      rw [hdv, w64 (by omega) (by omega)]
      rw [List.append_assoc] at br4
      refine name_loop hs k m (n / 10) (done ++ [UInt8.ofNat (48 + n % 10)]) r h4 br4 ((e0.trans e3).step e4 fun j hj hf => by have := hb j hf; omega) (fun b' hb' => ?_) ?_ ?_ ?_
      · rcases hr4 with g | ⟨b2, g, g2⟩
        · exact hb b' (by rw [← g]; exact hb')
        · rw [g] at hb'; cases hb'
          have := (e0.trans e3).size
          omega
      · rw [if_neg (by simp)]
        rcases hc with hc | hc
        · split at hm <;> omega
        · rw [if_pos hc] at hm; omega
      · simp only [List.length_append, List.length_singleton]
        rcases hc with hc | hc
        · omega
        · subst hc; simp only [List.length_nil] at hl ⊢; omega
      · rw [← hd, if_neg (by simp), List.append_assoc]
        congr 1
        by_cases hn : n = 0
        · subst hn
          rcases hc with hc | hc
          · omega
          · rw [if_pos ⟨rfl, hc⟩]
            show [UInt8.ofNat 48] ++ revD (0 / 10) = [48]
            rw [show 0 / 10 = 0 from rfl, revD_zero]; rfl
        · rw [if_neg (fun h => hn h.1), revD_pos (n := n) (by omega)]; rfl
    have ends : ¬ (0 < n ∨ done = []) → runT PP (convert 70 9 s.enc) h fun s11 h10 => Q s11 h10 := fun hc => by
      have hn : n = 0 := by omega
      subst hn
      rw [if_neg (fun h => hc (.inr h.2)), revD_zero, List.append_nil] at hd
      subst hd
      refine cvtT_of Try.underlying70 Try.underlying5 Try.underlying9 br.reads ?_
      have := k h e0
      unfold nameM at this
      exact this
    simp only [decide_eq_true_eq, decide_eq_false_iff_not]
    unfold F.spatelaw6_name.j3
    refine ⟨fun g => ⟨fun _ => stp (.inl (by omega)), fun h => by cases h⟩, fun g => ?_⟩
    simp only [beq_iff_eq, beq_eq_false_iff_ne]
    refine ⟨fun g2 => stp (.inr (List.eq_nil_of_length_eq_zero (by omega))), fun g2 => ends fun hc => ?_⟩
    rcases hc with hc | hc
    · omega
    · subst hc; simp at hlen; omega
theorem name_spec {h : H} {n : Nat} {salt : ByteArray} {Q : ByteArray → H → Prop} (hs : salt.size ≤ 100) (hn : n < 100000) (k : ∀ h', Ext h h' → Q (nameM n salt) h') : F.spatelaw6_name (n : Int) salt h Q := by
  unfold F.spatelaw6_name
  refine cvtR_of Try.underlying9 Try.underlying70 Try.underlying5 fun r h' br e hb => ?_
  exact ⟨n + 2, name_loop hs k (n + 2) n [] r h' (by simpa using br) e hb (by simp) (by simp; omega) (by unfold digs; simp)⟩
end Go.Proofs.Ytkedkajdiclmjaa.V
