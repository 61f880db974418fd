/- The law MergeTurns answers true; no condition. -/
import Derived.Test.YtidpbnbjpglhfaaMj
namespace Go.Proofs.Ytidpbnbjpglhfaa.V
open Go
set_option linter.unusedVariables false
set_option linter.unusedSimpArgs false

/-- A row of bytes that is the call's own, made of a text. -/
def BRow (h : H) (s : Sl) (l : List UInt8) : Prop := ∃ b c fr, s.ptr = some ⟨b, 0, none⟩ ∧ h[b]? = some (.cells c 5 fr) ∧ c.size ≤ fr.1 ∧ s.len = l.length ∧ s.len ≤ s.cap ∧ l.length ≤ c.size ∧ c.toList.take l.length = l.flatMap cU
theorem BRow.cell {h : H} {b : Nat} {c : Array Value} {fr : Nat × Nat} {e : TypeId} (hb : h[b]? = some (.cells c e fr)) {i : Nat} {v : Value} (hv : c[i]? = some v) : cellH h ⟨b, i, none⟩ = some v := by
  unfold cellH
  rw [show h[(⟨b, i, none⟩ : Addr).block]? = _ from hb]; exact hv
theorem BRow.get {l : List UInt8} {c : Array Value} (ht : c.toList.take l.length = l.flatMap cU) {i : Nat} {x : UInt8} (hx : l[i]? = some x) : c[i]? = some (.int .u8 (x.toNat : Int)) := by
  have hi : i < l.length := (List.getElem?_eq_some_iff.1 hx).1
  have h1 : (c.toList.take l.length)[i]? = (l.flatMap cU)[i]? := by rw [ht]
  rw [List.getElem?_take_of_lt hi] at h1
  have h2 := flat_get cU 1 cU_len l i x hx 0 (by omega)
  rw [Nat.mul_one, Nat.add_zero] at h2
  rw [h2] at h1
  simpa using h1
theorem BRow.reads {h : H} {s : Sl} {l : List UInt8} (r : BRow h s l) : Reads h s 1 (l.flatMap cU) := by
  obtain ⟨b, c, fr, h1, h2, h3, h4, h5, h6, h7⟩ := r
  refine ⟨by rw [flat_len cU 1 cU_len, h4], (fun hp => by rw [h1] at hp; cases hp), fun i v hv => ⟨_, h1, rfl, ?_⟩⟩
  rw [add_lit, Nat.zero_add]
  have hi : i < l.length := by
    have := (List.getElem?_eq_some_iff.1 hv).1
    rw [flat_len cU 1 cU_len] at this; omega
  refine BRow.cell h2 ?_
  have h8 : (c.toList.take l.length)[i]? = some v := by rw [h7]; exact hv
  rw [List.getElem?_take_of_lt hi] at h8
  simpa using h8
theorem BRow.ext {h h' : H} {s : Sl} {l : List UInt8} (r : BRow h s l) (e : Ext h h') : BRow h' s l := by
  obtain ⟨b, c, fr, h1, h2, h3⟩ := r
  exact ⟨b, c, fr, h1, e.block h2 (fun f => f), h3⟩
theorem BRow.set {h : H} {s : Sl} {l : List UInt8} (r : BRow h s l) {i : Nat} {v : UInt8} (hi : i < l.length) {n : Int} (hn : n = (i : Int)) {K : H → Prop} (k : ∀ h' b, s.blk = some b → BRow h' s (l.set i v) → Only (· = b) h h' → K h') : idxA s n 1 fun a => stH h a [.int .u8 (v.toNat : Int)] K := by
  obtain ⟨b, c, fr, h1, h2, h3, h4, h5, h6, h7⟩ := r
  refine idxA_of (i := i) h1 (by omega) hn ?_
  rw [Nat.mul_one]
  refine ⟨fun j hj => ?_, ?_⟩
  · have : j = 0 := by simpa using hj
    subst this
    rw [add_lit, Nat.add_zero]
    refine ⟨?_, ?_⟩
    · obtain ⟨u, hu⟩ : ∃ u, c[i]? = some u := ⟨_, Array.getElem?_eq_getElem (by omega)⟩
      rw [BRow.cell h2 hu]; rfl
    · unfold frozenH
      rw [show h[(⟨b, i, none⟩ : Addr).block]? = _ from h2]
      simp; omega
  · have hset : (setHs h ⟨b, i, none⟩ [.int .u8 (v.toNat : Int)] 0)[b]? = some (.cells (c.setIfInBounds i (.int .u8 (v.toNat : Int))) 5 fr) := by
      simp [setHs, setH, add_lit, Array.getElem?_modify, h2]
    refine k _ b (by simp [Sl.blk, h1]) ⟨b, _, fr, h1, hset, by simpa using h3, by simpa using h4, h5, by simpa using h6, ?_⟩ ⟨by simp [setHs, setH], fun m hm hne => ?_⟩
    · have hl : (l.set i v).length = l.length := by simp
      rw [hl]
      apply List.ext_getElem?
      intro j
      by_cases hj : j < l.length
      · rw [List.getElem?_take_of_lt hj, Array.getElem?_toList]
        obtain ⟨x, hx⟩ : ∃ x, (l.set i v)[j]? = some x := ⟨_, List.getElem?_eq_getElem (by simpa using hj)⟩
        have h9 := flat_get cU 1 cU_len (l.set i v) j x hx 0 (by omega)
        rw [Nat.mul_one, Nat.add_zero] at h9
        rw [h9]
        rw [List.getElem?_set] at hx
        split at hx
        · rename_i hij
          subst hij
          simp at hx; subst hx
          simp [show i < c.size by omega]
        · rename_i hij
          rw [Array.getElem?_setIfInBounds_ne hij, BRow.get h7 hx]
          rfl
      · rw [List.getElem?_eq_none (by rw [List.length_take]; omega), List.getElem?_eq_none (by rw [flat_len cU 1 cU_len, hl]; omega)]
    · have : ¬ b = m := fun e => hne e.symm
      simp [setHs, setH, add_lit, Array.getElem?_modify, this]
theorem cvtB_of {t d : TypeId} {h : H} {b : ByteArray} {K : Sl → H → Prop} (hs : PP.underlying t = some .string) (hd : PP.underlying d = some (.slice 5)) (he : PP.underlying 5 = some (.int .u8))
    (k : ∀ r h', BRow h' r b.data.toList → Ext h h' → (∀ x, r.blk = some x → h.size ≤ x) → K r h') : runL PP (convert t d (.string b)) h K := fun w hw => by
  subst hw
  refine ⟨_, _, run_bytes_of_string w t d 5 b hs hd he, ⟨rfl, rfl, rfl⟩, ⟨some ⟨w.heap.size, 0, none⟩, b.size, grownCap w b.size 0 5⟩, rfl, k _ _ ⟨w.heap.size, bytesRow b (grownCap w b.size 0 5), ((bytesRow b (grownCap w b.size 0 5)).size, (bytesRow b (grownCap w b.size 0 5)).size + 1), rfl, ?_, Nat.le_refl _, size_data, grownCap_ge w b.size 0 5, ?_, ?_⟩ (.push _ _) fun x hx => ?_⟩
  · show (w.heap.push _)[w.heap.size]? = _
    simp
  · simp [bytesRow]
  · apply List.ext_getElem?
    intro j
    by_cases hj : j < b.data.toList.length
    · rw [List.getElem?_take_of_lt hj, Array.getElem?_toList]
      have h9 := flat_get cU 1 cU_len b.data.toList j _ (List.getElem?_eq_getElem hj) 0 (by omega)
      rw [Nat.mul_one, Nat.add_zero] at h9
      rw [h9]
      simp only [Array.length_toList] at hj
      simp only [bytesRow]
      rw [Array.getElem?_append_left (by simpa using hj)]
      simp [hj]
      exact ⟨_, Array.getElem?_eq_getElem hj, rfl⟩
    · rw [List.getElem?_eq_none (by rw [List.length_take]; omega), List.getElem?_eq_none (by rw [flat_len cU 1 cU_len]; omega)]
  · simp [Sl.blk] at hx; omega
theorem within8_spec {n m : Int} {h : H} {Q : Int → H → Prop} (h0 : 0 < m) (h1 : m < 4294967296) (k : ∀ r : Nat, (r : Int) < m → Q r h) : F.spatelaw8_within n m h Q := by
  unfold F.spatelaw8_within F.spatelaw8_within.j1
  have ha : Int.tmod n m < m := Int.tmod_lt_of_pos n h0
  have hb : -m < Int.tmod n m := by
    have := Int.lt_tmod_of_pos n h0
    omega
  simp only [decide_eq_true_eq, decide_eq_false_iff_not]
  refine ⟨by omega, fun g => ?_, fun g => ?_⟩
  · rw [w64 (by omega) (by omega)]
    have := k (Int.tmod n m + m).toNat (by omega)
    rwa [Int.toNat_of_nonneg (by omega)] at this
  · have := k (Int.tmod n m).toNat (by omega)
    rwa [Int.toNat_of_nonneg (by omega)] at this
theorem keyL_len (c : Cel) (hk : c.Key.size ≤ 32) : (keyL c).length ≤ 80 ∧ 0 < (keyL c).length := by
  have := escL_len c.Key.data.toList
  rw [← size_data] at this
  unfold keyL
  simp [beT_len]; omega
theorem may_key {c : Cel} (h : mayC c = 0) : c.Key.size ≤ 32 := by
  unfold mayC at h
  split at h
  · omega
  · split at h
    · omega
    · omega
theorem byte_wrap (n : Int) : IntKind.wrap .u8 n = ((UInt8.ofNat (n % 256).toNat).toNat : Int) := by
  rw [u8_of, wrap_u8, wrap_u8]; omega
theorem MergeTurns_spec {h : H} {a : Cel} {at_ by_ cut : Int} {more : ByteArray} {Q : Bool → H → Prop} (k : ∀ h', Ext h h' → Q true h') : F.spatelaw8_MergeTurns a at_ by_ cut more h Q := by
  unfold F.spatelaw8_MergeTurns
  refine new_of fun n h1 p1 b1 e1 z1 => ⟨a, b1.cells3, ?_⟩
  refine KeyR_spec (fun g h5 e5 => ⟨fun _ => ?_, fun g2 => by rw [bne_eq_false_iff_eq] at g2; exact absurd g2 g⟩) fun g h5 e5 => ⟨fun g2 => by simp at g2, fun _ => ?_⟩
  · exact known8_spec fun h9 e9 => k h9 ((e1.trans e5).trans e9)
  · have x5 := e1.trans e5
    obtain ⟨kl, kp⟩ := keyL_len a (may_key g)
    have bn5 : Blk h5 n a.cells.toArray 34 := e5.block b1 (fun f => f)
    refine cvtB_of Try.underlying9 Try.underlying47 Try.underlying5 fun r h11 rr e11 hr => ?_
    have hdl : (⟨(keyL a).toArray⟩ : ByteArray).data.toList = keyL a := rfl
    rw [hdl] at rr
    have hlen : r.len = (keyL a).length := rd_len cU_len (by omega) rr.reads
    rw [hlen]
    refine within8_spec (by omega) (by omega) fun i hi => ?_
    obtain ⟨x, hx⟩ : ∃ x, (keyL a)[i]? = some x := ⟨_, List.getElem?_eq_getElem (by omega)⟩
    obtain ⟨q, q1, q2, q3⟩ := rd_at cU_len (by omega) rr.reads hx
    refine idxR_of (i := i) q1 (by omega) rfl ?_
    rw [ldI_iff q3.one, byte_wrap]
    refine rr.set (by omega) rfl fun h21 b hb rr2 o21 => ?_
    have hbs := hr b hb
    have x11 := x5.trans e11
    have s5 := x5.size
    have s51 := e5.size
    have x21 : Ext h h21 := x11.step o21 fun m hm e => by omega
    have bn21 : Blk h21 n a.cells.toArray 34 := o21.block (e11.block bn5 (fun f => f)) (by have := block_lt bn5; omega)
    have j1 : ∀ more' : ByteArray, more'.size ≤ 40 → F.spatelaw8_MergeTurns.j1 Q cut more' ⟨n, 0, none⟩ ⟨(keyL a).toArray⟩ r h21 := fun more' hm => by
      unfold F.spatelaw8_MergeTurns.j1
      refine ⟨a, bn21.cells3, a, bn21.cells3, ?_⟩
      refine cvtT_of (l := (keyL a).set i _) Try.underlying47 Try.underlying5 Try.underlying9 rr2.reads ⟨bn21.cells3, bn21.cells3, ?_⟩
      refine MergeKeys_spec (by rw [size_data]; show ((keyL a).set i _).length < _; simp; omega) fun h30 e30 => ⟨fun _ => ?_, fun h => by cases h⟩
      have bn30 : Blk h30 n a.cells.toArray 34 := e30.block bn21 (fun f => f)
      refine ⟨a, bn30.cells3, a, bn30.cells3, ?_⟩
      have hsz : (⟨(keyL a).toArray⟩ : ByteArray).size = (keyL a).length := by rw [size_data]
      rw [hsz, w64 (n := ((keyL a).length : Int) + 1) (by omega) (by omega)]
      refine within8_spec (by omega) (by omega) fun j hj => ⟨bn30.cells3, bn30.cells3, ?_⟩
      refine ⟨_, ⟨by omega, by omega, by rw [hsz]; omega, rfl⟩, ?_⟩
      refine MergeKeys_spec (by rw [ByteArray.size_extract]; omega) fun h43 e43 => ⟨fun _ => ?_, fun h => by cases h⟩
      have bn43 : Blk h43 n a.cells.toArray 34 := e43.block bn30 (fun f => f)
      refine ⟨a, bn43.cells3, a, bn43.cells3, by omega, ?_⟩
      refine MergeKeys_spec (by rw [ByteArray.size_append, hsz]; omega) fun h51 e51 => k h51 (((x21.trans e30).trans e43).trans e51)
    refine ⟨fun g3 => ?_, fun g3 => ?_⟩
    · rw [decide_eq_true_eq] at g3
      exact ⟨_, ⟨by omega, by omega, by omega, rfl⟩, j1 _ (by rw [ByteArray.size_extract]; omega)⟩
    · rw [decide_eq_false_iff_not] at g3
      exact j1 _ (by omega)
end Go.Proofs.Ytidpbnbjpglhfaa.V
