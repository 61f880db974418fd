/- Texts and bytes; one thing appended behind an owned list; lists cut; no condition. -/
import Derived.Test.YtidpbnbjpglhfaaVj
import Derived.Laws.IdiomStrings
namespace Go.Proofs.Ytidpbnbjpglhfaa.V
open Go
set_option linter.unusedVariables false
set_option linter.unusedSimpArgs false

theorem Ext.step {S : Nat → Prop} {a b c : H} (e : Ext a b) (o : Only S b c) (hs : ∀ n, n < a.size → ¬ S n) : Ext a c := Only.trans e o fun n hn s => hs n hn s
abbrev cU (b : UInt8) : List Value := [.int .u8 (b.toNat : Int)]
theorem cU_len (b : UInt8) : (cU b).length = 1 := rfl
/-- The slice's row, if it has one, is newer than h0. -/
def Mine (h0 : H) (s : Sl) : Prop := ∀ b, s.blk = some b → h0.size ≤ b
theorem Mine.nil (h0 : H) (n m : Nat) : Mine h0 ⟨none, n, m⟩ := fun b hb => by simp [Sl.blk] at hb
theorem Mine.of_blk {h0 : H} {s t : Sl} (m : Mine h0 s) (e : t.blk = s.blk) : Mine h0 t := fun b hb => m b (by rw [← e]; exact hb)
theorem Mine.older {h0 h1 : H} {s : Sl} (m : Mine h1 s) (e : Ext h0 h1) : Mine h0 s := fun b hb => Nat.le_trans e.size (m b hb)
theorem Ext.mine {h0 h h' : H} {s : Sl} (e : Ext h0 h) (m : Mine h0 s) (o : Only (fun b => s.blk = some b) h h') : Ext h0 h' := e.step o fun n hn hb => by have := m n hb; omega
section
variable {P : Program} {h : H} {α : Type} {f : α → List Value} {k : Nat} {s : Sl} {L : List α} {t e : TypeId} {bytes : Nat} {z : Value}
/-- Things that are read in a slice are appended to an owned list. -/
theorem app_list {x : Sl} {M : List α} {ty : TypeId} {K : Sl → H → Prop} (hf : ∀ x, (f x).length = k) (hk : 0 < k) (el : El P t e k bytes z) (hs : Owns h s e k (L.flatMap f)) (hx : Reads h x k (M.flatMap f)) (ho : ∀ x, ∀ v ∈ f x, v.oneCell' = true)
    (hlim : (L.length + M.length + (L.length + M.length) / 4 + 256) * bytes ≤ 281474976710656)
    (kk : ∀ r h', Owns h' r e k ((L ++ M).flatMap f) → Only (fun b => s.blk = some b) h h' → (r.blk = s.blk ∨ ∃ b, r.blk = some b ∧ h.size ≤ b) → K r h') :
    runL P (Builtin.append_ #[t, t] ty #[s.enc, x.enc]) h K := by
  have h1 := own_len hf hk hs
  have h2 := rd_len hf hk hx
  refine app_of el hs hx (fun v hv => ?_) (by rw [h1, h2]; exact hlim) fun r h' q1 q2 q3 q4 => kk r h' (by rw [List.flatMap_append]; exact q1) q3 q4
  obtain ⟨x, _, hx⟩ := List.mem_flatMap.1 hv
  exact ho x v hx
theorem app_mine {h0 : H} {x : Sl} {M : List α} {ty : TypeId} {K : Sl → H → Prop} (e0 : Ext h0 h) (m : Mine h0 s) (hf : ∀ x, (f x).length = k) (hk : 0 < k) (el : El P t e k bytes z) (hs : Owns h s e k (L.flatMap f)) (hx : Reads h x k (M.flatMap f)) (ho : ∀ x, ∀ v ∈ f x, v.oneCell' = true)
    (hlim : (L.length + M.length + (L.length + M.length) / 4 + 256) * bytes ≤ 281474976710656)
    (kk : ∀ r h', Owns h' r e k ((L ++ M).flatMap f) → Ext h0 h' → Mine h0 r → Only (fun b => s.blk = some b) h h' → (r.blk = s.blk ∨ ∃ b, r.blk = some b ∧ h.size ≤ b) → K r h') :
    runL P (Builtin.append_ #[t, t] ty #[s.enc, x.enc]) h K :=
  app_list hf hk el hs hx ho hlim fun r h' q1 q2 q3 => kk r h' q1 (e0.mine m q2) (fun b hb => by
    rcases q3 with q3 | ⟨b', q3, q4⟩
    · exact m b (by rw [← q3]; exact hb)
    · rw [q3] at hb; cases hb; exact Nat.le_trans e0.size q4) q2 q3
/-- One thing is appended. -/
theorem push_mine {h0 : H} {ty : TypeId} (x : α) {K : Sl → H → Prop} (e0 : Ext h0 h) (m : Mine h0 s) (hf : ∀ x, (f x).length = k) (hk : 0 < k) (el : El P t e k bytes z) (hs : Owns h s e k (L.flatMap f)) (ho : ∀ x, ∀ v ∈ f x, v.oneCell' = true)
    (hlim : (L.length + 1 + (L.length + 1) / 4 + 256) * bytes ≤ 281474976710656)
    (kk : ∀ r h', Owns h' r e k ((L ++ [x]).flatMap f) → Ext h0 h' → Mine h0 r → Only (fun b => s.blk = some b) h h' → (r.blk = s.blk ∨ ∃ b, r.blk = some b ∧ h.size ≤ b) → K r h') :
    newL h (f x).toArray e 1 fun s1 h1 => runL P (Builtin.append_ #[t, t] ty #[s.enc, s1.enc]) h1 K := by
  refine newL_of fun n h1 e1 e2 e3 e4 => ?_
  refine app_mine (M := [x]) (e0.trans e3) m hf hk el (hs.only e3 fun _ _ f => f) (blk_reads (by simpa using e2) (by simp [hf])) ho hlim fun r h' q1 q2 q3 q4 q5 => kk r h' q1 q2 q3 ((e3.only (S := fun b => s.blk = some b)).trans q4 fun _ _ e => e) ?_
  rcases q5 with q5 | ⟨b, q5, q6⟩
  · exact .inl q5
  · have := e3.size; exact .inr ⟨b, q5, by omega⟩
theorem Reads.ext {h' : H} {size : Nat} {cs : List Value} (o : Reads h s size cs) (e : Ext h h') : Reads h' s size cs := o.only e fun _ _ f => f
theorem Reads.keep {S : Nat → Prop} {h' : H} (o : Reads h s k (L.flatMap f)) (e : Only S h h') (hn : L ≠ [] → ∀ b, s.blk = some b → ¬ S b) : Reads h' s k (L.flatMap f) := by
  by_cases hA : L = []
  · subst hA; exact ⟨o.1, o.2.1, fun i v hv => by simp at hv⟩
  · exact o.only e (hn hA)
theorem Owns.ext {h' : H} {size : Nat} {cs : List Value} (o : Owns h s e size cs) (x : Ext h h') : Owns h' s e size cs := o.only x fun _ _ f => f
/-- A list cut: it is read as it was. -/
theorem cut_reads {lo hi : Nat} (hf : ∀ x, (f x).length = k) (hk : 0 < k) (rd : Reads h s k (L.flatMap f)) (h1 : lo ≤ hi) (h2 : hi ≤ L.length) (hc : s.len ≤ s.cap) : Reads h (slcut s lo hi k) k (((L.drop lo).take (hi - lo)).flatMap f) := by
  have hl := rd_len hf hk rd
  refine ⟨?_, fun hp => ?_, fun i v hv => ?_⟩
  · rw [flat_len f k hf, List.length_take, List.length_drop]; simp only [slcut]; congr 1; omega
  · simp only [slcut] at hp ⊢
    split at hp
    · rename_i hcc
      have := rd.2.1 hp; omega
    · simp only [Option.map_eq_none_iff] at hp
      have := rd.2.1 hp; omega
  · have hidx : (L.flatMap f)[lo * k + i]? = some v := by
      have e1 : ((L.drop lo).take (hi - lo)).flatMap f = ((L.flatMap f).drop (lo * k)).take ((hi - lo) * k) := by
        have : L = L.take lo ++ L.drop lo := (List.take_append_drop lo L).symm
        have e2 : (L.flatMap f).drop (lo * k) = (L.drop lo).flatMap f := by
          conv => lhs; rw [this, List.flatMap_append]
          have hlen : ((L.take lo).flatMap f).length = lo * k := by rw [flat_len f k hf, List.length_take, Nat.min_eq_left (by omega)]
          rw [← hlen, List.drop_left]
        rw [e2]
        have e3 : L.drop lo = (L.drop lo).take (hi - lo) ++ (L.drop lo).drop (hi - lo) := (List.take_append_drop _ _).symm
        conv => rhs; rw [e3, List.flatMap_append]
        have hlen : (((L.drop lo).take (hi - lo)).flatMap f).length = (hi - lo) * k := by rw [flat_len f k hf, List.length_take, List.length_drop, Nat.min_eq_left (by omega)]
        rw [← hlen, List.take_left]
      rw [e1] at hv
      have hlt : i < (hi - lo) * k := by
        have := (List.getElem?_eq_some_iff.1 hv).1
        rw [List.length_take] at this; omega
      rw [List.getElem?_take_of_lt hlt, List.getElem?_drop] at hv
      exact hv
    obtain ⟨p, q1, q2, q3⟩ := rd.2.2 _ v hidx
    have hlt : lo < L.length := by
      have hle : lo * k + i < (L.flatMap f).length := (List.getElem?_eq_some_iff.1 hidx).1
      rw [flat_len f k hf] at hle
      exact Nat.lt_of_mul_lt_mul_right (a := k) (by omega)
    refine ⟨p.add (lo * k), ?_, ?_, ?_⟩
    · simp only [slcut]; rw [if_neg (by omega), q1]; rfl
    · obtain ⟨b, o, sp⟩ := p
      simp only at q2; subst q2
      rw [add_lit]
    · obtain ⟨b, o, sp⟩ := p
      simp only at q2; subst q2
      simp only [add_lit] at q3 ⊢
      rw [Nat.add_assoc]; exact q3
theorem cutL_of {lo hi : Nat} {nl nh : Int} {K : Sl → Prop} {size : Nat} (e1 : nl = (lo : Int)) (e2 : nh = (hi : Int)) (h1 : lo ≤ hi) (h2 : hi ≤ s.cap) (kk : K (slcut s lo hi size)) : cutL s nl nh size K :=
  ⟨_, ⟨by omega, by omega, by omega, rfl⟩, by subst e1; subst e2; simpa using kk⟩
theorem slcut_blk {lo hi size : Nat} : (slcut s lo hi size).blk = s.blk := by
  unfold slcut Sl.blk
  simp only
  split
  · rfl
  · cases s.ptr with
    | none => rfl
    | some p => simp [Addr.add_block]
/-- A row's cells, read over its whole length: its length is within its room. -/
theorem Owns.le_cap {size : Nat} {cs : List Value} (o : Owns h s e size cs) : s.len ≤ s.cap := by
  obtain ⟨_, ⟨_, h2, h3⟩ | ⟨b, c, _, _, _, h4, _⟩⟩ := o
  · omega
  · exact h4
/-! ### Texts -/
theorem get_data {s : ByteArray} {i : Nat} : s[i]? = s.data.toList[i]? := by
  obtain ⟨d⟩ := s
  show (ByteArray.mk d)[i]? = d.toList[i]?
  rw [Array.getElem?_toList]
  by_cases h : i < d.size
  · have h' : i < (ByteArray.mk d).size := h
    rw [Array.getElem?_eq_getElem h, getElem?_pos (ByteArray.mk d) i h']
    rfl
  · have h' : ¬ i < (ByteArray.mk d).size := h
    rw [Array.getElem?_eq_none (Nat.le_of_not_lt h), getElem?_neg (ByteArray.mk d) i h']
theorem size_data {s : ByteArray} : s.size = s.data.toList.length := by rw [Array.length_toList]; rfl
theorem toList_data {s : ByteArray} : s.toList = s.data.toList := by rw [ByteArray.toList_eq]
theorem idxS_of {s : ByteArray} {i : Nat} {n : Int} {b : UInt8} {K : Int → Prop} (hb : s.data.toList[i]? = some b) (hn : n = (i : Int)) (k : K (b.toNat : Int)) : idxS s n K :=
  ⟨_, ⟨b, by omega, by subst hn; rw [Int.toNat_natCast, get_data]; exact hb, rfl⟩, k⟩
theorem RunS.of_eq {s : Sem Value} {K : Value → H → Prop} {v : Value} (hr : ∀ w : World, w.heap = h → s.run P w = .ok v w) (k : K v h) : RunS P s h K := fun w hw => ⟨v, w, hr w hw, Like.refl w, by rw [hw]; exact k⟩
theorem cvtT_of {l : List UInt8} {d : TypeId} {K : ByteArray → H → Prop} (hs : P.underlying t = some (.slice e)) (he : P.underlying e = some (.int .u8)) (hd : P.underlying d = some .string) (rd : Reads h s 1 (l.flatMap cU)) (k : K ⟨l.toArray⟩ h) : runT P (convert t d s.enc) h K := by
  have hl := rd_len cU_len (by omega) rd
  obtain ⟨p, n, c⟩ := s
  simp only at hl; subst hl
  refine RunS.of_eq (v := .string ⟨l.toArray⟩) (fun w hw => ?_) ⟨_, rfl, k⟩
  subst hw
  cases p with
  | none =>
    have hl : l = [] := List.eq_nil_of_length_eq_zero (rd.2.1 rfl).1
    subst hl
    have h1 := run_convert_bytes_string w t d e none 0 c hs he hd
    exact h1.trans (by simp [Conv.bytesToString]; rfl)
  | some a =>
    refine run_convert_bytes_back w t d e a c l hs he hd fun j hj => ?_
    obtain ⟨p, q1, q2, q3⟩ := rd_at cU_len (by omega) rd (List.getElem?_eq_getElem hj)
    simp only [Option.some.injEq] at q1; subst q1
    have := q3.one
    rwa [Nat.mul_one] at this
theorem cvtL_of {b : ByteArray} {d : TypeId} {K : Sl → H → Prop} (hs : P.underlying t = some .string) (hd : P.underlying d = some (.slice e)) (he : P.underlying e = some (.int .u8))
    (k : ∀ r h', Reads h' r 1 (b.data.toList.flatMap cU) → r.len ≤ r.cap → Ext h h' → (∀ x, r.blk = some x → h.size ≤ x) → K r h') : runL P (convert t d (.string b)) h K := fun w hw => by
  subst hw
  refine ⟨_, _, run_bytes_of_string w t d e b hs hd he, ⟨rfl, rfl, rfl⟩, ⟨some ⟨w.heap.size, 0, none⟩, b.size, grownCap w b.size 0 e⟩, rfl, k _ _ ⟨?_, (fun h => by cases h), fun i v hv => ⟨_, rfl, rfl, ?_⟩⟩ (grownCap_ge w b.size 0 e) (.push _ _) fun x hx => ?_⟩
  · rw [flat_len cU 1 cU_len, ← size_data]
  · rw [add_lit, Nat.zero_add]
    have hl : i < b.data.toList.length := by
      have := (List.getElem?_eq_some_iff.1 hv).1
      rw [flat_len cU 1 cU_len] at this; omega
    have h2 := flat_get cU 1 cU_len b.data.toList i _ (List.getElem?_eq_getElem hl) 0 (by omega)
    rw [Nat.mul_one, Nat.add_zero, hv] at h2
    simp only [cellH, World.alloc]
    have h3 : (w.heap.push (.cells (bytesRow b (grownCap w b.size 0 e)) e ((bytesRow b (grownCap w b.size 0 e)).size, (bytesRow b (grownCap w b.size 0 e)).size + 1)))[w.heap.size]? = some (.cells (bytesRow b (grownCap w b.size 0 e)) e ((bytesRow b (grownCap w b.size 0 e)).size, (bytesRow b (grownCap w b.size 0 e)).size + 1)) := by simp
    have h4 : (w.drew.heap.push (.cells (bytesRow b (grownCap w b.size 0 e)) e ((bytesRow b (grownCap w b.size 0 e)).size, (bytesRow b (grownCap w b.size 0 e)).size + 1)))[w.heap.size]? = _ := h3
    rw [h4]
    simp only [Option.isSome_none, Bool.false_eq_true, if_false, bytesRow]
    rw [Array.getElem?_append_left (by simpa using hl), h2]
    simp only [Array.length_toList] at hl
    simp [hl]
    exact ⟨_, Array.getElem?_eq_getElem hl, rfl⟩
  · simp [Sl.blk] at hx; omega
end
end Go.Proofs.Ytidpbnbjpglhfaa.V
