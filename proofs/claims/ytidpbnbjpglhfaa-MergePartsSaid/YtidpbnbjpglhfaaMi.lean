/- The document's Key and Cell; what Compare tells; no condition. -/
import Derived.Test.YtidpbnbjpglhfaaMd
import Derived.Test.YtidpbnbjpglhfaaVm
namespace Go.Proofs.Ytidpbnbjpglhfaa.V
open Go
set_option linter.unusedVariables false
set_option linter.unusedSimpArgs false

theorem wsucc {i : Nat} (h : i < 140737488355329) : IntKind.wrap .i64 ((i : Int) + 1) = ((i + 1 : Nat) : Int) := by rw [w64 (by omega) (by omega)]; omega
theorem wrong8_spec {h : H} {c : Cel} {Q : Int → H → Prop} (k : ∀ h', Ext h h' → Q (mayC c) h') : F.spateref8_wrong c h Q := by
  unfold F.spateref8_wrong
  refine new_of fun n h1 e1 e2 e3 e4 => ?_
  have k := k h1 e3
  unfold mayC at k
  simp only [F.spateref8_wrong.j1, F.spateref8_wrong.j2, add_lit, Nat.zero_add, ldI_iff (e2.cell (i := 0) (v := .int .i64 c.View) rfl), ldS_iff (e2.cell (i := 1) (v := .string c.Key) rfl), ldI_iff (e2.cell (i := 2) (v := .int .i64 c.Start) rfl), decide_eq_true_eq, decide_eq_false_iff_not]
  have hb : ¬ (c.View < 0 ∨ c.View > 4) → ((c.Key.size : Int) > 32 → Q 21 h1) ∧ (¬ (c.Key.size : Int) > 32 → (c.Start < -2305843009213693952 → (True → Q 22 h1) ∧ (true = false → Q 0 h1)) ∧ (¬ c.Start < -2305843009213693952 → (c.Start > 2305843009213693952 → Q 22 h1) ∧ (¬ c.Start > 2305843009213693952 → Q 0 h1))) := fun g => by
    rw [if_neg g] at k
    refine ⟨fun g1 => by rw [if_pos g1] at k; exact k, fun g1 => ?_⟩
    rw [if_neg g1] at k
    refine ⟨fun g2 => ⟨fun _ => by rw [if_pos (.inl g2)] at k; exact k, fun h => by cases h⟩, fun g2 => ⟨fun g3 => by rw [if_pos (.inr g3)] at k; exact k, fun g3 => by rw [if_neg (by omega)] at k; exact k⟩⟩
  refine ⟨fun g => ⟨fun _ => by rw [if_pos (.inl g)] at k; exact k, fun h => by cases h⟩, fun g => ⟨fun g2 => by rw [if_pos (.inr g2)] at k; exact k, fun g2 => hb (by omega)⟩⟩
theorem keyR_tail {h0 : H} {u : Nat} {Q : ByteArray → Int → H → Prop} {L0 : List UInt8} (hL0 : L0.length ≤ 1000) (k : ∀ h', Ext h0 h' → Q ⟨(L0 ++ beT u 8).toArray⟩ 0 h') :
    ∀ (i m : Nat) (h : H) (s : Sl) (L : List UInt8), i ≤ 8 → 8 - i < m → Ext h0 h → Owns h s 5 1 (L.flatMap cU) → Mine h0 s → L ++ beT u (8 - i) = L0 ++ beT u 8 → F.spateref8_Key.l3 Q m s (u : Int) (i : Int) h
  | i, 0, h, s, L, _, hm, _, _, _, _ => by omega
  | i, m + 1, h, s, L, hj, hm, e0, ow, mi, hL => by
    unfold F.spateref8_Key.l3
    simp only [decide_eq_true_eq, decide_eq_false_iff_not]
    have hlen : L.length + (8 - i) = L0.length + 8 := by have := congrArg List.length hL; simpa [beT_len] using this
    have hw : IntKind.wrap .i64 (56 - IntKind.wrap .i64 (8 * (i : Int))) = 56 - 8 * (i : Int) := by
      rw [w64 (n := 8 * (i : Int)) (by omega) (by omega), w64 (by omega) (by omega)]
    rw [hw]
    refine ⟨fun g => ⟨by omega, ?_⟩, fun g => ?_⟩
    · obtain ⟨j, hj⟩ : ∃ j, 8 - i = j + 1 := ⟨8 - i - 1, by omega⟩
      have hb : IntKind.wrap .u8 (Int.fdiv (u : Int) (2 ^ (min (56 - 8 * (i : Int)).toNat (IntKind.bits .u64)) : Int)) = ((UInt8.ofNat (u / 2 ^ (8 * j))).toNat : Int) := by
        rw [u8_of, show (56 - 8 * (i : Int)).toNat = 8 * j from by omega, show min (8 * j) (IntKind.bits .u64) = 8 * j from by simp [IntKind.bits]; omega]
        rw [fdiv_pow]
      rw [hb]
      refine push_mine (f := cU) (UInt8.ofNat (u / 2 ^ (8 * j))) e0 mi cU_len (by omega) elU ow cU_one (by omega) fun r h1 q1 q2 q3 q4 q5 => ?_
      rw [wsucc (by omega)]
      refine keyR_tail hL0 k (i + 1) m h1 r _ (by omega) (by omega) q2 q1 q3 ?_
      rw [← hL, hj, show 8 - (i + 1) = j from by omega]; simp [beT]
    · have : i = 8 := by omega
      subst this
      refine cvtT_of (l := L) Try.underlying47 Try.underlying5 Try.underlying9 ow.reads ?_
      have : L = L0 ++ beT u 8 := by simpa [beT] using hL
      rw [this]; exact k h e0
theorem keyR_loop {h0 : H} {c : Cel} {n : Nat} {Q : ByteArray → Int → H → Prop} {pre : UInt8} (hk : c.Key.size ≤ 32) (k : ∀ h', Ext h0 h' → Q ⟨(pre :: (escL c.Key.data.toList ++ [0, 1] ++ beT (upU c.Start) 8)).toArray⟩ 0 h') (hn : h0.size ≤ n) :
    ∀ (m i : Nat) (h : H) (s : Sl), i ≤ c.Key.size → c.Key.size - i < m → Ext h0 h → Blk h n c.cells.toArray 34 → n < h.size → Owns h s 5 1 ((pre :: escL (c.Key.data.toList.take i)).flatMap cU) → Mine h0 s → s.blk ≠ some n →
    F.spateref8_Key.l1 Q m ⟨n, 0, none⟩ s (i : Int) h
  | 0, i, h, s, _, hm, _, _, _, _, _, _ => by omega
  | m + 1, i, h, s, hi, hm, e0, bl, hnl, ow, mi, hne => by
    unfold F.spateref8_Key.l1 F.spateref8_Key.j2
    simp only [add_lit, Nat.zero_add]
    rw [ldS_iff (bl.cell (i := 1) (v := .string c.Key) rfl)]
    have hel := escL_len (c.Key.data.toList.take i)
    rw [List.length_take, ← size_data] at hel
    refine ⟨fun g => ?_, fun g => ?_⟩
    · rw [decide_eq_true_eq] at g
      rw [ldS_iff (bl.cell (i := 1) (v := .string c.Key) rfl)]
      obtain ⟨b, hb⟩ : ∃ b, c.Key.data.toList[i]? = some b := ⟨_, List.getElem?_eq_getElem (by rw [← size_data]; omega)⟩
      refine idxS_of hb rfl ?_
      have htk : escL (c.Key.data.toList.take (i + 1)) = escL (c.Key.data.toList.take i) ++ (if b = 0 then [0, 255] else [b]) := by rw [List.take_add_one, hb]; exact escL_snoc b _
      refine push_mine (f := cU) b e0 mi cU_len (by omega) elU ow cU_one (by simp; omega) fun r h1 q1 q2 q3 q4 q5 => ?_
      have bl1 : Blk h1 n c.cells.toArray 34 := q4.block bl hne
      have hg1 := q4.size
      have hne1 : r.blk ≠ some n := by
        rcases q5 with q5 | ⟨x, q5, q6⟩
        · rw [q5]; exact hne
        · rw [q5]; intro e; cases e; omega
      rw [ldS_iff (bl1.cell (i := 1) (v := .string c.Key) rfl)]
      refine idxS_of hb rfl ?_
      rw [wsucc (by omega), beq_iff_eq, beq_eq_false_iff_ne]
      have hb0 : (b.toNat : Int) = 0 ↔ b = 0 := by
        constructor
        · intro h; exact UInt8.toNat_inj.1 (by simpa using (by omega : b.toNat = 0))
        · intro h; subst h; rfl
      rw [hb0, Ne, hb0]
      refine ⟨fun g2 => ?_, fun g2 => ?_⟩
      · refine push_mine (f := cU) 255 q2 q3 cU_len (by omega) elU q1 cU_one (by simp; omega) fun r2 h2 p1 p2 p3 p4 p5 => ?_
        have hne2 : r2.blk ≠ some n := by
          rcases p5 with p5 | ⟨x, p5, p6⟩
          · rw [p5]; exact hne1
          · rw [p5]; intro e; cases e; omega
        refine keyR_loop hk k hn m (i + 1) h2 r2 (by omega) (by omega) p2 (p4.block bl1 hne1) (by have := p4.size; omega) ?_ p3 hne2
        rw [htk, if_pos g2]; subst g2; simpa using p1
      · refine keyR_loop hk k hn m (i + 1) h1 r (by omega) (by omega) q2 bl1 (by omega) ?_ q3 hne1
        rw [htk, if_neg g2]; simpa using q1
    · rw [decide_eq_false_iff_not] at g
      have hii : i = c.Key.size := by omega
      subst hii
      refine newL_of fun x h1 e1 e2 e3 e4 => ?_
      refine app_mine (f := cU) (M := [0, 1]) (e0.trans e3) mi cU_len (by omega) elU (ow.ext e3) (blk_reads (show Blk h1 x (([0, 1] : List UInt8).flatMap cU).toArray 5 from e2) rfl) cU_one (by simp; omega) fun r h2 q1 q2 q3 q4 q5 => ?_
      have bl1 : Blk h2 n c.cells.toArray 34 := q4.block (e3.block bl (fun f => f)) hne
      rw [ldI_iff (bl1.cell (i := 2) (v := .int .i64 c.Start) rfl), ← upU_eq]
      refine ⟨9, ?_⟩
      have ht : c.Key.data.toList.take c.Key.size = c.Key.data.toList := List.take_of_length_le (by rw [← size_data]; omega)
      rw [ht] at q1
      have hl2 := escL_len c.Key.data.toList
      rw [← size_data] at hl2
      refine keyR_tail (L0 := pre :: (escL c.Key.data.toList ++ [0, 1])) (by simp; omega) (by simpa using k) 0 9 h2 r _ (by omega) (by omega) q2 q1 q3 (by simp)
theorem KeyR_spec {h : H} {c : Cel} {Q : ByteArray → Int → H → Prop} (k0 : mayC c ≠ 0 → ∀ h', Ext h h' → Q ⟨#[]⟩ (mayC c) h') (k1 : mayC c = 0 → ∀ h', Ext h h' → Q ⟨(keyL c).toArray⟩ 0 h') : F.spateref8_Key c h Q := by
  unfold F.spateref8_Key
  refine new_of fun n h1 e1 e2 e3 e4 => ?_
  refine ⟨c, e2.cells3, wrong8_spec fun h2 f1 => ?_⟩
  have e5 := e3.trans f1
  have bl : Blk h2 n c.cells.toArray 34 := f1.block e2 (fun f => f)
  refine ⟨fun g => k0 (by simpa using g) h2 e5, fun g => ?_⟩
  have hm : mayC c = 0 := by simpa using g
  simp only [add_lit, Nat.zero_add]
  rw [ldI_iff (bl.cell (i := 0) (v := .int .i64 c.View) rfl)]
  have hv : 0 ≤ c.View ∧ c.View ≤ 4 ∧ c.Key.size ≤ 32 := by
    unfold mayC at hm
    split at hm
    · omega
    · split at hm
      · omega
      · omega
  have hw : IntKind.wrap .u8 c.View = ((UInt8.ofNat c.View.toNat).toNat : Int) := by rw [u8_of, Int.toNat_of_nonneg hv.1]
  rw [hw]
  refine newL_of fun x h3 g1 g2 g3 g4 => ?_
  have bl3 : Blk h3 n c.cells.toArray 34 := g3.block bl (fun f => f)
  have hs := e5.size
  have hs3 := e3.size
  have hf1 := f1.size
  refine ⟨c.Key.size + 1, ?_⟩
  refine keyR_loop (h0 := h) (pre := UInt8.ofNat c.View.toNat) hv.2.2 (fun h' e => k1 hm h' e) (by omega) _ 0 h3 _ (by omega) (by omega) (e5.trans g3) bl3 (by omega) (show Owns h3 ⟨some ⟨x, 0, none⟩, 1, 1⟩ 5 1 [.int .u8 ((UInt8.ofNat c.View.toNat).toNat : Int)] from blk_owns (m := 1) g2 rfl (by simp [maxLen])) (fun b hb => by simp [Sl.blk] at hb; omega) (by simp [Sl.blk]; omega)

/-! ### The document's Cell -/
def finR (v : UInt8) (key t : List UInt8) : Cel × Int :=
  if t.length < 8 then (zeroC, 11) else if t.length > 8 then (zeroC, 13) else
  (⟨(v.toNat : Int), ⟨key.toArray⟩, startOf (beV 0 t)⟩, mayC ⟨(v.toNat : Int), ⟨key.toArray⟩, startOf (beV 0 t)⟩)
def cellR : List UInt8 → Cel × Int
  | [] => (zeroC, 11)
  | v :: r => match unesc r with
    | .error e => (zeroC, e)
    | .ok p => finR v p.1 p.2
theorem cellR_eq (s : List UInt8) : (cellR s).2 = (cellM s).2 ∧ ((cellM s).2 = 0 → (cellR s).1 = (cellM s).1) := by
  cases s with
  | nil => exact ⟨rfl, fun _ => rfl⟩
  | cons v r =>
    rw [cellM_cons]
    show (match unesc r with | .error e => (zeroC, e) | .ok p => finR v p.1 p.2).2 = _ ∧ (_ → (match unesc r with | .error e => (zeroC, e) | .ok p => finR v p.1 p.2).1 = _)
    cases hu : unesc r with
    | error e => exact ⟨rfl, fun _ => rfl⟩
    | ok p =>
      simp only [finR, finC]
      by_cases h1 : p.2.length < 8
      · simp [h1]
      · by_cases h2 : p.2.length > 8
        · simp [h1, h2]
        · by_cases h3 : mayC ⟨(v.toNat : Int), ⟨p.1.toArray⟩, startOf (beV 0 p.2)⟩ = 0
          · simp [h1, h2, h3]
          · simp [h1, h2, h3]
theorem cellR_j3 {h0 h : H} {n2 n8 : Nat} {c : Cel} {c2 : Array Value} {Q : Cel → Int → H → Prop} (k : ∀ h', Ext h0 h' → Q c (mayC c) h') (e0 : Ext h0 h) (hn2 : h0.size ≤ n2) (b2 : Blk h n2 c2 34) (hc2 : c2.size = 3) (b8 : Blk h n8 c.cells.toArray 34) : F.spateref8_Cell.j3 Q ⟨n2, 0, none⟩ ⟨n8, 0, none⟩ h := by
  unfold F.spateref8_Cell.j3
  refine ⟨c, b8.cells3, c, b8.cells3, wrong8_spec fun h1 e1 => ⟨(Blk.cells3 (e := 34) (e1.block b8 (fun f => f))), ?_⟩⟩
  have b21 : Blk h1 n2 c2 34 := e1.block b2 (fun f => f)
  refine stH_of b21 (by simp [S_api_Cell.cells, hc2]) fun h2 q1 q2 q3 => ?_
  rw [writeA_all (by simp [S_api_Cell.cells, hc2])] at q1
  exact ⟨c, q1.cells3, k h2 ((e0.trans e1).step q2 fun m hm e => by omega)⟩
theorem cellR_tail {h0 : H} {str : ByteArray} {n2 i0 : Nat} {Q : Cel → Int → H → Prop} {v : UInt8} {key : List UInt8} (hs : str.size < 1000000000000000) (hv : str.data.toList[0]? = some v) (hi0 : i0 + 8 = str.size) (hn2 : h0.size ≤ n2) {U : Nat}
    (k : ∀ h', Ext h0 h' → Q ⟨(v.toNat : Int), ⟨key.toArray⟩, startOf U⟩ (mayC ⟨(v.toNat : Int), ⟨key.toArray⟩, startOf U⟩) h') :
    ∀ (m j u : Nat) (h : H) (s : Sl), Ext h0 h → j ≤ 8 → u < 256 ^ j → beV u (str.data.toList.drop (i0 + j)) = U → 8 - j < m → Blk h n2 zeroC.cells.toArray 34 → Reads h s 1 (key.flatMap cU) → (∀ b, s.blk = some b → b < h.size) →
    F.spateref8_Cell.l2 Q m str ⟨n2, 0, none⟩ s (i0 : Int) (u : Int) (j : Int) h
  | 0, j, u, h, s, _, _, _, _, hm, _, _, _ => by omega
  | m + 1, j, u, h, s, e0, hj, hu, hU, hm, b2, rd, hsb => by
    unfold F.spateref8_Cell.l2
    simp only [decide_eq_true_eq, decide_eq_false_iff_not]
    refine ⟨fun g => ⟨by omega, ?_⟩, fun g => ?_⟩
    · obtain ⟨b, hb⟩ : ∃ b, str.data.toList[i0 + j]? = some b := ⟨_, List.getElem?_eq_getElem (by rw [← size_data]; omega)⟩
      refine idxS_of hb (by rw [w64 (by omega) (by omega)]; omega) ?_
      have hd : str.data.toList.drop (i0 + j) = b :: str.data.toList.drop (i0 + (j + 1)) := by
        obtain ⟨hh, rfl⟩ := List.getElem?_eq_some_iff.1 hb
        exact List.drop_eq_getElem_cons hh
      rw [hd, beV] at hU
      have hp : 256 ^ j ≤ 256 ^ 7 := Nat.pow_le_pow_right (by omega) (by omega)
      rw [or_byte (by have : (256 : Nat) ^ 7 = 72057594037927936 := by decide
                      omega), wsucc (by omega)]
      have hbl := b.toNat_lt
      refine cellR_tail hs hv hi0 hn2 k m (j + 1) _ h s e0 (by omega) ?_ hU (by omega) b2 rd hsb
      rw [Nat.pow_succ]
      have : (u + 1) * 256 ≤ 256 ^ j * 256 := Nat.mul_le_mul_right _ hu
      omega
    · have hj8 : j = 8 := by omega
      subst hj8
      have hd : str.data.toList.drop (i0 + 8) = [] := List.drop_eq_nil_of_le (by rw [← size_data]; omega)
      rw [hd, beV] at hU
      subst hU
      have hbl := v.toNat_lt
      refine idxS_of hv rfl ?_
      rw [w64 (n := (v.toNat : Int)) (by omega) (by omega)]
      have hcell : ∀ h' n8 (c8 : Array Value), Ext h h' → h.size ≤ n8 → Blk h' n8 c8 34 → c8.size = 3 → stH h' ⟨n8, 0, none⟩ ((⟨(v.toNat : Int), ⟨key.toArray⟩, startOf u⟩ : S_api_Cell).cells) fun h55 => F.spateref8_Cell.j3 Q ⟨n2, 0, none⟩ ⟨n8, 0, none⟩ h55 := fun h' n8 c8 e' hn8 b8 hc8 => by
        have l2 := block_lt b2
        refine stH_of b8 (by simp [S_api_Cell.cells, hc8]) fun h2 q1 q2 q3 => ?_
        rw [writeA_all (by simp [S_api_Cell.cells, hc8])] at q1
        exact cellR_j3 k ((e0.trans e').step q2 fun m hm e => by have := e0.size; omega) hn2 (q2.block (e'.block b2 (fun f => f)) (by omega)) rfl q1
      refine ⟨?_, ?_⟩
      · refine cvtT_of (l := key) Try.underlying47 Try.underlying5 Try.underlying9 rd ?_
        exact new_of fun n8 h53 p1 p2 p3 p4 => hcell h53 n8 _ p3 (by omega) p2 rfl
      · refine new_of fun n8 h56 p1 p2 p3 p4 => ?_
        refine cvtT_of (l := key) Try.underlying47 Try.underlying5 Try.underlying9 (rd.ext p3) ?_
        exact hcell h56 n8 _ p3 (by omega) p2 rfl
theorem cellR_loop {h0 : H} {str : ByteArray} {n2 : Nat} {Q : Cel → Int → H → Prop} {v : UInt8} (hs : str.size < 140737488355328) (hv : str.data.toList[0]? = some v) (hn2 : h0.size ≤ n2) :
    ∀ (m i : Nat) (h : H) (s : Sl) (acc : List UInt8), (∀ h', Ext h0 h' → Q (match unesc (str.data.toList.drop i) with | .error e => (zeroC, e) | .ok p => finR v (acc ++ p.1) p.2).1 (match unesc (str.data.toList.drop i) with | .error e => (zeroC, e) | .ok p => finR v (acc ++ p.1) p.2).2 h') →
    Ext h0 h → i ≤ str.size → acc.length ≤ i → str.size - i < m → Blk h n2 zeroC.cells.toArray 34 → Owns h s 5 1 (acc.flatMap cU) → Mine h0 s → s.blk ≠ some n2 → n2 < h.size →
    F.spateref8_Cell.l1 Q m str ⟨n2, 0, none⟩ s (i : Int) h
  | 0, i, h, s, acc, _, _, _, _, hm, _, _, _, _, _ => by omega
  | m + 1, i, h, s, acc, k, e0, hi, hacc, hm, b2, ow, mi, hne2, hl2 => by
    unfold F.spateref8_Cell.l1
    refine ⟨fun g => ?_, fun g => ?_⟩
    · rw [decide_eq_true_eq] at g
      have hd : str.data.toList.drop i = [] := List.drop_eq_nil_of_le (by rw [← size_data]; omega)
      rw [hd] at k
      exact told_err k e0 hn2 b2
    · rw [decide_eq_false_iff_not] at g
      obtain ⟨b, hb⟩ : ∃ b, str.data.toList[i]? = some b := ⟨_, List.getElem?_eq_getElem (by rw [← size_data]; omega)⟩
      have hd : str.data.toList.drop i = b :: str.data.toList.drop (i + 1) := by
        obtain ⟨hh, rfl⟩ := List.getElem?_eq_some_iff.1 hb
        exact List.drop_eq_getElem_cons hh
      have hb0 : (b.toNat : Int) = 0 ↔ b = 0 := by
        constructor
        · intro h; exact UInt8.toNat_inj.1 (by simpa using (by omega : b.toNat = 0))
        · intro h; subst h; rfl
      rw [hd] at k
      refine idxS_of hb rfl ?_
      rw [bne_iff_ne, bne_eq_false_iff_eq, Ne, hb0]
      refine ⟨fun g1 => idxS_of hb rfl ?_, fun g1 => ?_⟩
      · refine push_mine (f := cU) b e0 mi cU_len (by omega) elU ow cU_one (by omega) fun r h1 q1 q2 q3 q4 q5 => ?_
        have hrr : ∀ x, x < h.size → s.blk ≠ some x → r.blk ≠ some x := fun x hx hsx => by
          rcases q5 with q5 | ⟨y, q5, q6⟩
          · rw [q5]; exact hsx
          · rw [q5]; intro e; cases e; omega
        rw [wsucc (by omega)]
        refine cellR_loop hs hv hn2 m (i + 1) h1 r (acc ++ [b]) (fun h' e => ?_) q2 (by omega) (by simp; omega) (by omega) (q4.block b2 hne2) q1 q3 (hrr n2 hl2 hne2) (by have := q4.size; omega)
        have k := k h' e
        rw [unesc_ne g1] at k
        cases hu : unesc (str.data.toList.drop (i + 1)) with
        | error x => rw [hu] at k; exact k
        | ok p => rw [hu] at k; simpa using k
      · have g1 : b = 0 := Classical.not_not.1 (by simpa using g1)
        subst g1
        rw [w64 (n := (i : Int) + 1) (by omega) (by omega), w64 (n := (i : Int) + 2) (by omega) (by omega)]
        refine ⟨fun g2 => ?_, fun g2 => ?_⟩
        · rw [decide_eq_true_eq] at g2
          have hd1 : str.data.toList.drop (i + 1) = [] := List.drop_eq_nil_of_le (by rw [← size_data]; omega)
          rw [hd1] at k
          exact told_err k e0 hn2 b2
        · rw [decide_eq_false_iff_not] at g2
          obtain ⟨x, hx⟩ : ∃ b, str.data.toList[i + 1]? = some b := ⟨_, List.getElem?_eq_getElem (by rw [← size_data]; omega)⟩
          have hd1 : str.data.toList.drop (i + 1) = x :: str.data.toList.drop (i + 2) := by
            obtain ⟨hh, rfl⟩ := List.getElem?_eq_some_iff.1 hx
            exact List.drop_eq_getElem_cons hh
          have hx1 : (x.toNat : Int) = 1 ↔ x = 1 := by
            constructor
            · intro h; exact UInt8.toNat_inj.1 (by simpa using (by omega : x.toNat = 1))
            · intro h; subst h; rfl
          have hx2 : (x.toNat : Int) = 255 ↔ x = 255 := by
            constructor
            · intro h; exact UInt8.toNat_inj.1 (by simpa using (by omega : x.toNat = 255))
            · intro h; subst h; rfl
          rw [hd1] at k
          have hun : unesc (0 :: x :: str.data.toList.drop (i + 2)) = if x = 1 then .ok ([], str.data.toList.drop (i + 2)) else if x ≠ 255 then .error 12 else (match unesc (str.data.toList.drop (i + 2)) with | .ok p => .ok (0 :: p.1, p.2) | .error e => .error e) := by
            rw [unesc]; simp; rfl
          rw [hun] at k
          have hlen : (str.data.toList.drop (i + 2)).length = str.size - (i + 2) := by rw [List.length_drop, ← size_data]
          refine idxS_of hx (by omega) ?_
          rw [beq_iff_eq, beq_eq_false_iff_ne, Ne, hx1]
          refine ⟨fun g3 => ?_, fun g3 => ?_⟩
          · rw [if_pos g3] at k
            simp only [List.append_nil] at k
            unfold finR at k
            rw [hlen] at k
            rw [w64 (by omega) (by omega)]
            refine ⟨fun g4 => ?_, fun g4 => ⟨fun g5 => ?_, fun g5 => ⟨9, ?_⟩⟩⟩
            · rw [decide_eq_true_eq] at g4; rw [if_pos (by omega)] at k; exact told_err k e0 hn2 b2
            · rw [decide_eq_false_iff_not] at g4; rw [decide_eq_true_eq] at g5; rw [if_neg (by omega), if_pos (by omega)] at k; exact told_err k e0 hn2 b2
            · rw [decide_eq_false_iff_not] at g4 g5
              rw [if_neg (by omega), if_neg (by omega)] at k
              rw [show (i : Int) + 2 = ((i + 2 : Nat) : Int) from by omega]
              exact cellR_tail (by omega) hv (by omega) hn2 k 9 0 0 h s e0 (by omega) (by omega) rfl (by omega) b2 ow.reads fun b hb => ow.blk_lt hb
          · rw [if_neg g3] at k
            refine idxS_of hx (by omega) ?_
            rw [bne_iff_ne, bne_eq_false_iff_eq, Ne, hx2]
            refine ⟨fun g4 => ?_, fun g4 => ?_⟩
            · rw [if_pos g4] at k; exact told_err k e0 hn2 b2
            · have g4 : x = 255 := Classical.not_not.1 (by simpa using g4)
              rw [if_neg (by simpa using g4)] at k
              refine push_mine (f := cU) 0 e0 mi cU_len (by omega) elU ow cU_one (by omega) fun r h1 q1 q2 q3 q4 q5 => ?_
              have hrr : ∀ x, x < h.size → s.blk ≠ some x → r.blk ≠ some x := fun x hx hsx => by
                rcases q5 with q5 | ⟨y, q5, q6⟩
                · rw [q5]; exact hsx
                · rw [q5]; intro e; cases e; omega
              rw [show (i : Int) + 2 = ((i + 2 : Nat) : Int) from by omega]
              refine cellR_loop hs hv hn2 m (i + 2) h1 r (acc ++ [0]) (fun h' e => ?_) q2 (by omega) (by simp; omega) (by omega) (q4.block b2 hne2) q1 q3 (hrr n2 hl2 hne2) (by have := q4.size; omega)
              have k := k h' e
              cases hu : unesc (str.data.toList.drop (i + 2)) with
              | error x => rw [hu] at k; exact k
              | ok p => rw [hu] at k; simpa using k
theorem CellR_spec {h : H} {str : ByteArray} {Q : Cel → Int → H → Prop} (hs : str.size < 140737488355328) (k : ∀ h', Ext h h' → Q (cellR str.data.toList).1 (cellR str.data.toList).2 h') : F.spateref8_Cell str h Q := by
  unfold F.spateref8_Cell
  refine new_of fun n h1 e1 e2 e3 e4 => ?_
  have hs1 := e3.size
  rw [beq_iff_eq, beq_eq_false_iff_ne]
  refine ⟨fun g => ?_, fun g => ?_⟩
  · have g : str.data.toList = [] := List.eq_nil_of_length_eq_zero (by rw [← size_data]; omega)
    rw [g] at k
    exact told_err k e3 (by omega) (c := zeroC) e2
  · obtain ⟨v, r, hv⟩ : ∃ v r, str.data.toList = v :: r := by
      cases hh : str.data.toList with
      | nil => rw [size_data, hh] at g; simp at g
      | cons v r => exact ⟨v, r, rfl⟩
    have hsz : 0 < str.size := by rw [size_data, hv]; simp
    refine ⟨str.size + 1, ?_⟩
    refine cellR_loop (v := v) hs (by rw [hv]; rfl) (n2 := n) (h0 := h) (by omega) _ 1 h1 _ [] (fun h' e => ?_) e3 (by omega) (by simp) (by omega) e2 (Owns.nil _ _ _) (Mine.nil _ _ _) (by simp [Sl.blk]) (by omega)
    have k := k h' e
    rw [hv] at k
    rw [show str.data.toList.drop 1 = r from by rw [hv]; rfl]
    cases hu : unesc r with
    | error x => simp only [cellR, hu] at k; exact k
    | ok p => simp only [cellR, hu] at k; simpa using k
end Go.Proofs.Ytidpbnbjpglhfaa.V
