/- Cell of the package merge: what it tells of a text; no condition. -/
import Derived.Test.YtidpbnbjpglhfaaMa
namespace Go.Proofs.Ytidpbnbjpglhfaa.V
open Go
set_option linter.unusedVariables false
set_option linter.unusedSimpArgs false

/-- The key's letters, and what lies behind them; or the error. -/
def unesc : List UInt8 → Except Int (List UInt8 × List UInt8)
  | [] => .error 11
  | b :: r => if b ≠ 0 then (match unesc r with | .ok p => .ok (b :: p.1, p.2) | .error e => .error e) else
    match r with
    | [] => .error 11
    | x :: r' => if x = 1 then .ok ([], r') else if x ≠ 255 then .error 12 else (match unesc r' with | .ok p => .ok (0 :: p.1, p.2) | .error e => .error e)
def beV : Nat → List UInt8 → Nat
  | u, [] => u
  | u, b :: r => beV (u * 256 + b.toNat) r
def zeroC : Cel := ⟨0, ⟨#[]⟩, 0⟩
def startOf (u : Nat) : Int := IntKind.wrap .i64 (IntKind.wrap .u64 ((u : Int) - 9223372036854775808))
def finC (v : UInt8) (key t : List UInt8) : Cel × Int :=
  if t.length < 8 then (zeroC, 11) else if t.length > 8 then (zeroC, 13) else
  if mayC ⟨(v.toNat : Int), ⟨key.toArray⟩, startOf (beV 0 t)⟩ ≠ 0 then (zeroC, mayC ⟨(v.toNat : Int), ⟨key.toArray⟩, startOf (beV 0 t)⟩) else (⟨(v.toNat : Int), ⟨key.toArray⟩, startOf (beV 0 t)⟩, 0)
def cellM : List UInt8 → Cel × Int
  | [] => (zeroC, 11)
  | v :: r => match unesc r with
    | .error e => (zeroC, e)
    | .ok p => finC v p.1 p.2
theorem unesc_len : ∀ (n : Nat) (l : List UInt8) (p : List UInt8 × List UInt8), l.length ≤ n → unesc l = .ok p → p.1.length + p.2.length ≤ l.length
  | 0, l, p, hn, h => by
    have : l = [] := List.eq_nil_of_length_eq_zero (by omega)
    subst this; simp [unesc] at h
  | n + 1, [], p, hn, h => by simp [unesc] at h
  | n + 1, b :: r, p, hn, h => by
    unfold unesc at h
    simp only [List.length_cons] at hn
    split at h
    · split at h
      · rename_i q hq
        have := unesc_len n r q (by omega) hq
        simp only [Except.ok.injEq] at h; subst h; simp; omega
      · cases h
    · split at h
      · cases h
      · rename_i x r'
        simp only [List.length_cons] at hn
        split at h
        · simp only [Except.ok.injEq] at h; subst h; simp; omega
        · split at h
          · cases h
          · split at h
            · rename_i q hq
              have := unesc_len n r' q (by omega) hq
              simp only [Except.ok.injEq] at h; subst h; simp; omega
            · cases h
theorem unesc_ne {b : UInt8} {r : List UInt8} (h : b ≠ 0) : unesc (b :: r) = (match unesc r with | .ok p => .ok (b :: p.1, p.2) | .error e => .error e) := by
  rw [unesc.eq_def]; simp only [if_pos h]
theorem cellM_cons (v : UInt8) (r : List UInt8) : cellM (v :: r) = (match unesc r with | .error e => (zeroC, e) | .ok p => finC v p.1 p.2) := rfl
theorem or_byte {u : Nat} {b : UInt8} (hu : u < 72057594037927936) : bitsOf .or .u64 (IntKind.wrap .u64 ((u : Int) * (2 ^ (min (8 : Int).toNat (IntKind.bits .u64)) : Int))) (IntKind.wrap .u64 (b.toNat : Int)) = ((u * 256 + b.toNat : Nat) : Int) := by
  have hb : b.toNat < 256 := b.toNat_lt
  have e1 : IntKind.wrap .u64 ((u : Int) * (2 ^ (min (8 : Int).toNat (IntKind.bits .u64)) : Int)) = ((u * 256 : Nat) : Int) := by
    rw [show (2 ^ (min (8 : Int).toNat (IntKind.bits .u64)) : Int) = 256 from by simp [IntKind.bits], wrap_u64]; omega
  have e2 : IntKind.wrap .u64 (b.toNat : Int) = ((b.toNat : Nat) : Int) := by rw [wrap_u64]; omega
  rw [e1, e2]
  simp only [bitsOf]
  rw [BitVec.ofInt_natCast, BitVec.ofInt_natCast, BitVec.toNat_or, BitVec.toNat_ofNat, BitVec.toNat_ofNat, wrap_u64]
  have e3 : u * 256 % 2 ^ (IntKind.bits .u64) = u * 256 := Nat.mod_eq_of_lt (by simp [IntKind.bits]; omega)
  have e4 : b.toNat % 2 ^ (IntKind.bits .u64) = b.toNat := Nat.mod_eq_of_lt (by simp [IntKind.bits]; omega)
  rw [e3, e4]
  have e5 : u * 256 ||| b.toNat = u * 256 + b.toNat := by
    have := Nat.two_pow_add_eq_or_of_lt (i := 8) hb u
    rw [show (2 : Nat) ^ 8 * u = u * 256 from by omega] at this
    exact this.symm
  rw [e5]; omega
/-- What the method that ends at a place tells. -/
def CellAt (h : H) (n : Nat) (c : Cel) : Prop := Blk h n c.cells.toArray 34
theorem st_cell {h : H} {n : Nat} {c d : Cel} {K : H → Prop} (b : Blk h n c.cells.toArray 34) (k : ∀ h', Blk h' n d.cells.toArray 34 → Only (· = n) h h' → h'.size = h.size → K h') : stH h ⟨n, 0, none⟩ d.cells K :=
  stH_of b (by simp [S_api_Cell.cells]) fun h' q1 q2 q3 => k h' (by rw [writeA_all (by simp [S_api_Cell.cells])] at q1; exact q1) q2 q3
theorem st_key {h : H} {n : Nat} {c : Cel} {s : ByteArray} {K : H → Prop} (b : Blk h n c.cells.toArray 34) (k : ∀ h', Blk h' n (⟨c.View, s, c.Start⟩ : Cel).cells.toArray 34 → Only (· = n) h h' → h'.size = h.size → K h') : stH h ⟨n, 1, none⟩ [.string s] K :=
  stH_of b (by simp [S_api_Cell.cells]) fun h' q1 q2 q3 => k h' (by
    have : writeA (S_api_Cell.cells c).toArray 1 [.string s] = (⟨c.View, s, c.Start⟩ : Cel).cells.toArray := by simp [writeA, S_api_Cell.cells]
    rw [this] at q1; exact q1) q2 q3
theorem st_start {h : H} {n : Nat} {c : Cel} {u : Int} {K : H → Prop} (b : Blk h n c.cells.toArray 34) (k : ∀ h', Blk h' n (⟨c.View, c.Key, u⟩ : Cel).cells.toArray 34 → Only (· = n) h h' → h'.size = h.size → K h') : stH h ⟨n, 2, none⟩ [.int .i64 u] K :=
  stH_of b (by simp [S_api_Cell.cells]) fun h' q1 q2 q3 => k h' (by
    have : writeA (S_api_Cell.cells c).toArray 2 [.int .i64 u] = (⟨c.View, c.Key, u⟩ : Cel).cells.toArray := by simp [writeA, S_api_Cell.cells]
    rw [this] at q1; exact q1) q2 q3
/-- An error is told. -/
theorem told_err {h0 h : H} {n : Nat} {c : Cel} {e : Int} {Q : Cel → Int → H → Prop} (k : ∀ h', Ext h0 h' → Q zeroC e h') (e0 : Ext h0 h) (hn : h0.size ≤ n) (b : Blk h n c.cells.toArray 34) :
    stH h ⟨n, 0, none⟩ ((⟨0, (⟨#[]⟩ : ByteArray), 0⟩ : S_api_Cell).cells) fun h13 => ld_S_api_Cell h13 ⟨n, 0, none⟩ fun y14 => Q y14 e h13 :=
  st_cell b fun h' q1 q2 q3 => ⟨zeroC, q1.cells3, k h' (e0.step q2 fun m hm e => by omega)⟩
theorem cell_tail {h0 : H} {str : ByteArray} {n2 n4 : Nat} {Q : Cel → Int → H → Prop} {v : UInt8} {key : List UInt8} (hs : str.size < 1000000000000000000) (hn2 : h0.size ≤ n2) (hn4 : h0.size ≤ n4) (hne : n2 ≠ n4) {U : Nat}
    (k : ∀ h', Ext h0 h' → Q (if mayC ⟨(v.toNat : Int), ⟨key.toArray⟩, startOf U⟩ ≠ 0 then (zeroC, mayC ⟨(v.toNat : Int), ⟨key.toArray⟩, startOf U⟩) else (⟨(v.toNat : Int), ⟨key.toArray⟩, startOf U⟩, 0)).1 (if mayC ⟨(v.toNat : Int), ⟨key.toArray⟩, startOf U⟩ ≠ 0 then (zeroC, mayC ⟨(v.toNat : Int), ⟨key.toArray⟩, startOf U⟩) else ((⟨(v.toNat : Int), ⟨key.toArray⟩, startOf U⟩ : Cel), 0)).2 h') :
    ∀ (m i u : Nat) (h : H) (s : Sl) (c2 : Cel), Ext h0 h → i ≤ str.size → str.size ≤ i + 8 → u < 256 ^ (i + 8 - str.size) → beV u (str.data.toList.drop i) = U → str.size - i < m → Blk h n2 c2.cells.toArray 34 → Blk h n4 (⟨(v.toNat : Int), ⟨#[]⟩, 0⟩ : Cel).cells.toArray 34 → Reads h s 1 (key.flatMap cU) →
    F.merge_Cell.l2 Q m str ⟨n2, 0, none⟩ ⟨n4, 0, none⟩ (i : Int) s (u : Int) h
  | 0, i, u, h, s, c2, _, _, _, _, _, hm, _, _, _ => by omega
  | m + 1, i, u, h, s, c2, e0, hi, hi8, hu, hU, hm, b2, b4, rd => by
    unfold F.merge_Cell.l2
    simp only [decide_eq_true_eq, decide_eq_false_iff_not]
    refine ⟨fun g => ⟨by omega, ?_⟩, fun g => ?_⟩
    · obtain ⟨b, hb⟩ : ∃ b, str.data.toList[i]? = some b := ⟨_, List.getElem?_eq_getElem (by rw [← size_data]; omega)⟩
      refine idxS_of hb rfl ?_
      have hd : str.data.toList.drop i = b :: str.data.toList.drop (i + 1) := by
        obtain ⟨hh, rfl⟩ := List.getElem?_eq_some_iff.1 hb
        exact List.drop_eq_getElem_cons hh
      rw [hd, beV] at hU
      have hp : 256 ^ (i + 8 - str.size) ≤ 256 ^ 7 := Nat.pow_le_pow_right (by omega) (by omega)
      rw [or_byte (by have : (256 : Nat) ^ 7 = 72057594037927936 := by decide
                      omega), show IntKind.wrap .i64 ((i : Int) + 1) = ((i + 1 : Nat) : Int) from by rw [w64 (by omega) (by omega)]; omega]
      have hbl := b.toNat_lt
      refine cell_tail hs hn2 hn4 hne k m (i + 1) _ h s c2 e0 (by omega) (by omega) ?_ hU (by omega) b2 b4 rd
      rw [show i + 1 + 8 - str.size = (i + 8 - str.size) + 1 from by omega, Nat.pow_succ]
      have : (u + 1) * 256 ≤ 256 ^ (i + 8 - str.size) * 256 := Nat.mul_le_mul_right _ hu
      omega
    · have hii : i = str.size := by omega
      subst hii
      have hd : str.data.toList.drop str.size = [] := List.drop_eq_nil_of_le (by rw [← size_data]; omega)
      rw [hd, beV] at hU
      subst hU
      refine cvtT_of (l := key) Try.underlying47 Try.underlying5 Try.underlying9 rd ?_
      simp only [add_lit, Nat.zero_add]
      refine st_key b4 fun h1 p1 p2 p3 => st_start p1 fun h2 p4 p5 p6 => ?_
      have e2 : Ext h0 h2 := (e0.step p2 fun m hm e => by omega).step p5 fun m hm e => by omega
      have b22 : Blk h2 n2 c2.cells.toArray 34 := p5.block (p2.block b2 hne) hne
      refine ⟨_, p4.cells3, mayC_spec fun h3 f1 => ?_⟩
      have b23 : Blk h3 n2 c2.cells.toArray 34 := f1.block b22 (fun f => f)
      have e3 := e2.trans f1
      refine ⟨fun g2 => ?_, fun g2 => ?_⟩
      · have g2 : mayC ⟨(v.toNat : Int), ⟨key.toArray⟩, startOf u⟩ ≠ 0 := by simpa [startOf] using g2
        simp only [if_pos g2] at k
        exact told_err k e3 hn2 b23
      · have g2 : ¬ mayC ⟨(v.toNat : Int), ⟨key.toArray⟩, startOf u⟩ ≠ 0 := by simpa [startOf] using g2
        simp only [if_neg g2] at k
        refine ⟨_, Blk.cells3 (c := ⟨(v.toNat : Int), ⟨key.toArray⟩, startOf u⟩) (f1.block p4 (fun f => f)), ?_⟩
        exact st_cell b23 fun h4 q1 q2 q3 => ⟨_, q1.cells3, k h4 (e3.step q2 fun m hm e => by omega)⟩
theorem beV_drop_lt : (0 : Nat) < 256 ^ 0 := by decide
theorem cell_loop {h0 : H} {str : ByteArray} {n2 n4 : Nat} {Q : Cel → Int → H → Prop} {v : UInt8} (hs : str.size < 140737488355328) (hn2 : h0.size ≤ n2) (hn4 : h0.size ≤ n4) (hne : n2 ≠ n4) :
    ∀ (m i : Nat) (h : H) (s : Sl) (acc : List UInt8), (∀ h', Ext h0 h' → Q (match unesc (str.data.toList.drop i) with | .error e => (zeroC, e) | .ok p => finC v (acc ++ p.1) p.2).1 (match unesc (str.data.toList.drop i) with | .error e => (zeroC, e) | .ok p => finC v (acc ++ p.1) p.2).2 h') →
    Ext h0 h → i ≤ str.size → acc.length ≤ i → str.size - i < m → Blk h n2 zeroC.cells.toArray 34 → Blk h n4 (⟨(v.toNat : Int), ⟨#[]⟩, 0⟩ : Cel).cells.toArray 34 → Owns h s 5 1 (acc.flatMap cU) → Mine h0 s → s.blk ≠ some n2 → s.blk ≠ some n4 → n2 < h.size → n4 < h.size →
    F.merge_Cell.l1 Q m str ⟨n2, 0, none⟩ ⟨n4, 0, none⟩ (i : Int) s h
  | 0, i, h, s, acc, _, _, _, _, hm, _, _, _, _, _, _, _, _ => by omega
  | m + 1, i, h, s, acc, k, e0, hi, hacc, hm, b2, b4, ow, mi, hne2, hne4, hl2, hl4 => by
    unfold F.merge_Cell.l1
    rw [beq_iff_eq, beq_eq_false_iff_ne]
    refine ⟨fun g => ?_, fun g => ?_⟩
    · have hd : str.data.toList.drop i = [] := List.drop_eq_nil_of_le (by rw [← size_data]; omega)
      rw [hd] at k
      exact told_err k e0 hn2 b2
    · obtain ⟨b, hb⟩ : ∃ b, str.data.toList[i]? = some b := ⟨_, List.getElem?_eq_getElem (by rw [← size_data]; omega)⟩
      have hd : str.data.toList.drop i = b :: str.data.toList.drop (i + 1) := by
        obtain ⟨hh, rfl⟩ := List.getElem?_eq_some_iff.1 hb
        exact List.drop_eq_getElem_cons hh
      have hb0 : (b.toNat : Int) = 0 ↔ b = 0 := by
        constructor
        · intro h; exact UInt8.toNat_inj.1 (by simpa using (by omega : b.toNat = 0))
        · intro h; subst h; rfl
      rw [hd] at k
      refine idxS_of hb rfl ?_
      rw [bne_iff_ne, bne_eq_false_iff_eq, Ne, hb0]
      refine ⟨fun g1 => idxS_of hb rfl ?_, fun g1 => ?_⟩
      · refine push_mine (f := cU) b e0 mi cU_len (by omega) elU ow cU_one (by omega) fun r h1 q1 q2 q3 q4 q5 => ?_
        have hrr : ∀ x, x < h.size → s.blk ≠ some x → r.blk ≠ some x := fun x hx hsx => by
          rcases q5 with q5 | ⟨y, q5, q6⟩
          · rw [q5]; exact hsx
          · rw [q5]; intro e; cases e; omega
        rw [show IntKind.wrap .i64 ((i : Int) + 1) = ((i + 1 : Nat) : Int) from by rw [w64 (by omega) (by omega)]; omega]
        refine cell_loop hs hn2 hn4 hne m (i + 1) h1 r (acc ++ [b]) (fun h' e => ?_) q2 (by omega) (by simp; omega) (by omega) (q4.block b2 hne2) (q4.block b4 hne4) q1 q3 (hrr n2 hl2 hne2) (hrr n4 hl4 hne4) (by have := q4.size; omega) (by have := q4.size; omega)
        have k := k h' e
        rw [unesc_ne g1] at k
        cases hu : unesc (str.data.toList.drop (i + 1)) with
        | error x => rw [hu] at k; exact k
        | ok p => rw [hu] at k; simpa using k
      · have g1 : b = 0 := Classical.not_not.1 (by simpa using g1)
        subst g1
        rw [w64 (n := (i : Int) + 1) (by omega) (by omega), w64 (n := (i : Int) + 2) (by omega) (by omega), beq_iff_eq, beq_eq_false_iff_ne]
        refine ⟨fun g2 => ?_, fun g2 => ?_⟩
        · have hd1 : str.data.toList.drop (i + 1) = [] := List.drop_eq_nil_of_le (by rw [← size_data]; omega)
          rw [hd1] at k
          exact told_err k e0 hn2 b2
        · obtain ⟨x, hx⟩ : ∃ b, str.data.toList[i + 1]? = some b := ⟨_, List.getElem?_eq_getElem (by rw [← size_data]; omega)⟩
          have hd1 : str.data.toList.drop (i + 1) = x :: str.data.toList.drop (i + 2) := by
            obtain ⟨hh, rfl⟩ := List.getElem?_eq_some_iff.1 hx
            exact List.drop_eq_getElem_cons hh
          have hx1 : (x.toNat : Int) = 1 ↔ x = 1 := by
            constructor
            · intro h; exact UInt8.toNat_inj.1 (by simpa using (by omega : x.toNat = 1))
            · intro h; subst h; rfl
          have hx2 : (x.toNat : Int) = 255 ↔ x = 255 := by
            constructor
            · intro h; exact UInt8.toNat_inj.1 (by simpa using (by omega : x.toNat = 255))
            · intro h; subst h; rfl
          rw [hd1] at k
          have hun : unesc (0 :: x :: str.data.toList.drop (i + 2)) = if x = 1 then .ok ([], str.data.toList.drop (i + 2)) else if x ≠ 255 then .error 12 else (match unesc (str.data.toList.drop (i + 2)) with | .ok p => .ok (0 :: p.1, p.2) | .error e => .error e) := by
            rw [unesc]; simp
          rw [hun] at k
          have hlen : (str.data.toList.drop (i + 2)).length = str.size - (i + 2) := by rw [List.length_drop, ← size_data]
          refine idxS_of hx (by rw [w64 (by omega) (by omega)]; omega) ?_
          rw [beq_iff_eq, beq_eq_false_iff_ne, Ne, hx1]
          refine ⟨fun g3 => ?_, fun g3 => ?_⟩
          · rw [if_pos g3] at k
            simp only [List.append_nil] at k
            unfold finC at k
            rw [hlen] at k
            rw [w64 (by omega) (by omega)]
            simp only [decide_eq_true_eq, decide_eq_false_iff_not]
            refine ⟨fun g4 => ?_, fun g4 => ⟨fun g5 => ?_, fun g5 => ⟨str.size + 1, ?_⟩⟩⟩
            · rw [if_pos (by omega)] at k; exact told_err k e0 hn2 b2
            · rw [if_neg (by omega), if_pos (by omega)] at k; exact told_err k e0 hn2 b2
            · rw [if_neg (by omega), if_neg (by omega)] at k
              rw [show (i : Int) + 2 = ((i + 2 : Nat) : Int) from by omega]
              exact cell_tail (by omega) hn2 hn4 hne k (str.size + 1) (i + 2) 0 h s zeroC e0 (by omega) (by omega) (Nat.pos_of_ne_zero (by exact Nat.pos_iff_ne_zero.1 (Nat.pow_pos (by omega)))) rfl (by omega) b2 b4 ow.reads
          · rw [if_neg g3] at k
            refine idxS_of hx (by rw [w64 (by omega) (by omega)]; omega) ?_
            rw [bne_iff_ne, bne_eq_false_iff_eq, Ne, hx2]
            refine ⟨fun g4 => ?_, fun g4 => ?_⟩
            · rw [if_pos g4] at k; exact told_err k e0 hn2 b2
            · have g4 : x = 255 := Classical.not_not.1 (by simpa using g4)
              rw [if_neg (by simpa using g4)] at k
              refine push_mine (f := cU) 0 e0 mi cU_len (by omega) elU ow cU_one (by omega) fun r h1 q1 q2 q3 q4 q5 => ?_
              have hrr : ∀ x, x < h.size → s.blk ≠ some x → r.blk ≠ some x := fun x hx hsx => by
                rcases q5 with q5 | ⟨y, q5, q6⟩
                · rw [q5]; exact hsx
                · rw [q5]; intro e; cases e; omega
              rw [show (i : Int) + 2 = ((i + 2 : Nat) : Int) from by omega]
              refine cell_loop hs hn2 hn4 hne m (i + 2) h1 r (acc ++ [0]) (fun h' e => ?_) q2 (by omega) (by simp; omega) (by omega) (q4.block b2 hne2) (q4.block b4 hne4) q1 q3 (hrr n2 hl2 hne2) (hrr n4 hl4 hne4) (by have := q4.size; omega) (by have := q4.size; omega)
              have k := k h' e
              cases hu : unesc (str.data.toList.drop (i + 2)) with
              | error x => rw [hu] at k; exact k
              | ok p => rw [hu] at k; simpa using k
theorem Cell_spec {h : H} {str : ByteArray} {Q : Cel → Int → H → Prop} (hs : str.size < 140737488355328) (k : ∀ h', Ext h h' → Q (cellM str.data.toList).1 (cellM str.data.toList).2 h') : F.merge_Cell str h Q := by
  unfold F.merge_Cell
  refine new_of fun n h1 e1 e2 e3 e4 => ?_
  have hs1 := e3.size
  rw [beq_iff_eq, beq_eq_false_iff_ne, toList_data, toList_data]
  refine ⟨fun g => ?_, fun g => ?_⟩
  · have g : str.data.toList = [] := g
    rw [g] at k
    exact told_err k e3 (by omega) (c := zeroC) e2
  · obtain ⟨v, r, hv⟩ : ∃ v r, str.data.toList = v :: r := by
      cases hh : str.data.toList with
      | nil => exact absurd hh g
      | cons v r => exact ⟨v, r, rfl⟩
    have hsz : 0 < str.size := by rw [size_data, hv]; simp
    refine idxS_of (i := 0) (b := v) (by rw [hv]; rfl) rfl ?_
    refine new_of fun n4 h2 f1 f2 f3 f4 => ?_
    have hs2 := f3.size
    refine st_cell (c := zeroC) (d := ⟨IntKind.wrap .i64 (v.toNat : Int), ⟨#[]⟩, 0⟩) f2 fun h3 q1 q2 q3 => ?_
    have hbl := v.toNat_lt
    rw [w64 (by omega) (by omega)] at q1
    refine ⟨str.size + 1, ?_⟩
    refine cell_loop (v := v) hs (n2 := n) (n4 := n4) (h0 := h) (by omega) (by omega) (by omega) _ 1 h3 _ [] (fun h' e => ?_) ((e3.trans f3).step q2 fun m hm e => by omega) (by omega) (by simp) (by omega) (q2.block (f3.block e2 (fun f => f)) (by omega)) q1 (Owns.nil _ _ _) (Mine.nil _ _ _) (by simp [Sl.blk]) (by simp [Sl.blk]) (by omega) (by omega)
    have k := k h' e
    rw [hv, cellM_cons] at k
    rw [show str.data.toList.drop 1 = r from by rw [hv]; rfl]
    cases hu : unesc r with
    | error x => rw [hu] at k; exact k
    | ok p => rw [hu] at k; simpa using k
end Go.Proofs.Ytidpbnbjpglhfaa.V
