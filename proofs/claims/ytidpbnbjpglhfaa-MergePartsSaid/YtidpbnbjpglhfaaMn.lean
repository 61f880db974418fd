/- The order of cells and of their texts; the law MergeOrder answers true; no condition. -/
import Derived.Test.YtidpbnbjpglhfaaMj
namespace Go.Proofs.Ytidpbnbjpglhfaa.V
open Go
set_option linter.unusedVariables false
set_option linter.unusedSimpArgs false

/-! ### Texts in order -/
theorem cB_zero {x y : List UInt8} : Lib.compareBytes x y = 0 ↔ x = y := by
  rw [cmpB_eq]
  split
  · rename_i h; simp [h]
  · rename_i h; split <;> simp [h]
theorem u8_tri (a b : UInt8) : a < b ∨ a = b ∨ b < a := by
  by_cases h1 : a < b
  · exact .inl h1
  · by_cases h2 : b < a
    · exact .inr (.inr h2)
    · exact .inr (.inl (UInt8.le_antisymm (UInt8.not_lt.1 h2) (UInt8.not_lt.1 h1)))
theorem u8_asym {a b : UInt8} (h : a < b) : ¬ b < a := fun h2 => by
  rw [UInt8.lt_iff_toNat_lt] at h h2; omega
theorem u8_irr (a : UInt8) : ¬ a < a := fun h => by
  rw [UInt8.lt_iff_toNat_lt] at h; omega
theorem cB_anti : ∀ (x y : List UInt8), Lib.compareBytes x y = - Lib.compareBytes y x
  | [], [] => rfl
  | [], _ :: _ => rfl
  | _ :: _, [] => rfl
  | a :: x, b :: y => by
    have ih := cB_anti x y
    simp only [Lib.compareBytes]
    rcases u8_tri a b with h | h | h
    · simp [h, u8_asym h]
    · subst h; simp [u8_irr, ih]
    · simp [h, u8_asym h]
theorem cB_range (x y : List UInt8) : Lib.compareBytes x y = -1 ∨ Lib.compareBytes x y = 0 ∨ Lib.compareBytes x y = 1 := by
  rw [cmpB_eq]; split
  · simp
  · split <;> simp
theorem cB_trans : ∀ (x y z : List UInt8), Lib.compareBytes x y = -1 → Lib.compareBytes y z = -1 → Lib.compareBytes x z = -1
  | [], [], z, h, _ => by simp [Lib.compareBytes] at h
  | [], b :: y, [], _, h => by simp [Lib.compareBytes] at h
  | [], b :: y, c :: z, _, _ => rfl
  | a :: x, [], z, h, _ => by simp [Lib.compareBytes] at h
  | a :: x, b :: y, [], _, h => by simp [Lib.compareBytes] at h
  | a :: x, b :: y, c :: z, h1, h2 => by
    simp only [Lib.compareBytes] at h1 h2 ⊢
    rcases u8_tri a b with g | g | g
    · rcases u8_tri b c with g2 | g2 | g2
      · have : a < c := by rw [UInt8.lt_iff_toNat_lt] at *; omega
        simp [this]
      · subst g2; simp [g]
      · simp [g2, u8_asym g2] at h2
    · subst g
      simp only [u8_irr, if_false] at h1
      rcases u8_tri a c with g2 | g2 | g2
      · simp [g2]
      · subst g2
        simp only [u8_irr, if_false] at h2 ⊢
        exact cB_trans x y z h1 h2
      · simp [g2, u8_asym g2] at h2
    · simp [g, u8_asym g] at h1
theorem cI_anti (x y : Int) : cmpI x y = - cmpI y x := by
  unfold cmpI
  rcases Int.lt_trichotomy x y with h | h | h
  · rw [if_pos h, if_neg (by omega), if_pos (by omega)]
  · subst h; simp
  · rw [if_neg (by omega), if_pos (by omega), if_pos (by omega)]; rfl
theorem cI_zero {x y : Int} : cmpI x y = 0 ↔ x = y := by
  unfold cmpI
  split
  · constructor <;> intro <;> omega
  · split
    · constructor <;> intro <;> omega
    · constructor <;> intro <;> omega
theorem cI_range (x y : Int) : cmpI x y = -1 ∨ cmpI x y = 0 ∨ cmpI x y = 1 := by
  unfold cmpI; split
  · simp
  · split <;> simp
theorem cI_lt {x y : Int} : cmpI x y = -1 ↔ x < y := by
  unfold cmpI
  split
  · constructor <;> intro <;> omega
  · split
    · constructor <;> intro <;> omega
    · constructor <;> intro <;> omega
theorem cC_anti (a b : Cel) : cmpC a b = - cmpC b a := by
  unfold cmpC cmpM
  rw [cI_anti a.View b.View, cB_anti a.Key.data.toList b.Key.data.toList, cI_anti a.Start b.Start]
  split <;> split <;> simp_all <;> omega
theorem cC_range (a b : Cel) : cmpC a b = -1 ∨ cmpC a b = 0 ∨ cmpC a b = 1 := by
  unfold cmpC cmpM
  split
  · exact cI_range _ _
  · split
    · exact cB_range _ _
    · exact cI_range _ _
theorem key_ext {a b : ByteArray} (h : a.data.toList = b.data.toList) : a = b := by
  obtain ⟨x⟩ := a
  obtain ⟨y⟩ := b
  congr 1
  exact Array.toList_inj.1 h
theorem cC_zero {a b : Cel} : cmpC a b = 0 ↔ a = b := by
  constructor
  · intro h
    unfold cmpC cmpM at h
    split at h
    · rename_i g; exact absurd h g
    · rename_i g
      split at h
      · rename_i g2; exact absurd h g2
      · rename_i g2
        have h1 := cI_zero.1 (Classical.not_not.1 g)
        have h2 := key_ext (cB_zero.1 (Classical.not_not.1 g2))
        have h3 := cI_zero.1 h
        obtain ⟨v, k, s⟩ := a
        obtain ⟨v', k', s'⟩ := b
        simp only at h1 h2 h3
        rw [h1, h2, h3]
  · rintro rfl; exact cmpC_self a
theorem cC_lt {a b : Cel} : cmpC a b = -1 ↔ cmpI a.View b.View = -1 ∨ (a.View = b.View ∧ (Lib.compareBytes a.Key.data.toList b.Key.data.toList = -1 ∨ (a.Key.data.toList = b.Key.data.toList ∧ a.Start < b.Start))) := by
  unfold cmpC cmpM
  have r1 := cI_range a.View b.View
  have r2 := cB_range a.Key.data.toList b.Key.data.toList
  have z1 := cI_zero (x := a.View) (y := b.View)
  have z2 := cB_zero (x := a.Key.data.toList) (y := b.Key.data.toList)
  have l3 := cI_lt (x := a.Start) (y := b.Start)
  by_cases h1 : cmpI a.View b.View = 0
  · rw [if_neg (by simp [h1])]
    have e1 := z1.1 h1
    by_cases h2 : Lib.compareBytes a.Key.data.toList b.Key.data.toList = 0
    · rw [if_neg (by simp [h2])]
      have e2 := z2.1 h2
      rw [l3]
      constructor
      · intro h; exact .inr ⟨e1, .inr ⟨e2, h⟩⟩
      · intro h
        rcases h with h | ⟨_, h | h⟩
        · omega
        · omega
        · exact h.2
    · rw [if_pos h2]
      constructor
      · intro h; exact .inr ⟨e1, .inl h⟩
      · intro h
        rcases h with h | ⟨_, h | h⟩
        · omega
        · exact h
        · exact absurd (z2.2 h.1) h2
  · rw [if_pos h1]
    constructor
    · intro h; exact .inl h
    · intro h
      rcases h with h | h
      · exact h
      · exact absurd (z1.2 h.1) h1
theorem cC_trans {a b c : Cel} (h1 : cmpC a b = -1) (h2 : cmpC b c = -1) : cmpC a c = -1 := by
  rw [cC_lt] at *
  rcases h1 with h1 | ⟨e1, h1⟩
  · rw [cI_lt] at h1
    rcases h2 with h2 | ⟨e2, _⟩
    · rw [cI_lt] at h2; exact .inl (cI_lt.2 (by omega))
    · exact .inl (cI_lt.2 (by omega))
  · rcases h2 with h2 | ⟨e2, h2⟩
    · rw [cI_lt] at h2; exact .inl (cI_lt.2 (by omega))
    · refine .inr ⟨by omega, ?_⟩
      rcases h1 with h1 | ⟨k1, h1⟩
      · rcases h2 with h2 | ⟨k2, h2⟩
        · exact .inl (cB_trans _ _ _ h1 h2)
        · rw [← k2]; exact .inl h1
      · rcases h2 with h2 | ⟨k2, h2⟩
        · rw [k1]; exact .inl h2
        · exact .inr ⟨k1.trans k2, by omega⟩
theorem cC_le_trans {a b c : Cel} (h1 : cmpC a b ≤ 0) (h2 : cmpC b c ≤ 0) : cmpC a c ≤ 0 := by
  rcases cC_range a b with r1 | r1 | r1
  · rcases cC_range b c with r2 | r2 | r2
    · rw [cC_trans r1 r2]; omega
    · rw [← cC_zero.1 r2, r1]; omega
    · omega
  · rw [cC_zero.1 r1]; exact h2
  · omega
/-! ### The cells' texts stand as the cells do -/
theorem esc_cmp : ∀ (k1 k2 t1 t2 : List UInt8), Lib.compareBytes (escL k1 ++ 0 :: 1 :: t1) (escL k2 ++ 0 :: 1 :: t2) = if Lib.compareBytes k1 k2 ≠ 0 then Lib.compareBytes k1 k2 else Lib.compareBytes t1 t2
  | [], [], t1, t2 => by simp [escL, Lib.compareBytes, u8_irr]
  | [], b :: k2, t1, t2 => by
    simp only [escL]
    by_cases hb : b = 0
    · subst hb; simp [Lib.compareBytes, u8_irr, show (1 : UInt8) < 255 from by decide]
    · have : (0 : UInt8) < b := by
        rcases u8_tri 0 b with h | h | h
        · exact h
        · exact absurd h.symm hb
        · rw [UInt8.lt_iff_toNat_lt] at h; simp at h
      simp [hb, Lib.compareBytes, this]
  | a :: k1, [], t1, t2 => by
    simp only [escL]
    by_cases hb : a = 0
    · subst hb; simp [Lib.compareBytes, u8_irr, show (1 : UInt8) < 255 from by decide, show ¬ (255 : UInt8) < 1 from by decide]
    · have : (0 : UInt8) < a := by
        rcases u8_tri 0 a with h | h | h
        · exact h
        · exact absurd h.symm hb
        · rw [UInt8.lt_iff_toNat_lt] at h; simp at h
      simp [hb, Lib.compareBytes, this, u8_asym this]
  | a :: k1, b :: k2, t1, t2 => by
    have ih := esc_cmp k1 k2 t1 t2
    have pos : ∀ x : UInt8, x ≠ 0 → (0 : UInt8) < x := fun x hx => by
      rcases u8_tri 0 x with h | h | h
      · exact h
      · exact absurd h.symm hx
      · rw [UInt8.lt_iff_toNat_lt] at h; simp at h
    rcases u8_tri a b with h | h | h
    · have hb0 : b ≠ 0 := fun e => by subst e; rw [UInt8.lt_iff_toNat_lt] at h; simp at h
      by_cases ha : a = 0
      · subst ha; simp [escL, hb0, Lib.compareBytes, h]
      · simp [escL, hb0, ha, Lib.compareBytes, h]
    · subst h
      by_cases ha : a = 0
      · subst ha; simp [escL, Lib.compareBytes, u8_irr, ih]
      · simp [escL, ha, Lib.compareBytes, u8_irr, ih]
    · have ha0 : a ≠ 0 := fun e => by subst e; rw [UInt8.lt_iff_toNat_lt] at h; simp at h
      by_cases hb : b = 0
      · subst hb; simp [escL, ha0, Lib.compareBytes, h, u8_asym h]
      · simp [escL, ha0, hb, Lib.compareBytes, h, u8_asym h]
def cmpN (u v : Nat) : Int := if u < v then -1 else if v < u then 1 else 0
theorem be_cmp : ∀ (j u v : Nat), Lib.compareBytes (beT u j) (beT v j) = cmpN (u % 2 ^ (8 * j)) (v % 2 ^ (8 * j))
  | 0, u, v => by simp [beT, Lib.compareBytes, cmpN, Nat.mod_one]
  | j + 1, u, v => by
    have ih := be_cmp j u v
    simp only [beT, Lib.compareBytes, ih]
    have e : 2 ^ (8 * (j + 1)) = 2 ^ (8 * j) * 256 := by rw [show 8 * (j + 1) = 8 * j + 8 from by omega, Nat.pow_add]
    have hu : u % 2 ^ (8 * (j + 1)) = u % 2 ^ (8 * j) + 2 ^ (8 * j) * (u / 2 ^ (8 * j) % 256) := by rw [e, Nat.mod_mul]
    have hv : v % 2 ^ (8 * (j + 1)) = v % 2 ^ (8 * j) + 2 ^ (8 * j) * (v / 2 ^ (8 * j) % 256) := by rw [e, Nat.mod_mul]
    rw [hu, hv]
    have pu := Nat.mod_lt u (Nat.two_pow_pos (8 * j))
    have pv := Nat.mod_lt v (Nat.two_pow_pos (8 * j))
    simp only [UInt8.lt_iff_toNat_lt, UInt8.toNat_ofNat']
    have e8 : (2 : Nat) ^ 8 = 256 := by decide
    rw [e8]
    generalize u / 2 ^ (8 * j) % 256 = x at *
    generalize v / 2 ^ (8 * j) % 256 = y at *
    generalize u % 2 ^ (8 * j) = p at *
    generalize v % 2 ^ (8 * j) = q at *
    generalize 2 ^ (8 * j) = B at *
    unfold cmpN
    rcases Nat.lt_trichotomy x y with h | h | h
    · have : B * (x + 1) ≤ B * y := Nat.mul_le_mul_left _ h
      rw [Nat.mul_add, Nat.mul_one] at this
      rw [if_pos h, if_pos (by omega)]
    · subst h
      rw [if_neg (by omega), if_neg (by omega)]
      by_cases h1 : p < q
      · rw [if_pos h1, if_pos (by omega)]
      · rw [if_neg h1, if_neg (show ¬ (p + B * x < q + B * x) by omega)]
        by_cases h2 : q < p
        · rw [if_pos h2, if_pos (by omega)]
        · rw [if_neg h2, if_neg (by omega)]
    · have : B * (y + 1) ≤ B * x := Nat.mul_le_mul_left _ h
      rw [Nat.mul_add, Nat.mul_one] at this
      rw [if_neg (by omega), if_pos h, if_neg (by omega), if_pos (by omega)]
abbrev I64n (n : Int) : Prop := -9223372036854775808 ≤ n ∧ n < 9223372036854775808
theorem upU_val {n : Int} (h : I64n n) : (upU n : Int) = n + 9223372036854775808 := by
  rw [upU_eq, wrap_u64, wrap_u64]; omega
theorem may_view {c : Cel} (h : mayC c = 0) : 0 ≤ c.View ∧ c.View ≤ 4 ∧ c.Key.size ≤ 32 := by
  unfold mayC at h
  split at h
  · omega
  · split at h
    · omega
    · omega
theorem key_cmp {a b : Cel} (ha : mayC a = 0) (hb : mayC b = 0) (ia : I64n a.Start) (ib : I64n b.Start) : Lib.compareBytes (keyL a) (keyL b) = cmpC a b := by
  obtain ⟨a1, a2, a3⟩ := may_view ha
  obtain ⟨b1, b2, b3⟩ := may_view hb
  unfold keyL cmpC cmpM
  simp only [Lib.compareBytes, List.append_assoc, List.cons_append, List.nil_append]
  rw [esc_cmp, be_cmp]
  have ua := upU_val ia
  have ub := upU_val ib
  have e8 : (2 : Nat) ^ (8 * 8) = 18446744073709551616 := by decide
  rw [e8, Nat.mod_eq_of_lt (by omega), Nat.mod_eq_of_lt (by omega)]
  have hN : cmpN (upU a.Start) (upU b.Start) = cmpI a.Start b.Start := by
    unfold cmpN cmpI
    by_cases h1 : a.Start < b.Start
    · rw [if_pos h1, if_pos (by omega)]
    · rw [if_neg h1, if_neg (by omega)]
      by_cases h2 : a.Start > b.Start
      · rw [if_pos h2, if_pos (by omega)]
      · rw [if_neg h2, if_neg (by omega)]
  rw [hN]
  have va : (UInt8.ofNat a.View.toNat).toNat = a.View.toNat := by rw [UInt8.toNat_ofNat']; omega
  have vb : (UInt8.ofNat b.View.toNat).toNat = b.View.toNat := by rw [UInt8.toNat_ofNat']; omega
  simp only [UInt8.lt_iff_toNat_lt, va, vb]
  unfold cmpI
  rcases Int.lt_trichotomy a.View b.View with h | h | h
  · rw [if_pos (by omega), if_pos (by rw [if_pos h]; omega), if_pos h]
  · rw [h, if_neg (by omega), if_neg (by omega)]; simp
  · rw [if_neg (by omega), if_pos (by omega), if_pos (by rw [if_neg (by omega), if_pos (by omega)]; omega), if_neg (by omega), if_pos (by omega)]
/-! ### There and back -/
theorem unesc_esc : ∀ (k t : List UInt8), unesc (escL k ++ 0 :: 1 :: t) = .ok (k, t)
  | [], t => by
    show unesc (0 :: 1 :: t) = _
    rw [unesc.eq_def]; simp
  | b :: k, t => by
    have ih := unesc_esc k t
    by_cases hb : b = 0
    · subst hb
      simp only [escL, if_true, List.cons_append]
      rw [unesc.eq_def]
      simp [ih]
    · simp only [escL, if_neg hb, List.cons_append]
      rw [unesc_ne hb, ih]
theorem beV_beT : ∀ (j u w : Nat), beV w (beT u j) = w * 2 ^ (8 * j) + u % 2 ^ (8 * j)
  | 0, u, w => by simp [beT, beV, Nat.mod_one]
  | j + 1, u, w => by
    rw [beT, beV, beV_beT j, UInt8.toNat_ofNat']
    have e : 2 ^ (8 * (j + 1)) = 2 ^ (8 * j) * 256 := by rw [show 8 * (j + 1) = 8 * j + 8 from by omega, Nat.pow_add]
    have hu : u % 2 ^ (8 * (j + 1)) = u % 2 ^ (8 * j) + 2 ^ (8 * j) * (u / 2 ^ (8 * j) % 256) := by rw [e, Nat.mod_mul]
    have e8 : (2 : Nat) ^ 8 = 256 := by decide
    rw [hu, e, e8, Nat.add_mul, Nat.mul_comm (u / 2 ^ (8 * j) % 256), Nat.mul_assoc w 256, Nat.mul_comm 256 (2 ^ (8 * j))]
    omega
theorem cell_back {c : Cel} (h : mayC c = 0) (i : I64n c.Start) : cellM (keyL c) = (c, 0) := by
  obtain ⟨a1, a2, a3⟩ := may_view h
  have u := upU_val i
  unfold keyL
  rw [cellM_cons]
  simp only [List.append_assoc, List.cons_append, List.nil_append]
  rw [unesc_esc]
  simp only [finC, beT_len]
  rw [if_neg (by omega), if_neg (by omega), beV_beT]
  have e8 : (2 : Nat) ^ (8 * 8) = 18446744073709551616 := by decide
  have hs : startOf (0 * 2 ^ (8 * 8) + upU c.Start % 2 ^ (8 * 8)) = c.Start := by
    rw [e8, Nat.mod_eq_of_lt (by omega)]
    unfold startOf
    rw [wrap_u64, Nat.zero_mul, Nat.zero_add, u]
    unfold IntKind.wrap
    simp [IntKind.bits, IntKind.signed]
    omega
  rw [hs]
  have hv : (((UInt8.ofNat c.View.toNat).toNat : Nat) : Int) = c.View := by rw [UInt8.toNat_ofNat']; omega
  rw [hv]
  have hc : (⟨c.View, ⟨c.Key.data.toList.toArray⟩, c.Start⟩ : Cel) = c := by
    obtain ⟨v, ⟨k⟩, s⟩ := c
    simp
  rw [hc, if_neg (by simpa using h)]
section
variable {h0 h : H} {n m q : Nat} {a b c : Cel} {Q : Bool → H → Prop}
theorem order_j4 (e0 : Ext h0 h) (b3 : Blk h n a.cells.toArray 34) (b4 : Blk h m b.cells.toArray 34) (k : ∀ h', Ext h0 h' → Q true h') : F.spatelaw8_MergeOrder.j4 Q ⟨n, 0, none⟩ ⟨m, 0, none⟩ h := by
  unfold F.spatelaw8_MergeOrder.j4
  have a0 : cellH h ⟨n, 0, none⟩ = some (.int .i64 a.View) := b3.cell rfl
  have a1 : cellH h ⟨n, 1, none⟩ = some (.string a.Key) := b3.cell rfl
  have a2 : cellH h ⟨n, 2, none⟩ = some (.int .i64 a.Start) := b3.cell rfl
  have c0 : cellH h ⟨m, 0, none⟩ = some (.int .i64 b.View) := b4.cell rfl
  have c1 : cellH h ⟨m, 1, none⟩ = some (.string b.Key) := b4.cell rfl
  have c2 : cellH h ⟨m, 2, none⟩ = some (.int .i64 b.Start) := b4.cell rfl
  have j5 : ∀ h', Ext h h' → F.spatelaw8_MergeOrder.j5 Q false h' := fun h' e => ⟨(fun h => by cases h), fun _ => k h' (e0.trans e)⟩
  simp only [add_lit, Nat.zero_add, ldI_iff a0, ldI_iff c0, ldS_iff a1, ldS_iff c1, ldI_iff a2, ldI_iff c2, beq_iff_eq, beq_eq_false_iff_ne]
  refine ⟨fun g1 => ⟨fun g2 => ⟨a, b3.cells3, b, b4.cells3, ?_⟩, fun _ => j5 h (.refl _)⟩, fun _ => j5 h (.refl _)⟩
  refine Compare_spec fun h1 e1 => ⟨e1.cell c2 (fun f => f), e1.cell a2 (fun f => f), ?_⟩
  rw [toList_data, toList_data] at g2
  have hc : (decide (cmpC a b < 0) == decide (a.Start < b.Start)) = true := by
    rw [beq_iff_eq, decide_eq_decide]
    have hr := cC_range a b
    have hl := cC_lt (a := a) (b := b)
    constructor
    · intro h
      have : cmpC a b = -1 := by omega
      rcases hl.1 this with g | ⟨_, g | g⟩
      · rw [cI_lt] at g; omega
      · rw [cB_zero.2 g2] at g; omega
      · exact g.2
    · intro h
      rw [hl.2 (.inr ⟨g1, .inr ⟨g2, h⟩⟩)]; omega
  rw [hc]
  exact j5 h1 e1
theorem order_j2 (e0 : Ext h0 h) (b3 : Blk h n a.cells.toArray 34) (b4 : Blk h m b.cells.toArray 34) (b5 : Blk h q c.cells.toArray 34) (k : ∀ h', Ext h0 h' → Q true h') : F.spatelaw8_MergeOrder.j2 Q ⟨n, 0, none⟩ ⟨m, 0, none⟩ ⟨q, 0, none⟩ h := by
  unfold F.spatelaw8_MergeOrder.j2
  refine ⟨a, b3.cells3, b, b4.cells3, b, b4.cells3, a, b3.cells3, ?_⟩
  refine Compare_spec fun h1 e1 => ⟨Blk.cells3 (e := 34) (e1.block b3 (fun f => f)), Blk.cells3 (e := 34) (e1.block b4 (fun f => f)), ?_⟩
  refine Compare_spec fun h2 e2 => ?_
  have x2 := e1.trans e2
  have d3 : Blk h2 n a.cells.toArray 34 := x2.block b3 (fun f => f)
  have d4 : Blk h2 m b.cells.toArray 34 := x2.block b4 (fun f => f)
  have hr := cC_range b a
  rw [w64 (by omega) (by omega), cC_anti a b, show (0 - cmpC b a) = - cmpC b a from by omega, bne_self_eq_false]
  refine ⟨(fun h => by cases h), fun _ => ⟨a, d3.cells3, b, d4.cells3, a, d3.cells3, b, d4.cells3, ?_⟩⟩
  refine Compare_spec fun h3 e3 => ⟨Blk.cells3 (e := 34) (e3.block d4 (fun f => f)), Blk.cells3 (e := 34) (e3.block d3 (fun f => f)), ?_⟩
  have x3 := x2.trans e3
  have heq : ((cmpC a b == 0) == ((a.View == b.View) && ((a.Key.toList == b.Key.toList) && ((a.Start == b.Start) && true)))) = true := by
    rw [toList_data, toList_data]
    by_cases h : a = b
    · subst h; rw [cmpC_self]; simp
    · have hne : cmpC a b ≠ 0 := fun h' => h (cC_zero.1 h')
      have : ((a.View == b.View) && ((a.Key.data.toList == b.Key.data.toList) && ((a.Start == b.Start) && true))) = false := by
        cases hh : ((a.View == b.View) && ((a.Key.data.toList == b.Key.data.toList) && ((a.Start == b.Start) && true))) with
        | false => rfl
        | true =>
          simp only [Bool.and_true, Bool.and_eq_true, beq_iff_eq] at hh
          obtain ⟨v, kk, s⟩ := a
          obtain ⟨v', kk', s'⟩ := b
          simp only at hh
          exact absurd (by rw [hh.1, key_ext hh.2.1, hh.2.2]) h
      rw [this]; simp [hne]
  rw [heq]
  unfold F.spatelaw8_MergeOrder.j7 F.spatelaw8_MergeOrder.j3
  have g3 : Blk h3 n a.cells.toArray 34 := x3.block b3 (fun f => f)
  have g4 : Blk h3 m b.cells.toArray 34 := x3.block b4 (fun f => f)
  have g5 : Blk h3 q c.cells.toArray 34 := x3.block b5 (fun f => f)
  refine ⟨(fun h => by cases h), fun _ => ⟨a, g3.cells3, b, g4.cells3, ?_⟩⟩
  have j6 : ∀ h', Ext h3 h' → F.spatelaw8_MergeOrder.j6 Q ⟨n, 0, none⟩ ⟨m, 0, none⟩ false h' := fun h' e => ⟨(fun h => by cases h), fun _ => order_j4 (e0.trans (x3.trans e)) (e.block g3 (fun f => f)) (e.block g4 (fun f => f)) k⟩
  refine Compare_spec fun h4 e4 => ?_
  refine ⟨fun c1 => ⟨b, Blk.cells3 (e := 34) (e4.block g4 (fun f => f)), c, Blk.cells3 (e := 34) (e4.block g5 (fun f => f)), ?_⟩, fun _ => j6 h4 e4⟩
  refine Compare_spec fun h5 e5 => ?_
  have y5 := e4.trans e5
  refine ⟨fun c2 => ⟨a, Blk.cells3 (e := 34) (y5.block g3 (fun f => f)), c, Blk.cells3 (e := 34) (y5.block g5 (fun f => f)), ?_⟩, fun _ => j6 h5 y5⟩
  refine Compare_spec fun h6 e6 => ?_
  rw [decide_eq_true_eq] at c1 c2
  have := cC_le_trans c1 c2
  rw [show decide (cmpC a c > 0) = false from by simp; omega]
  exact j6 h6 (y5.trans e6)
theorem order_j1 (e0 : Ext h0 h) (b3 : Blk h n a.cells.toArray 34) (b4 : Blk h m b.cells.toArray 34) (b5 : Blk h q c.cells.toArray 34) (ia : I64n a.Start) (ib : I64n b.Start) {s t : ByteArray} {e f : Int} (he : e = mayC a) (hf : f = mayC b) (hs : e = 0 → s = ⟨(keyL a).toArray⟩) (ht : f = 0 → t = ⟨(keyL b).toArray⟩) (k : ∀ h', Ext h0 h' → Q true h') :
    F.spatelaw8_MergeOrder.j1 Q ⟨n, 0, none⟩ ⟨m, 0, none⟩ ⟨q, 0, none⟩ s e t f h := by
  unfold F.spatelaw8_MergeOrder.j1
  have j8 : ∀ h', Ext h h' → F.spatelaw8_MergeOrder.j8 Q ⟨n, 0, none⟩ ⟨m, 0, none⟩ ⟨q, 0, none⟩ false h' := fun h' x => ⟨(fun h => by cases h), fun _ => order_j2 (e0.trans x) (x.block b3 (fun f => f)) (x.block b4 (fun f => f)) (x.block b5 (fun f => f)) k⟩
  simp only [beq_iff_eq, beq_eq_false_iff_ne]
  refine ⟨fun g1 => ⟨fun g2 => ⟨a, b3.cells3, b, b4.cells3, ?_⟩, fun _ => j8 h (.refl _)⟩, fun _ => j8 h (.refl _)⟩
  have hst : Lib.compareBytes s.toList t.toList = cmpC a b := by
    rw [hs g1, ht g2, toList_data, toList_data]
    exact key_cmp (by rw [← he]; exact g1) (by rw [← hf]; exact g2) ia ib
  have hst2 := hst
  rw [cmpB_eq] at hst2
  refine Compare_spec fun h1 e1 => ?_
  have c1 : (Op.bytesLess s.toList t.toList == decide (cmpC a b < 0)) = true := by
    rw [← hst2]
    by_cases h : s.toList = t.toList
    · rw [if_pos h, h]
      have : Op.bytesLess t.toList t.toList = false := by
        generalize t.toList = l
        induction l with
        | nil => rfl
        | cons x r ih => simp [Op.bytesLess, ih, u8_irr]
      rw [this]; simp
    · rw [if_neg h]
      cases Op.bytesLess s.toList t.toList <;> simp
  rw [c1]
  refine ⟨(fun h => by cases h), fun _ => ⟨a, Blk.cells3 (e := 34) (e1.block b3 (fun f => f)), b, Blk.cells3 (e := 34) (e1.block b4 (fun f => f)), ?_⟩⟩
  refine Compare_spec fun h2 e2 => ?_
  have c2 : ((s.toList == t.toList) == (cmpC a b == 0)) = true := by
    rw [← hst]
    by_cases h : s.toList = t.toList
    · rw [cB_zero.2 h]; simp [h]
    · have h1 : (s.toList == t.toList) = false := by simp [h]
      have h2 : (Lib.compareBytes s.toList t.toList == 0) = false := by rw [beq_eq_false_iff_ne]; exact fun h' => h (cB_zero.1 h')
      rw [h1, h2]; rfl
  rw [c2]
  exact j8 h2 (e1.trans e2)
end
theorem MergeOrder_spec {h : H} {a b c : Cel} {Q : Bool → H → Prop} (ia : I64n a.Start) (ib : I64n b.Start) (k : ∀ h', Ext h h' → Q true h') : F.spatelaw8_MergeOrder a b c h Q := by
  unfold F.spatelaw8_MergeOrder
  refine new_of fun n h1 p1 b1 e1 z1 => new_of fun m h3 p3 b3 e3 z3 => new_of fun q h5 p5 b5 e5 z5 => ?_
  refine known8_spec fun h7 e7 => ⟨(fun h => by cases h), fun _ => ?_⟩
  have x7 := ((e1.trans e3).trans e5).trans e7
  have bn : Blk h7 n a.cells.toArray 34 := e7.block (e5.block (e3.block b1 (fun f => f)) (fun f => f)) (fun f => f)
  have bm : Blk h7 m b.cells.toArray 34 := e7.block (e5.block b3 (fun f => f)) (fun f => f)
  have bq : Blk h7 q c.cells.toArray 34 := e7.block b5 (fun f => f)
  refine ⟨a, bn.cells3, ?_⟩
  have rest : ∀ (s t : ByteArray) (e f : Int) (h17 : H), Ext h7 h17 → e = mayC a → f = mayC b → (e = 0 → s = ⟨(keyL a).toArray⟩) → (f = 0 → t = ⟨(keyL b).toArray⟩) →
      (((e == 0)) = true → F.merge_Cell s h17 fun r110 r111 h109 => new h109 (((⟨0, (⟨#[]⟩ : ByteArray), 0⟩ : S_api_Cell) : S_api_Cell).cells.toArray) ty_34 fun a113 h112 => stH h112 a113 r110.cells fun h114 =>
        (((r111 != 0)) = true → F.spatelaw8_MergeOrder.j9 Q ⟨n, 0, none⟩ ⟨m, 0, none⟩ ⟨q, 0, none⟩ s e t f true h114) ∧
        (((r111 != 0)) = false → ld_S_api_Cell h114 a113 fun y117 => ld_S_api_Cell h114 ⟨n, 0, none⟩ fun y119 => F.spatelaw8_MergeOrder.j9 Q ⟨n, 0, none⟩ ⟨m, 0, none⟩ ⟨q, 0, none⟩ s e t f (!((y117.View == y119.View) && ((y117.Key.toList == y119.Key.toList) && ((y117.Start == y119.Start) && true)))) h114)) ∧
      (((e == 0)) = false → F.spatelaw8_MergeOrder.j1 Q ⟨n, 0, none⟩ ⟨m, 0, none⟩ ⟨q, 0, none⟩ s e t f h17) := fun s t e f h17 x17 he hf hs ht => by
    refine ⟨fun g => ?_, fun g => order_j1 (x7.trans x17) (x17.block bn (fun f => f)) (x17.block bm (fun f => f)) (x17.block bq (fun f => f)) ia ib he hf hs ht k⟩
    rw [beq_iff_eq] at g
    have hm : mayC a = 0 := by rw [← he]; exact g
    obtain ⟨v0, v1, v2⟩ := may_view hm
    have hsz : s.size < 140737488355328 := by
      rw [hs g, size_data]
      have := escL_len a.Key.data.toList
      rw [← size_data] at this
      show (keyL a).length < _
      unfold keyL
      simp [beT_len]; omega
    refine Cell_spec hsz fun h18 x18 => ?_
    have hcm : cellM s.data.toList = (a, 0) := by rw [hs g]; exact cell_back hm ia
    rw [hcm]
    refine new_of fun r h21 p21 b21 e21 z21 => ?_
    refine st_cell (c := zeroC) (d := a) b21 fun h23 b23 o23 z23 => ?_
    have y23 : Ext h18 h23 := e21.step o23 fun m hm e => by omega
    have x23 : Ext h7 h23 := (x17.trans x18).trans y23
    refine ⟨fun g2 => by simp at g2, fun _ => ?_⟩
    have bn23 : Blk h23 n a.cells.toArray 34 := x23.block bn (fun f => f)
    refine ⟨a, b23.cells3, a, bn23.cells3, ?_⟩
    show F.spatelaw8_MergeOrder.j9 Q ⟨n, 0, none⟩ ⟨m, 0, none⟩ ⟨q, 0, none⟩ s e t f (!((a.View == a.View) && ((a.Key.toList == a.Key.toList) && ((a.Start == a.Start) && true)))) h23
    rw [show ((a.View == a.View) && ((a.Key.toList == a.Key.toList) && ((a.Start == a.Start) && true))) = true from by simp]
    unfold F.spatelaw8_MergeOrder.j9
    exact ⟨(fun h => by cases h), fun _ => order_j1 (x7.trans x23) bn23 (x23.block bm (fun f => f)) (x23.block bq (fun f => f)) ia ib he hf hs ht k⟩
  refine Key_spec (fun g h10 e10 => ⟨b, Blk.cells3 (e := 34) (e10.block bm (fun f => f)), ?_⟩) fun g h10 e10 => ⟨b, Blk.cells3 (e := 34) (e10.block bm (fun f => f)), ?_⟩
  · refine Key_spec (fun g2 h15 e15 => rest _ _ _ _ h15 (e10.trans e15) rfl rfl (fun h => absurd h g) (fun h => absurd h g2)) fun g2 h15 e15 => rest _ _ _ _ h15 (e10.trans e15) rfl g2.symm (fun h => absurd h g) fun _ => rfl
  · refine Key_spec (fun g2 h15 e15 => rest _ _ _ _ h15 (e10.trans e15) g.symm rfl (fun _ => rfl) (fun h => absurd h g2)) fun g2 h15 e15 => rest _ _ _ _ h15 (e10.trans e15) g.symm g2.symm (fun _ => rfl) fun _ => rfl
end Go.Proofs.Ytidpbnbjpglhfaa.V
