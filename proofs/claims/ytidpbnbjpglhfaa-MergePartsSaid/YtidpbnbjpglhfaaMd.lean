/- The law MergeBack answers true: what Cell takes is Key's text; no condition. -/
import Derived.Test.YtidpbnbjpglhfaaMc
namespace Go.Proofs.Ytidpbnbjpglhfaa.V
open Go
set_option linter.unusedVariables false
set_option linter.unusedSimpArgs false

/-! ### The law's own known -/
theorem known8_spec {h : H} {Q : Bool → H → Prop} (k : ∀ h', Ext h h' → Q true h') : F.spatelaw8_known h Q := by
  unfold F.spatelaw8_known
  have hm : mayC (⟨0, ⟨#[97]⟩, 0⟩ : Cel) = 0 := by decide
  refine Key_spec (fun g => absurd hm g) fun _ h1 e1 => ?_
  have hkey : keyL (⟨0, ⟨#[97]⟩, 0⟩ : Cel) = [0, 97, 0, 1, 128, 0, 0, 0, 0, 0, 0, 0] := by decide +kernel
  have hcel : cellM [0, 97, 0, 1, 128, 0, 0, 0, 0, 0, 0, 0] = (⟨0, ⟨#[97]⟩, 0⟩, 0) := by kernel_rfl
  refine Cell_spec (by decide) fun h2 e2 => ?_
  rw [show (⟨#[0, 97, 0, 1, 128, 0, 0, 0, 0, 0, 0, 0]⟩ : ByteArray).data.toList = [0, 97, 0, 1, 128, 0, 0, 0, 0, 0, 0, 0] from rfl, hcel, hkey]
  refine new_of fun n h3 a1 a2 a3 a4 => ?_
  refine st_cell (c := zeroC) a2 fun h4 b1 b2 b3 => ?_
  refine newL_of fun n5 h5 c1 c2 c3 c4 => ?_
  refine newL_of fun n6 h6 d1 d2 d3 d4 => ?_
  refine newL_of fun n7 h7 f1 f2 f3 f4 => ?_
  have x4 : Ext h h4 := ((e1.trans e2).trans a3).step b2 fun m hm e => by have := (e1.trans e2).size; omega
  have x7 : Ext h4 h7 := (c3.trans d3).trans f3
  have l1 : Lst h7 ⟨some ⟨n5, 0, none⟩, 3, 3⟩ cI [1, 3, 3] := ⟨(blk_reads (size := 1) (m := 3) (show Blk h5 n5 (([1, 3, 3] : List Int).flatMap cI).toArray 3 from c2) rfl).ext (d3.trans f3), Nat.le_refl _⟩
  have l2 : Lst h7 ⟨some ⟨n6, 0, none⟩, 2, 2⟩ cI [2, 3] := ⟨(blk_reads (size := 1) (m := 2) (show Blk h6 n6 (([2, 3] : List Int).flatMap cI).toArray 3 from d2) rfl).ext f3, Nat.le_refl _⟩
  have l3 : Lst h7 ⟨some ⟨n7, 0, none⟩, 2, 2⟩ cS [⟨some ⟨n5, 0, none⟩, 3, 3⟩, ⟨some ⟨n6, 0, none⟩, 2, 2⟩] := ⟨blk_reads (size := 1) (m := 2) (show Blk h7 n7 (([⟨some ⟨n5, 0, none⟩, 3, 3⟩, ⟨some ⟨n6, 0, none⟩, 2, 2⟩] : List Sl).flatMap cS).toArray 23 from f2) rfl, Nat.le_refl _⟩
  refine Lists_int_spec (LL := [[1, 3, 3], [2, 3]]) l3 ⟨rfl, fun i s A g1 g2 => ?_⟩ (by decide) (by decide) (fun b hb => by simp [Sl.blk] at hb; omega) fun r h8 q1 q2 q3 => ?_
  · match i, g1, g2 with
    | 0, g1, g2 => simp at g1 g2; subst g1; subst g2; exact ⟨l1, fun b hb => by simp [Sl.blk] at hb; omega⟩
    | 1, g1, g2 => simp at g1 g2; subst g1; subst g2; exact ⟨l2, fun b hb => by simp [Sl.blk] at hb; omega⟩
    | i + 2, g1, g2 => simp at g1
  · have hres : listsM leI (([[1, 3, 3], [2, 3]] : List (List Int)).length + 1) [[1, 3, 3], [2, 3]] = [1, 2, 3] := by decide +kernel
    rw [hres] at q1
    have lr := q1.lst
    have hrl := lr.len cI_len
    have bl8 : Blk h8 n (⟨0, ⟨#[97]⟩, 0⟩ : Cel).cells.toArray 34 := (x7.trans q2).block b1 (fun f => f)
    have hend := k h8 ((x4.trans x7).trans q2)
    refine ⟨fun _ => ⟨fun _ => ⟨fun _ => ⟨_, bl8.cells3, fun _ => ⟨fun _ => ?_, fun g => ?_⟩, fun g => ?_⟩, fun g => ?_⟩, fun g => by cases g⟩, fun g => by cases g⟩
    · refine lr.get cI_len (i := 0) (x := 1) rfl rfl fun a ha => ?_
      rw [ldI_iff ha.one]
      refine ⟨fun _ => ?_, fun g => by cases g⟩
      refine lr.get cI_len (i := 1) (x := 2) rfl rfl fun a ha => ?_
      rw [ldI_iff ha.one]
      refine ⟨fun _ => ?_, fun g => by cases g⟩
      refine lr.get cI_len (i := 2) (x := 3) rfl rfl fun a ha => ?_
      rw [ldI_iff ha.one]
      exact hend
    · rw [hrl] at g; cases g
    · exact absurd g (by decide +kernel)
    · exact absurd g (by decide +kernel)

/-! ### What Cell takes is Key's text -/
theorem unesc_inv : ∀ (n : Nat) (l : List UInt8) (p : List UInt8 × List UInt8), l.length ≤ n → unesc l = .ok p → l = escL p.1 ++ [0, 1] ++ p.2
  | 0, l, p, hn, h => by
    have : l = [] := List.eq_nil_of_length_eq_zero (by omega)
    subst this; simp [unesc] at h
  | n + 1, [], p, hn, h => by simp [unesc] at h
  | n + 1, b :: r, p, hn, h => by
    unfold unesc at h
    simp only [List.length_cons] at hn
    split at h
    · rename_i hb
      split at h
      · rename_i q hq
        have := unesc_inv n r q (by omega) hq
        simp only [Except.ok.injEq] at h; subst h
        simp only [escL, if_neg hb]
        rw [this]; simp
      · cases h
    · rename_i hb
      have hb : b = 0 := Classical.not_not.1 (by simpa using hb)
      subst hb
      split at h
      · cases h
      · rename_i x r'
        simp only [List.length_cons] at hn
        split at h
        · rename_i hx
          subst hx
          simp only [Except.ok.injEq] at h; subst h; simp [escL]
        · split at h
          · cases h
          · rename_i hx
            have hx : x = 255 := Classical.not_not.1 (by simpa using hx)
            subst hx
            split at h
            · rename_i q hq
              have := unesc_inv n r' q (by omega) hq
              simp only [Except.ok.injEq] at h; subst h
              simp only [escL, if_true]
              rw [this]; simp
            · cases h
theorem beV_div : ∀ (r : List UInt8) (w : Nat), beV w r / 2 ^ (8 * r.length) = w
  | [], w => by simp [beV]
  | b :: r, w => by
    have hb := b.toNat_lt
    have := beV_div r (w * 256 + b.toNat)
    rw [beV, List.length_cons, show 8 * (r.length + 1) = 8 * r.length + 8 from by omega, Nat.pow_add, ← Nat.div_div_eq_div_mul, this]
    omega
theorem beT_mod : ∀ (j u : Nat) (v : Nat), u % 2 ^ (8 * j) = v % 2 ^ (8 * j) → beT u j = beT v j
  | 0, u, v, _ => rfl
  | j + 1, u, v, h => by
    have e : (2 : Nat) ^ (8 * (j + 1)) = 2 ^ (8 * j) * 256 := by rw [show 8 * (j + 1) = 8 * j + 8 from by omega, Nat.pow_add]
    rw [e] at h
    have h1 : u / 2 ^ (8 * j) % 256 = v / 2 ^ (8 * j) % 256 := by rw [← Nat.mod_mul_right_div_self, ← Nat.mod_mul_right_div_self, h]
    have h2 : u % 2 ^ (8 * j) = v % 2 ^ (8 * j) := by
      have := congrArg (· % 2 ^ (8 * j)) h
      simpa [Nat.mod_mul_right_mod] using this
    simp only [beT]
    rw [beT_mod j u v h2]
    congr 1
    apply UInt8.toNat_inj.1
    simpa using h1
theorem beT_beV : ∀ (t : List UInt8) (u : Nat), beT (beV u t) t.length = t
  | [], u => rfl
  | b :: r, u => by
    have h1 := beV_div r (u * 256 + b.toNat)
    simp only [List.length_cons, beT, beV, h1, beT_beV r]
    congr 1
    apply UInt8.toNat_inj.1
    have hb := b.toNat_lt
    simp
theorem beV_lt : ∀ (t : List UInt8) (u n : Nat), u < 2 ^ n → beV u t < 2 ^ (n + 8 * t.length)
  | [], u, n, h => by simpa [beV] using h
  | b :: r, u, n, h => by
    have hb := b.toNat_lt
    have := beV_lt r (u * 256 + b.toNat) (n + 8) (by rw [Nat.pow_add]; omega)
    rw [beV, List.length_cons, show n + 8 * (r.length + 1) = n + 8 + 8 * r.length from by omega]; exact this
theorem upU_startOf {u : Nat} (h : u < 18446744073709551616) : upU (startOf u) = u := by
  have : ((upU (startOf u) : Nat) : Int) = u := by
    rw [upU_eq, wrap_u64, wrap_u64]
    unfold startOf
    rw [wrap_u64]
    unfold IntKind.wrap
    simp [IntKind.bits, IntKind.signed]
    omega
  omega
theorem cell_key {s : List UInt8} {c : Cel} (h : cellM s = (c, 0)) : mayC c = 0 ∧ keyL c = s := by
  cases s with
  | nil => simp [cellM] at h
  | cons v r =>
    rw [cellM_cons] at h
    cases hu : unesc r with
    | error e =>
      rw [hu] at h
      simp only [Prod.mk.injEq] at h
      obtain ⟨h1, h2⟩ := h
      subst h2
      exfalso
      have : ∀ (n : Nat) (l : List UInt8), l.length ≤ n → unesc l ≠ .error 0 := by
        intro n
        induction n with
        | zero => intro l hl he; have : l = [] := List.eq_nil_of_length_eq_zero (by omega); subst this; simp [unesc] at he
        | succ n ih =>
          intro l hl he
          cases l with
          | nil => simp [unesc] at he
          | cons b r =>
            unfold unesc at he
            simp only [List.length_cons] at hl
            split at he
            · split at he
              · cases he
              · rename_i e' hq; simp only [Except.error.injEq] at he; subst he; exact ih r (by omega) hq
            · split at he
              · simp at he
              · rename_i x r'
                simp only [List.length_cons] at hl
                split at he
                · cases he
                · split at he
                  · simp at he
                  · split at he
                    · cases he
                    · rename_i e' hq; simp only [Except.error.injEq] at he; subst he; exact ih r' (by omega) hq
      exact this _ r (Nat.le_refl _) hu
    | ok p =>
      rw [hu] at h
      simp only [finC] at h
      split at h
      · simp at h
      · split at h
        · simp at h
        · split at h
          · rename_i hm
            simp only [Prod.mk.injEq] at h
            exact absurd h.2 hm
          · rename_i h8 h8' hm
            have hm : mayC ⟨(v.toNat : Int), ⟨p.1.toArray⟩, startOf (beV 0 p.2)⟩ = 0 := Classical.not_not.1 hm
            simp only [Prod.mk.injEq, and_true] at h
            subst h
            refine ⟨hm, ?_⟩
            have hl : p.2.length = 8 := by omega
            have hi := unesc_inv _ r p (Nat.le_refl _) hu
            have hlt : beV 0 p.2 < 18446744073709551616 := by
              have := beV_lt p.2 0 0 (by decide)
              rw [hl] at this; exact this
            have hb := beT_beV p.2 0
            rw [hl] at hb
            unfold keyL
            simp only
            rw [upU_startOf hlt, hb, hi]
            simp
/-- What is not taken is no cell. -/
theorem cell_none {s : List UInt8} (h : (cellM s).2 ≠ 0) : (cellM s).1 = zeroC := by
  cases s with
  | nil => rfl
  | cons v r =>
    rw [cellM_cons] at h ⊢
    cases hu : unesc r with
    | error e => rfl
    | ok p =>
      rw [hu] at h
      simp only [finC] at h ⊢
      split
      · rfl
      · split
        · rfl
        · split
          · rfl
          · rename_i h1 h2 h3; rw [if_neg h1, if_neg h2, if_neg h3] at h; exact absurd rfl h
theorem MergeBack_spec {h0 : H} {p0 : ByteArray} {Q : Bool → H → Prop} (hs : p0.size < 140737488355328) (k : ∀ h', Ext h0 h' → Q true h') : F.spatelaw8_MergeBack p0 h0 Q := by
  unfold F.spatelaw8_MergeBack
  refine known8_spec fun h1 e1 => ⟨(fun h => by cases h), fun _ => ?_⟩
  refine Cell_spec hs fun h2 e2 => ?_
  have hck := fun c => cell_key (s := p0.data.toList) (c := c)
  have hcn := cell_none (s := p0.data.toList)
  generalize cellM p0.data.toList = R at *
  obtain ⟨c, e⟩ := R
  simp only at *
  refine new_of fun n h3 a1 a2 a3 a4 => ?_
  refine st_cell (c := zeroC) (d := c) a2 fun h4 b1 b2 b3 => ?_
  have x2 := e1.trans e2
  have x4 : Ext h0 h4 := (x2.trans a3).step b2 fun m hm e => by have := x2.size; omega
  rw [bne_iff_ne, bne_eq_false_iff_eq]
  refine ⟨fun g => ⟨c, b1.cells3, ?_⟩, fun g => ⟨c, b1.cells3, ?_⟩⟩
  · have := hcn g
    subst this
    have hb : ((zeroC.View == 0) && ((zeroC.Key.toList == (⟨#[]⟩ : ByteArray).toList) && ((zeroC.Start == 0) && true))) = true := by simp [zeroC]
    exact (congrArg (fun b => Q b h4) hb).mpr (k h4 x4)
  · subst g
    obtain ⟨hm, hk⟩ := hck c rfl
    refine Key_spec (fun g => absurd hm g) fun _ h5 e5 => ⟨fun _ => ?_, fun g => by cases g⟩
    have : (p0.toList == (⟨(keyL c).toArray⟩ : ByteArray).toList) = true := by rw [beq_iff_eq, toList_data, toList_data, hk]
    rw [this]
    exact k h5 (x4.trans e5)
end Go.Proofs.Ytidpbnbjpglhfaa.V
