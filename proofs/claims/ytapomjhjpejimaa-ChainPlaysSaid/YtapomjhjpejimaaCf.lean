/- A chain's All and Clone, the law's own known, within and was; no condition. -/
import Derived.Test.YtapomjhjpejimaaCe
import Derived.Test.YtapomjhjpejimaaVm
namespace Go.Proofs.Ytapomjhjpejimaa.V
open Go
set_option linter.unusedVariables false
set_option linter.unusedSimpArgs false

theorem Clone_spec {h : H} {s : Sl} {L : List Ver} {Q : Sl → H → Prop} (rd : Reads h s 3 (L.flatMap (·.cells))) (hL : L.length < 1073741824)
    (k : ∀ r h', Owns h' r 76 3 (L.flatMap (·.cells)) → Ext h h' → (∀ b, r.blk = some b → h.size ≤ b) → Q r h') : F.slices_Clone_Slchain_version_int_chain_version_int s h Q := by
  have hl := rd_len ver_len (by omega) rd
  unfold F.slices_Clone_Slchain_version_int_chain_version_int
  refine ⟨fun g => ?_, fun g => ?_⟩
  · have h0 := (rd.2.1 (by simpa using g)).1
    have : L = [] := List.eq_nil_of_length_eq_zero (by omega)
    subst this
    exact k _ h (Owns.nil _ _ _) (.refl _) fun b hb => by simp [Sl.blk] at hb
  · refine newL_of fun n h1 e1 e2 e3 e4 => ?_
    refine app_of (ys := L.flatMap (·.cells)) el72 (blk_owns e2 rfl (Nat.zero_le _)) (rd.only e3 fun _ _ f => f) (fun v hv => by
      obtain ⟨x, _, hx⟩ := List.mem_flatMap.1 hv
      exact ones_S_chain_version_int x v hx) (by simp only; omega) fun r h2 r1 r2 r3 r4 => ?_
    refine k r h2 (by simpa using r1) (e3.step r3 fun m hm e => by simp [Sl.blk] at e; omega) fun b hb => ?_
    rcases r4 with r4 | ⟨b', r4, r5⟩
    · rw [r4] at hb; simp [Sl.blk] at hb; omega
    · rw [r4] at hb; cases hb; omega
theorem All_spec {h : H} {p : Nat} {L : List Ver} {B : Option Nat} {Q : Value → H → Prop} (c : Ch h p L B) (hL : L.length < 1073741824)
    (k : ∀ a r h', Blk h' a #[r.enc] 72 → Owns h' r 76 3 (L.flatMap (·.cells)) → h.size ≤ a → (∀ b, r.blk = some b → h.size ≤ b ∧ b ≠ a) → Ext h h' → Q (.func (.func 43) #[] #[.pointer (some ⟨a, 0, none⟩)]) h') : F.chain_Chain_int_All (some ⟨p, 0, none⟩) h Q := by
  obtain ⟨s, hb, ho, hB, hne⟩ := c
  have hc0 : cellH h ⟨p, 0, none⟩ = some s.enc := hb.cell rfl
  simp only [F.chain_Chain_int_All, nn_some, add_lit, Nat.add_zero, ldL_iff hc0]
  refine Clone_spec ho.reads hL fun r h1 r1 r2 r3 => ?_
  refine new_of fun n h2 e1 e2 e3 e4 => ?_
  refine stH_of e2 (by simp) fun h3 f1 f2 f3 => ?_
  rw [writeA_all (by simp)] at f1
  have hs := r2.size
  have ho2 := r1.only e3 fun _ _ f => f
  have hne2 : ∀ b, r.blk = some b → b ≠ n := fun b hb e => by have := r1.blk_lt hb; omega
  exact k n r h3 f1 (ho2.only f2 hne2) (by omega) (fun b hb => ⟨r3 b hb, hne2 b hb⟩) ((r2.trans e3).step f2 fun m hm e => by omega)
theorem known_spec {h : H} {Q : Bool → H → Prop} (k : ∀ h', Ext h h' → Q true h') : F.spatelaw5_known h Q := by
  unfold F.spatelaw5_known
  refine New_spec fun p h1 hp c1 e1 => ⟨(fun h => by cases h), fun _ => ?_⟩
  refine All_spec c1 (by simp) fun a r h2 a1 a2 a3 a4 e2 => ⟨.inr (.inl ⟨_, _, _, rfl⟩), ?_⟩
  unfold F.spatelaw5_known.j2
  refine ⟨(fun h => by cases h), fun _ => ?_⟩
  unfold F.spatelaw5_known.j1
  have hm : mayM [] 3 = 0 := by decide
  have hB := c1.ltB
  have hs2 := e2.size
  have hs1 := e1.size
  have hlay : layM [] (⟨3, 7, false⟩ : Ver) = [⟨3, 7, false⟩] := rfl
  refine Put_spec (c1.ext e2) (by simp) (fun g => absurd hm g) fun _ h3 B3 c3 o3 k3 => ?_
  rw [hlay] at c3
  have e3 : Ext h h3 := (e1.trans e2).step o3 fun n hn e => e.elim (fun e => by omega) (fun e => by cases e)
  refine At_spec c3 (by simp) (by simp) fun h4 e4 => ?_
  have hat : atM [(⟨3, 7, false⟩ : Ver)] 4 = (7, true) := by decide
  have hn : layN [] (⟨3, 7, false⟩ : Ver) = 1 := rfl
  rw [hat, hn]
  refine ⟨fun _ => ⟨fun _ => ⟨fun _ => ⟨fun _ => ?_, fun h => by cases h⟩, fun h => by cases h⟩, fun h => by cases h⟩, fun h => by cases h⟩
  refine Len_spec (c3.ext e4) ?_
  exact k h4 (e3.trans e4)
theorem within_spec {n m : Int} {h : H} {Q : Int → H → Prop} (h0 : 0 < m) (h1 : m < 4294967296) (k : ∀ r : Nat, (r : Int) < m → Q r h) : F.spatelaw5_within n m h Q := by
  unfold F.spatelaw5_within F.spatelaw5_within.j1
  have ha : Int.tmod n m < m := Int.tmod_lt_of_pos n h0
  have hb : -m < Int.tmod n m := by
    have := Int.lt_tmod_of_pos n h0
    omega
  simp only [decide_eq_true_eq, decide_eq_false_iff_not]
  refine ⟨by omega, fun g => ?_, fun g => ?_⟩
  · rw [w64 (by omega) (by omega)]
    have := k (Int.tmod n m + m).toNat (by omega)
    rwa [Int.toNat_of_nonneg (by omega)] at this
  · have := k (Int.tmod n m).toNat (by omega)
    rwa [Int.toNat_of_nonneg (by omega)] at this
theorem was_spec {h : H} {p : Nat} {L : List Ver} {B : Option Nat} {e a d nw : Nat} {Q : Bool → H → Prop} (c : Ch h p L B) (hr : Rise L) (hL : L.length < 1073741824) (ha : 0 < a) (hd : 0 < d) (he : e < 4294967296) (hn : nw < 4294967296)
    (hnw : (newestM L).2.1 = (nw : Int)) {i : Nat} (hi : i = if 0 < nw ∧ nw / a < e / a then nw / a else e / a) (hat : atM L e = if i = 0 ∨ i % d = 0 then (0, false) else ((i : Int), true))
    (k : ∀ h', Ext h h' → Q true h') : F.spatelaw5_was (some ⟨p, 0, none⟩) (e : Int) (a : Int) (d : Int) h Q := by
  unfold F.spatelaw5_was
  refine ⟨by omega, At_spec c hr hL fun h1 e1 => Newest_spec (c.ext e1) (by omega) fun h2 e2 => ?_⟩
  have k := k h2 (e1.trans e2)
  rw [hat, hnw]
  have t1 : Int.tdiv (e : Int) (a : Int) = ((e / a : Nat) : Int) := Int.ofNat_tdiv e a
  have t2 : Int.tdiv (nw : Int) (a : Int) = ((nw / a : Nat) : Int) := Int.ofNat_tdiv nw a
  have b1 : e / a ≤ e := Nat.div_le_self _ _
  have b2 : nw / a ≤ nw := Nat.div_le_self _ _
  rw [t1, t2]
  generalize hx : e / a = x at *
  generalize hy : nw / a = y at *
  rw [w64 (n := (x : Int)) (by omega) (by omega), w64 (n := (y : Int)) (by omega) (by omega)]
  -- the end, whichever place is looked at
  have hend : F.spatelaw5_was.j1 Q (d : Int) (i : Int) (if i = 0 ∨ i % d = 0 then ((0 : Int), false) else ((i : Int), true)).1 (if i = 0 ∨ i % d = 0 then ((0 : Int), false) else ((i : Int), true)).2 h2 := by
    unfold F.spatelaw5_was.j1 F.spatelaw5_was.j3 F.spatelaw5_was.j2
    have t3 : Int.tmod (i : Int) (d : Int) = ((i % d : Nat) : Int) := Int.ofNat_tmod i d
    rw [t3]
    by_cases hc : i = 0 ∨ i % d = 0
    · rw [if_pos hc]
      have hq : ∀ b : Bool, b = true → (b = true → (((!false) = true → Q ((0 : Int) == 0) h2) ∧ ((!false) = false → Q false h2))) := fun b hb _ => ⟨fun _ => k, fun h => by cases h⟩
      refine ⟨fun g => ⟨fun _ => ⟨fun _ => k, fun h => by cases h⟩, fun h => by cases h⟩, fun g => ⟨by omega, fun _ => ⟨fun _ => k, fun h => by cases h⟩, fun g2 => ?_⟩⟩
      exfalso
      rw [beq_eq_false_iff_ne] at g g2
      rcases hc with hc | hc <;> omega
    · rw [if_neg hc]
      have hq : (((i : Int)) == (i : Int)) = true := by simp
      refine ⟨fun g => ?_, fun g => ⟨by omega, fun g2 => ?_, fun g2 => ⟨fun _ => by rw [hq]; exact k, fun h => by cases h⟩⟩⟩
      · exfalso; rw [beq_iff_eq] at g; omega
      · exfalso; rw [beq_iff_eq] at g2; omega
  unfold F.spatelaw5_was.j4
  simp only [decide_eq_true_eq, decide_eq_false_iff_not, t2, w64 (n := (y : Int)) (by omega) (by omega)]
  by_cases g1 : 0 < nw
  · refine ⟨fun _ => ⟨by omega, fun g2 => ⟨by omega, ?_⟩, fun g2 => ?_⟩, fun g => by omega⟩
    · rw [if_pos ⟨g1, by omega⟩] at hi; subst hi; exact hend
    · rw [if_neg (by omega)] at hi; subst hi; exact hend
  · refine ⟨fun g => by omega, fun _ => ⟨(fun h => by cases h), fun _ => ?_⟩⟩
    rw [if_neg (by omega)] at hi; subst hi; exact hend
end Go.Proofs.Ytapomjhjpejimaa.V
