/- The law TableGreat answers true; no condition. -/
import Derived.Test.YtkedkajdiclmjaaTi
namespace Go.Proofs.Ytkedkajdiclmjaa.V
open Go
set_option linter.unusedVariables false
set_option linter.unusedSimpArgs false

def drp (ev j : Nat) : Bool := decide (1 < ev) && decide (j % ev = 0)
def cN (ev : Nat) : Nat → Nat
  | 0 => 0
  | i + 1 => cN ev i + (if drp ev i then 0 else 1)
theorem cN_le (ev : Nat) : ∀ i, cN ev i ≤ i
  | 0 => Nat.le_refl _
  | i + 1 => by have := cN_le ev i; unfold cN; split <;> omega
def GA (salt : ByteArray) (T : Tb Int) (f : Nat → Bool) : Prop := ∀ j, j < 40000 → getM T (nameM j salt) = if f j then some (j : Int) else none
section
variable {h0 : H} {n : Nat} {Q : Bool → H → Prop} {X ev : Nat} {salt : ByteArray}
theorem great_j6 {C1 : Int → Int → ByteArray → Option Addr → Int → Int → Int → H → Prop} {h : H} {rs es : Sl} {T : Tb Int} {i : Nat} (t : TH h n rs es T) (hi : i < 40000)
    (k : C1 (X : Int) (ev : Int) salt (some ⟨n, 0, none⟩) (T.row.length : Int) (T.count : Int) ((i + 1 : Nat) : Int) h) :
    F.spatelaw6_TableGreat.j6 Q C1 (X : Int) (ev : Int) salt (some ⟨n, 0, none⟩) (T.row.length : Int) (T.count : Int) (i : Int) h := by
  unfold F.spatelaw6_TableGreat.j6
  refine Len_spec t ?_
  refine ⟨fun g => by simp at g, fun _ => ?_⟩
  refine Slots_spec t ?_
  unfold F.spatelaw6_TableGreat.j7
  refine ⟨fun g => by simp at g, fun _ => ?_⟩
  unfold F.spatelaw6_TableGreat.j4
  rw [w64 (by omega) (by omega)]
  exact k
theorem tmod_nat (i ev : Nat) : Int.tmod (i : Int) (ev : Int) = ((i % ev : Nat) : Int) := (Int.ofNat_tmod i ev).symm
theorem great3 (hs : salt.size ≤ 100) (hX : X ≤ 30000) (k : ∀ h', Ext h0 h' → Q true h') : ∀ (m i : Nat) (h : H) (rs es : Sl) (T : Tb Int) (x8 : Int), TH h n rs es T → TOk T → Kept h0 h n rs es → i ≤ X → X - i < m → T.count + cN ev i = cN ev X → (T.row.length : Int) = x8 → leftT T = 0 → GA salt T (fun j => decide (i ≤ j ∧ j < X ∧ drp ev j = false)) →
    F.spatelaw6_TableGreat.l15 Q m (X : Int) salt (some ⟨n, 0, none⟩) x8 (cN ev X : Int) (cN ev i : Int) (i : Int) h
  | 0, i, h, rs, es, T, x8, t, ok, kp, h1, h2, hc, hr, hl, hg => by omega
  | m + 1, i, h, rs, es, T, x8, t, ok, kp, h1, h2, hc, hr, hl, hg => by
    unfold F.spatelaw6_TableGreat.l15
    simp only [decide_eq_true_eq, decide_eq_false_iff_not]
    refine ⟨fun g => ?_, fun g => ?_⟩
    · refine name_spec hs (by omega) fun h3 e3 => ?_
      have t3 := t.ext e3
      obtain ⟨T', p1, p2, p3, p4, p5, p6, p7⟩ := drop_ok (z := (0 : Int)) ok (nameM i salt)
      refine Drop_spec t3 ok (name_small (by omega) hs) p1 fun h4 es4 t4 s4 => ?_
      have hgi := hg i (by omega)
      have hcl := cN_le ev i
      have kp4 := (kp.add e3).step s4
      have hg' : GA salt T' (fun j => decide (i + 1 ≤ j ∧ j < X ∧ drp ev j = false)) := fun j hj => by
        rw [p4]
        by_cases hji : j = i
        · subst hji
          rw [if_pos rfl, if_neg (fun e => by simp only [decide_eq_true_eq] at e; omega)]
        · rw [if_neg (fun e => hji (name_inj e)), hg j hj]
          have : decide (i ≤ j ∧ j < X ∧ drp ev j = false) = decide (i + 1 ≤ j ∧ j < X ∧ drp ev j = false) := by
            rw [decide_eq_decide]
            exact ⟨fun ⟨a, b, c⟩ => ⟨by omega, b, c⟩, fun ⟨a, b, c⟩ => ⟨by omega, b, c⟩⟩
          simp only [this]
      have hcs : cN ev (i + 1) = cN ev i + (if drp ev i then 0 else 1) := rfl
      cases hd : drp ev i with
      | true =>
        rw [hd] at hcs
        have hv : getM T (nameM i salt) = none := by rw [hgi]; simp [hd]
        rw [hv] at p5 ⊢
        refine ⟨fun g => (by cases g), fun _ => ?_⟩
        unfold F.spatelaw6_TableGreat.j18
        refine ⟨fun g => (by cases g), fun _ => ?_⟩
        unfold F.spatelaw6_TableGreat.j17
        refine ⟨fun g => (by cases g), fun _ => ?_⟩
        unfold F.spatelaw6_TableGreat.j16
        rw [w64 (by omega) (by omega), show (i : Int) + 1 = ((i + 1 : Nat) : Int) from by omega, show (cN ev i : Int) = (cN ev (i + 1) : Int) from by simp at hcs; omega]
        exact great3 hs hX k m (i + 1) h4 rs es4 T' x8 t4 p2 kp4 (by omega) (by omega) (by simp at p5 hcs; omega) (by rw [p6]; exact hr) (by omega) hg'
      | false =>
        rw [hd] at hcs
        have hv : getM T (nameM i salt) = some (i : Int) := by rw [hgi]; simp [hd]; omega
        have hpos : 1 ≤ T.count := by
          have hm : ∀ j, i + 1 ≤ j → cN ev (i + 1) ≤ cN ev j := fun j => by
            induction j with
            | zero => intro h; omega
            | succ j ih =>
              intro h
              by_cases hj : i = j
              · subst hj; exact Nat.le_refl _
              · have := ih (by omega)
                have : cN ev j ≤ cN ev (j + 1) := Nat.le_add_right _ _
                omega
          have := hm X (by omega)
          simp at hcs; omega
        rw [hv] at p5 ⊢
        refine ⟨fun _ => ?_, fun g => by cases g⟩
        unfold F.spatelaw6_TableGreat.j18
        simp only [Option.getD_some, Option.isSome_some, bne_self_eq_false]
        refine ⟨fun g => (by cases g), fun _ => ?_⟩
        unfold F.spatelaw6_TableGreat.j17
        refine ⟨fun _ => ?_, fun g => by cases g⟩
        unfold F.spatelaw6_TableGreat.j16
        rw [w64 (by omega) (by omega), w64 (by omega) (by omega), show (i : Int) + 1 = ((i + 1 : Nat) : Int) from by omega, show (cN ev i : Int) + 1 = (cN ev (i + 1) : Int) from by simp at hcs; omega]
        exact great3 hs hX k m (i + 1) h4 rs es4 T' x8 t4 p2 kp4 (by omega) (by omega) (by simp at p5 hcs; omega) (by rw [p6]; exact hr) (by omega) hg'
    · have hi : i = X := by omega
      subst hi
      simp only [beq_self_eq_true]
      refine ⟨fun _ => ?_, fun g => by cases g⟩
      refine Len_spec t ?_
      rw [show T.count = 0 from by omega]
      refine ⟨fun _ => ?_, fun g => by simp at g⟩
      refine Slots_spec t ?_
      rw [hr]
      simp only [beq_self_eq_true]
      refine ⟨fun _ => ?_, fun g => by cases g⟩
      refine Left_spec t ?_
      rw [hl]
      exact k h kp.ext
theorem great2 (hs : salt.size ≤ 100) (hX : X ≤ 30000) (k : ∀ h', Ext h0 h' → Q true h') : ∀ (m i : Nat) (h : H) (rs es : Sl) (T : Tb Int) (x8 : Int), TH h n rs es T → TOk T → Kept h0 h n rs es → i ≤ X → X - i < m → T.count = cN ev X → (T.row.length : Int) = x8 → GA salt T (fun j => decide (0 ≤ j ∧ j < X ∧ drp ev j = false)) →
    F.spatelaw6_TableGreat.l11 Q m (X : Int) (ev : Int) salt (some ⟨n, 0, none⟩) x8 (cN ev X : Int) (i : Int) h
  | 0, i, h, rs, es, T, x8, t, ok, kp, h1, h2, hc, hr, hg => by omega
  | m + 1, i, h, rs, es, T, x8, t, ok, kp, h1, h2, hc, hr, hg => by
    unfold F.spatelaw6_TableGreat.l11
    simp only [decide_eq_true_eq, decide_eq_false_iff_not]
    refine ⟨fun g => ?_, fun g => ?_⟩
    · refine name_spec hs (by omega) fun h3 e3 => ?_
      have t3 := t.ext e3
      refine Get_spec t3 ok (name_small (by omega) hs) fun h4 e4 => ?_
      have hgi := hg i (by omega)
      have t4 := t3.ext e4
      have kp4 := (kp.add e3).add e4
      have go : F.spatelaw6_TableGreat.j12 Q (F.spatelaw6_TableGreat.l11 Q m) (X : Int) (ev : Int) salt (some ⟨n, 0, none⟩) x8 (cN ev X : Int) (i : Int) h4 := by
        unfold F.spatelaw6_TableGreat.j12
        rw [w64 (by omega) (by omega), show (i : Int) + 1 = ((i + 1 : Nat) : Int) from by omega]
        exact great2 hs hX k m (i + 1) h4 rs es T x8 t4 ok kp4 (by omega) (by omega) hc hr hg
      have tell : F.spatelaw6_TableGreat.j13 Q (F.spatelaw6_TableGreat.l11 Q m) (X : Int) (ev : Int) salt (some ⟨n, 0, none⟩) x8 (cN ev X : Int) (i : Int) ((getM T (nameM i salt)).getD 0) (getM T (nameM i salt)).isSome (drp ev i) h4 := by
        cases hd : drp ev i with
        | true =>
          have hgi2 : getM T (nameM i salt) = none := by rw [hgi]; exact if_neg (by simp [hd])
          rw [hgi2]
          unfold F.spatelaw6_TableGreat.j13
          refine ⟨fun g => (by cases g), fun _ => ⟨fun g => (by cases g), fun _ => ?_⟩⟩
          unfold F.spatelaw6_TableGreat.j14
          exact ⟨fun g => (by cases g), fun _ => go⟩
        | false =>
          have hgi2 : getM T (nameM i salt) = some (i : Int) := by rw [hgi]; exact if_pos (by simp [hd]; omega)
          rw [hgi2]
          unfold F.spatelaw6_TableGreat.j13
          refine ⟨fun g => (by cases g), fun _ => ⟨fun _ => ?_, fun g => by cases g⟩⟩
          unfold F.spatelaw6_TableGreat.j14
          simp only [Option.getD_some, bne_self_eq_false]
          exact ⟨fun g => (by cases g), fun _ => go⟩
      refine ⟨fun g2 => ⟨by omega, ?_⟩, fun g2 => ?_⟩
      · rw [tmod_nat]
        have : (((i % ev : Nat) : Int) == 0) = drp ev i := by
          unfold drp
          rw [decide_eq_true (show 1 < ev by omega), Bool.true_and, Bool.eq_iff_iff]
          simp only [beq_iff_eq, decide_eq_true_eq]
          omega
        rw [this]; exact tell
      · have : false = drp ev i := by
          unfold drp
          rw [decide_eq_false (show ¬ 1 < ev by omega), Bool.false_and]
        rw [this]; exact tell
    · have hi : i = X := by omega
      subst hi
      refine Left_spec t ?_
      have hbe := t.be
      simp only [BIG] at hbe
      obtain ⟨T', m1, m2, m3, m4, m5, m6, m7⟩ := move_ok (z := (0 : Int)) ok ((leftT T : Nat) : Int)
      refine Move_spec t m1 (by unfold leftT; omega) fun h3 es3 t3 s3 => ?_
      refine ⟨i + 1, ?_⟩
      have := great3 (Q := Q) (ev := ev) hs hX k (i + 1) 0 h3 rs es3 T' x8 t3 m2 (kp.step s3) (by omega) (by omega) (by show T'.count + 0 = _; omega) (by rw [m5]; exact hr) (by rw [m4]; simp) fun j hj => by rw [m7, hg j hj]
      exact this
theorem great1 (hs : salt.size ≤ 100) (hX : X ≤ 30000) (k : ∀ h', Ext h0 h' → Q true h') : ∀ (m i : Nat) (h : H) (rs es : Sl) (T : Tb Int), TH h n rs es T → TOk T → Kept h0 h n rs es → i ≤ X → X - i < m → T.count = cN ev i → T.row.length ≤ 100000 → GA salt T (fun j => decide (j < i ∧ drp ev j = false)) →
    F.spatelaw6_TableGreat.l3 Q m (X : Int) (ev : Int) salt (some ⟨n, 0, none⟩) (T.row.length : Int) (T.count : Int) (i : Int) h
  | 0, i, h, rs, es, T, t, ok, kp, h1, h2, hc, hr, hg => by omega
  | m + 1, i, h, rs, es, T, t, ok, kp, h1, h2, hc, hr, hg => by
    unfold F.spatelaw6_TableGreat.l3
    simp only [decide_eq_true_eq, decide_eq_false_iff_not]
    have hcl := cN_le ev i
    refine ⟨fun g => ?_, fun g => ?_⟩
    · rw [w64 (n := (T.count : Int) + 1) (by omega) (by omega), w64 (by omega) (by omega), w64 (by omega) (by omega), w64 (by omega) (by omega)]
      obtain ⟨T', p1, p2, p3, p4, p5, p6⟩ := put_ok (z := (0 : Int)) ok (nameM i salt) (i : Int)
      have hv : getM T (nameM i salt) = none := by rw [hg i (by omega)]; simp
      rw [hv] at p5
      simp only [Option.isSome_none, Bool.false_eq_true, if_false] at p5
      have hrow : T'.row.length = if 4 * (T.count + 1) > 3 * T.row.length then 2 * T.row.length else T.row.length := by
        rcases p6 with ⟨_, a, b, _⟩ | ⟨a | a, b, _⟩
        · rw [if_pos a]; exact b
        · rw [hv] at a; cases a
        · rw [if_neg (by omega)]; exact b
      have hr' : T'.row.length ≤ 100000 := by rw [hrow]; split <;> omega
      have go : F.spatelaw6_TableGreat.j5 Q (F.spatelaw6_TableGreat.l3 Q m) (X : Int) (ev : Int) salt (some ⟨n, 0, none⟩) (T'.row.length : Int) (T.count : Int) (i : Int) h := by
        unfold F.spatelaw6_TableGreat.j5
        refine name_spec hs (by omega) fun h3 e3 => ?_
        have t3 := t.ext e3
        refine Put_spec t3 ok (name_small (by omega) hs) p1 (by simp only [BIG]; omega) (by simp only [BIG]; omega) fun h4 rs4 es4 t4 s4 => ?_
        have kp4 := (kp.add e3).step s4
        rw [w64 (n := (T.count : Int) + 1) (by omega) (by omega), show (T.count : Int) + 1 = ((T'.count : Nat) : Int) from by omega]
        have hg4 : GA salt T' (fun j => decide (j < i + 1 ∧ (j = i ∨ drp ev j = false))) := fun j hj => by
          rw [p4]
          by_cases hji : j = i
          · subst hji
            rw [if_pos rfl]; simp
          · rw [if_neg (fun e => hji (name_inj e)), hg j hj]
            have : decide (j < i ∧ drp ev j = false) = decide (j < i + 1 ∧ (j = i ∨ drp ev j = false)) := by
              rw [decide_eq_decide]
              exact ⟨fun ⟨a, b⟩ => ⟨by omega, .inr b⟩, fun ⟨a, b⟩ => ⟨by omega, b.resolve_left hji⟩⟩
            simp only [this]
        have hcs : cN ev (i + 1) = cN ev i + (if drp ev i then 0 else 1) := rfl
        have tail : F.spatelaw6_TableGreat.j8 Q (F.spatelaw6_TableGreat.l3 Q m) (X : Int) (ev : Int) salt (some ⟨n, 0, none⟩) (T'.row.length : Int) (T'.count : Int) (i : Int) (drp ev i) h4 := by
          unfold F.spatelaw6_TableGreat.j8
          cases hd : drp ev i with
          | false =>
            rw [hd] at hcs
            refine ⟨fun g => (by cases g), fun _ => ?_⟩
            refine great_j6 t4 (by omega) ?_
            refine great1 hs hX k m (i + 1) h4 rs4 es4 T' t4 p2 kp4 (by omega) (by omega) (by simp at hcs; omega) hr' fun j hj => ?_
            rw [hg4 j hj]
            have : decide (j < i + 1 ∧ (j = i ∨ drp ev j = false)) = decide (j < i + 1 ∧ drp ev j = false) := by
              rw [decide_eq_decide]
              refine ⟨fun ⟨a, b⟩ => ⟨a, ?_⟩, fun ⟨a, b⟩ => ⟨a, .inr b⟩⟩
              rcases b with rfl | b
              · exact hd
              · exact b
            simp only [this]
          | true =>
            rw [hd] at hcs
            refine ⟨fun _ => ?_, fun g => by cases g⟩
            refine name_spec hs (by omega) fun h5 e5 => ?_
            have t5 := t4.ext e5
            obtain ⟨T2, q1, q2, q3, q4, q5, q6, q7⟩ := drop_ok (z := (0 : Int)) p2 (nameM i salt)
            refine Drop_spec t5 p2 (name_small (by omega) hs) q1 fun h6 es6 t6 s6 => ?_
            have hv2 : getM T' (nameM i salt) = some (i : Int) := by rw [p4, if_pos rfl]
            rw [hv2] at q5 ⊢
            simp only [Option.getD_some, Option.isSome_some, bne_self_eq_false, if_true] at q5 ⊢
            refine ⟨fun g => (by cases g), fun _ => ?_⟩
            unfold F.spatelaw6_TableGreat.j10
            refine ⟨fun g => by simp at g, fun _ => ?_⟩
            unfold F.spatelaw6_TableGreat.j9
            rw [w64 (by omega) (by omega), show (T'.count : Int) - 1 = ((T2.count : Nat) : Int) from by omega, ← q6]
            refine great_j6 t6 (by omega) ?_
            refine great1 hs hX k m (i + 1) h6 rs4 es6 T2 t6 q2 ((kp4.add e5).step s6) (by omega) (by omega) (by simp at hcs; omega) (by omega) fun j hj => ?_
            rw [q4]
            by_cases hji : j = i
            · subst hji
              rw [if_pos rfl]; simp [hd]
            · rw [if_neg (fun e => hji (name_inj e)), hg4 j hj]
              have : decide (j < i + 1 ∧ (j = i ∨ drp ev j = false)) = decide (j < i + 1 ∧ drp ev j = false) := by
                rw [decide_eq_decide]
                exact ⟨fun ⟨a, b⟩ => ⟨a, b.resolve_left hji⟩, fun ⟨a, b⟩ => ⟨a, .inr b⟩⟩
              simp only [this]
        simp only [decide_eq_true_eq, decide_eq_false_iff_not]
        refine ⟨fun g2 => ⟨by omega, ?_⟩, fun g2 => ?_⟩
        · rw [tmod_nat]
          have : (((i % ev : Nat) : Int) == 0) = drp ev i := by
            unfold drp
            rw [decide_eq_true (show 1 < ev by omega), Bool.true_and, Bool.eq_iff_iff]
            simp only [beq_iff_eq, decide_eq_true_eq]
            omega
          rw [this]; exact tail
        · have : false = drp ev i := by
            unfold drp
            rw [decide_eq_false (show ¬ 1 < ev by omega), Bool.false_and]
          rw [this]; exact tail
      refine ⟨fun g2 => ?_, fun g2 => ?_⟩
      · rw [if_pos (by omega)] at hrow
        rw [show 2 * (T.row.length : Int) = ((T'.row.length : Nat) : Int) from by omega]
        exact go
      · rw [if_neg (by omega)] at hrow
        rw [show (T.row.length : Int) = ((T'.row.length : Nat) : Int) from by omega]
        exact go
    · have hi : i = X := by omega
      subst hi
      refine ⟨i + 1, ?_⟩
      rw [hc]
      refine great2 (i := 0) hs hX k (i + 1) h rs es T _ t ok kp (by omega) (by omega) hc rfl fun j hj => ?_
      rw [hg j hj]
      have : decide (j < i ∧ drp ev j = false) = decide (0 ≤ j ∧ j < i ∧ drp ev j = false) := by
        rw [decide_eq_decide]
        exact ⟨fun ⟨a, b⟩ => ⟨by omega, a, b⟩, fun ⟨_, a, b⟩ => ⟨a, b⟩⟩
      simp only [this]
end
theorem abs_tmod {a m : Int} {Q : Int → Prop} (hm : 0 < m) (k : ∀ r : Nat, (r : Int) < m → Q r) : (Int.tmod a m < 0 → Q (0 - Int.tmod a m)) ∧ (¬ Int.tmod a m < 0 → Q (Int.tmod a m)) := by
  have h1 := Int.tmod_lt_of_pos a hm
  have h2 := Int.lt_tmod_of_pos a hm
  refine ⟨fun g => ?_, fun g => ?_⟩
  · have := k (0 - Int.tmod a m).toNat (by omega)
    rwa [Int.toNat_of_nonneg (by omega)] at this
  · have := k (Int.tmod a m).toNat (by omega)
    rwa [Int.toNat_of_nonneg (by omega)] at this
theorem TableGreat_spec {h : H} {a b : Int} {salt : ByteArray} {Q : Bool → H → Prop} (k : ∀ h', Ext h h' → Q true h') : F.spatelaw6_TableGreat a b salt h Q := by
  unfold F.spatelaw6_TableGreat
  refine known_spec fun h1 e1 => ?_
  refine ⟨fun g => by simp at g, fun _ => ?_⟩
  simp only [decide_eq_true_eq, decide_eq_false_iff_not]
  refine ⟨fun _ => k h1 e1, fun g => ⟨by omega, ?_⟩⟩
  have main : ∀ X ev : Nat, (X : Int) < 30001 → (ev : Int) < 10 → F.spatelaw6_TableGreat.j2 Q (X : Int) (ev : Int) salt h1 := fun X ev hX hev => by
    unfold F.spatelaw6_TableGreat.j2
    refine New_spec fun h2 n rs t2 e2 m2 => ?_
    obtain ⟨n1, n2, n3⟩ := new_ok (0 : Int)
    refine ⟨X + 1, ?_⟩
    have := great1 (h0 := h) (Q := Q) (X := X) (ev := ev) (salt := salt) (n := n) (by omega) (by omega) k (X + 1) 0 h2 rs _ _ t2 n1 ⟨e1.trans e2, fun b hb => Nat.le_trans e1.size (m2 b hb)⟩ (by omega) (by omega) rfl (by simp [newT]) fun j hj => by rw [n3]; simp
    exact this
  have hb1 : ∀ X : Nat, (X : Int) < 30001 → F.spatelaw6_TableGreat.j1 Q (X : Int) b salt h1 := fun X hX => by
    unfold F.spatelaw6_TableGreat.j1
    simp only [decide_eq_true_eq, decide_eq_false_iff_not]
    have h1' := Int.tmod_lt_of_pos b (show (0 : Int) < 10 by omega)
    have h2' := Int.lt_tmod_of_pos b (show (0 : Int) < 10 by omega)
    refine ⟨by omega, ?_⟩
    rw [w64 (by omega) (by omega)]
    exact abs_tmod (Q := fun v => F.spatelaw6_TableGreat.j2 Q (X : Int) v salt h1) (by omega) fun r hr => main X r hX hr
  have h1' := Int.tmod_lt_of_pos a (show (0 : Int) < 30001 by omega)
  have h2' := Int.lt_tmod_of_pos a (show (0 : Int) < 30001 by omega)
  rw [w64 (by omega) (by omega)]
  exact abs_tmod (Q := fun v => F.spatelaw6_TableGreat.j1 Q v b salt h1) (by omega) hb1
end Go.Proofs.Ytkedkajdiclmjaa.V
