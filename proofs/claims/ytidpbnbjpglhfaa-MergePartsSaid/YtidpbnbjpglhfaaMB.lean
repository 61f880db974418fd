/- The law MergeParts, walked; no condition. -/
import Derived.Test.YtidpbnbjpglhfaaMA
namespace Go.Proofs.Ytidpbnbjpglhfaa.V
open Go
set_option linter.unusedVariables false
set_option linter.unusedSimpArgs false
theorem MergeParts_spec {h : H} {p0 : Int} {s1 s2 s3 : Sl} {A1 A2 A3 : List Rw8} {Q : Bool → H → Prop} (t1 : Reads h s1 7 (A1.flatMap cW)) (t2 : Reads h s2 7 (A2.flatMap cW)) (t3 : Reads h s3 7 (A3.flatMap cW)) (b1 : A1.length ≤ 9223372036854775807) (b2 : A2.length ≤ 9223372036854775807) (b3 : A3.length ≤ 9223372036854775807)
    (k : ∀ h', Ext h h' → Q true h') : F.spatelaw8_MergeParts p0 s1 s2 s3 h Q := by
  unfold F.spatelaw8_MergeParts
  refine known8_spec fun h1 e1 => ⟨fun g => by simp at g, fun _ => ?_⟩
  refine within8_spec (by omega) (by omega) fun q hq => ?_
  refine ordered_spec (t1.only e1 fun _ _ f => f) (by omega) fun r1 h2 w1 m1 e2 => ?_
  have e12 := e1.trans e2
  refine ordered_spec (t2.only e12 fun _ _ f => f) (by omega) fun r2 h3 w2 m2 e3 => ?_
  have e13 := e12.trans e3
  refine ordered_spec (t3.only e13 fun _ _ f => f) (by omega) fun r3 h4 w3 m3 e4 => ?_
  have e14 := e13.trans e4
  obtain ⟨sX, lX⟩ := ordL_sc A1
  obtain ⟨sY, lY⟩ := ordL_sc A2
  obtain ⟨sZ, lZ⟩ := ordL_sc A3
  generalize ordL A1 = X at w1 sX lX
  generalize ordL A2 = Y at w2 sY lY
  generalize ordL A3 = Z at w3 sZ lZ
  have w1' := (w1.ext e3).ext e4
  have w2' := w2.ext e4
  have lx := own_len cW_len (by omega) w1
  have ly := own_len cW_len (by omega) w2
  have lz := own_len cW_len (by omega) w3
  have lg : ∀ a b : List Rw8, (mg a b).length = a.length + b.length := fun a b => by simp [mg, List.length_merge]
  -- a slice of a list, told
  have rw1 : ∀ {hh : H} {s : Sl} {R : List Rw8}, Owns hh s tn_api_Row 7 (R.flatMap cW) → Reads hh s 7 (R.flatMap cW) ∧ s.len ≤ s.cap := fun w => ⟨w.reads, cap_of w⟩
  have row3 : ∀ {hh : H} {a b c : Sl} {P S T : List Rw8}, Owns hh a tn_api_Row 7 (P.flatMap cW) → Owns hh b tn_api_Row 7 (S.flatMap cW) → Owns hh c tn_api_Row 7 (T.flatMap cW) → ∀ (i : Nat) s R, [a, b, c][i]? = some s → [P, S, T][i]? = some R → Reads hh s 7 (R.flatMap cW) ∧ s.len ≤ s.cap := by
    intro hh a b c P S T wa wb wc i s R h1 h2
    match i, h1, h2 with
    | 0, h1, h2 => cases h1; cases h2; exact rw1 wa
    | 1, h1, h2 => cases h1; cases h2; exact rw1 wb
    | 2, h1, h2 => cases h1; cases h2; exact rw1 wc
    | n + 3, h1, h2 => cases h1
  have row2 : ∀ {hh : H} {a b : Sl} {P S : List Rw8}, Owns hh a tn_api_Row 7 (P.flatMap cW) → Owns hh b tn_api_Row 7 (S.flatMap cW) → ∀ (i : Nat) s R, [a, b][i]? = some s → [P, S][i]? = some R → Reads hh s 7 (R.flatMap cW) ∧ s.len ≤ s.cap := by
    intro hh a b P S wa wb i s R h1 h2
    match i, h1, h2 with
    | 0, h1, h2 => cases h1; cases h2; exact rw1 wa
    | 1, h1, h2 => cases h1; cases h2; exact rw1 wb
    | n + 2, h1, h2 => cases h1
  have t1000 : ∀ l : List Rw8, l.length ≤ 1000 → l.take (1000 : Int).toNat = l := fun l hl => List.take_of_length_le (by simpa using hl)
  refine call_rows (ss := [r1, r2, r3]) (Ls := [X, Y, Z]) rfl (by simp) (row3 w1' w2' w3) (by rw [mR3, lg, lg]; omega) fun ra h5 wa e5 => ?_
  rw [mR3, t1000 _ (by rw [lg, lg]; omega)] at wa
  have la := own_len cW_len (by omega) wa
  rw [lg, lg] at la
  rw [la, lx, ly, lz, w64 (n := (X.length : Int) + Y.length) (by omega) (by omega), w64 (by omega) (by omega)]
  refine ⟨fun g => by simp at g; omega, fun _ => ?_⟩
  have hso := mg_sorted (sc_le sX) (mg_sorted (sc_le sY) (sc_le sZ))
  generalize hall : mg X (mg Y Z) = all at wa hso
  have hal : all.length = X.length + (Y.length + Z.length) := by rw [← hall, lg, lg]
  refine ⟨all.length + 2, ?_⟩
  have loop : ∀ (d i : Nat) (lk : Bool) (h' : H), 1 ≤ i → all.length + 1 - i < d → Ext h5 h' → (lk = false → ∀ (j : Nat) x y, j + 1 < i → all[j]? = some x → all[j + 1]? = some y → cmpC x.Cell y.Cell = -1) →
      F.spatelaw8_MergeParts.l1 Q d (q : Int) r1 r2 r3 ra lk (i : Int) h' := by
    intro d
    induction d with
    | zero => intro i lk h' _ hd; omega
    | succ d ih =>
      intro i lk h' hi hd e' hlk
      have wa' := wa.ext e'
      unfold F.spatelaw8_MergeParts.l1
      simp only [decide_eq_true_eq, decide_eq_false_iff_not]
      rw [la]
      refine ⟨fun gg => ?_, fun gg => ?_⟩
      · obtain ⟨x, hx⟩ : ∃ x, all[i - 1]? = some x := ⟨_, List.getElem?_eq_getElem (by omega)⟩
        obtain ⟨y, hy⟩ : ∃ y, all[i]? = some y := ⟨_, List.getElem?_eq_getElem (by omega)⟩
        rw [w64 (n := (i : Int) - 1) (by omega) (by omega), show (i : Int) - 1 = ((i - 1 : Nat) : Int) from by omega]
        refine rowAt8 wa'.reads hx fun a1 c1 => ldC8 c1 (rowAt8 wa'.reads hy fun a2 c2 => ldC8 c2 ?_)
        refine Compare_spec fun h6 e6 => ?_
        have hle : cmpC x.Cell y.Cell ≤ 0 := by
          rw [List.pairwise_iff_getElem] at hso
          obtain ⟨g1, q1⟩ := List.getElem?_eq_some_iff.1 hx
          obtain ⟨g2, q2⟩ := List.getElem?_eq_some_iff.1 hy
          have := hso (i - 1) i g1 g2 (by omega)
          rw [q1, q2] at this
          unfold leC at this
          exact of_decide_eq_true this
        have hr := cC_range x.Cell y.Cell
        have j3 : ∀ lk2 : Bool, (lk2 = false → cmpC x.Cell y.Cell = -1 ∧ lk = false) → F.spatelaw8_MergeParts.j3 Q (F.spatelaw8_MergeParts.l1 Q d) (q : Int) r1 r2 r3 ra lk2 (i : Int) (cmpC x.Cell y.Cell) h6 := fun lk2 h2 => by
          unfold F.spatelaw8_MergeParts.j3 F.spatelaw8_MergeParts.j2
          refine ⟨fun g => (by simp at g; omega), fun _ => ?_⟩
          rw [w64s (by omega)]
          refine ih (i + 1) lk2 h6 (by omega) (by omega) (e'.trans e6) fun hl j u v hj hu hv => ?_
          obtain ⟨h3, h4⟩ := h2 hl
          by_cases hji : j + 1 = i
          · have : j = i - 1 := by omega
            subst this
            rw [hx] at hu; cases hu
            rw [hji, hy] at hv; cases hv
            exact h3
          · exact hlk h4 j u v (by omega) hu hv
        refine ⟨fun g => j3 true fun g => (by cases g), fun g => j3 _ fun g2 => ⟨?_, g⟩⟩
        have : ¬ cmpC x.Cell y.Cell = 0 := by simpa using g2
        omega
      · refine min_of ?_
        have hmin : (if ((X.length + (Y.length + Z.length) : Nat) : Int) < (q : Int) then ((X.length + (Y.length + Z.length) : Nat) : Int) else (q : Int)) = ((min q all.length : Nat) : Int) := by rw [hal]; split <;> omega
        rw [hmin]
        refine cutL_of (lo := 0) (hi := min q all.length) rfl rfl (by omega) (by have := cap_of wa'; omega) ?_
        have rc := cut_reads (lo := 0) (hi := min q all.length) cW_len (by omega) wa'.reads (by omega) (by omega) (cap_of wa')
        simp only [List.drop_zero, Nat.sub_zero] at rc
        have u1 := (w1'.ext e5).ext e'
        have u2 := (w2'.ext e5).ext e'
        have u3 := (w3.ext e5).ext e'
        refine call_rows (ss := [r1, r2, r3]) (Ls := [X, Y, Z]) rfl (by simp) (row3 u1 u2 u3) (by rw [mR3, lg, lg]; omega) fun rb h6 wb e6 => ?_
        rw [mR3, hall] at wb
        have htk : all.take (q : Int).toNat = all.take (min q all.length) := by
          rw [show ((q : Nat) : Int).toNat = q from rfl]
          by_cases h : q ≤ all.length
          · rw [Nat.min_eq_left h]
          · rw [Nat.min_eq_right (by omega), List.take_length, List.take_of_length_le (by omega)]
        rw [htk] at wb
        refine SameRows_spec wb.reads (rc.only e6 fun _ _ f => f) (by rw [List.length_take]; omega) (fun _ => ?_) fun hne => absurd rfl hne
        refine ⟨fun g => (by cases g), fun _ => ?_⟩
        have u1 := u1.ext e6
        have u2 := u2.ext e6
        have u3 := u3.ext e6
        have wa6 := wa'.ext e6
        have e06 := (e'.trans e6)
        refine call_rows (ss := [r1, r2]) (Ls := [X, Y]) rfl (by simp) (row2 u1 u2) (by rw [mR2, lg]; omega) fun rc h7 wc e7 => ?_
        rw [mR2, t1000 _ (by rw [lg]; omega)] at wc
        refine call_rows (ss := [rc, r3]) (Ls := [mg X Y, Z]) rfl (by simp) (row2 wc (u3.ext e7)) (by rw [mR2, lg, lg]; omega) fun rd h8 wd e8 => ?_
        rw [mR2, t1000 _ (by rw [lg, lg]; omega), mg_assoc _ X Y Z (Nat.le_refl _), hall] at wd
        have wa8 := (wa6.ext e7).ext e8
        refine SameRows_spec wd.reads wa8.reads (by omega) (fun _ => ?_) fun hne => absurd rfl hne
        refine ⟨fun g => (by cases g), fun _ => ?_⟩
        have u1 := (u1.ext e7).ext e8
        have u2 := (u2.ext e7).ext e8
        have u3 := (u3.ext e7).ext e8
        refine call_rows (ss := [r2, r3]) (Ls := [Y, Z]) rfl (by simp) (row2 u2 u3) (by rw [mR2, lg]; omega) fun re h9 we e9 => ?_
        rw [mR2, t1000 _ (by rw [lg]; omega)] at we
        refine call_rows (ss := [r1, re]) (Ls := [X, mg Y Z]) rfl (by simp) (row2 (u1.ext e9) we) (by rw [mR2, lg, lg]; omega) fun rf h10 wf e10 => ?_
        rw [mR2, t1000 _ (by rw [lg, lg]; omega), hall] at wf
        have wa10 := (wa8.ext e9).ext e10
        have ee : Ext h h10 := ((((e14.trans e5).trans e06).trans e7).trans e8).trans (e9.trans e10)
        refine SameRows_spec wf.reads wa10.reads (by omega) (fun _ => ?_) fun hne => absurd rfl hne
        unfold F.spatelaw8_MergeParts.j5 F.spatelaw8_MergeParts.j4
        refine ⟨fun g => (by cases g), fun _ => ⟨fun _ => k h10 ee, fun g => ?_⟩⟩
        have u1 := (u1.ext e9).ext e10
        have u2 := (u2.ext e9).ext e10
        have u3 := (u3.ext e9).ext e10
        refine call_rows (ss := [r3, r1, r2]) (Ls := [Z, X, Y]) rfl (by simp) (row3 u3 u1 u2) (by rw [mR3, lg, lg]; omega) fun rg h11 wg e11 => ?_
        rw [mR3, t1000 _ (by rw [lg, lg]; omega)] at wg
        have heq : mg Z (mg X Y) = all := by
          have hsc : ∀ (dd a : Nat) x y, all[a]? = some x → all[a + dd + 1]? = some y → cmpC x.Cell y.Cell = -1 := by
            intro dd
            induction dd with
            | zero =>
              intro a x y hx hy
              have := (List.getElem?_eq_some_iff.1 hy).1
              exact hlk g a x y (by omega) hx hy
            | succ dd ihd =>
              intro a x y hx hy
              have := (List.getElem?_eq_some_iff.1 hy).1
              obtain ⟨z, hz⟩ : ∃ z, all[a + dd + 1]? = some z := ⟨_, List.getElem?_eq_getElem (by omega)⟩
              exact cC_trans (ihd a x z hx hz) (hlk g (a + dd + 1) z y (by omega) hz (by rw [show a + dd + 1 + 1 = a + (dd + 1) + 1 from by omega]; exact hy))
          have hp1 : (mg Z (mg X Y)).Perm all := by
            rw [← hall]
            have q1 : (mg Z (mg X Y)).Perm (Z ++ (X ++ Y)) := (List.merge_perm_append leC).trans ((List.merge_perm_append leC).append_left Z)
            have q2 : (mg X (mg Y Z)).Perm (X ++ (Y ++ Z)) := (List.merge_perm_append leC).trans ((List.merge_perm_append leC).append_left X)
            refine q1.trans (List.Perm.trans ?_ q2.symm)
            rw [← List.append_assoc X Y Z]
            exact List.perm_append_comm
          refine hp1.eq_of_pairwise (le := fun a b => leC a b = true) (fun a b ha hb h1 h2 => ?_) (mg_sorted (sc_le sZ) (mg_sorted (sc_le sX) (sc_le sY))) hso
          have ha' := hp1.mem_iff.1 ha
          obtain ⟨i1, hi1⟩ := List.mem_iff_getElem?.1 ha'
          obtain ⟨i2, hi2⟩ := List.mem_iff_getElem?.1 hb
          have hz : cmpC a.Cell b.Cell = 0 := by
            unfold leC at h1 h2
            have h1 := of_decide_eq_true h1
            have h2 := of_decide_eq_true h2
            have := cC_anti a.Cell b.Cell
            omega
          rcases Nat.lt_trichotomy i1 i2 with h | h | h
          · have := hsc (i2 - i1 - 1) i1 a b hi1 (by rw [show i1 + (i2 - i1 - 1) + 1 = i2 from by omega]; exact hi2)
            omega
          · subst h; rw [hi1] at hi2; exact Option.some.inj hi2
          · have := hsc (i1 - i2 - 1) i2 b a hi2 (by rw [show i2 + (i1 - i2 - 1) + 1 = i1 from by omega]; exact hi1)
            have := cC_anti a.Cell b.Cell
            omega
        rw [heq] at wg
        exact SameRows_spec wg.reads (wa10.ext e11).reads (by omega) (fun _ => k h11 (ee.trans e11)) fun hne => absurd rfl hne
  exact loop _ 1 false h5 (by omega) (by omega) (.refl _) fun _ j x y hj => by omega
end Go.Proofs.Ytidpbnbjpglhfaa.V
