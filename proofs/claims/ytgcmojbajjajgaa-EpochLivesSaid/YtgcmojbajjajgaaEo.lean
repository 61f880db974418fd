/- The law EpochLives: an epoch is held, then dying, then no more; no condition. -/
import Derived.Test.YtgcmojbajjajgaaEn
namespace Go.Proofs.Ytgcmojbajjajgaa.V
open Go Go.Proofs.Ytgcmojbajjajgaa.V.N
set_option linter.unusedVariables false
set_option linter.unusedSimpArgs false
section
variable {h h' : H}
theorem row_keep {b : Nat} {g : Int → Option Int} {r : Sl} {e : TypeId} {size : Nat} {cs : List Value} (w : Owns h r e size cs) (o : Only (· = b) h h') (m : MI h b g) : Owns h' r e size cs :=
  w.only o fun x hx hf => by
    obtain ⟨_, ⟨h1, _⟩ | ⟨b', c', h1, h2, _⟩⟩ := w
    · simp [Sl.blk, h1] at hx
    · simp [Sl.blk, h1] at hx; subst hx; rw [hf] at h2; exact m.not_blk h2
theorem pw_le {A : List Int} (s : A.Pairwise (· < ·)) {i : Nat} {x y : Int} (hx : A[i]? = some x) (hy : A[i + 1]? = some y) : x < y := by
  rw [List.pairwise_iff_getElem] at s
  obtain ⟨h1, e1⟩ := List.getElem?_eq_some_iff.1 hx
  obtain ⟨h2, e2⟩ := List.getElem?_eq_some_iff.1 hy
  have := s i (i + 1) h1 h2 (by omega)
  rw [e1, e2] at this; exact this
theorem pw_take {A : List Int} (s : A.Pairwise (· < ·)) {i : Nat} {x : Int} (hx : A[i]? = some x) : x ∉ A.take i := fun hm => by
  obtain ⟨j, hj⟩ := List.mem_iff_getElem?.1 hm
  have hji : j < i := by
    have := (List.getElem?_eq_some_iff.1 hj).1
    simp at this; omega
  rw [List.getElem?_take_of_lt hji] at hj
  rw [List.pairwise_iff_getElem] at s
  obtain ⟨h1, e1⟩ := List.getElem?_eq_some_iff.1 hj
  obtain ⟨h2, e2⟩ := List.getElem?_eq_some_iff.1 hx
  have := s j i h1 h2 hji
  rw [e1, e2] at this; omega
theorem moved_spec {b0 : Nat} {S : Nat} {f : Int → Int} {rA rD : Sl} {A D : List Int} {Q : Bool → H → Prop}
    (ms : MI h b0 (fun e => if 1 ≤ e ∧ e ≤ (S : Int) then some (f e) else none)) (wA : Owns h rA 3 1 (A.flatMap cI)) (wD : Owns h rD 3 1 (D.flatMap cI)) (sA : A.Pairwise (· < ·)) (sD : D.Pairwise (· < ·))
    (rgA : ∀ e ∈ A, 1 ≤ e ∧ e ≤ (S : Int)) (rgD : ∀ e ∈ D, 1 ≤ e ∧ e ≤ (S : Int)) (hS : S < 1000000) (hA : ∀ e ∈ A, f e = 1) (hD : ∀ e ∈ D, f e = 1 ∨ f e = 2) (dis : ∀ e ∈ D, e ∉ A) (all : ∀ e, 1 ≤ e → e ≤ (S : Int) → f e ≠ 3 → e ∈ A ∨ e ∈ D)
    (k : ∀ h', MI h' b0 (fun e => if 1 ≤ e ∧ e ≤ (S : Int) then some (if e ∈ A then 1 else if e ∈ D then 2 else f e) else none) → Only (· = b0) h h' → Q true h') : F.spatelaw9_moved (some b0) rA rD (S : Int) h Q := by
  unfold F.spatelaw9_moved
  have hb0 := ms.lt
  refine makeI_of fun nb h1 hnb mn e1 s1 => ⟨_, rfl, A.length + 1, ?_⟩
  have hne : nb ≠ b0 := by omega
  have lA := own_len cI_len (by omega) wA
  have lD := own_len cI_len (by omega) wD
  have nA : (A.length : Int) ≤ S := by
    have := len_lt sA (a := 1) (b := (S : Int) + 1) (fun e he => by have := rgA e he; omega) (by omega); omega
  have nD : (D.length : Int) ≤ S := by
    have := len_lt sD (a := 1) (b := (S : Int) + 1) (fun e he => by have := rgD e he; omega) (by omega); omega
  -- all epochs
  have part3 : ∀ (d e : Nat) (h' : H), 1 ≤ e → e ≤ S + 1 → S + 1 - e < d → MI h' nb (fun x => if x ∈ A then some 1 else if x ∈ D then some 2 else none) →
      MI h' b0 (fun x => if 1 ≤ x ∧ x ≤ (S : Int) then some (if x < (e : Int) then (if x ∈ A then 1 else if x ∈ D then 2 else f x) else f x) else none) → Only (fun x => x = b0 ∨ x = nb) h1 h' →
      F.spatelaw9_moved.l9 Q d (some b0) (S : Int) (some nb) (e : Int) h' := by
    intro d
    induction d with
    | zero => intro e h' _ _ hm; omega
    | succ d ih =>
      intro e h' he1 he hm mi mb o
      unfold F.spatelaw9_moved.l9
      simp only [decide_eq_true_eq, decide_eq_false_iff_not]
      refine ⟨fun g => ?_, fun g => ?_⟩
      · refine lookI_of mb ⟨_, rfl, ?_⟩
        rw [if_pos (⟨by omega, g⟩ : 1 ≤ (e : Int) ∧ (e : Int) ≤ S), if_neg (show ¬ (e : Int) < e by omega)]
        simp only [Option.getD_some]
        have next : ∀ h2, MI h2 nb (fun x => if x ∈ A then some 1 else if x ∈ D then some 2 else none) → MI h2 b0 (fun x => if 1 ≤ x ∧ x ≤ (S : Int) then some (if x < ((e + 1 : Nat) : Int) then (if x ∈ A then 1 else if x ∈ D then 2 else f x) else f x) else none) → Only (fun x => x = b0 ∨ x = nb) h1 h2 →
            F.spatelaw9_moved.j10 Q (F.spatelaw9_moved.l9 Q d) (some b0) (S : Int) (some nb) (e : Int) h2 := by
          intro h2 a1 a2 a3
          unfold F.spatelaw9_moved.j10
          rw [w64n (by omega)]
          exact ih (e + 1) h2 (by omega) (by omega) (by omega) a1 a2 a3
        have go : F.spatelaw9_moved.j12 Q (F.spatelaw9_moved.l9 Q d) (some b0) (S : Int) (some nb) (e : Int) false h' := by
          unfold F.spatelaw9_moved.j12 F.spatelaw9_moved.j11
          refine ⟨fun g => (by cases g), fun _ => lookI_of mi ⟨_, rfl, fun g2 => lookI_of mi ⟨_, rfl, ?_⟩, fun g2 => ?_⟩⟩
          · refine updI_of mb fun h2 m2 o2 _ => next h2 (mi.only o2 hne) (m2.congr fun x => ?_) (only_trans o (o2.mono fun x _ e => .inl e))
            by_cases hx : x = (e : Int)
            · subst hx
              have c1 : 1 ≤ (e : Int) ∧ (e : Int) ≤ S := ⟨by omega, g⟩
              have c2 : (e : Int) < ((e + 1 : Nat) : Int) := by omega
              rw [if_pos (rfl : (e : Int) = (e : Int)), if_pos c1, if_pos c2]
              by_cases h3 : (e : Int) ∈ A
              · simp [h3]
              · by_cases h4 : (e : Int) ∈ D
                · simp [h3, h4]
                · rw [if_neg h3, if_neg h4] at g2; simp at g2
            · rw [if_neg hx]
              by_cases h3 : x < (e : Int)
              · rw [if_pos h3, if_pos (show x < ((e + 1 : Nat) : Int) by omega)]
              · rw [if_neg h3, if_neg (show ¬ x < ((e + 1 : Nat) : Int) by omega)]
          · refine next h' mi (mb.congr fun x => ?_) o
            by_cases hx : x = (e : Int)
            · subst hx
              have h3 : (e : Int) ∉ A := fun h3 => by rw [if_pos h3] at g2; simp at g2
              have h4 : (e : Int) ∉ D := fun h4 => by rw [if_neg h3, if_pos h4] at g2; simp at g2
              rw [if_neg (show ¬ (e : Int) < e by omega), if_pos (show (e : Int) < ((e + 1 : Nat) : Int) by omega), if_neg h3, if_neg h4]
            · by_cases h3 : x < (e : Int)
              · rw [if_pos h3, if_pos (show x < ((e + 1 : Nat) : Int) by omega)]
              · rw [if_neg h3, if_neg (show ¬ x < ((e + 1 : Nat) : Int) by omega)]
        refine ⟨fun g2 => lookI_of mi ⟨_, rfl, ?_⟩, fun g2 => go⟩
        have hf : f e ≠ 3 := by simpa using g2
        have : (((if (e : Int) ∈ A then some (1 : Int) else if (e : Int) ∈ D then some 2 else none).getD 0) == 0) = false := by
          rcases all e (by omega) g hf with h3 | h3
          · rw [if_pos h3]; rfl
          · rw [if_neg (dis _ h3), if_pos h3]; rfl
        rw [this]; exact go
      · have : e = S + 1 := by omega
        subst this
        refine k h' (mb.congr fun x => ?_) ((e1.only (S := fun x => x = b0)).trans o fun x hx e => by omega)
        by_cases hx : 1 ≤ x ∧ x ≤ (S : Int)
        · rw [if_pos hx, if_pos hx, if_pos (by omega)]
        · rw [if_neg hx, if_neg hx]
  -- those that die
  have part2 : ∀ (d i : Nat) (h' : H), i ≤ D.length → D.length - i < d → MI h' nb (fun x => if x ∈ A then some 1 else if x ∈ D.take i then some 2 else none) → Only (· = nb) h1 h' →
      F.spatelaw9_moved.l5 Q d (some b0) rD (S : Int) (some nb) (i : Int) h' := by
    intro d
    induction d with
    | zero => intro i h' _ hm; omega
    | succ d ih =>
      intro i h' hi hm mi o
      have mb' := (ms.only e1 (fun f => f)).only o (fun e => hne e.symm)
      have wD' := row_keep (wD.ext e1) o mn
      unfold F.spatelaw9_moved.l5
      simp only [decide_eq_true_eq, decide_eq_false_iff_not]
      rw [lD]
      refine ⟨fun g => ?_, fun g => ⟨S + 1, ?_⟩⟩
      · obtain ⟨x, hx⟩ : ∃ x, D[i]? = some x := ⟨_, List.getElem?_eq_getElem (by omega)⟩
        have hxm := List.mem_of_getElem? hx
        have hrx := rgD x hxm
        obtain ⟨bb, p1, p2⟩ := own_at cI_len (by omega) wD' hx
        have rdx : ∀ {h2 : H} {K : Int → Prop}, h2 = h' → K x → idxA rD (i : Int) 1 fun a => ldI .i64 h2 a K := fun e kk => by
          subst e
          exact idxA_of (i := i) p1 (by omega) rfl ((ldI_iff (n := x) p2.one).2 kk)
        have hfx := hD x hxm
        have go : F.spatelaw9_moved.j8 Q (F.spatelaw9_moved.l5 Q d) (some b0) rD (S : Int) (some nb) (i : Int) false h' := by
          unfold F.spatelaw9_moved.j8 F.spatelaw9_moved.j7 F.spatelaw9_moved.j6
          refine ⟨fun g => (by cases g), fun _ => rdx rfl (updI_of mi fun h2 m2 o2 _ => ?_)⟩
          rw [w64n (by omega)]
          refine ih (i + 1) h2 (by omega) (by omega) (m2.congr fun y => ?_) (only_trans o o2)
          rw [take_snoc hx]
          by_cases hy : y = x
          · subst hy
            rw [if_pos rfl, if_neg (dis _ hxm), if_pos (by simp)]
          · rw [if_neg hy]
            simp only [List.mem_append, List.mem_singleton, hy, or_false]
        have look : ∀ {h2 : H} {K : Value → H → Prop}, h2 = h' → K (.int .i64 (f x)) h' → RunS PP (Instr.lookup tn_map_int_int (.map (some b0)) (.int .i64 x) false) h2 K := fun e kk => by
          subst e
          refine lookI_of mb' ?_
          rw [if_pos (⟨hrx.1, hrx.2⟩ : 1 ≤ x ∧ x ≤ (S : Int))]; exact kk
        have lookn : ∀ {h2 : H} {K : Value → H → Prop}, h2 = h' → K (.int .i64 0) h' → RunS PP (Instr.lookup tn_map_int_int (.map (some nb)) (.int .i64 x) false) h2 K := fun e kk => by
          subst e
          refine lookI_of mi ?_
          rw [if_neg (dis _ hxm), if_neg (pw_take sD hx)]; exact kk
        have chk : idxA rD (i : Int) 1 fun a49 => ldI .i64 h' a49 fun y51 => RunS PP (Instr.lookup tn_map_int_int (.map (some b0)) (.int .i64 y51) false) h' fun u h53 => ∃ r54 : Int, u = (.int .i64 r54) ∧
            (((r54 == 3)) = true → F.spatelaw9_moved.j8 Q (F.spatelaw9_moved.l5 Q d) (some b0) rD (S : Int) (some nb) (i : Int) true h53) ∧
            (((r54 == 3)) = false → idxA rD (i : Int) 1 fun a56 => ldI .i64 h53 a56 fun y58 => RunS PP (Instr.lookup tn_map_int_int (.map (some b0)) (.int .i64 y58) false) h53 fun u h60 => ∃ r61 : Int, u = (.int .i64 r61) ∧
              (((r61 == 0)) = true → F.spatelaw9_moved.j8 Q (F.spatelaw9_moved.l5 Q d) (some b0) rD (S : Int) (some nb) (i : Int) true h60) ∧
              (((r61 == 0)) = false → idxA rD (i : Int) 1 fun a63 => ldI .i64 h60 a63 fun y65 => RunS PP (Instr.lookup tn_map_int_int (.map (some nb)) (.int .i64 y65) false) h60 fun u h67 => ∃ r68 : Int, u = (.int .i64 r68) ∧
                F.spatelaw9_moved.j8 Q (F.spatelaw9_moved.l5 Q d) (some b0) rD (S : Int) (some nb) (i : Int) ((r68 != 0)) h67)) := by
          refine rdx rfl (look rfl ⟨_, rfl, fun g2 => ?_, fun _ => rdx rfl (look rfl ⟨_, rfl, fun g2 => ?_, fun _ => rdx rfl (lookn rfl ⟨_, rfl, go⟩)⟩)⟩)
          · simp at g2; omega
          · simp at g2; omega
        refine ⟨fun g2 => ?_, fun g2 => chk⟩
        have hi0 : 0 < i := by omega
        obtain ⟨y, hy⟩ : ∃ y, D[i - 1]? = some y := ⟨_, List.getElem?_eq_getElem (by omega)⟩
        obtain ⟨bb2, q1, q2⟩ := own_at cI_len (by omega) wD' hy
        have hlt := pw_le sD hy (show D[i - 1 + 1]? = some x by rw [show i - 1 + 1 = i from by omega]; exact hx)
        rw [w64 (n := (i : Int) - 1) (by omega) (by omega)]
        refine rdx rfl (idxA_of (i := i - 1) q1 (by omega) (by omega) ((ldI_iff (n := y) q2.one).2 ⟨fun g3 => ?_, fun _ => chk⟩))
        omega
      · have : i = D.length := by omega
        subst this
        rw [List.take_length] at mi
        refine part3 (S + 1) 1 h' (by omega) (by omega) (by omega) mi (mb'.congr fun x => ?_) (o.mono fun x _ e => .inr e)
        by_cases hx : 1 ≤ x ∧ x ≤ (S : Int)
        · rw [if_pos hx, if_pos hx, if_neg (by omega)]
        · rw [if_neg hx, if_neg hx]
  -- those that are held
  have part1 : ∀ (d i : Nat) (h' : H), i ≤ A.length → A.length - i < d → MI h' nb (fun x => if x ∈ A.take i then some 1 else none) → Only (· = nb) h1 h' →
      F.spatelaw9_moved.l1 Q d (some b0) rA rD (S : Int) (some nb) (i : Int) h' := by
    intro d
    induction d with
    | zero => intro i h' _ hm; omega
    | succ d ih =>
      intro i h' hi hm mi o
      have mb' := (ms.only e1 (fun f => f)).only o (fun e => hne e.symm)
      have wA' := row_keep (wA.ext e1) o mn
      unfold F.spatelaw9_moved.l1
      simp only [decide_eq_true_eq, decide_eq_false_iff_not]
      rw [lA]
      refine ⟨fun g => ?_, fun g => ⟨D.length + 1, ?_⟩⟩
      · obtain ⟨x, hx⟩ : ∃ x, A[i]? = some x := ⟨_, List.getElem?_eq_getElem (by omega)⟩
        have hxm := List.mem_of_getElem? hx
        have hrx := rgA x hxm
        obtain ⟨bb, p1, p2⟩ := own_at cI_len (by omega) wA' hx
        have rdx : ∀ {K : Int → Prop}, K x → idxA rA (i : Int) 1 fun a => ldI .i64 h' a K := fun kk => idxA_of (i := i) p1 (by omega) rfl ((ldI_iff (n := x) p2.one).2 kk)
        have chk : idxA rA (i : Int) 1 fun a20 => ldI .i64 h' a20 fun y22 => RunS PP (Instr.lookup tn_map_int_int (.map (some b0)) (.int .i64 y22) false) h' fun u h24 => ∃ r25 : Int, u = (.int .i64 r25) ∧
            F.spatelaw9_moved.j4 Q (F.spatelaw9_moved.l1 Q d) (some b0) rA rD (S : Int) (some nb) (i : Int) ((r25 != 1)) h24 := by
          refine rdx (lookI_of mb' ⟨_, rfl, ?_⟩)
          rw [if_pos (⟨hrx.1, hrx.2⟩ : 1 ≤ x ∧ x ≤ (S : Int)), Option.getD_some, hA x hxm]
          unfold F.spatelaw9_moved.j4 F.spatelaw9_moved.j3 F.spatelaw9_moved.j2
          refine ⟨fun g => by simp at g, fun _ => rdx (updI_of mi fun h2 m2 o2 _ => ?_)⟩
          rw [w64n (by omega)]
          refine ih (i + 1) h2 (by omega) (by omega) (m2.congr fun y => ?_) (only_trans o o2)
          rw [take_snoc hx]
          by_cases hy : y = x
          · subst hy
            rw [if_pos rfl, if_pos (by simp)]
          · rw [if_neg hy]
            simp only [List.mem_append, List.mem_singleton, hy, or_false]
        refine ⟨fun g2 => ?_, fun g2 => chk⟩
        have hi0 : 0 < i := by omega
        obtain ⟨y, hy⟩ : ∃ y, A[i - 1]? = some y := ⟨_, List.getElem?_eq_getElem (by omega)⟩
        obtain ⟨bb2, q1, q2⟩ := own_at cI_len (by omega) wA' hy
        have hlt := pw_le sA hy (show A[i - 1 + 1]? = some x by rw [show i - 1 + 1 = i from by omega]; exact hx)
        rw [w64 (n := (i : Int) - 1) (by omega) (by omega)]
        refine rdx (idxA_of (i := i - 1) q1 (by omega) (by omega) ((ldI_iff (n := y) q2.one).2 ⟨fun g3 => ?_, fun _ => chk⟩))
        omega
      · have : i = A.length := by omega
        subst this
        rw [List.take_length] at mi
        exact part2 _ 0 h' (by omega) (by omega) (mi.congr fun x => by simp) o
  exact part1 _ 0 h1 (by omega) (by omega) (mn.congr fun x => by simp) (.refl _)
/-- A book, a map of the law's, rows of whole numbers. -/
structure LV (h1 h : H) (n : Nat) (B : Bk) (mb : Nat) (g : Int → Option Int) (rows : List (Sl × List Int)) : Prop where
  bk : ∃ F, BKs h1 h F [(n, B)] ∧ ¬ F mb
  mi : MI h mb g
  lo : h1.size ≤ mb
  rows : ∀ p ∈ rows, Owns h p.1 3 1 (p.2.flatMap cI)
section
variable {h1 h h' : H} {n mb : Nat} {B B' : Bk} {g g' : Int → Option Int} {rows : List (Sl × List Int)}
theorem LV.step {F F' : Nat → Prop} (v : LV h1 h n B mb g rows) (b : BKs h1 h F [(n, B)]) (hm : ¬ F mb) (b' : BKs h1 h' F' [(n, B')]) (st : Stpp F h F' h') : LV h1 h' n B' mb g rows :=
  ⟨⟨F', b', fun hf => (st.new mb hf).elim hm fun hs => by have := v.mi.lt; omega⟩, v.mi.only st.only hm, v.lo, fun p hp => b.row st (v.rows p hp) (by decide)⟩
theorem LV.upd (v : LV h1 h n B mb g rows) (o : Only (· = mb) h h') (m : MI h' mb g') : LV h1 h' n B mb g' rows := by
  obtain ⟨F, b, hm⟩ := v.bk
  exact ⟨⟨F, b.only o (fun x hx e => hm (e ▸ hx)) (fun x hx e => by have := v.lo; omega), hm⟩, m, v.lo, fun p hp => row_keep (v.rows p hp) o v.mi⟩
theorem LV.ext (v : LV h1 h n B mb g rows) (e : Ext h h') : LV h1 h' n B mb g rows := by
  obtain ⟨F, b, hm⟩ := v.bk
  exact ⟨⟨F, b.ext e, hm⟩, v.mi.only e (fun f => f), v.lo, fun p hp => (v.rows p hp).ext e⟩
theorem LV.more {r : Sl} {L : List Int} (v : LV h1 h n B mb g rows) (w : Owns h r 3 1 (L.flatMap cI)) : LV h1 h n B mb g ((r, L) :: rows) :=
  ⟨v.bk, v.mi, v.lo, fun p hp => by rcases List.mem_cons.1 hp with rfl | hp; exact w; exact v.rows p hp⟩
theorem LV.sub {rows' : List (Sl × List Int)} (v : LV h1 h n B mb g rows) (hs : ∀ p ∈ rows', p ∈ rows) : LV h1 h n B mb g rows' := ⟨v.bk, v.mi, v.lo, fun p hp => v.rows p (hs p hp)⟩
theorem LV.blk {x : Nat} {cs : Array Value} {e : TypeId} {F F' : Nat → Prop} (b : BKs h1 h F [(n, B)]) (st : Stpp F h F' h') (k : Blk h x cs e) (he : e ≠ tn_epoch_Book) : Blk h' x cs e := b.blk st k he
theorem LV.held {c : Nat} {Q : Sl → H → Prop} (v : LV h1 h n B mb g rows) (ok : Ok B c) (hc : c < 1000000) {x : Nat} {cs : Array Value} {e : TypeId} (kb : Blk h x cs e) (he : e ≠ tn_epoch_Book) (k : ∀ r h', LV h1 h' n B mb g ((r, heldL B) :: rows) → Blk h' x cs e → Q r h') : F.epoch_Book_Held (some ⟨n, 0, none⟩) h Q := by
  obtain ⟨F, b, hm⟩ := v.bk
  refine held_bk (i := 0) b rfl ok hc fun r h' F' b' st w _ => k r h' ((v.step b hm b' st).more w) (b.blk st kb he)
theorem LV.dying {c : Nat} {Q : Sl → H → Prop} (v : LV h1 h n B mb g rows) (ok : Ok B c) (hc : c < 1000000) {x : Nat} {cs : Array Value} {e : TypeId} (kb : Blk h x cs e) (he : e ≠ tn_epoch_Book) (k : ∀ r h', LV h1 h' n B mb g ((r, dieL B) :: rows) → Blk h' x cs e → Q r h') : F.epoch_Book_Dying (some ⟨n, 0, none⟩) h Q := by
  obtain ⟨F, b, hm⟩ := v.bk
  refine dying_bk (i := 0) b rfl ok hc fun r h' F' b' st w _ => k r h' ((v.step b hm b' st).more w) (b.blk st kb he)
end
theorem EpochLives_spec {pins : Int} {s1 : Sl} {S1 : List Stp9} {Q : Bool → H → Prop} (t1 : Reads h s1 4 (S1.flatMap (·.cells))) (k : ∀ h', Ext h h' → Q true h') : F.spatelaw9_EpochLives pins s1 h Q := by
  have l1 := rd_len step_len (by omega) t1
  unfold F.spatelaw9_EpochLives
  refine known_spec fun h1 e1 => ⟨fun g => by simp at g, fun _ => ?_⟩
  have j16 : ∀ x : Bool, (x = true ∨ (x = false ∧ s1.len ≤ 3000 ∧ 1 ≤ pins ∧ pins ≤ 64)) → F.spatelaw9_EpochLives.j16 Q pins s1 x h1 := by
    intro x hx
    unfold F.spatelaw9_EpochLives.j16
    refine ⟨fun _ => k h1 e1, fun g => ?_⟩
    rcases hx with hx | ⟨_, b1, p1, p2⟩
    · rw [hx] at g; cases g
    rw [l1] at b1
    unfold F.spatelaw9_EpochLives.j1
    refine new_bk (BKs.nil h1) (fun e => by omega) fun _ _ n h2 F2 q2 _ => ⟨fun g => by simp at g, fun _ => ?_⟩
    unfold F.spatelaw9_EpochLives.j15 F.spatelaw9_EpochLives.j2
    refine ⟨fun g => by simp at g, fun _ => makeI_of fun mb h3 hmb m3 e3 s3 => ⟨_, rfl, S1.length + 1, ?_⟩⟩
    have key : ∀ (d i : Nat) (h' : H) (B : Bk) (sw : Sl) (swL : List Int) (se : Nat), i ≤ S1.length → S1.length - i < d → Inv B i swL → B.now = (se : Int) + 1 →
        LV h1 h' n B mb (fun e => if 1 ≤ e ∧ e ≤ (se : Int) then some (stF B e) else none) [(sw, swL)] →
        F.spatelaw9_EpochLives.l3 Q d s1 (some ⟨n, 0, none⟩) (se : Int) (some mb) sw (i : Int) h' := by
      intro d
      induction d with
      | zero => intro i h' B sw swL se _ hm; omega
      | succ d ih =>
        intro i h' B sw swL se hi hm inv hse v
        obtain ⟨F', b', hmF⟩ := v.bk
        have hb0 := b'.ext0
        unfold F.spatelaw9_EpochLives.l3
        simp only [decide_eq_true_eq, decide_eq_false_iff_not]
        rw [l1]
        refine ⟨fun g => ?_, fun g => k h' (e1.trans hb0)⟩
        obtain ⟨x, hx⟩ : ∃ x, S1[i]? = some x := ⟨_, List.getElem?_eq_getElem (by omega)⟩
        refine step_at (h0 := h) (e := e1.trans hb0) t1 hx (e1.trans hb0) ?_
        refine new_of fun a h4 ha k4 e4 s4 => ?_
        refine stH_of k4 (by simp [S_spatelaw9_Step.cells]) fun h5 k5 o5 s5 => ?_
        rw [writeA_all (by simp [S_spatelaw9_Step.cells])] at k5
        have v5 : LV h1 h5 n B mb (fun e => if 1 ≤ e ∧ e ≤ (se : Int) then some (stF B e) else none) [(sw, swL)] := by
          have v4 := v.ext e4
          obtain ⟨F4, b4, hm4⟩ := v4.bk
          refine ⟨⟨F', (b'.ext e4).only o5 (fun y hy e => ?_) fun y hy e => ?_, hmF⟩, v4.mi.only o5 (fun e => ?_), v4.lo, fun p hp => (v4.rows p hp).only o5 fun y hy e => ?_⟩
          · have := b'.lt y hy; omega
          · have := hb0.size; omega
          · have := v.mi.lt; omega
          · have := (v.rows p hp).blk_lt hy; omega
        have cl : ∀ {hh : H}, Blk hh a x.cells.toArray tn_spatelaw9_Step → Cells hh ⟨a, 0, none⟩ x.cells := fun kk j v hv => by rw [add_lit, Nat.zero_add]; exact kk.cell (by simpa using hv)
        have ok := inv.ok
        refine v5.held ok (by omega) k5 (by decide) fun rA h6 v6 k6 => v6.dying ok (by omega) k6 (by decide) fun rD h7 v7 k7 => ?_
        refine ⟨x, cl k7, ?_⟩
        obtain ⟨F7, b7, hm7⟩ := v7.bk
        refine do_bk (i := 0) b7 rfl ok (by omega) fun h8 F8 b8 st8 => ?_
        have k8 := b7.blk st8 k7 (by decide)
        have mv := moves (s := x) inv
        have hok : Ok (doB B x).2 (i + 1) := ok.do_ x
        have v8 : LV h1 h8 n (doB B x).2 mb (fun e => if 1 ≤ e ∧ e ≤ (se : Int) then some (stF B e) else none) [(rD, dieL B), (rA, heldL B), (sw, swL)] := v7.step b7 hm7 b8 st8
        have c0 : cellH h8 ⟨a, 0, none⟩ = some (.int .i64 x.Kind) := k8.cell rfl
        have hnow := ok.now
        have hnow' := hok.now
        generalize hC : (doB B x).2 = C at v8 hok mv b8 hnow'
        generalize hr : (doB B x).1 = rr at mv
        have mvn := mv.now
        rw [hC, hr] at mvn
        -- the end of a round
        have fin : ∀ (h9 : H) (sw' : Sl) (f : Int → Int) (se' : Nat), C.now = (se' : Int) + 1 → (∀ e, 1 ≤ e → e ≤ (se' : Int) → f e = st1 B x swL e) →
            LV h1 h9 n C mb (fun e => if 1 ≤ e ∧ e ≤ (se' : Int) then some (f e) else none) [(sw', if rr = true ∧ x.Kind = 7 then dieL B else swL)] →
            Blk h9 a x.cells.toArray tn_spatelaw9_Step → F.spatelaw9_EpochLives.j8 Q (F.spatelaw9_EpochLives.l3 Q d) s1 (some ⟨n, 0, none⟩) (se' : Int) (some mb) sw' (i : Int) h9 := by
          intro h9 sw' f se' hse' hf v9 k9
          unfold F.spatelaw9_EpochLives.j8
          obtain ⟨F9, b9, hm9⟩ := v9.bk
          refine now_bk (i := 0) b9 rfl fun h10 F10 b10 st10 => ?_
          have v10 := v9.step b9 hm9 b10 st10
          have k10 := b9.blk st10 k9 (by decide)
          rw [hse', w64n (by omega)]
          refine ⟨fun g => by simp at g, fun _ => ?_⟩
          obtain ⟨F10, b10, hm10⟩ := v10.bk
          refine live_bk (i := 0) b10 rfl hok (by omega) fun h11 F11 b11 st11 => ?_
          have v11 := v10.step b10 hm10 b11 st11
          have k11 := b10.blk st11 k10 (by decide)
          refine v11.held hok (by omega) k11 (by decide) fun r3 h12 v12 k12 => v12.dying hok (by omega) k12 (by decide) fun r4 h13 v13 k13 => ?_
          have l3 := own_len cI_len (by omega) (v13.rows (r3, heldL C) (by simp))
          have l4 := own_len cI_len (by omega) (v13.rows (r4, dieL C) (by simp))
          have hl := hok.heldlen
          have hdl := hok.dielen
          have hdl2 : (dieL C).length = C.die.length := by simp [dieL]
          simp only at l3 l4
          rw [l3, l4, hdl2, w64 (by omega) (by omega)]
          refine ⟨fun g => by simp at g, fun _ => ?_⟩
          refine v13.held hok (by omega) k13 (by decide) fun r5 h14 v14 k14 => v14.dying hok (by omega) k14 (by decide) fun r6 h15 v15 k15 => ?_
          have hdd : (dieL C).Pairwise (· < ·) := by unfold dieL; rw [List.pairwise_map]; exact hok.die.1
          have hinv := mv.inv
          rw [hC, hr] at hinv
          have mvh := mv.held
          have mvd := mv.die
          have mva := mv.all
          rw [hC] at mvh mvd mva
          refine moved_spec (S := se') (f := f) v15.mi (v15.rows (r5, heldL C) (by simp)) (v15.rows (r6, dieL C) (by simp)) (heldL_sorted C) hdd (fun e he => by have := held_rng hok he; omega) (fun e he => by have := die_rng hok he; omega) (by omega)
            (fun e he => ?_) (fun e he => ?_) (fun e he hh => ?_) (fun e h1 h2 h3 => ?_) fun h16 m16 o16 => ?_
          · have hg := held_rng hok he
            rw [hf e hg.1 (by omega)]
            exact mvh e hg.1 ((mem_heldL_iff hg.1).1 he)
          · have hg := die_rng hok he
            rw [hf e hg.1 (by omega)]
            exact mvd e he
          · have hg := die_rng hok he
            have := hinv.dis e he
            rw [(mem_heldL_iff hg.1).1 hh] at this; cases this
          · rw [hf e h1 h2] at h3
            rcases mva e h1 (by omega) h3 with h4 | h4
            · exact .inl ((mem_heldL_iff h1).2 h4)
            · exact .inr h4
          · unfold F.spatelaw9_EpochLives.j9 F.spatelaw9_EpochLives.j4
            refine ⟨fun g => by simp at g, fun _ => ?_⟩
            rw [w64n (by omega)]
            have v16 := v15.upd o16 m16
            refine ih (i + 1) h16 C sw' _ se' (by omega) (by omega) hinv hse' ⟨v16.bk, v16.mi.congr fun e => ?_, v16.lo, fun p hp => v16.rows p (by simp at hp ⊢; simp [hp])⟩
            by_cases hx : 1 ≤ e ∧ e ≤ (se' : Int)
            · rw [if_pos hx, if_pos hx]
              congr 1
              unfold stF
              by_cases h4 : e ∈ heldL C
              · rw [if_pos h4, if_pos ((mem_heldL_iff hx.1).1 h4)]
              · rw [if_neg h4, if_neg (fun h => h4 ((mem_heldL_iff hx.1).2 h))]
                by_cases h5 : e ∈ dieL C
                · rw [if_pos h5, if_pos h5]
                · rw [if_neg h5, if_neg h5]
                  by_cases h6 : f e = 3
                  · exact h6
                  · rw [hf e hx.1 hx.2] at h6
                    rcases mva e hx.1 (by omega) h6 with h7 | h7
                    · exact absurd ((mem_heldL_iff hx.1).2 h7) h4
                    · exact absurd h7 h5
            · rw [if_neg hx, if_neg hx]
        -- behind the step: what is written into the law's map
        have sweep : ∀ (h9 : H) (se' : Nat), C.now = (se' : Int) + 1 → (se' = if rr = true ∧ (x.Kind = 1 ∨ x.Kind = 2) then se + 1 else se) →
            LV h1 h9 n C mb (fun e => if 1 ≤ e ∧ e ≤ (se' : Int) then some (if (rr = true ∧ (x.Kind = 1 ∨ x.Kind = 2)) ∧ e = B.now then 1 else stF B e) else none) [(rD, dieL B), (rA, heldL B), (sw, swL)] →
            Blk h9 a x.cells.toArray tn_spatelaw9_Step → F.spatelaw9_EpochLives.j6 Q (F.spatelaw9_EpochLives.l3 Q d) s1 (some ⟨n, 0, none⟩) (se' : Int) (some mb) sw (i : Int) ⟨a, 0, none⟩ rD rr h9 := by
          intro h9 se' hse' hsv v9 k9
          have c9 : cellH h9 ⟨a, 0, none⟩ = some (.int .i64 x.Kind) := k9.cell rfl
          have seven : ∀ (sw' : Sl) (L : List Int), Owns h9 sw' 3 1 (L.flatMap cI) → (L = if rr = true ∧ x.Kind = 7 then dieL B else swL) → F.spatelaw9_EpochLives.j7 Q (F.spatelaw9_EpochLives.l3 Q d) s1 (some ⟨n, 0, none⟩) (se' : Int) (some mb) sw' (i : Int) ⟨a, 0, none⟩ rr h9 := by
            intro sw' L wL hL
            have v9' : LV h1 h9 n C mb (fun e => if 1 ≤ e ∧ e ≤ (se' : Int) then some (if (rr = true ∧ (x.Kind = 1 ∨ x.Kind = 2)) ∧ e = B.now then 1 else stF B e) else none) [(sw', L)] := (v9.more wL).sub (fun p hp => by simp at hp; simp [hp])
            unfold F.spatelaw9_EpochLives.j7
            have none8 : ¬ (rr = true ∧ x.Kind = 8) → F.spatelaw9_EpochLives.j8 Q (F.spatelaw9_EpochLives.l3 Q d) s1 (some ⟨n, 0, none⟩) (se' : Int) (some mb) sw' (i : Int) h9 := fun h8 => by
              refine fin h9 sw' (fun e => if (rr = true ∧ (x.Kind = 1 ∨ x.Kind = 2)) ∧ e = B.now then 1 else stF B e) se' hse' (fun e h1 h2 => ?_) (by rw [← hL]; exact v9') k9
              unfold st1
              rw [hr]
              by_cases h3 : (rr = true ∧ (x.Kind = 1 ∨ x.Kind = 2)) ∧ e = B.now
              · rw [if_pos h3, if_pos h3]
              · rw [if_neg h3, if_neg h3, if_neg (fun h => h8 h.1)]
            have h10 : ∀ b : Bool, (b = true ↔ (rr = true ∧ x.Kind = 8)) → F.spatelaw9_EpochLives.j10 Q (F.spatelaw9_EpochLives.l3 Q d) s1 (some ⟨n, 0, none⟩) (se' : Int) (some mb) sw' (i : Int) b h9 := by
              intro b hb
              unfold F.spatelaw9_EpochLives.j10
              refine ⟨fun g => ⟨L.length + 1, ?_⟩, fun g => none8 fun h => by rw [hb.2 h] at g; cases g⟩
              obtain ⟨r1, k8'⟩ := hb.1 g
              have hLs : L = swL := by rw [hL, if_neg (fun h => by omega)]
              have n12 : ¬ (rr = true ∧ (x.Kind = 1 ∨ x.Kind = 2)) := fun h => by omega
              have lL := own_len cI_len (by omega) wL
              -- End was told OK: a sweep was on
              have hon : B.sw = true := by
                cases hsw : B.sw with
                | true => rfl
                | false =>
                  have : (doB B x).1 = false := by
                    unfold doB
                    rw [if_neg (by omega), if_neg (by omega), if_neg (by omega), if_neg (by omega), if_neg (by omega), if_neg (by omega), if_neg (by omega), if_pos k8', show endB B = (0, 44, B) from by rw [endB, if_pos hsw]]
                    rfl
                  rw [hr, r1] at this; cases this
              have hLr : ∀ e ∈ L, 1 ≤ e ∧ e ≤ (se' : Int) := fun e he => by
                rw [hLs] at he
                have := die_rng ok ((inv.on hon).2 e he)
                rw [if_neg n12] at hsv; omega
              have loop : ∀ (z y : Nat) (h9 : H), y ≤ L.length → L.length - y < z → LV h1 h9 n C mb (fun e => if 1 ≤ e ∧ e ≤ (se' : Int) then some (if e ∈ L.take y then 3 else stF B e) else none) [(sw', L)] → Blk h9 a x.cells.toArray tn_spatelaw9_Step →
                  F.spatelaw9_EpochLives.l11 Q (F.spatelaw9_EpochLives.l3 Q d) z s1 (some ⟨n, 0, none⟩) (se' : Int) (some mb) sw' (i : Int) (y : Int) h9 := by
                intro z
                induction z with
                | zero => intro y h9 _ hm; omega
                | succ z ihz =>
                  intro y h9 hy hm v9 k9
                  have w9 := v9.rows (sw', L) (by simp)
                  unfold F.spatelaw9_EpochLives.l11
                  simp only [decide_eq_true_eq, decide_eq_false_iff_not]
                  rw [lL]
                  have lL3 : L.length ≤ 4000 := by
                    have h8 := len_lt (l := L) (a := 1) (b := (se' : Int) + 1) (by rw [hLs]; exact inv.srt) (fun e he => by have := hLr e he; omega) (by omega)
                    omega
                  refine ⟨fun g => ?_, fun g => ?_⟩
                  · obtain ⟨q, hq⟩ : ∃ q, L[y]? = some q := ⟨_, List.getElem?_eq_getElem (by omega)⟩
                    obtain ⟨bb, q1, q2⟩ := own_at cI_len (by omega) w9 hq
                    refine idxA_of (i := y) q1 (by omega) rfl ((ldI_iff (n := q) q2.one).2 ?_)
                    refine updI_of v9.mi fun h10 m10 o10 _ => ?_
                    rw [w64n (by omega)]
                    refine ihz (y + 1) h10 (by omega) (by omega) (v9.upd o10 (m10.congr fun e => ?_)) (o10.block k9 fun e => by have := v9.mi; exact this.not_blk (e ▸ k9))
                    rw [take_snoc hq]
                    by_cases he : e = q
                    · subst he
                      have := hLr e (List.mem_of_getElem? hq)
                      rw [if_pos rfl, if_pos this, if_pos (by simp)]
                    · rw [if_neg he]
                      simp only [List.mem_append, List.mem_singleton, he, or_false]
                  · have : y = L.length := by omega
                    subst this
                    rw [List.take_length] at v9
                    refine fin h9 sw' (fun e => if e ∈ L then 3 else stF B e) se' hse' (fun e h1 h2 => ?_) (by rw [← hL]; exact v9) k9
                    have q0 : ¬ ((rr = true ∧ (x.Kind = 1 ∨ x.Kind = 2)) ∧ e = B.now) := fun h => n12 h.1
                    unfold st1
                    rw [hr, if_neg q0, hLs]
                    by_cases h3 : e ∈ swL
                    · have q1 : (rr = true ∧ x.Kind = 8) ∧ e ∈ swL := ⟨⟨r1, k8'⟩, h3⟩
                      rw [if_pos h3, if_pos q1]
                    · have q1 : ¬ ((rr = true ∧ x.Kind = 8) ∧ e ∈ swL) := fun h => h3 h.2
                      rw [if_neg h3, if_neg q1]
              refine loop _ 0 h9 (by omega) (by omega) ⟨v9'.bk, v9'.mi.congr fun e => ?_, v9'.lo, v9'.rows⟩ k9
              by_cases hx : 1 ≤ e ∧ e ≤ (se' : Int)
              · rw [if_pos hx, if_pos hx, if_neg (fun h => n12 h.1), if_neg (by simp)]
              · rw [if_neg hx, if_neg hx]
            refine ⟨fun g => ?_, fun g => h10 false (by simp [g])⟩
            simp only [add_lit, Nat.zero_add]
            refine (ldI_iff c9).2 (h10 _ ?_)
            simp [g]
          unfold F.spatelaw9_EpochLives.j6 F.spatelaw9_EpochLives.j12
          have hs7 : rr = true ∧ x.Kind = 7 → F.spatelaw9_EpochLives.j7 Q (F.spatelaw9_EpochLives.l3 Q d) s1 (some ⟨n, 0, none⟩) (se' : Int) (some mb) rD (i : Int) ⟨a, 0, none⟩ rr h9 := fun h => seven rD (dieL B) (v9.rows (rD, dieL B) (by simp)) (by rw [if_pos h])
          have hn7 : ¬ (rr = true ∧ x.Kind = 7) → F.spatelaw9_EpochLives.j7 Q (F.spatelaw9_EpochLives.l3 Q d) s1 (some ⟨n, 0, none⟩) (se' : Int) (some mb) sw (i : Int) ⟨a, 0, none⟩ rr h9 := fun h => seven sw swL (v9.rows (sw, swL) (by simp)) (by rw [if_neg h])
          simp only [add_lit, Nat.zero_add]
          refine ⟨fun g => (ldI_iff c9).2 ⟨fun g2 => hs7 ⟨g, by simpa using g2⟩, fun g2 => hn7 fun h => ?_⟩, fun g => ⟨fun g2 => (by cases g2), fun _ => hn7 fun h => by rw [h.1] at g; cases g⟩⟩
          rw [h.2] at g2; simp at g2
        have five : ∀ (h9 : H) (se' : Nat), C.now = (se' : Int) + 1 → (se' = if rr = true ∧ (x.Kind = 1 ∨ x.Kind = 2) then se + 1 else se) →
            LV h1 h9 n C mb (fun e => if 1 ≤ e ∧ e ≤ (se' : Int) then some (if (rr = true ∧ (x.Kind = 1 ∨ x.Kind = 2)) ∧ e = B.now then 1 else stF B e) else none) [(rD, dieL B), (rA, heldL B), (sw, swL)] →
            Blk h9 a x.cells.toArray tn_spatelaw9_Step → F.spatelaw9_EpochLives.j5 Q (F.spatelaw9_EpochLives.l3 Q d) s1 (some ⟨n, 0, none⟩) (se' : Int) (some mb) sw (i : Int) ⟨a, 0, none⟩ rA rD rr h9 := by
          intro h9 se' hse' hsv v9 k9
          unfold F.spatelaw9_EpochLives.j5
          refine ⟨fun g => ?_, fun g => ?_⟩
          · have hrf : rr = false := by simpa using g
            obtain ⟨n1, n2⟩ := mv.no (by rw [hr]; exact hrf)
            rw [hC] at n1 n2
            refine v9.held hok (by omega) k9 (by decide) fun r3 h10 v10 k10 => ?_
            have w3 := v10.rows (rA, heldL B) (by simp)
            have w4 := v10.rows (r3, heldL C) (by simp)
            refine ints_spec w3.reads w4.reads (by have := ok.heldlen; show (heldL B).length < _; omega) ?_
            rw [decide_eq_true n1.symm]
            refine ⟨fun g => by simp at g, fun _ => ?_⟩
            refine v10.dying hok (by omega) k10 (by decide) fun r4 h11 v11 k11 => ?_
            have w5 := v11.rows (rD, dieL B) (by simp)
            have w6 := v11.rows (r4, dieL C) (by simp)
            refine ints_spec w5.reads w6.reads (by have := ok.dielen; simp [dieL]; omega) ?_
            rw [decide_eq_true n2.symm]
            unfold F.spatelaw9_EpochLives.j13
            refine ⟨fun g => by simp at g, fun _ => ?_⟩
            exact sweep h11 se' hse' hsv (v11.sub (fun p hp => by simp at hp ⊢; rcases hp with h | h | h <;> simp [h])) k11
          · unfold F.spatelaw9_EpochLives.j13
            exact ⟨fun g => by simp at g, fun _ => sweep h9 se' hse' hsv v9 k9⟩
        have four : ∀ b : Bool, (b = true ↔ (rr = true ∧ (x.Kind = 1 ∨ x.Kind = 2))) → F.spatelaw9_EpochLives.j14 Q (F.spatelaw9_EpochLives.l3 Q d) s1 (some ⟨n, 0, none⟩) (se : Int) (some mb) sw (i : Int) ⟨a, 0, none⟩ rA rD rr b h8 := by
          intro b hb
          unfold F.spatelaw9_EpochLives.j14
          refine ⟨fun g => ?_, fun g => ?_⟩
          · have h12 := hb.1 g
            rw [if_pos h12] at mvn
            rw [w64n (by omega)]
            refine updI_of v8.mi fun h9 m9 o9 _ => ?_
            refine five h9 (se + 1) (by omega) (by rw [if_pos h12]) (v8.upd o9 (m9.congr fun e => ?_)) (o9.block k8 fun e => v8.mi.not_blk (e ▸ k8))
            by_cases he : e = ((se + 1 : Nat) : Int)
            · subst he
              rw [if_pos rfl, if_pos ⟨by omega, by omega⟩, if_pos ⟨h12, by omega⟩]
            · rw [if_neg he]
              by_cases hx : 1 ≤ e ∧ e ≤ (se : Int)
              · rw [if_pos hx, if_pos ⟨hx.1, by omega⟩, if_neg (fun h => by omega)]
              · rw [if_neg hx, if_neg (fun h => hx ⟨h.1, by omega⟩)]
          · have h12 : ¬ (rr = true ∧ (x.Kind = 1 ∨ x.Kind = 2)) := fun h => by rw [hb.2 h] at g; cases g
            rw [if_neg h12] at mvn
            refine five h8 se (by omega) (by rw [if_neg h12]) ⟨v8.bk, v8.mi.congr fun e => ?_, v8.lo, v8.rows⟩ k8
            by_cases hx : 1 ≤ e ∧ e ≤ (se : Int)
            · rw [if_pos hx, if_pos hx, if_neg (fun h => h12 h.1)]
            · rw [if_neg hx, if_neg hx]
        simp only [add_lit, Nat.zero_add]
        refine ⟨fun g => (ldI_iff c0).2 ⟨fun g2 => four true ?_, fun g2 => (ldI_iff c0).2 (four _ ?_)⟩, fun g => four false (by simp [g])⟩
        · have : x.Kind = 1 := by simpa using g2
          simp [g, this]
        · have : x.Kind ≠ 1 := by simpa using g2
          simp [g, this]
    have hlow : ¬ F2 mb := fun hf => by have := q2.lt mb hf; omega
    refine key _ 0 h3 (newB pins) ⟨none, 0, 0⟩ [] 0 (by omega) (by omega) ⟨.new, by simp [dieL, newB], fun _ p hp => by simp [newB] at hp, fun h => by simp [newB] at h, .nil⟩ rfl ⟨⟨F2, q2.ext e3, hlow⟩, m3.congr fun e => ?_, by have := q2.ext0.size; omega, fun p hp => ?_⟩
    · rw [if_neg (by omega)]
    · simp at hp; subst hp; exact Owns.nil _ _ _
  refine ⟨fun g => j16 true (.inl rfl), fun g1 => ⟨fun g => j16 true (.inl rfl), fun g2 => j16 _ ?_⟩⟩
  simp only [decide_eq_false_iff_not] at g1 g2
  by_cases hp : pins > 64
  · exact .inl (by simp [hp])
  · exact .inr ⟨by simp [hp], by omega, by omega, by omega⟩
end
end Go.Proofs.Ytgcmojbajjajgaa.V
