/- The document's book: Drop, Begin, End, New; no condition. -/
import Derived.Test.YtgcmojbajjajgaaGreatZr
namespace Go.Proofs.YtgcmojbajjajgaaGreat.V
open Go Go.Proofs.YtgcmojbajjajgaaGreat.V.N
set_option linter.unusedVariables false
set_option linter.unusedSimpArgs false
set_option maxRecDepth 20000
theorem heldB_os {B B' : Bk} (h : B.os = B'.os) (e : Int) : heldB B e = heldB B' e := by unfold heldB pinB inB; rw [h]
theorem lets_sorted : ∀ {l : List Int} {B : Bk}, (B.die.Pairwise fun p q => p.1 < q.1) → (l.foldl letB B).die.Pairwise fun p q => p.1 < q.1
  | [], _, s => s
  | e :: l, B, s => lets_sorted (l := l) (B := letB B e) (skd_iff.1 (letB_sk (skd_iff.2 s)))
theorem lets_pins : ∀ {l : List Int} {B : Bk}, (l.foldl letB B).pins = B.pins
  | [], _ => rfl
  | e :: l, B => (lets_pins (l := l) (B := letB B e)).trans (letB_pins B e)
theorem die_eq {A C : List (Int × Int)} (sa : A.Pairwise fun p q => p.1 < q.1) (sc : C.Pairwise fun p q => p.1 < q.1) (h : ∀ p, p ∈ A ↔ p ∈ C) : A = C := by
  have hn : ∀ {l : List (Int × Int)}, (l.Pairwise fun p q => p.1 < q.1) → l.Nodup := fun h => by
    rw [List.nodup_iff_pairwise_ne]; exact h.imp fun {a b} h e => by subst e; omega
  exact ((List.perm_ext_iff_of_nodup (hn sa) (hn sc)).2 h).eq_of_pairwise (le := fun a b : Int × Int => a.1 < b.1) (fun a b _ _ h1 h2 => by omega) sa sc
theorem bk_eq {A C : Bk} (h1 : A.pins = C.pins) (h2 : A.now = C.now) (h3 : A.os = C.os) (h4 : A.die = C.die) (h5 : A.sw = C.sw) : A = C := by
  obtain ⟨a1, a2, a3, a4, a5⟩ := A
  obtain ⟨c1, c2, c3, c4, c5⟩ := C
  simp only at h1 h2 h3 h4 h5
  subst h1; subst h2; subst h3; subst h4; subst h5; rfl
theorem drop_iff {a b z d : Prop} {u w : Bool} (h : u = true ↔ a ∨ w = true) :
    ((a ∧ w = false ∧ z) ∨ (¬ (a ∧ w = false) ∧ ((b ∧ u = false ∧ z) ∨ (¬ (b ∧ u = false) ∧ d)))) ↔ (((b ∨ a) ∧ w = false ∧ z) ∨ (¬ ((b ∨ a) ∧ w = false) ∧ d)) := by
  by_cases ha : a
  · cases w
    · have : u = true := h.2 (.inl ha)
      subst this; simp [ha]
    · have : u = true := h.2 (.inr rfl)
      subst this; simp
  · have : u = w := by
      cases w
      · cases u
        · rfl
        · exact absurd (h.1 rfl) (by simp [ha])
      · exact h.2 (.inr rfl)
    subst this
    simp [ha]
theorem drop_eq {B : Bk} {c i : Nat} {x : List Int × Int} (ok : Ok B c) (hx : B.os[i]? = some x) (hn : x.2 ≠ 0) :
    letB (setIn (x.1.foldl letB (setS B i [])) i 0) x.2 = (x.1 ++ [x.2]).foldl letB { B with os := B.os.modify i fun _ => ([], 0) } := by
  have hxo := ok.sets x (List.mem_of_getElem? hx)
  have hos : (setIn (x.1.foldl letB (setS B i [])) i 0).os = B.os.modify i fun _ => ([], 0) := by
    show (x.1.foldl letB (setS B i [])).os.modify i _ = _
    rw [(lets_os (l := x.1) (B := setS B i [])).1]
    show (B.os.modify i _).modify i _ = _
    apply List.ext_getElem?; intro j
    rw [get_mod, get_mod, get_mod]
    split
    · cases B.os[j]? <;> rfl
    · rfl
  have s1 : (setS B i []).die.Pairwise fun p q => p.1 < q.1 := ok.die.1
  have sn : (x.1.foldl letB (setS B i [])).die.Pairwise fun p q => p.1 < q.1 := lets_sorted s1
  have sn' : (setIn (x.1.foldl letB (setS B i [])) i 0).die.Pairwise fun p q => p.1 < q.1 := sn
  have sc : ({ B with os := B.os.modify i fun _ => ([], 0) } : Bk).die.Pairwise fun p q => p.1 < q.1 := ok.die.1
  have hl := lets_os (l := x.1) (B := setS B i [])
  have hc := lets_os (l := x.1 ++ [x.2]) (B := { B with os := B.os.modify i fun _ => ([], 0) })
  have ha := lets_os (l := [x.2]) (B := setIn (x.1.foldl letB (setS B i [])) i 0)
  refine bk_eq ?_ ?_ ?_ ?_ ?_
  · rw [letB_pins, lets_pins]; exact lets_pins
  · rw [hc.2.2]; exact ha.2.2.trans hl.2.2
  · rw [hc.1]; exact ha.1.trans hos
  · refine die_eq (lets_sorted (l := [x.2]) sn') (lets_sorted sc) fun p => ?_
    have e1 := mem_lets (l := [x.2]) (B := setIn (x.1.foldl letB (setS B i [])) i 0) (p := p) sn'
    have e2 := mem_lets (l := x.1) (B := setS B i []) (p := p) s1
    have e3 := mem_lets (l := x.1 ++ [x.2]) (B := { B with os := B.os.modify i fun _ => ([], 0) }) (p := p) sc
    have e0 : p ∈ (setIn (x.1.foldl letB (setS B i [])) i 0).die ↔ p ∈ (x.1.foldl letB (setS B i [])).die := Iff.rfl
    have ed : p ∈ (setS B i []).die ↔ p ∈ B.die := Iff.rfl
    have ec : p ∈ ({ B with os := B.os.modify i fun _ => ([], 0) } : Bk).die ↔ p ∈ B.die := Iff.rfl
    have eh : heldB (setIn (x.1.foldl letB (setS B i [])) i 0) p.1 = heldB { B with os := B.os.modify i fun _ => ([], 0) } p.1 := heldB_os hos _
    rw [e0, e2, ed, eh] at e1
    rw [ec] at e3
    show p ∈ ([x.2].foldl letB (setIn (x.1.foldl letB (setS B i [])) i 0)).die ↔ _
    rw [e1, e3]
    have hm1 : heldB (setS B i []) p.1 = true ↔ (p.1 ∈ ([] : List Int) ∨ x.2 = p.1) ∨ oth9 B i p.1 := held_mod (f := fun y => ([], y.2)) hx (D := B.die) (now := B.now) (sw := B.sw)
    have hm2 : heldB { B with os := B.os.modify i fun _ => ([], 0) } p.1 = true ↔ (p.1 ∈ ([] : List Int) ∨ (0 : Int) = p.1) ∨ oth9 B i p.1 := held_mod (f := fun _ => ([], 0)) hx (D := B.die) (now := B.now) (sw := B.sw)
    by_cases hp : 1 ≤ p.1
    · have h12 : heldB (setS B i []) p.1 = true ↔ p.1 = x.2 ∨ heldB { B with os := B.os.modify i fun _ => ([], 0) } p.1 = true := by
        rw [hm1, hm2]
        constructor
        · rintro ((h | h) | h)
          · cases h
          · exact .inl h.symm
          · exact .inr (.inr h)
        · rintro (h | (h | h) | h)
          · exact .inl (.inr h.symm)
          · cases h
          · omega
          · exact .inr h
      simp only [List.mem_append, List.mem_singleton]
      exact drop_iff h12
    · have n1 : p.1 ∉ x.1 := fun h => by have := hxo.2.1 _ h; omega
      have n2 : ¬ p.1 = x.2 := fun h => by omega
      have n3 : p ∉ B.die := fun h => by have := ok.die.2 p h; omega
      simp [n1, n2, n3]
  · rw [hc.2.1]; exact ha.2.1.trans hl.2.1
section
variable {h0 h h' : H} {rn : Nat} {T T' : S_spateref9_Book} {rows : List Sl} {B B' : Bk} {c : Nat}
theorem swL_lets : ∀ {l : List Int} {B : Bk}, (∀ e ∈ l, e ∉ swL B) → swL (l.foldl letB B) = swL B
  | [], _, _ => rfl
  | e :: l, B, h => by
    have h1 := swL_let (h e (by simp))
    rw [List.foldl_cons, swL_lets (l := l) (B := letB B e) fun a ha => by rw [h1]; exact h a (by simp [ha])]
    exact h1
theorem RDrop_spec {o : Int} {Q : Int → H → Prop} (v : DB h0 h rn T rows B) (ok : Ok B c) (hc : c < 700000) (os0 : B.os[0]? = some ([], 0)) (dis : ∀ e ∈ dieL B, heldB B e = false) (k : ∀ h', DBe h0 h' rn (dropB B o).2 → RS h0 h h' → Q (dropB B o).1 h') :
    F.spateref9_Book_Drop (some ⟨rn, 0, none⟩) o h Q := by
  unfold F.spateref9_Book_Drop
  refine own_spec ⟨fun g => ?_, fun g => ?_⟩
  · have hio : isO o = false := by simpa using g
    have := k h; rw [dropB, if_pos hio] at this
    exact this v.e (.of_ext (.refl _))
  · have hio : isO o = true := by simpa using g
    obtain ⟨q1, q2, q3⟩ := iso_nat hio
    obtain ⟨r, x, hr, hx⟩ := v.at (i := o.toNat) (by omega)
    obtain ⟨hs, hi⟩ := set_is hx
    have hxm := List.mem_of_getElem? hx
    have w := v.row _ r x hr hx
    have hl := own_len cI_len (by omega) w
    have hsx := ok.sets x hxm
    have hxl := upto_len ok hsx.1 hsx.2.1
    rw [dropB, if_neg (by rw [hio]; simp), hs, hi] at k
    rw [← q3]
    refine ⟨_, rfl, (ldL_iff (v.ct (j := 2) rfl)).2 (v.rowAt (by omega) hr ⟨_, rfl, (ldL_iff (v.ct (j := 2) rfl)).2 ?_⟩)⟩
    refine v.setRow (S := []) (by omega) (by simpa using Owns.nil h 3 1) (fun y hy => by simp [Sl.blk] at hy) fun h1 v1 s1 ow1 => ⟨x.1.length + 1, ?_⟩
    have w1 := ow1 w (by decide)
    have ok1 : Ok (setS B o.toNat []) c := ok.setS .nil (by simp)
    have hns : ∀ e ∈ x.1, e ∉ swL (setS B o.toNat []) := fun e he => not_sw dis (held_set hx (.inl he))
    have osl : ∀ l : List Int, (l.foldl letB (setS B o.toNat [])).os = B.os.modify o.toNat fun y => ([], y.2) := fun l => (lets_os (l := l) (B := setS B o.toNat [])).1
    have hyn : (B.os.modify o.toNat fun y => (([] : List Int), y.2))[o.toNat]? = some ([], x.2) := by rw [get_mod, if_pos rfl, hx]; rfl
    have loop : ∀ (d i : Nat) (h2 : H) (T2 : S_spateref9_Book) (rows2 : List Sl), i ≤ x.1.length → x.1.length - i < d → DB h0 h2 rn T2 rows2 ((x.1.take i).foldl letB (setS B o.toNat [])) → Owns h2 r 3 1 (x.1.flatMap cI) → RS h0 h1 h2 →
        F.spateref9_Book_Drop.l1 Q d (some ⟨rn, 0, none⟩) ((o.toNat : Nat) : Int) r (i : Int) h2 := by
      intro d
      induction d with
      | zero => intro i h2 T2 rows2 _ hm; omega
      | succ d ih =>
        intro i h2 T2 rows2 hi2 hm v2 w2 s2
        unfold F.spateref9_Book_Drop.l1
        simp only [decide_eq_true_eq, decide_eq_false_iff_not]
        rw [hl]
        have oki : Ok ((x.1.take i).foldl letB (setS B o.toNat [])) c := ok1.lets fun e he => hsx.2.1 e (List.mem_of_mem_take he)
        have swi : swL ((x.1.take i).foldl letB (setS B o.toNat [])) = swL (setS B o.toNat []) := swL_lets fun e he => hns e (List.mem_of_mem_take he)
        refine ⟨fun g => ?_, fun g => ?_⟩
        · obtain ⟨y, hy⟩ : ∃ y, x.1[i]? = some y := ⟨_, List.getElem?_eq_getElem (by omega)⟩
          have hym := List.mem_of_getElem? hy
          refine rdI w2.reads hy (loose_spec v2 oki (by omega) (by rw [osl]; exact os0_mod os0 q1) (hsx.2.1 y hym).1 (by rw [swi]; exact hns y hym) fun h3 T3 v3 o3 => ?_)
          rw [w64n (by omega)]
          refine ih (i + 1) h3 T3 rows2 (by omega) (by omega) ?_ (v2.ow o3 w2 (by decide)) (s2.trans (v2.rs o3))
          rw [take_snoc hy, List.foldl_append]; exact v3
        · have hiL : i = x.1.length := by omega
          subst hiL
          rw [List.take_length] at v2 oki swi
          have hinn : innB (x.1.foldl letB (setS B o.toNat [])) ((o.toNat : Nat) : Int) = x.2 := by
            unfold innB
            rw [Int.toNat_natCast, osl, hyn]; rfl
          refine RDone_spec v2 oki (by omega) (by rw [osl]; exact os0_mod os0 q1) ?_ fun h3 v3 s3 => ?_
          · rw [hinn, swi]
            exact not_sw dis (held_set hx (.inr rfl))
          · have hio2 : isO ((o.toNat : Nat) : Int) = true := by rw [q3]; exact hio
            rw [doneO, if_neg (by rw [hio2]; simp), hinn] at v3
            rw [doneO, if_neg (by rw [hio2]; simp), hinn]
            rw [Int.toNat_natCast] at v3
            have hfr := (s1.trans s2).trans s3
            by_cases hn : x.2 = 0
            · rw [if_pos hn] at v3 ⊢
              refine ⟨fun g => by simp at g, fun _ => ?_⟩
              unfold F.spateref9_Book_Drop.j2
              have := k h3
              simp only [hn, ne_eq, not_true, if_false, List.append_nil, Int.add_zero] at this
              refine this ?_ hfr
              have e2 : ({ B with os := B.os.modify o.toNat fun _ => ([], 0) } : Bk) = setS B o.toNat [] := by
                unfold setS
                congr 1
                exact mod_congr hx (by rw [hn])
              rw [e2]; exact v3
            · rw [if_neg hn] at v3 ⊢
              refine ⟨fun _ => ?_, fun g => by simp at g⟩
              unfold F.spateref9_Book_Drop.j2
              rw [w64 (by omega) (by omega)]
              have := k h3
              rw [if_pos hn, if_pos hn] at this
              refine this ?_ hfr
              rw [← drop_eq ok hx hn]; exact v3
    exact loop _ 0 h1 _ _ (by omega) (by omega) v1 w1 (.of_ext (.refl _))
end
end Go.Proofs.YtgcmojbajjajgaaGreat.V
