/- The document's book, call by call; no condition. -/
import Derived.Test.YtgcmojbajjajgaaGreatZp
namespace Go.Proofs.YtgcmojbajjajgaaGreat.V
open Go Go.Proofs.YtgcmojbajjajgaaGreat.V.N
set_option linter.unusedVariables false
set_option linter.unusedSimpArgs false
set_option maxRecDepth 20000
/-- Sets within bounds; nobody is owner 0. -/
def Lim (pins : Int) (os : List (List Int × Int)) : Prop := os[0]? = some ([], 0) ∧ ∀ x ∈ os, (x.1.length : Int) ≤ pins
theorem os0_mod {os : List (List Int × Int)} {i : Nat} {f : List Int × Int → List Int × Int} (l : os[0]? = some ([], 0)) (hi : 1 ≤ i) : (os.modify i f)[0]? = some ([], 0) := by rw [get_mod, if_neg (by omega)]; exact l
theorem set_is {B : Bk} {o : Int} {y : List Int × Int} (hy : B.os[o.toNat]? = some y) : setB B o = y.1 ∧ innB B o = y.2 := by unfold setB innB; rw [hy]; exact ⟨rfl, rfl⟩
theorem mod_congr {α : Type} {f g : α → α} {l : List α} {i : Nat} {y : α} (hy : l[i]? = some y) (h : f y = g y) : l.modify i f = l.modify i g := by
  apply List.ext_getElem?; intro j
  rw [get_mod, get_mod]
  split
  · rename_i hj; subst hj; rw [hy]; simp [h]
  · rfl
section
variable {h0 h h' : H} {rn : Nat} {T T' : S_spateref9_Book} {rows : List Sl} {B B' : Bk} {c : Nat}
theorem own_spec {o : Int} {Q : Bool → H → Prop} (k : Q (isO o) h) : F.spateref9_owner o h Q := by
  unfold F.spateref9_owner
  unfold isO at k
  refine ⟨fun g => ?_, fun g => ?_⟩
  · rwa [show decide (1 ≤ o) = true from g, Bool.true_and] at k
  · rwa [show decide (1 ≤ o) = false from g, Bool.false_and] at k
theorem DB.re (v : DB h0 h rn T rows B) (o : Only (· = rn) h h') (k' : Blk h' rn T'.cells.toArray tn_spateref9_Book) (p : T'.Pins = B'.pins) (n : T'.Epoch = B'.now) (b : T'.On = B'.sw) (s : T'.Sets = T.Sets) (i : T'.In = T.In) (os : B'.os = B.os)
    (dy : Owns h T'.Die 3 1 ((dieL B').flatMap cI)) (nd : ∀ x, T'.Die.blk = some x → T.In.blk ≠ some x) (sw : B'.sw = true → Owns h T'.Sweep 3 1 ((swL B').flatMap cI)) (ns : B'.sw = true → ∀ x, T'.Sweep.blk = some x → T.In.blk ≠ some x) : DB h0 h' rn T' rows B' :=
  ⟨k', p, n, b, by rw [s]; exact v.ow o v.sets (by decide), v.rl, by rw [os]; exact v.ol, fun j r x hr hx => by rw [os] at hx; exact v.ow o (v.row j r x hr hx) (by decide), by rw [i, os]; exact v.ow o v.ins (by decide), v.ow o dy (by decide), fun hb => v.ow o (sw hb) (by decide),
    fun r hr x hx => by rw [i]; exact v.nr r hr x hx, fun x hx => by rw [i]; exact nd x hx, fun hb x hx => by rw [i]; exact ns hb x hx, fun x hx => by rw [s, i] at hx; exact v.low x hx⟩
theorem DB.bump {K : H → Prop} (v : DB h0 h rn T rows B) (k : ∀ h', DB h0 h' rn { T with Epoch := B.now + 1 } rows { B with now := B.now + 1 } → RS h0 h h' → K h') : stH h ⟨rn, 1, none⟩ [.int .i64 (B.now + 1)] K :=
  v.tabSet (j := 1) (T' := { T with Epoch := B.now + 1 }) (by omega) rfl fun h' k' o => k h' (v.re o k' v.pins rfl v.on rfl rfl rfl v.dy v.nd v.swp v.ns) (v.rs o)
theorem DB.setRow {o : Nat} {r' : Sl} {S : List Int} {K : H → Prop} (v : DB h0 h rn T rows B) (ho : o < 65) (w : Owns h r' 3 1 (S.flatMap cI)) (nb : ∀ x, r'.blk = some x → T.In.blk ≠ some x)
    (k : ∀ h', DB h0 h' rn T (rows.set o r') (setS B o S) → RS h0 h h' → (∀ {r : Sl} {e : TypeId} {n : Nat} {cs : List Value}, Owns h r e n cs → e ≠ tn_Slint → Owns h' r e n cs) → K h') : idxA T.Sets (o : Int) 1 fun a => stH h a [r'.enc] K := by
  obtain ⟨ro, x, hr, hx⟩ := v.at ho
  obtain ⟨b, p1, p2⟩ := own_at cL_len (by omega) v.sets hr
  have hl := own_len cL_len (by omega) v.sets
  refine idxA_of (i := o) p1 (by rw [hl, v.rl]; exact ho) rfl ?_
  refine own_setAt (i := o) (x := r') cL_len v.sets p1 (by rw [v.rl]; exact ho) fun h' w' oo ss => ?_
  have ow : ∀ {r : Sl} {e : TypeId} {n : Nat} {cs : List Value}, Owns h r e n cs → e ≠ tn_Slint → Owns h' r e n cs := fun w he => w.only oo fun x hx hf => by
    obtain ⟨c, k1⟩ := w.isblk hx
    obtain ⟨c2, k2⟩ := v.sets.isblk hf
    exact he (blk_typ k1 k2)
  refine k h' ⟨oo.block v.tab fun hf => ?_, v.pins, v.now, v.on, w', by rw [List.length_set]; exact v.rl, by simp only [setS, List.length_modify]; exact v.ol, fun i r y hr hy => ?_, ?_, ow v.dy (by decide), fun hb => ow (v.swp hb) (by decide), fun r hr x hx => ?_, v.nd, v.ns, v.low⟩ ⟨_, oo, fun x hx => ?_⟩ ow
  · obtain ⟨c2, k2⟩ := v.sets.isblk hf
    exact absurd (blk_typ k2 v.tab) (by decide)
  · rw [List.getElem?_set] at hr
    simp only [setS, get_mod] at hy
    by_cases e : o = i
    · subst e
      rw [if_pos rfl, if_pos (by rw [v.rl]; exact ho)] at hr
      rw [if_pos rfl, hx] at hy
      cases hr; simp at hy; subst hy
      exact ow w (by decide)
    · rw [if_neg e] at hr hy
      exact ow (v.row i r y hr hy) (by decide)
  · have : ((setS B o S).os.map (·.2)) = B.os.map (·.2) := by
      apply List.ext_getElem?; intro j
      simp only [setS, List.getElem?_map, get_mod]
      split
      · cases B.os[j]? <;> rfl
      · rfl
    rw [this]; exact ow v.ins (by decide)
  · rcases List.mem_or_eq_of_mem_set hr with hr | rfl
    · exact v.nr r hr x hx
    · exact nb x hx
  · obtain ⟨c2, k2⟩ := v.sets.isblk hx
    exact ⟨v.low x (.inr (.inl hx)), _, _, k2, by decide, by decide⟩
theorem DB.setInn {o : Nat} {z : Int} {K : H → Prop} (v : DB h0 h rn T rows B) (ho : o < 65) (k : ∀ h', DB h0 h' rn T rows (setIn B o z) → RS h0 h h' → K h') : idxA T.In (o : Int) 1 fun a => stH h a [.int .i64 z] K := by
  obtain ⟨ro, x, hr, hx⟩ := v.at ho
  obtain ⟨b, p1, p2⟩ := own_at cI_len (by omega) v.ins (i := o) (x := x.2) (by rw [List.getElem?_map, hx]; rfl)
  have hl := own_len cI_len (by omega) v.ins
  refine idxA_of (i := o) p1 (by rw [hl, List.length_map, v.ol]; exact ho) rfl ?_
  refine own_setAt (i := o) (x := z) cI_len v.ins p1 (by rw [List.length_map, v.ol]; exact ho) fun h' w' oo ss => ?_
  have ow : ∀ {r : Sl} {n : Nat} {cs : List Value}, Owns h r 3 n cs → (∀ x, r.blk = some x → T.In.blk ≠ some x) → Owns h' r 3 n cs := fun w he => w.only oo fun x hx hf => he x hx hf
  have hty : ∀ {x : Nat}, T.In.blk = some x → ∀ c e, Blk h x c e → e = 3 := fun hx c e k => by
    obtain ⟨c2, k2⟩ := v.ins.isblk hx
    exact blk_typ k k2
  refine k h' ⟨oo.block v.tab fun hf => ?_, v.pins, v.now, v.on, v.sets.only oo fun x hx hf => ?_, v.rl, by simp only [setIn, List.length_modify]; exact v.ol, fun i r y hr hy => ?_, ?_, ow v.dy v.nd, fun hb => ow (v.swp hb) (v.ns hb), v.nr, v.nd, v.ns, v.low⟩ ⟨_, oo, fun x hx => ?_⟩
  · exact absurd (hty hf _ _ v.tab) (by decide)
  · obtain ⟨c2, k2⟩ := v.sets.isblk hx
    exact absurd (hty hf _ _ k2) (by decide)
  · simp only [setIn, get_mod] at hy
    by_cases e : o = i
    · subst e
      rw [if_pos rfl, hx] at hy
      simp at hy; subst hy
      exact ow (v.row o r x hr hx) (v.nr r (List.mem_of_getElem? hr))
    · rw [if_neg e] at hy
      exact ow (v.row i r y hr hy) (v.nr r (List.mem_of_getElem? hr))
  · have : ((setIn B o z).os.map (·.2)) = (B.os.map (·.2)).set o z := by
      apply List.ext_getElem?; intro j
      rw [List.getElem?_set]
      simp only [setIn, List.getElem?_map, get_mod, List.length_map, v.ol]
      by_cases e : o = j
      · subst e
        rw [if_pos rfl, if_pos rfl, if_pos ho, hx]; rfl
      · rw [if_neg e, if_neg e]
    rw [this]; exact w'
  · obtain ⟨c2, k2⟩ := v.ins.isblk hx
    exact ⟨v.low x (.inr (.inr hx)), _, _, k2, by decide, by decide⟩
/-- The document's book, its parts untold. -/
def DBe (h0 h : H) (rn : Nat) (B : Bk) : Prop := ∃ T rows, DB h0 h rn T rows B
theorem DB.e (v : DB h0 h rn T rows B) : DBe h0 h rn B := ⟨T, rows, v⟩
theorem DB.ct (v : DB h0 h rn T rows B) {j : Nat} {u : Value} (hu : T.cells[j]? = some u) : cellH h (Addr.add ⟨rn, 0, none⟩ j) = some u := by rw [add_lit, Nat.zero_add]; exact v.tab.cell (by simpa using hu)
theorem mine_ne {h h1 : H} {r : Sl} {t : Sl} {e : TypeId} {n : Nat} {cs : List Value} (m : Mine h r) (w : Owns h t e n cs) : ∀ x, r.blk = some x → t.blk ≠ some x := fun x hx ht => by
  have := m x hx; have := w.blk_lt ht; omega
theorem RSeal_spec {o : Int} {Q : Int → Int → H → Prop} (v : DB h0 h rn T rows B) (ok : Ok B c) (hc : c < 700000) (lim : Lim B.pins B.os) (k : ∀ h', DBe h0 h' rn (sealB B o).2.2 → RS h0 h h' → Q (sealB B o).1 (sealB B o).2.1 h') :
    F.spateref9_Book_Seal (some ⟨rn, 0, none⟩) o h Q := by
  unfold F.spateref9_Book_Seal
  refine own_spec ⟨fun g => ?_, fun g => ?_⟩
  · have hio : isO o = false := by simpa using g
    have := k h; rw [sealB, if_pos hio] at this
    exact this v.e (.of_ext (.refl _))
  · have hio : isO o = true := by simpa using g
    obtain ⟨q1, q2, q3⟩ := iso_nat hio
    obtain ⟨r, x, hr, hx⟩ := v.at (i := o.toNat) (by omega)
    obtain ⟨hs, hi⟩ := set_is hx
    have hxm := List.mem_of_getElem? hx
    have w := v.row _ r x hr hx
    have hl := own_len cI_len (by omega) w
    have hlim := lim.2 x hxm
    have hnow := ok.now
    have hsx := ok.sets x hxm
    have hxl := upto_len ok hsx.1 hsx.2.1
    rw [sealB, if_neg (by rw [hio]; simp), hs] at k
    rw [← q3]
    refine ⟨_, rfl, (ldL_iff (v.ct (j := 2) rfl)).2 (v.rowAt (by omega) hr ⟨_, rfl, (ldI_iff (v.ct (j := 0) rfl)).2 ?_⟩)⟩
    rw [hl, v.pins]
    refine ⟨fun g => ?_, fun g => ?_⟩
    · have : (x.1.length : Int) = B.pins := by simp at g; omega
      rw [if_pos this] at k
      exact k h v.e (.of_ext (.refl _))
    · have : ¬ (x.1.length : Int) = B.pins := by simp at g; omega
      rw [if_neg this, if_neg (by omega)] at k
      refine ⟨_, rfl, (ldI_iff (v.ct (j := 1) rfl)).2 ?_⟩
      rw [v.now]
      refine ⟨fun g => by simp at g; omega, fun _ => ⟨_, rfl, (ldI_iff (n := B.now) (by rw [← v.now]; exact v.ct (j := 1) rfl)).2 ?_⟩⟩
      refine ⟨_, rfl, (ldL_iff (v.ct (j := 2) rfl)).2 ⟨_, rfl, (ldL_iff (v.ct (j := 2) rfl)).2 (v.rowAt (by omega) hr (With_spec w.reads hsx.1 (by omega) fun r2 h2 w2 m2 e2 => ?_))⟩⟩
      have v2 := v.ext e2
      refine ⟨v2.ct (j := 2) rfl, v2.setRow (by omega) w2 (mine_ne (h1 := h2) m2 v.ins) fun h3 v3 s3 _ => ?_⟩
      refine ⟨_, rfl, (ldI_iff (n := B.now) (by rw [← v.now]; exact v3.ct (j := 1) rfl)).2 ⟨_, rfl, ?_⟩⟩
      rw [w64 (by omega) (by omega)]
      exact v3.bump fun h4 v4 s4 => k h4 v4.e (((RS.of_ext e2).trans s3).trans s4)
theorem RInner_spec {o : Int} {Q : Int → Int → H → Prop} (v : DB h0 h rn T rows B) (ok : Ok B c) (hc : c < 700000) (k : ∀ h', DBe h0 h' rn (innerB B o).2.2 → RS h0 h h' → Q (innerB B o).1 (innerB B o).2.1 h') :
    F.spateref9_Book_Inner (some ⟨rn, 0, none⟩) o h Q := by
  unfold F.spateref9_Book_Inner
  refine own_spec ⟨fun g => ?_, fun g => ?_⟩
  · have hio : isO o = false := by simpa using g
    have := k h; rw [innerB, if_pos hio] at this
    exact this v.e (.of_ext (.refl _))
  · have hio : isO o = true := by simpa using g
    obtain ⟨q1, q2, q3⟩ := iso_nat hio
    obtain ⟨r, x, hr, hx⟩ := v.at (i := o.toNat) (by omega)
    obtain ⟨hs, hi⟩ := set_is hx
    have hnow := ok.now
    rw [innerB, if_neg (by rw [hio]; simp), hi] at k
    rw [← q3]
    refine ⟨_, rfl, (ldL_iff (v.ct (j := 3) rfl)).2 (v.innAt hx ⟨fun g => ?_, fun g => ?_⟩)⟩
    · have : x.2 ≠ 0 := by simpa using g
      rw [if_pos this] at k
      exact k h v.e (.of_ext (.refl _))
    · have : ¬ x.2 ≠ 0 := by simpa using g
      rw [if_neg this, if_neg (by omega)] at k
      refine ⟨_, rfl, (ldI_iff (v.ct (j := 1) rfl)).2 ?_⟩
      rw [v.now]
      refine ⟨fun g => by simp at g; omega, fun _ => ⟨_, rfl, (ldI_iff (n := B.now) (by rw [← v.now]; exact v.ct (j := 1) rfl)).2 ?_⟩⟩
      refine ⟨_, rfl, (ldL_iff (v.ct (j := 3) rfl)).2 (v.setInn (by omega) fun h3 v3 s3 => ?_)⟩
      refine ⟨_, rfl, (ldI_iff (n := B.now) (by rw [← v.now]; exact v3.ct (j := 1) rfl)).2 ⟨_, rfl, ?_⟩⟩
      rw [w64 (by omega) (by omega)]
      exact v3.bump fun h4 v4 s4 => k h4 v4.e (s3.trans s4)
end
end Go.Proofs.YtgcmojbajjajgaaGreat.V
