/- The document's book: Begin, End, New; no condition. -/
import Derived.Test.YtgcmojbajjajgaaGreatZs
namespace Go.Proofs.YtgcmojbajjajgaaGreat.V
open Go Go.Proofs.YtgcmojbajjajgaaGreat.V.N
set_option linter.unusedVariables false
set_option linter.unusedSimpArgs false
set_option maxRecDepth 20000
section
variable {h0 h h' : H} {rn : Nat} {T T' : S_spateref9_Book} {rows : List Sl} {B B' : Bk} {c : Nat}
theorem DB.re2 (v : DB h0 h rn T rows B) (o : Only (· = rn) h h') (k' : Blk h' rn T'.cells.toArray tn_spateref9_Book) (p : T'.Pins = B'.pins) (n : T'.Epoch = B'.now) (b : T'.On = B'.sw) (s : T'.Sets = T.Sets) (i : T'.In = T.In) (os : B'.os = B.os)
    (dy : Owns h' T'.Die 3 1 ((dieL B').flatMap cI)) (nd : ∀ x, T'.Die.blk = some x → T.In.blk ≠ some x) (sw : B'.sw = true → Owns h' T'.Sweep 3 1 ((swL B').flatMap cI)) (ns : B'.sw = true → ∀ x, T'.Sweep.blk = some x → T.In.blk ≠ some x) : DB h0 h' rn T' rows B' :=
  ⟨k', p, n, b, by rw [s]; exact v.ow o v.sets (by decide), v.rl, by rw [os]; exact v.ol, fun j r x hr hx => by rw [os] at hx; exact v.ow o (v.row j r x hr hx) (by decide), by rw [i, os]; exact v.ow o v.ins (by decide), dy, sw,
    fun r hr x hx => by rw [i]; exact v.nr r hr x hx, fun x hx => by rw [i]; exact nd x hx, fun hb x hx => by rw [i]; exact ns hb x hx, fun x hx => by rw [s, i] at hx; exact v.low x hx⟩
theorem tab_set {T T' : S_spateref9_Book} {j : Nat} {u : Value} {K : H → Prop} (t : Blk h rn T.cells.toArray tn_spateref9_Book) (hj : j < 7) (hc : T.cells.toArray.setIfInBounds j u = T'.cells.toArray)
    (k : ∀ h', Blk h' rn T'.cells.toArray tn_spateref9_Book → Only (· = rn) h h' → K h') : stH h ⟨rn, j, none⟩ [u] K := by
  refine stH_of t (by simp [S_spateref9_Book.cells]; omega) fun h' k' o _ => k h' ?_ o
  rw [show writeA T.cells.toArray j [u] = T'.cells.toArray from hc] at k'
  exact k'
theorem tct (t : Blk h rn T.cells.toArray tn_spateref9_Book) {j : Nat} {u : Value} (hu : T.cells[j]? = some u) : cellH h (Addr.add ⟨rn, 0, none⟩ j) = some u := by rw [add_lit, Nat.zero_add]; exact t.cell (by simpa using hu)
theorem RBegin_spec {Q : Int → H → Prop} (v : DB h0 h rn T rows B) (ok : Ok B c) (hc : c < 700000) (k : ∀ h', DBe h0 h' rn (beginB B).2 → RS h0 h h' → Q (beginB B).1 h') : F.spateref9_Book_Begin (some ⟨rn, 0, none⟩) h Q := by
  unfold F.spateref9_Book_Begin
  unfold beginB at k
  refine ⟨_, rfl, (ldB_iff (n := B.sw) (by rw [← v.on]; exact v.ct (j := 6) rfl)).2 ⟨fun g => ?_, fun g => ⟨_, rfl, ?_⟩⟩⟩
  · rw [if_pos g] at k
    exact k h v.e (.of_ext (.refl _))
  · rw [if_neg (by rw [g]; simp)] at k
    refine v.tabSet (j := 6) (T' := { T with On := true }) (by omega) rfl fun h1 k1 o1 => ?_
    have d1 := v.ow o1 v.dy (by decide)
    refine newL_of fun n2 h2 hn2 b2 e2 s2 => ⟨_, rfl, ?_⟩
    have k2 : Blk h2 rn ({ T with On := true } : S_spateref9_Book).cells.toArray tn_spateref9_Book := e2.block k1 (fun f => f)
    refine (ldL_iff (tct k2 (j := 4) rfl)).2 ?_
    have w2 : Owns h2 ⟨some ⟨n2, 0, none⟩, 0, 0⟩ 3 1 (([] : List Int).flatMap cI) := blk_owns (cs := []) b2 rfl (by simp [maxLen])
    have hdl := ok.dielen
    have hdd : (dieL B).length = B.die.length := by simp [dieL]
    refine app_list (L := []) (M := dieL B) cI_len (by omega) el_Slint w2 (d1.ext e2).reads (fun x => one1 rfl) (by simp only [List.length_nil]; omega) fun r h3 w3 o3 n3 => ⟨_, rfl, ?_⟩
    have hm : Mine h1 r := fun x hx => by
      rcases n3 with n3 | ⟨b', n3, n4⟩
      · rw [n3] at hx; simp [Sl.blk] at hx; omega
      · rw [n3] at hx; cases hx; have := e2.size; omega
    have e3 : Ext h1 h3 := e2.mine (fun x hx => by simp [Sl.blk] at hx; omega) o3
    have k3 : Blk h3 rn ({ T with On := true } : S_spateref9_Book).cells.toArray tn_spateref9_Book := e3.block k1 (fun f => f)
    refine tab_set k3 (j := 5) (T' := { T with On := true, Sweep := r }) (by omega) rfl fun h4 k4 o4 => ?_
    have o : Only (· = rn) h h4 := (o1.trans e3 fun _ _ f => f.elim).trans o4 fun _ _ e => e
    have hkd : dieL { B with sw := true, die := B.die.map fun p => (p.1, 1) } = dieL B := by simp [dieL, Function.comp_def]
    have hks : swL { B with sw := true, die := B.die.map fun p => (p.1, 1) } = dieL B := by
      unfold swL dieL
      simp only
      rw [List.filter_eq_self.2 (by intro p hp; simp only [List.mem_map] at hp; obtain ⟨q, _, rfl⟩ := hp; rfl)]
      simp [Function.comp_def]
    have hin := v.ins
    refine k h4 ⟨_, _, v.re2 (T' := { T with On := true, Sweep := r }) o k4 v.pins v.now rfl rfl rfl rfl (by rw [hkd]; exact v.ow o v.dy (by decide)) v.nd (fun _ => ?_) fun _ x hx hi => ?_⟩ (v.rs o)
    · rw [hks]
      refine w3.only o4 fun x hx hf => ?_
      have hf : x = rn := hf
      have := hm x hx
      have hrn := block_lt v.tab
      have := o1.size
      omega
    · have := hm x hx
      have := v.ins.blk_lt hi
      have := o1.size
      omega
theorem filt_len {α : Type} (p : α → Bool) : ∀ l : List α, (l.filter p).length + (l.filter fun x => !p x).length = l.length
  | [] => rfl
  | a :: l => by
    have := filt_len p l
    simp only [List.filter_cons]
    cases p a <;> simp <;> omega
theorem sw_one (ok : Ok B c) {p : Int × Int} (hp : p ∈ B.die) : p.1 ∈ swL B ↔ p.2 = 1 := by
  unfold swL
  constructor
  · intro h
    obtain ⟨q, hq, he⟩ := List.mem_map.1 h
    obtain ⟨q1, q2⟩ := List.mem_filter.1 hq
    have hd := ok.die.1
    rw [List.pairwise_iff_getElem] at hd
    obtain ⟨a, ha, rfl⟩ := List.getElem_of_mem hp
    obtain ⟨b, hb, rfl⟩ := List.getElem_of_mem q1
    rcases Nat.lt_trichotomy a b with h | h | h
    · have := hd a b ha hb h; omega
    · subst h; simpa using q2
    · have := hd b a hb ha h; omega
  · intro h
    exact List.mem_map.2 ⟨p, List.mem_filter.2 ⟨hp, by simp [h]⟩, rfl⟩
theorem REnd_spec {Q : Int → Int → H → Prop} (v : DB h0 h rn T rows B) (ok : Ok B c) (hc : c < 700000) (k : ∀ h', DBe h0 h' rn (endB B).2.2 → RS h0 h h' → Q (endB B).1 (endB B).2.1 h') : F.spateref9_Book_End (some ⟨rn, 0, none⟩) h Q := by
  unfold F.spateref9_Book_End
  unfold endB at k
  refine ⟨_, rfl, (ldB_iff (n := B.sw) (by rw [← v.on]; exact v.ct (j := 6) rfl)).2 ⟨fun g => ?_, fun g => ⟨_, rfl, ?_⟩⟩⟩
  · have hb : B.sw = false := by simpa using g
    rw [if_pos hb] at k
    exact k h v.e (.of_ext (.refl _))
  · have hb : B.sw = true := by simpa using g
    rw [if_neg (by rw [hb]; simp)] at k
    have hdd : (dieL B).length = B.die.length := by simp [dieL]
    have hdl := ok.dielen
    have hsl : (swL B).length ≤ B.die.length := by unfold swL; rw [List.length_map]; exact List.length_filter_le _ _
    refine v.tabSet (j := 6) (T' := { T with On := false }) (by omega) rfl fun h1 k1 o1 => ⟨(swL B).length + 1, ?_⟩
    have sw1 := v.ow o1 (v.swp hb) (by decide)
    have hf : ∀ l : List Int, dieL { B with sw := false, die := B.die.filter fun p => decide (p.1 ∉ l) } = (dieL B).filter fun e => decide (e ∉ l) := fun l => by
      unfold dieL; simp only; rw [List.filter_map]; rfl
    have v1 : DB h0 h1 rn { T with On := false } rows { B with sw := false, die := B.die.filter fun p => decide (p.1 ∉ (swL B).take 0) } :=
      v.re2 (T' := { T with On := false }) o1 k1 v.pins v.now rfl rfl rfl rfl (by
        rw [hf]
        rw [List.filter_eq_self.2 (by simp)]
        exact v.ow o1 v.dy (by decide)) v.nd (fun h => (by cases h)) (fun h => (by cases h))
    have loop : ∀ (d i : Nat) (h2 : H) (T2 : S_spateref9_Book), i ≤ (swL B).length → (swL B).length - i < d → DB h0 h2 rn T2 rows { B with sw := false, die := B.die.filter fun p => decide (p.1 ∉ (swL B).take i) } → Owns h2 T2.Sweep 3 1 ((swL B).flatMap cI) → RS h0 h h2 →
        F.spateref9_Book_End.l1 Q d (some ⟨rn, 0, none⟩) (i : Int) h2 := by
      intro d
      induction d with
      | zero => intro i h2 T2 _ hm; omega
      | succ d ih =>
        intro i h2 T2 hi hm v2 w2 s2
        have hl := own_len cI_len (by omega) w2
        unfold F.spateref9_Book_End.l1
        simp only [decide_eq_true_eq, decide_eq_false_iff_not]
        refine ⟨_, rfl, (ldL_iff (v2.ct (j := 5) rfl)).2 ?_⟩
        rw [hl]
        refine ⟨fun g => ?_, fun g => ?_⟩
        · obtain ⟨y, hy⟩ : ∃ y, (swL B)[i]? = some y := ⟨_, List.getElem?_eq_getElem (by omega)⟩
          refine ⟨_, rfl, (ldL_iff (v2.ct (j := 4) rfl)).2 ⟨_, rfl, (ldL_iff (v2.ct (j := 5) rfl)).2 (rdI w2.reads hy ?_)⟩⟩
          have hlen : (dieL { B with sw := false, die := B.die.filter fun p => decide (p.1 ∉ (swL B).take i) }).length ≤ B.die.length := by
            simp only [dieL, List.length_map]; exact List.length_filter_le _ _
          refine Without_spec v2.dy.reads (by omega) fun r h3 w3 m3 e3 => ⟨_, rfl, ?_⟩
          have v3 := v2.ext e3
          refine v3.tabSet (j := 4) (T' := { T2 with Die := r }) (by omega) rfl fun h4 k4 o4 => ?_
          rw [w64n (by omega)]
          have e4 : ∀ p : Int × Int, (decide (p.1 ∉ (swL B).take (i + 1))) = (decide (p.1 ∉ (swL B).take i) && (p.1 != y)) := fun p => by
            rw [take_snoc hy]
            simp only [List.mem_append, List.mem_singleton, not_or, Bool.decide_and]
            congr 1
            by_cases h : p.1 = y <;> simp [h]
          have e5 : dieL { B with sw := false, die := B.die.filter fun p => decide (p.1 ∉ (swL B).take (i + 1)) } = (dieL { B with sw := false, die := B.die.filter fun p => decide (p.1 ∉ (swL B).take i) }).filter (· != y) := by
            rw [hf, hf, List.filter_filter]
            refine List.filter_congr fun e _ => ?_
            have := e4 (e, 0)
            simp only at this
            rw [this, Bool.and_comm]
          refine ih (i + 1) h4 { T2 with Die := r } (by omega) (by omega) (v3.re2 (T' := { T2 with Die := r }) o4 k4 v2.pins v2.now v2.on rfl rfl rfl ?_ (fun x hx => mine_ne (h1 := h3) m3 v2.ins x hx) (fun h => (by cases h)) (fun h => (by cases h))) (v3.ow o4 (w2.ext e3) (by decide)) ((s2.trans (.of_ext e3)).trans (v3.rs o4))
          rw [e5]; exact v3.ow o4 w3 (by decide)
        · have hiL : i = (swL B).length := by omega
          subst hiL
          refine ⟨_, rfl, (ldL_iff (v2.ct (j := 5) rfl)).2 ⟨_, rfl, ?_⟩⟩
          rw [hl]
          refine v2.tabSet (j := 5) (T' := { T2 with Sweep := ⟨none, 0, 0⟩ }) (by omega) rfl fun h4 k4 o4 => ?_
          have v4 := v2.re2 (T' := { T2 with Sweep := ⟨none, 0, 0⟩ }) (B' := { B with sw := false, die := B.die.filter fun p => decide (p.1 ∉ (swL B).take (swL B).length) }) o4 k4 v2.pins v2.now v2.on rfl rfl rfl (v2.ow o4 v2.dy (by decide)) v2.nd (fun h => (by cases h)) (fun h => (by cases h))
          rw [List.take_length] at v4
          have e6 : (B.die.filter fun p => decide (p.1 ∉ swL B)) = B.die.filter (·.2 != 1) := List.filter_congr fun p hp => by
            have := sw_one ok hp
            by_cases h : p.2 = 1
            · simp [this, h]
            · simp [this, h]
          rw [e6] at v4
          have e7 : ((swL B).length : Int) = (B.die.length : Int) - ((B.die.filter (·.2 != 1)).length : Int) := by
            have := filt_len (fun p : Int × Int => p.2 == 1) B.die
            unfold swL
            rw [List.length_map]
            have e8 : (B.die.filter fun p => !(p.2 == 1)) = B.die.filter (·.2 != 1) := rfl
            rw [e8] at this
            omega
          rw [e7]
          exact k h4 ⟨_, _, v4⟩ (s2.trans (v2.rs o4))
    exact loop _ 0 h1 _ (by omega) (by omega) v1 sw1 (v.rs o1)
theorem new_tab {h h2 : H} {ts is : Sl} {p : Int} {K : Option Addr → Int → H → Prop} (e2 : Ext h h2) (wt : Owns h2 ts tn_Slint 1 ((List.replicate 65 (⟨none, 0, 0⟩ : Sl)).flatMap cL)) (wi : Owns h2 is 3 1 ((List.replicate 65 (0 : Int)).flatMap cI)) (mt : Mine h ts) (mi : Mine h is)
    (k : ∀ n h', DBe h h' n (newB p) → Ext h h' → K (some ⟨n, 0, none⟩) 0 h') :
    new h2 ((⟨p, 1, ts, is, (⟨none, 0, 0⟩ : Sl), (⟨none, 0, 0⟩ : Sl), false⟩ : S_spateref9_Book).cells.toArray) tn_spateref9_Book fun a h3 => K (some a) 0 h3 := by
  refine new_of fun n h3 hn k3 e3 s3 => ?_
  refine k n h3 ⟨⟨p, 1, ts, is, ⟨none, 0, 0⟩, ⟨none, 0, 0⟩, false⟩, List.replicate 65 ⟨none, 0, 0⟩, ⟨k3, rfl, rfl, rfl, wt.ext e3, by simp, by simp [newB], fun i r x hr hx => ?_, ?_, ?_, fun h => (by cases h), fun r hr x hx => ?_, fun x hx => by simp [Sl.blk] at hx, fun h => (by cases h), fun x hx => ?_⟩⟩ (e2.trans e3)
  · simp only [List.getElem?_replicate] at hr
    simp only [newB, List.getElem?_replicate] at hx
    split at hr
    · rename_i h65
      rw [if_pos h65] at hx
      cases hr; cases hx
      simpa using Owns.nil h3 3 1
    · cases hr
  · have : ((newB p).os.map (·.2)) = List.replicate 65 (0 : Int) := by simp [newB]
    rw [this]; exact wi.ext e3
  · simpa [dieL, newB] using Owns.nil h3 3 1
  · have := List.eq_of_mem_replicate hr
    subst this; simp [Sl.blk] at hx
  · rcases hx with rfl | hx | hx
    · have := e2.size; omega
    · exact mt x hx
    · exact mi x hx
theorem RNew_spec {p : Int} {K : Option Addr → Int → H → Prop} (k0 : (p < 1 ∨ p > 64) → K none 1 h) (k : 1 ≤ p → p ≤ 64 → ∀ n h', DBe h h' n (newB p) → Ext h h' → K (some ⟨n, 0, none⟩) 0 h') : F.spateref9_New p h K := by
  unfold F.spateref9_New
  have j2 : ∀ b : Bool, (b = true → (p < 1 ∨ p > 64)) → (b = false → 1 ≤ p ∧ p ≤ 64) → F.spateref9_New.j2 K p b h := by
    intro b hb hb2
    unfold F.spateref9_New.j2
    refine ⟨fun g => k0 (hb g), fun g => ?_⟩
    obtain ⟨p1, p2⟩ := hb2 g
    unfold F.spateref9_New.j1
    have mS : (madeCells (Sl.enc ⟨none, 0, 0⟩).cells (65 * 1)).toList = (List.replicate 65 (⟨none, 0, 0⟩ : Sl)).flatMap cL := (made_one _ 65).trans (flat_replicate cL _ _ rfl 65).symm
    have mI : (madeCells (Value.int .i64 0).cells (65 * 1)).toList = (List.replicate 65 (0 : Int)).flatMap cI := (made_one _ 65).trans (flat_replicate cI _ _ rfl 65).symm
    refine ⟨make_of (n := 65) el_SlSlint (by omega) (by simp [maxLen]) fun b1 h1 hb1 w1 e1 => make_of (n := 65) el_Slint (by omega) (by simp [maxLen]) fun b2 h2 hb2 w2 e2 => ?_, make_of (n := 65) el_Slint (by omega) (by simp [maxLen]) fun b1 h1 hb1 w1 e1 => make_of (n := 65) el_SlSlint (by omega) (by simp [maxLen]) fun b2 h2 hb2 w2 e2 => ?_⟩
    · rw [mS] at w1; rw [mI] at w2
      exact new_tab (e1.trans e2) (w1.ext e2) w2 (fun x hx => by simp [Sl.blk] at hx; omega) (fun x hx => by simp [Sl.blk] at hx; have := e1.size; omega) fun n h3 d e => k p1 p2 n h3 d e
    · rw [mI] at w1; rw [mS] at w2
      exact new_tab (e1.trans e2) w2 (w1.ext e2) (fun x hx => by simp [Sl.blk] at hx; have := e1.size; omega) (fun x hx => by simp [Sl.blk] at hx; omega) fun n h3 d e => k p1 p2 n h3 d e
  refine ⟨fun g => j2 true (fun _ => .inl (by simpa using g)) (fun g => (by cases g)), fun g => j2 _ (fun g2 => .inr (by simpa using g2)) fun g2 => ?_⟩
  simp at g g2
  omega
end
end Go.Proofs.YtgcmojbajjajgaaGreat.V
