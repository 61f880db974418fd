/- The document's book: Join, Release, Done, Holds, Live; no condition. -/
import Derived.Test.YtgcmojbajjajgaaGreatZq
namespace Go.Proofs.YtgcmojbajjajgaaGreat.V
open Go Go.Proofs.YtgcmojbajjajgaaGreat.V.N
set_option linter.unusedVariables false
set_option linter.unusedSimpArgs false
set_option maxRecDepth 20000
section
variable {h0 h h' : H} {rn : Nat} {T T' : S_spateref9_Book} {rows : List Sl} {B B' : Bk} {c : Nat}
theorem sw_sub {e : Int} (h : e ∈ swL B) : e ∈ dieL B := by
  unfold swL at h; unfold dieL
  obtain ⟨p, hp, rfl⟩ := List.mem_map.1 h
  exact List.mem_map.2 ⟨p, (List.mem_filter.1 hp).1, rfl⟩
theorem held_set {o : Nat} {x : List Int × Int} (hx : B.os[o]? = some x) {e : Int} (he : e ∈ x.1 ∨ x.2 = e) : heldB B e = true := (held_at hx).2 (.inl he)
theorem not_sw (dis : ∀ e ∈ dieL B, heldB B e = false) {e : Int} (he : heldB B e = true) : e ∉ swL B := fun hs => by
  have := dis e (sw_sub hs); rw [he] at this; cases this
theorem RHas_spec {r : Sl} {L : List Int} {e : Int} {Q : Bool → H → Prop} (w : Owns h r 3 1 (L.flatMap cI)) (hs : L.length < 1000000) (k : Q (decide (e ∈ L)) h) : F.spateref9_Has r e h Q := Has_spec w.reads hs k
theorem RHolds_spec {o e : Int} {Q : Bool → H → Prop} (v : DB h0 h rn T rows B) (ok : Ok B c) (hc : c < 700000) (k : Q (holdsB B o e) h) : F.spateref9_Book_Holds (some ⟨rn, 0, none⟩) o e h Q := by
  unfold F.spateref9_Book_Holds
  unfold holdsB at k
  refine own_spec ⟨fun g => ?_, fun g => ?_⟩
  · obtain ⟨q1, q2, q3⟩ := iso_nat g
    obtain ⟨r, x, hr, hx⟩ := v.at (i := o.toNat) (by omega)
    obtain ⟨hs, hi⟩ := set_is hx
    have hsx := ok.sets x (List.mem_of_getElem? hx)
    have hxl := upto_len ok hsx.1 hsx.2.1
    rw [g, Bool.true_and, hs] at k
    rw [← q3]
    exact ⟨_, rfl, (ldL_iff (v.ct (j := 2) rfl)).2 (v.rowAt (by omega) hr (RHas_spec (v.row _ r x hr hx) (by omega) k))⟩
  · rw [g, Bool.false_and] at k; exact k
theorem RLive_spec {Q : Int → H → Prop} (v : DB h0 h rn T rows B) (ok : Ok B c) (hc : c < 700000) (os0 : B.os[0]? = some ([], 0)) (k : ∀ h', Ext h h' → Q (((heldL B).length : Int) + (B.die.length : Int)) h') : F.spateref9_Book_Live (some ⟨rn, 0, none⟩) h Q := by
  unfold F.spateref9_Book_Live
  refine ⟨_, rfl, (ldL_iff (v.ct (j := 4) rfl)).2 (RHeld_spec v ok (by omega) os0 fun r h1 w m e1 => ⟨(v.ext e1).ct (j := 4) rfl, ?_⟩)⟩
  have l1 := own_len cI_len (by omega) w
  have l2 := own_len cI_len (by omega) v.dy
  have h1' := ok.heldlen
  have h2' := ok.dielen
  have hd : (dieL B).length = B.die.length := by simp [dieL]
  rw [l1, l2, hd, w64 (by omega) (by omega)]
  exact k h1 e1
theorem RJoin_spec {o e : Int} {Q : Int → H → Prop} (v : DB h0 h rn T rows B) (ok : Ok B c) (hc : c < 700000) (lim : Lim B.pins B.os) (k : ∀ h', DBe h0 h' rn (joinB B o e).2 → RS h0 h h' → Q (joinB B o e).1 h') :
    F.spateref9_Book_Join (some ⟨rn, 0, none⟩) o e h Q := by
  unfold F.spateref9_Book_Join
  refine own_spec ⟨fun g => ?_, fun g => ⟨65, ?_⟩⟩
  · have hio : isO o = false := by simpa using g
    have := k h; rw [joinB, if_pos hio] at this
    exact this v.e (.of_ext (.refl _))
  · have hio : isO o = true := by simpa using g
    obtain ⟨q1, q2, q3⟩ := iso_nat hio
    obtain ⟨r, x, hr, hx⟩ := v.at (i := o.toNat) (by omega)
    obtain ⟨hs, hi⟩ := set_is hx
    have hxm := List.mem_of_getElem? hx
    have w := v.row _ r x hr hx
    have hl := own_len cI_len (by omega) w
    have hlim := lim.2 x hxm
    have hsx := ok.sets x hxm
    have hxl := upto_len ok hsx.1 hsx.2.1
    rw [joinB, if_neg (by rw [hio]; simp), hs] at k
    have loop : ∀ (d i : Nat), 1 ≤ i → i ≤ 65 → 65 - i < d → F.spateref9_Book_Join.l1 Q d (some ⟨rn, 0, none⟩) o e ((B.os.take i).any fun y => decide (e ∈ y.1)) (i : Int) h := by
      intro d
      induction d with
      | zero => intro i _ _ hm; omega
      | succ d ih =>
        intro i i1 i2 hm
        unfold F.spateref9_Book_Join.l1
        simp only [decide_eq_true_eq, decide_eq_false_iff_not]
        refine ⟨fun g => ?_, fun g => ?_⟩
        · obtain ⟨ri, y, hri, hy⟩ := v.at (i := i) (by omega)
          have hsn : ((B.os.take (i + 1)).any fun y => decide (e ∈ y.1)) = (((B.os.take i).any fun y => decide (e ∈ y.1)) || decide (e ∈ y.1)) := by
            rw [take_snoc hy, List.any_append]; simp
          have nx := ih (i + 1) (by omega) (by omega) (by omega)
          rw [hsn] at nx
          have hsy := ok.sets y (List.mem_of_getElem? hy)
          have hyl := upto_len ok hsy.1 hsy.2.1
          refine ⟨fun g2 => ?_, fun g2 => ?_⟩
          · unfold F.spateref9_Book_Join.j2
            rw [w64n (by omega)]
            rw [g2] at nx; exact nx
          · refine ⟨_, rfl, (ldL_iff (v.ct (j := 2) rfl)).2 (v.rowAt (by omega) hri (RHas_spec (v.row _ ri y hri hy) (by omega) ?_))⟩
            unfold F.spateref9_Book_Join.j2
            rw [w64n (by omega)]
            rw [g2] at nx; exact nx
        · have : i = 65 := by omega
          subst this
          rw [List.take_of_length_le (by rw [ok.lo]; omega)]
          have hpin : (B.os.any fun y => decide (e ∈ y.1)) = pinB B e := rfl
          rw [hpin]
          refine ⟨fun g => ?_, fun g => ?_⟩
          · have hp : pinB B e = false := by simpa using g
            rw [if_pos hp] at k
            exact k h v.e (.of_ext (.refl _))
          · have hp : pinB B e = true := by simpa using g
            rw [if_neg (by rw [hp]; simp)] at k
            rw [← q3]
            refine ⟨_, rfl, (ldL_iff (v.ct (j := 2) rfl)).2 (v.rowAt (by omega) hr (RHas_spec w (by omega) ⟨fun g => ?_, fun g => ?_⟩))⟩
            · have he : e ∈ x.1 := by simpa using g
              rw [if_pos he] at k
              exact k h v.e (.of_ext (.refl _))
            · have he : e ∉ x.1 := by simpa using g
              rw [if_neg he] at k
              refine ⟨_, rfl, (ldL_iff (v.ct (j := 2) rfl)).2 (v.rowAt (by omega) hr ⟨_, rfl, (ldI_iff (v.ct (j := 0) rfl)).2 ?_⟩)⟩
              rw [hl, v.pins]
              refine ⟨fun g => ?_, fun g => ?_⟩
              · have : (x.1.length : Int) = B.pins := by simp at g; omega
                rw [if_pos this] at k
                exact k h v.e (.of_ext (.refl _))
              · have : ¬ (x.1.length : Int) = B.pins := by simp at g; omega
                rw [if_neg this] at k
                refine ⟨_, rfl, (ldL_iff (v.ct (j := 2) rfl)).2 ⟨_, rfl, (ldL_iff (v.ct (j := 2) rfl)).2 (v.rowAt (by omega) hr (With_spec w.reads hsx.1 (by omega) fun r2 h2 w2 m2 e2 => ?_))⟩⟩
                have v2 := v.ext e2
                exact ⟨v2.ct (j := 2) rfl, v2.setRow (by omega) w2 (mine_ne (h1 := h2) m2 v.ins) fun h3 v3 s3 _ => k h3 v3.e ((RS.of_ext e2).trans s3)⟩
    have := loop 65 1 (by omega) (by omega) (by omega)
    have h1 : ((B.os.take 1).any fun y => decide (e ∈ y.1)) = false := by
      rw [show (1 : Nat) = 0 + 1 from rfl, take_snoc lim.1]; simp
    rw [h1] at this; exact this
theorem RRelease_spec {o e : Int} {Q : Int → H → Prop} (v : DB h0 h rn T rows B) (ok : Ok B c) (hc : c < 700000) (os0 : B.os[0]? = some ([], 0)) (dis : ∀ e ∈ dieL B, heldB B e = false) (k : ∀ h', DBe h0 h' rn (releaseB B o e).2 → RS h0 h h' → Q (releaseB B o e).1 h') :
    F.spateref9_Book_Release (some ⟨rn, 0, none⟩) o e h Q := by
  unfold F.spateref9_Book_Release
  refine own_spec ⟨fun g => ?_, fun g => ?_⟩
  · have hio : isO o = false := by simpa using g
    have := k h; rw [releaseB, if_pos hio] at this
    exact this v.e (.of_ext (.refl _))
  · have hio : isO o = true := by simpa using g
    obtain ⟨q1, q2, q3⟩ := iso_nat hio
    obtain ⟨r, x, hr, hx⟩ := v.at (i := o.toNat) (by omega)
    obtain ⟨hs, hi⟩ := set_is hx
    have hxm := List.mem_of_getElem? hx
    have w := v.row _ r x hr hx
    have hsx := ok.sets x hxm
    have hxl := upto_len ok hsx.1 hsx.2.1
    rw [releaseB, if_neg (by rw [hio]; simp), hs] at k
    rw [← q3]
    refine ⟨_, rfl, (ldL_iff (v.ct (j := 2) rfl)).2 (v.rowAt (by omega) hr (RHas_spec w (by omega) ⟨fun g => ?_, fun g => ?_⟩))⟩
    · have he : e ∉ x.1 := by simpa using g
      rw [if_pos he] at k
      exact k h v.e (.of_ext (.refl _))
    · have he : e ∈ x.1 := by simpa using g
      rw [if_neg (by simp [he])] at k
      refine ⟨_, rfl, (ldL_iff (v.ct (j := 2) rfl)).2 ⟨_, rfl, (ldL_iff (v.ct (j := 2) rfl)).2 (v.rowAt (by omega) hr (Without_spec w.reads (by omega) fun r2 h2 w2 m2 e2 => ?_))⟩⟩
      have v2 := v.ext e2
      refine ⟨v2.ct (j := 2) rfl, v2.setRow (by omega) w2 (mine_ne (h1 := h2) m2 v.ins) fun h3 v3 s3 _ => ?_⟩
      have ok1 : Ok (setS B o.toNat (x.1.filter (· != e))) c := ok.setS (hsx.1.filter _) fun a ha => hsx.2.1 a (List.mem_filter.1 ha).1
      have hns : e ∉ swL B := not_sw dis (held_set hx (.inl he))
      exact loose_spec v3 ok1 (by omega) (os0_mod os0 q1) (hsx.2.1 e he).1 hns fun h4 T4 v4 o4 => k h4 v4.e (((RS.of_ext e2).trans s3).trans (v3.rs o4))
theorem RDone_spec {o : Int} {Q : Int → H → Prop} (v : DB h0 h rn T rows B) (ok : Ok B c) (hc : c < 700000) (os0 : B.os[0]? = some ([], 0)) (dis : innB B o ∉ swL B) (k : ∀ h', DBe h0 h' rn (doneO B o).2 → RS h0 h h' → Q (doneO B o).1 h') :
    F.spateref9_Book_Done (some ⟨rn, 0, none⟩) o h Q := by
  unfold F.spateref9_Book_Done
  refine own_spec ⟨fun g => ?_, fun g => ?_⟩
  · have hio : isO o = false := by simpa using g
    have := k h; rw [doneO, if_pos hio] at this
    exact this v.e (.of_ext (.refl _))
  · have hio : isO o = true := by simpa using g
    obtain ⟨q1, q2, q3⟩ := iso_nat hio
    obtain ⟨r, x, hr, hx⟩ := v.at (i := o.toNat) (by omega)
    obtain ⟨hs, hi⟩ := set_is hx
    have hxm := List.mem_of_getElem? hx
    have hsx := ok.sets x hxm
    have hnow := ok.now
    rw [doneO, if_neg (by rw [hio]; simp), hi] at k
    rw [hi] at dis
    rw [← q3]
    refine ⟨_, rfl, (ldL_iff (v.ct (j := 3) rfl)).2 (v.innAt hx ⟨fun g => ?_, fun g => ?_⟩)⟩
    · have : x.2 = 0 := by simpa using g
      rw [if_pos this] at k
      exact k h v.e (.of_ext (.refl _))
    · have : ¬ x.2 = 0 := by simpa using g
      rw [if_neg this] at k
      refine ⟨_, rfl, (ldL_iff (v.ct (j := 3) rfl)).2 (v.setInn (by omega) fun h3 v3 s3 => ?_)⟩
      have ok1 : Ok (setIn B o.toNat 0) c := ok.setIn (by omega) (by omega)
      exact loose_spec v3 ok1 (by omega) (os0_mod os0 q1) (by omega) dis fun h4 T4 v4 o4 => k h4 v4.e (s3.trans (v3.rs o4))
end
end Go.Proofs.YtgcmojbajjajgaaGreat.V
