/- The law EpochPlays; no condition. -/
import Derived.Test.YtgcmojbajjajgaaGreatZu
namespace Go.Proofs.YtgcmojbajjajgaaGreat.V
open Go Go.Proofs.YtgcmojbajjajgaaGreat.V.N
set_option linter.unusedVariables false
set_option linter.unusedSimpArgs false
set_option maxRecDepth 20000
theorem EpochPlays_spec {h : H} {pins : Int} {s1 : Sl} {S1 : List Stp9} {Q : Bool → H → Prop} (t1 : Reads h s1 4 (S1.flatMap (·.cells))) (k : ∀ h', Ext h h' → Q true h') : F.spatelaw9_EpochPlays pins s1 h Q := by
  have l1 := rd_len step_len (by omega) t1
  unfold F.spatelaw9_EpochPlays
  refine known_spec fun h1 e1 => ⟨fun g => by simp at g, fun _ => ⟨fun _ => k h1 e1, fun g => ?_⟩⟩
  have b1 : s1.len ≤ 3000 := by simp at g; omega
  rw [l1] at b1
  refine new_bk (BKs.nil h1) (fun hp => ?_) fun p1 p2 n h2 F2 q2 st2 => ?_
  · refine RNew_spec (fun _ => ?_) fun a1 a2 => by omega
    refine ⟨fun g => by simp at g, fun _ => ?_⟩
    unfold F.spatelaw9_EpochPlays.j8 F.spatelaw9_EpochPlays.j1
    exact ⟨fun g => by simp at g, fun _ => ⟨fun _ => k h1 e1, fun g => by simp at g⟩⟩
  refine RNew_spec (fun hp => by omega) fun _ _ rn h3 v3 e3 => ?_
  have hs12 := q2.ext0.size
  have v3' : DBe h1 h3 rn (newB pins) := by
    obtain ⟨T, rows, v⟩ := v3
    exact ⟨T, rows, ⟨v.tab, v.pins, v.now, v.on, v.sets, v.rl, v.ol, v.row, v.ins, v.dy, v.swp, v.nr, v.nd, v.ns, fun x hx => by have := v.low x hx; omega⟩⟩
  refine ⟨fun g => by simp at g, fun _ => ?_⟩
  unfold F.spatelaw9_EpochPlays.j8 F.spatelaw9_EpochPlays.j1
  refine ⟨fun g => by simp at g, fun _ => ⟨fun g => by simp at g, fun _ => ⟨S1.length + 1, ?_⟩⟩⟩
  have key : ∀ (d i : Nat) (h' : H) (G : Nat → Prop) (L : List (Nat × Bk)) (j n : Nat) (B : Bk) (sw : List Int), i ≤ S1.length → S1.length - i < d → BKs h1 h' G L → L[j]? = some (n, B) → DBe h1 h' rn B → Inv B i sw → Lim B.pins B.os →
      F.spatelaw9_EpochPlays.l2 Q d s1 (some ⟨n, 0, none⟩) (some ⟨rn, 0, none⟩) (i : Int) h' := by
    intro d
    induction d with
    | zero => intro i h' G L j n B sw _ hm; omega
    | succ d ih =>
      intro i h' G L j n B sw hi hm b hj v inv lim
      have ok := inv.ok
      have hnow := ok.now
      unfold F.spatelaw9_EpochPlays.l2
      simp only [decide_eq_true_eq, decide_eq_false_iff_not]
      rw [l1]
      refine ⟨fun g => ?_, fun g => ⟨69, ?_⟩⟩
      · obtain ⟨x, hx⟩ : ∃ x, S1[i]? = some x := ⟨_, List.getElem?_eq_getElem (by omega)⟩
        obtain ⟨p, r1, r2, r3⟩ := rd_at step_len (by omega) (t1.ext (e1.trans b.ext0)) hx
        refine idxR_of (i := i) r1 (by rw [l1]; omega) rfl ?_
        refine (ldI_iff (n := x.Kind) (r3 0 (.int .i64 x.Kind) rfl)).2 ?_
        have j4 : ∀ (h' : H) (G : Nat → Prop) (L : List (Nat × Bk)) (j n : Nat), BKs h1 h' G L → L[j]? = some (n, B) → DBe h1 h' rn B → F.spatelaw9_EpochPlays.j4 Q (F.spatelaw9_EpochPlays.l2 Q d) s1 (some ⟨n, 0, none⟩) (some ⟨rn, 0, none⟩) (i : Int) h' := by
          intro h' G L j n b hj v
          unfold F.spatelaw9_EpochPlays.j4
          refine step_at (h0 := h) (e := e1.trans b.ext0) t1 hx (e1.trans b.ext0) ?_
          refine told_spec b hj v ok (by omega) lim inv.dis fun h4 G4 b4 v4 => ⟨fun g => by simp at g, fun _ => ?_⟩
          have hok : Ok (doB B x).2 (i + 1) := ok.do_ x
          have hlm : Lim (doB B x).2.pins (doB B x).2.os := lim_do lim
          have mv := moves (s := x) inv
          have hj4 : (L.set j (n, (doB B x).2))[j]? = some (n, (doB B x).2) := set_at (List.getElem?_eq_some_iff.1 hj).1
          refine like_spec b4 hj4 v4 hok (by omega) hlm.1 fun h5 G5 b5 v5 => ?_
          unfold F.spatelaw9_EpochPlays.j5 F.spatelaw9_EpochPlays.j3
          refine ⟨fun g => by simp at g, fun _ => ?_⟩
          rw [w64n (by omega)]
          exact ih (i + 1) h5 G5 _ j n _ _ (by omega) (by omega) b5 hj4 v5 mv.inv hlm
        refine ⟨fun g2 => ?_, fun g2 => j4 h' G L j n b hj v⟩
        refine twin_bk b hj fun n' h4 G4 b4 st4 => ⟨fun g => by simp at g, fun _ => ?_⟩
        exact j4 h4 G4 _ L.length n' b4 (by simp) (v.stp b st4)
      · -- the last question
        have owners : ∀ (d o : Nat) (h' : H) (G : Nat → Prop), o ≤ 68 → 68 - o < d → BKs h1 h' G L → DBe h1 h' rn B → F.spatelaw9_EpochPlays.l6 Q d (some ⟨n, 0, none⟩) (some ⟨rn, 0, none⟩) ((o : Int) - 1) h' := by
          intro d
          induction d with
          | zero => intro o h' G _ hm; omega
          | succ d ih =>
            intro o h' G ho hm b v
            unfold F.spatelaw9_EpochPlays.l6
            simp only [decide_eq_true_eq, decide_eq_false_iff_not]
            refine ⟨fun g => ⟨8, ?_⟩, fun g => k h' (e1.trans b.ext0)⟩
            have inner : ∀ (d2 e : Nat) (h' : H) (G : Nat → Prop), e ≤ 7 → 7 - e < d2 → BKs h1 h' G L → DBe h1 h' rn B → F.spatelaw9_EpochPlays.l7 Q (F.spatelaw9_EpochPlays.l6 Q d) d2 (some ⟨n, 0, none⟩) (some ⟨rn, 0, none⟩) ((o : Int) - 1) (e : Int) h' := by
              intro d2
              induction d2 with
              | zero => intro e h' G _ hm; omega
              | succ d2 ih2 =>
                intro e h' G he hm2 b v
                unfold F.spatelaw9_EpochPlays.l7
                simp only [decide_eq_true_eq, decide_eq_false_iff_not]
                refine ⟨fun g2 => ?_, fun g2 => ?_⟩
                · obtain ⟨T, rows, v⟩ := v
                  have hc1 : cellH h' (Addr.add ⟨rn, 0, none⟩ 1) = some (.int .i64 B.now) := by rw [← v.now]; exact v.ct (j := 1) rfl
                  refine ⟨_, rfl, (ldI_iff (n := B.now) hc1).2 ⟨_, rfl, (ldI_iff (n := B.now) hc1).2 ?_⟩⟩
                  refine holds_bk b hj fun h4 G4 b4 st4 => ?_
                  have v4 := v.stp b st4
                  refine ⟨by rw [← v.now]; exact v4.ct (j := 1) rfl, RHolds_spec v4 ok (by omega) ⟨fun g => by simp at g, fun _ => ?_⟩⟩
                  rw [w64n (by omega)]
                  exact ih2 (e + 1) h4 G4 (by omega) (by omega) b4 v4.e
                · rw [w64 (n := (o : Int) - 1 + 1) (by omega) (by omega)]
                  have := ih (o + 1) h' G (by omega) (by omega) b v
                  rw [show (((o + 1 : Nat) : Int) - 1) = (o : Int) - 1 + 1 from by omega] at this
                  exact this
            exact inner 8 0 h' G (by omega) (by omega) b v
        exact owners 69 0 h' G (by omega) (by omega) b v
  refine key _ 0 h3 F2 [(n, newB pins)] 0 n (newB pins) [] (by omega) (by omega) (q2.ext e3) rfl v3' ⟨.new, by simp [dieL, newB], fun _ p hp => by simp [newB] at hp, fun h => by simp [newB] at h, .nil⟩ ⟨by simp [newB], fun x hx => ?_⟩
  have : x = ([], 0) := List.eq_of_mem_replicate hx
  subst this
  show ((0 : Nat) : Int) ≤ pins
  omega
end Go.Proofs.YtgcmojbajjajgaaGreat.V
