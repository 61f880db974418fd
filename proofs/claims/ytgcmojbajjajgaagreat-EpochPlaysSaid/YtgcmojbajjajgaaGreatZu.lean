/- The law EpochPlays: one step of both; both tell the same; no condition. -/
import Derived.Test.YtgcmojbajjajgaaGreatZt
namespace Go.Proofs.YtgcmojbajjajgaaGreat.V
open Go Go.Proofs.YtgcmojbajjajgaaGreat.V.N
set_option linter.unusedVariables false
set_option linter.unusedSimpArgs false
set_option maxRecDepth 20000
theorem Lim.mod {pins : Int} {os : List (List Int × Int)} {i : Nat} {f : List Int × Int → List Int × Int} (l : Lim pins os) (hi : 1 ≤ i) (hf : ∀ x, os[i]? = some x → ((f x).1.length : Int) ≤ pins) : Lim pins (os.modify i f) := by
  refine ⟨os0_mod l.1 hi, fun x hx => ?_⟩
  rcases mem_modify hx with hx | ⟨y, hy, rfl⟩
  · exact l.2 x hx
  · exact hf y hy
section
variable {B : Bk} {x : Stp9} {c : Nat}
theorem iso_t {o : Int} (h : ¬ isO o = false) : isO o = true := by simpa using h
theorem lim_len (l : Lim B.pins B.os) {o : Int} {y : List Int × Int} (hy : B.os[o.toNat]? = some y) : setB B o = y.1 ∧ (y.1.length : Int) ≤ B.pins := ⟨(set_is hy).1, l.2 y (List.mem_of_getElem? hy)⟩
theorem lim_do (l : Lim B.pins B.os) : Lim (doB B x).2.pins (doB B x).2.os := by
  unfold doB
  repeat' split
  · unfold sealB
    split
    · exact l
    · rename_i ho
      split
      · exact l
      · split
        · exact l
        · rename_i hl _
          refine Lim.mod (f := fun z => (insS (setB B x.Owner) B.now, z.2)) l (iso_nat (iso_t ho)).1 fun y hy => ?_
          obtain ⟨h1, h2⟩ := lim_len l hy
          rw [h1] at hl ⊢
          have := ins_len B.now y.1
          show ((insS y.1 B.now).length : Int) ≤ B.pins
          omega
  · unfold innerB
    split
    · exact l
    · rename_i ho
      split
      · exact l
      · split
        · exact l
        · exact Lim.mod (f := fun z => (z.1, B.now)) l (iso_nat (iso_t ho)).1 fun y hy => (lim_len l hy).2
  · unfold joinB
    split
    · exact l
    · rename_i ho
      split
      · exact l
      · split
        · exact l
        · split
          · exact l
          · rename_i hl
            refine Lim.mod (f := fun z => (insS (setB B x.Owner) (ofB x B.now), z.2)) l (iso_nat (iso_t ho)).1 fun y hy => ?_
            obtain ⟨h1, h2⟩ := lim_len l hy
            rw [h1] at hl ⊢
            have := ins_len (ofB x B.now) y.1
            show ((insS y.1 (ofB x B.now)).length : Int) ≤ B.pins
            omega
  · unfold releaseB
    split
    · exact l
    · rename_i ho
      split
      · exact l
      · simp only [letB_os, letB_pins]
        refine Lim.mod (f := fun z => ((setB B x.Owner).filter (· != ofB x B.now), z.2)) l (iso_nat (iso_t ho)).1 fun y hy => ?_
        obtain ⟨h1, h2⟩ := lim_len l hy
        rw [h1]
        have := List.length_filter_le (· != ofB x B.now) y.1
        show (((y.1.filter (· != ofB x B.now)).length : Nat) : Int) ≤ B.pins
        omega
  · unfold doneO
    split
    · exact l
    · rename_i ho
      split
      · exact l
      · simp only [letB_os, letB_pins]
        exact Lim.mod (f := fun z => (z.1, 0)) l (iso_nat (iso_t ho)).1 fun y hy => (lim_len l hy).2
  · unfold dropB
    split
    · exact l
    · rename_i ho
      simp only [(lets_os (l := _) (B := _)).1, lets_pins]
      refine Lim.mod (f := fun _ => ([], 0)) l (iso_nat (iso_t ho)).1 fun y hy => ?_
      have := (lim_len l hy).2
      simp only [List.length_nil]; omega
  · unfold beginB; split
    · exact l
    · exact l
  · unfold endB; split
    · exact l
    · exact l
  · exact l
theorem inn_sw (os0 : B.os[0]? = some ([], 0)) (dis : ∀ e ∈ dieL B, heldB B e = false) (o : Int) : innB B o ∉ swL B := by
  cases hx : B.os[o.toNat]? with
  | some y => rw [(set_is hx).2]; exact not_sw dis (held_set hx (.inr rfl))
  | none =>
    have : innB B o = 0 := by unfold innB; rw [hx]; rfl
    rw [this]; exact not_sw dis (held_set os0 (.inr rfl))
end
section
variable {h1 h : H} {G : Nat → Prop} {L : List (Nat × Bk)} {i n rn : Nat} {B : Bk} {c : Nat}
theorem DBe.ext {h' : H} (v : DBe h1 h rn B) (e : Ext h h') : DBe h1 h' rn B := by obtain ⟨T, rows, v⟩ := v; exact ⟨T, rows, v.ext e⟩
theorem DBe.stp {h' : H} {F' : Nat → Prop} (v : DBe h1 h rn B) (b : BKs h1 h G L) (st : Stpp G h F' h') : DBe h1 h' rn B := by obtain ⟨T, rows, v⟩ := v; exact ⟨T, rows, v.stp b st⟩
theorem told_spec {x : Stp9} {Q : Bool → H → Prop} (b : BKs h1 h G L) (hi : L[i]? = some (n, B)) (v : DBe h1 h rn B) (ok : Ok B c) (hc : c < 600000) (lim : Lim B.pins B.os) (dis : ∀ e ∈ dieL B, heldB B e = false)
    (k : ∀ h' F', BKs h1 h' F' (L.set i (n, (doB B x).2)) → DBe h1 h' rn (doB B x).2 → Q true h') : F.spatelaw9_told (some ⟨n, 0, none⟩) (some ⟨rn, 0, none⟩) x h Q := by
  unfold F.spatelaw9_told
  refine new_of fun a h2 ha ba e2 s2 => ?_
  refine ⟨x, fun j v hv => by rw [add_lit, Nat.zero_add]; exact ba.cell (by simpa using hv), ?_⟩
  obtain ⟨T, rows, v0⟩ := v
  have v2 := v0.ext e2
  have b2 := b.ext e2
  refine ⟨_, rfl, (ldI_iff (n := B.now) (by rw [← v2.now]; exact v2.ct (j := 1) rfl)).2 ?_⟩
  refine of_spec fun h3 e3 => ?_
  have v3 := v2.ext e3
  have b3 := b2.ext e3
  have ba3 : Blk h3 a x.cells.toArray tn_spatelaw9_Step := e3.block ba (fun f => f)
  have c0 : ∀ {hh : H}, Blk hh a x.cells.toArray tn_spatelaw9_Step → cellH hh ⟨a, 0, none⟩ = some (.int .i64 x.Kind) := fun kk => kk.cell rfl
  have c1 : ∀ {hh : H}, Blk hh a x.cells.toArray tn_spatelaw9_Step → cellH hh ⟨a, 1, none⟩ = some (.int .i64 x.Owner) := fun kk => kk.cell rfl
  simp only [add_lit, Nat.zero_add, beq_iff_eq, beq_eq_false_iff_ne, ne_eq]
  refine (ldI_iff (c0 ba3)).2 ⟨fun g1 => (ldI_iff (c1 ba3)).2 ?_, fun g1 => ⟨fun g2 => (ldI_iff (c1 ba3)).2 ?_, fun g2 => ⟨fun g3 => (ldI_iff (c1 ba3)).2 ((ldI_iff (c1 ba3)).2 ?_), fun g3 => ⟨fun g4 => (ldI_iff (c1 ba3)).2 ((ldI_iff (c1 ba3)).2 ?_), fun g4 => ⟨fun g5 => (ldI_iff (c1 ba3)).2 ((ldI_iff (c1 ba3)).2 ?_), fun g5 => ⟨fun g6 => (ldI_iff (c1 ba3)).2 ((ldI_iff (c1 ba3)).2 ?_), fun g6 => ⟨fun g7 => ?_, fun g7 => ⟨fun g8 => ?_, fun g8 => ⟨fun g10 => (ldI_iff (c1 ba3)).2 ((ldI_iff (c1 ba3)).2 ?_), fun g10 => ?_⟩⟩⟩⟩⟩⟩⟩⟩⟩
  · refine seal_bk b3 hi ok (by omega) fun h4 F4 b4 st4 => (ldI_iff (c1 (b3.blk st4 ba3 (by decide)))).2 (RSeal_spec (v3.stp b3 st4) ok (by omega) lim fun h5 v5 s5 => ?_)
    have := k h5 F4; rw [doB, if_pos g1] at this
    exact ⟨fun _ => by rw [beq_self_eq_true]; exact this (s5.bks b4) v5, fun g => absurd rfl g⟩
  · refine inner_bk b3 hi ok (by omega) fun h4 F4 b4 st4 => (ldI_iff (c1 (b3.blk st4 ba3 (by decide)))).2 (RInner_spec (v3.stp b3 st4) ok (by omega) fun h5 v5 s5 => ?_)
    have := k h5 F4; rw [doB, if_neg g1, if_pos g2] at this
    exact ⟨fun _ => by rw [beq_self_eq_true]; exact this (s5.bks b4) v5, fun g => absurd rfl g⟩
  · refine join_bk b3 hi fun h4 F4 b4 st4 => ⟨c1 (b3.blk st4 ba3 (by decide)), RJoin_spec (v3.stp b3 st4) ok (by omega) lim fun h5 v5 s5 => ?_⟩
    have := k h5 F4; rw [doB, if_neg g1, if_neg g2, if_pos g3] at this
    rw [beq_self_eq_true]; exact this (s5.bks b4) v5
  · refine release_bk b3 hi fun h4 F4 b4 st4 => ⟨c1 (b3.blk st4 ba3 (by decide)), RRelease_spec (v3.stp b3 st4) ok (by omega) lim.1 dis fun h5 v5 s5 => ?_⟩
    have := k h5 F4; rw [doB, if_neg g1, if_neg g2, if_neg g3, if_pos g4] at this
    rw [beq_self_eq_true]; exact this (s5.bks b4) v5
  · refine done_bk b3 hi fun h4 F4 b4 st4 => ⟨c1 (b3.blk st4 ba3 (by decide)), RDone_spec (v3.stp b3 st4) ok (by omega) lim.1 (inn_sw lim.1 dis _) fun h5 v5 s5 => ?_⟩
    have := k h5 F4; rw [doB, if_neg g1, if_neg g2, if_neg g3, if_neg g4, if_pos g5] at this
    rw [beq_self_eq_true]; exact this (s5.bks b4) v5
  · refine drop_bk b3 hi ok (by omega) fun h4 F4 b4 st4 => ⟨c1 (b3.blk st4 ba3 (by decide)), RDrop_spec (v3.stp b3 st4) ok (by omega) lim.1 dis fun h5 v5 s5 => ?_⟩
    have := k h5 F4; rw [doB, if_neg g1, if_neg g2, if_neg g3, if_neg g4, if_neg g5, if_pos g6] at this
    rw [beq_self_eq_true]; exact this (s5.bks b4) v5
  · refine begin_bk b3 hi fun h4 F4 b4 st4 => RBegin_spec (v3.stp b3 st4) ok (by omega) fun h5 v5 s5 => ?_
    have := k h5 F4; rw [doB, if_neg g1, if_neg g2, if_neg g3, if_neg g4, if_neg g5, if_neg g6, if_pos g7] at this
    rw [beq_self_eq_true]; exact this (s5.bks b4) v5
  · refine end_bk b3 hi ok (by omega) fun h4 F4 b4 st4 => REnd_spec (v3.stp b3 st4) ok (by omega) fun h5 v5 s5 => ?_
    have := k h5 F4; rw [doB, if_neg g1, if_neg g2, if_neg g3, if_neg g4, if_neg g5, if_neg g6, if_neg g7, if_pos g8] at this
    exact ⟨fun _ => by rw [beq_self_eq_true]; exact this (s5.bks b4) v5, fun g => absurd rfl g⟩
  · refine holds_bk b3 hi fun h4 F4 b4 st4 => ⟨c1 (b3.blk st4 ba3 (by decide)), RHolds_spec (v3.stp b3 st4) ok (by omega) ?_⟩
    have := k h4 F4; rw [doB, if_neg g1, if_neg g2, if_neg g3, if_neg g4, if_neg g5, if_neg g6, if_neg g7, if_neg g8, set_same hi] at this
    rw [beq_self_eq_true]; exact this b4 (v3.stp b3 st4).e
  · have := k h3 G; rw [doB, if_neg g1, if_neg g2, if_neg g3, if_neg g4, if_neg g5, if_neg g6, if_neg g7, if_neg g8, set_same hi] at this
    exact this b3 v3.e
theorem like_spec {Q : Bool → H → Prop} (b : BKs h1 h G L) (hi : L[i]? = some (n, B)) (v : DBe h1 h rn B) (ok : Ok B c) (hc : c < 600000) (os0 : B.os[0]? = some ([], 0))
    (k : ∀ h' F', BKs h1 h' F' L → DBe h1 h' rn B → Q true h') : F.spatelaw9_like (some ⟨n, 0, none⟩) (some ⟨rn, 0, none⟩) h Q := by
  obtain ⟨T, rows, v⟩ := v
  have hhl := ok.heldlen
  have hdl : (dieL B).length ≤ c := by have := ok.dielen; simpa [dieL] using this
  have hdd : (dieL B).length = B.die.length := by simp [dieL]
  unfold F.spatelaw9_like
  refine ⟨_, rfl, (ldI_iff (n := B.now) (by rw [← v.now]; exact v.ct (j := 1) rfl)).2 ?_⟩
  refine now_bk b hi fun h2 F2 b2 s2 => ⟨by rw [← v.now]; exact (v.stp b s2).ct (j := 1) rfl, fun _ => ?_, fun g => by simp at g⟩
  have v2 := v.stp b s2
  refine held_bk b2 hi ok (by omega) fun r3 h3 F3 b3 s3 w3 m3 => ?_
  have v3 := v2.stp b2 s3
  refine RHeld_spec v3 ok (by omega) os0 fun r4 h4 w4 m4 e4 => ?_
  have v4 := v3.ext e4
  have b4 := b3.ext e4
  refine ints_spec (w3.ext e4).reads w4.reads (by omega) ?_
  rw [decide_eq_true rfl]
  refine ⟨fun _ => ⟨_, rfl, (ldL_iff (v4.ct (j := 4) rfl)).2 ?_⟩, fun g => (by cases g)⟩
  refine dying_bk b4 hi ok (by omega) fun r5 h5 F5 b5 s5 w5 m5 => ?_
  have v5 := v4.stp b4 s5
  refine ⟨v5.ct (j := 4) rfl, ints_spec w5.reads v5.dy.reads (by omega) ?_⟩
  rw [decide_eq_true rfl]
  refine ⟨fun _ => ?_, fun g => (by cases g)⟩
  refine live_bk b5 hi ok (by omega) fun h6 F6 b6 s6 => ?_
  have v6 := v5.stp b5 s6
  refine RLive_spec v6 ok (by omega) os0 fun h7 e7 => ?_
  rw [show ((((heldL B).length + B.die.length : Nat) : Int) == ((heldL B).length : Int) + (B.die.length : Int)) = true from by simp]
  exact k h7 F6 (b6.ext e7) (v6.ext e7).e
end
end Go.Proofs.YtgcmojbajjajgaaGreat.V
