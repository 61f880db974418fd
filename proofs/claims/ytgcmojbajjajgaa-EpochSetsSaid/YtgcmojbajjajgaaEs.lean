/- The law EpochSets: the rounds; no condition. -/
import Derived.Test.YtgcmojbajjajgaaEr
namespace Go.Proofs.Ytgcmojbajjajgaa.V
open Go Go.Proofs.Ytgcmojbajjajgaa.V.N
set_option linter.unusedVariables false
set_option linter.unusedSimpArgs false
theorem EpochSets_spec {h : H} {pins : Int} {s1 : Sl} {S1 : List Stp9} {Q : Bool → H → Prop} (t1 : Reads h s1 4 (S1.flatMap (·.cells))) (k : ∀ h', Ext h h' → Q true h') : F.spatelaw9_EpochSets pins s1 h Q := by
  have l1 := rd_len step_len (by omega) t1
  unfold F.spatelaw9_EpochSets
  refine known_spec fun h1 e1 => ⟨fun g => by simp at g, fun _ => ?_⟩
  have j16 : ∀ x : Bool, (x = true ∨ (x = false ∧ s1.len ≤ 3000 ∧ 1 ≤ pins ∧ pins ≤ 64)) → F.spatelaw9_EpochSets.j16 Q pins s1 x h1 := by
    intro x hx
    unfold F.spatelaw9_EpochSets.j16
    refine ⟨fun _ => k h1 e1, fun g => ?_⟩
    rcases hx with hx | ⟨_, b1, p1, p2⟩
    · rw [hx] at g; cases g
    rw [l1] at b1
    unfold F.spatelaw9_EpochSets.j1
    refine new_bk (BKs.nil h1) (fun e => by omega) fun _ _ n h2 F2 q2 _ => ⟨fun g => by simp at g, fun _ => ?_⟩
    unfold F.spatelaw9_EpochSets.j15 F.spatelaw9_EpochSets.j2
    refine ⟨fun g => by simp at g, fun _ => make0_of fun sb h3 hsb m3 e3 s3 => ⟨_, rfl, makeI_of fun ib h4 hib m4 e4 s4 => ⟨_, rfl, 65, ?_⟩⟩⟩
    -- the rounds
    have key : ∀ (d i : Nat) (h' : H) (B : Bk) (ms : Nat → Nat), i ≤ S1.length → S1.length - i < d → Ok B i → B.pins = pins → Lim pins B.os → SV h1 h' n B sb ib ms B.os →
        F.spatelaw9_EpochSets.l4 Q d pins s1 (some ⟨n, 0, none⟩) (some sb) (some ib) (i : Int) h' := by
      intro d
      induction d with
      | zero => intro i h' B ms _ hm; omega
      | succ d ih =>
        intro i h' B ms hi hm ok hpi lim v
        have hb0 := v.ext0
        unfold F.spatelaw9_EpochSets.l4
        simp only [decide_eq_true_eq, decide_eq_false_iff_not]
        rw [l1]
        refine ⟨fun g => ?_, fun g => heldlaw_spec v ok (by omega) lim.1 fun h5 e5 => k h5 (e1.trans e5)⟩
        obtain ⟨x, hx⟩ : ∃ x, S1[i]? = some x := ⟨_, List.getElem?_eq_getElem (by omega)⟩
        refine step_at (h0 := h) (e := e1.trans hb0) t1 hx (e1.trans hb0) ?_
        refine new_of fun a h4 ha k4 e4 s4 => ?_
        refine stH_of k4 (by simp [S_spatelaw9_Step.cells]) fun h5 k5 o5 s5 => ?_
        rw [writeA_all (by simp [S_spatelaw9_Step.cells])] at k5
        have v5 : SV h1 h5 n B sb ib ms B.os := by
          obtain ⟨F0, b0, hm0⟩ := v.bk
          refine ⟨⟨F0, (b0.ext e4).only o5 (fun y hy e => ?_) (fun y hy e => ?_), hm0⟩, (v.sm.only e4 (fun _ _ f => f)).only o5 (fun y hy e => ?_), v.lo⟩
          · have := b0.lt y hy; omega
          · have := hb0.size; omega
          · have := v.sm.lt y hy; omega
        have cl : ∀ {hh : H}, Blk hh a x.cells.toArray tn_spatelaw9_Step → Cells hh ⟨a, 0, none⟩ x.cells := fun kk j v hv => by rw [add_lit, Nat.zero_add]; exact kk.cell (by simpa using hv)
        refine ⟨x, cl k5, ?_⟩
        refine v5.now k5 (by decide) fun h6 v6 k6 => ⟨cl k6, of_spec fun h7 e7 => ?_⟩
        have v7 := v6.ext e7
        have k7 : Blk h7 a x.cells.toArray tn_spatelaw9_Step := e7.block k6 (fun f => f)
        refine v7.now k7 (by decide) fun h8 v8 k8 => ?_
        have c1 : ∀ {hh : H}, Blk hh a x.cells.toArray tn_spatelaw9_Step → cellH hh ⟨a, 1, none⟩ = some (.int .i64 x.Owner) := fun kk => kk.cell rfl
        simp only [add_lit, Nat.zero_add]
        refine (ldI_iff (c1 k8)).2 (v8.sm.get ⟨_, rfl, 65, ?_⟩)
        generalize hev : ofB x B.now = ev
        have hnow := ok.now
        have hok : Ok (doB B x).2 (i + 1) := ok.do_ x
        generalize hC : (doB B x).2 = C at hok
        have hCp : C.pins = pins := by rw [← hC, do_pins, hpi]
        generalize hr : (doB B x).1 = rr
        -- the end of a round
        have fin : ∀ (h9 : H) (ms' : Nat → Nat), Lim pins C.os → SV h1 h9 n C sb ib ms' C.os → F.spatelaw9_EpochSets.j8 Q (F.spatelaw9_EpochSets.l4 Q d) pins s1 (some ⟨n, 0, none⟩) (some sb) (some ib) (i : Int) rr rr h9 := by
          intro h9 ms' lm v9
          unfold F.spatelaw9_EpochSets.j8 F.spatelaw9_EpochSets.j5
          refine ⟨fun g => by simp at g, fun _ => ?_⟩
          rw [w64n (by omega)]
          exact ih (i + 1) h9 C ms' (by omega) (by omega) hok hCp lm v9
        have loop : ∀ (dz o : Nat), 1 ≤ o → o ≤ 65 → 65 - o < dz → F.spatelaw9_EpochSets.l6 Q (F.spatelaw9_EpochSets.l4 Q d) dz pins s1 (some ⟨n, 0, none⟩) (some sb) (some ib) (i : Int) ⟨a, 0, none⟩ ev B.now (if isO x.Owner = true then some (ms x.Owner.toNat) else none) ((B.os.take o).any fun y => decide (ev ∈ y.1)) (o : Int) h8 := by
          intro dz
          induction dz with
          | zero => intro o _ _ hm; omega
          | succ dz ih2 =>
            intro o o1 o2 hm2
            unfold F.spatelaw9_EpochSets.l6
            simp only [decide_eq_true_eq, decide_eq_false_iff_not]
            refine ⟨fun g => ?_, fun g => ?_⟩
            · obtain ⟨y, hy⟩ : ∃ y, B.os[o]? = some y := ⟨_, List.getElem?_eq_getElem (by rw [ok.lo]; omega)⟩
              have hsn : ((B.os.take (o + 1)).any fun y => decide (ev ∈ y.1)) = (((B.os.take o).any fun y => decide (ev ∈ y.1)) || decide (ev ∈ y.1)) := by
                rw [take_snoc hy, List.any_append]; simp
              refine ⟨fun g2 => ?_, fun g2 => ?_⟩
              · unfold F.spatelaw9_EpochSets.j7
                rw [w64n (by omega)]
                have := ih2 (o + 1) (by omega) (by omega) (by omega)
                rw [hsn, g2] at this; exact this
              · refine v8.sm.get ⟨_, rfl, v8.sm.has ⟨_, rfl, ?_⟩⟩
                unfold F.spatelaw9_EpochSets.j7
                rw [w64n (by omega)]
                have := ih2 (o + 1) (by omega) (by omega) (by omega)
                rw [hsn, g2] at this
                have hio : isO (o : Int) = true := by simp [isO]; omega
                rw [hio, Int.toNat_natCast, hy]
                exact this
            · have ho : o = 65 := by omega
              subst ho
              rw [List.take_of_length_le (by rw [ok.lo]; omega)]
              have hpin : (B.os.any fun y => decide (ev ∈ y.1)) = pinB B ev := rfl
              rw [hpin]
              obtain ⟨F8, b8, hm8⟩ := v8.bk
              refine ⟨x, cl k8, do_bk (i := 0) b8 rfl ok (by omega) fun h9 F9 b9 st9 => ?_⟩
              have k9 := b8.blk st9 k8 (by decide)
              have v9 : SV h1 h9 n (doB B x).2 sb ib ms B.os := v8.step b8 hm8 b9 st9
              rw [hC] at v9
              rw [hr]
              have c0 : cellH h9 ⟨a, 0, none⟩ = some (.int .i64 x.Kind) := k9.cell rfl
              refine (ldI_iff c0).2 ?_
              simp only [beq_iff_eq, beq_eq_false_iff_ne, ne_eq]
              by_cases hio : isO x.Owner = true
              · rw [if_pos hio]
                obtain ⟨q1, q2, q3⟩ := iso_nat hio
                obtain ⟨y, hy⟩ := v9.sm.at q2
                have hmem := List.mem_of_getElem? hy
                have hyl : (y.1.length : Int) ≤ B.pins := by rw [hpi]; exact lim.2 y hmem
                have hys := (ok.sets y hmem).1
                have hlb : LB sb ib ms (ms x.Owner.toNat) := .inr (.inr ⟨_, q1, q2, rfl⟩)
                have hse := v9.sm.each _ y q1 q2 hy
                have hlen : ((tS y.1).length : Int) = y.1.length := by simp [tS]
                refine ⟨fun g1 => ⟨fun _ => ?_, fun g => by simp at g⟩, fun g1 => ⟨fun g2 => ⟨fun _ => ?_, fun g => by simp at g⟩, fun g2 => ⟨fun g3 => ⟨fun _ => ?_, fun g => by simp at g⟩, fun g3 => ⟨fun g4 => ⟨fun _ => ?_, fun g => by simp at g⟩, fun g4 => ⟨fun g5 => ⟨fun _ => ?_, fun g => by simp at g⟩, fun g5 => ⟨fun g6 => ⟨fun _ => ?_, fun g => by simp at g⟩, fun g6 => ?_⟩⟩⟩⟩⟩⟩
                · -- Seal
                  obtain ⟨w1, w2⟩ := d1 hio hy g1 hyl (by omega)
                  rw [hr, hpi] at w1; rw [hC, hpi] at w2
                  refine lenS_of mt_map_int_bool hse ⟨_, rfl, ?_⟩
                  rw [hlen, ← w1]
                  unfold F.spatelaw9_EpochSets.j9
                  refine ⟨fun g => ?_, fun g => ?_⟩
                  · rw [w1] at g
                    have hlt : (y.1.length : Int) < pins := by simpa using g
                    rw [if_pos hlt] at w2
                    refine v9.sm.put hio hy fun h10 m10 o10 => ?_
                    exact fin h10 ms (by rw [w2]; exact lim.mod q1 fun z hz => by rw [hy] at hz; cases hz; have := ins_len B.now y.1; simp only; omega) (by have := v9.upd o10 hlb m10; rw [w2]; exact this)
                  · rw [w1] at g
                    have hlt : ¬ (y.1.length : Int) < pins := by simpa using g
                    rw [if_neg hlt] at w2
                    exact fin h9 ms (by rw [w2]; exact lim) (by rw [w2]; exact v9)
                · -- Inner
                  obtain ⟨w1, w2⟩ := d2 hio hy g2 (by omega)
                  rw [hr] at w1; rw [hC] at w2
                  refine (ldI_iff (c1 k9)).2 (v9.sm.inner hio hy ⟨_, rfl, ?_⟩)
                  rw [← w1]
                  unfold F.spatelaw9_EpochSets.j10
                  refine ⟨fun g => ?_, fun g => ?_⟩
                  · rw [w1] at g
                    rw [if_pos (by simpa using g)] at w2
                    simp only [add_lit, Nat.zero_add]
                    refine (ldI_iff (c1 k9)).2 (v9.sm.reinn hio fun h10 m10 o10 _ => ?_)
                    exact fin h10 ms (by rw [w2]; exact lim.mod q1 fun z hz => lim.2 z (List.mem_of_getElem? hz)) (by have := v9.upd o10 (.inr (.inl rfl)) m10; rw [w2]; exact this)
                  · rw [w1] at g
                    rw [if_neg (by simpa using g)] at w2
                    exact fin h9 ms (by rw [w2]; exact lim) (by rw [w2]; exact v9)
                · -- Join
                  obtain ⟨w1, w2⟩ := d3 hio hy g3 hys hyl
                  rw [hr] at w1 w2; rw [hC] at w2; rw [hev] at w1 w2; rw [hpi] at w1
                  have j11 : F.spatelaw9_EpochSets.j11 Q (F.spatelaw9_EpochSets.l4 Q d) pins s1 (some ⟨n, 0, none⟩) (some sb) (some ib) (i : Int) ev (some (ms x.Owner.toNat)) rr rr h9 := by
                    unfold F.spatelaw9_EpochSets.j11
                    refine ⟨fun g => ?_, fun g => ?_⟩
                    · rw [if_pos g] at w2
                      refine v9.sm.put hio hy fun h10 m10 o10 => ?_
                      refine fin h10 ms ?_ (by have := v9.upd o10 hlb m10; rw [w2]; exact this)
                      rw [w2]; refine lim.mod q1 fun z hz => ?_
                      rw [hy] at hz; cases hz
                      rw [w1] at g
                      simp only [Bool.and_eq_true, Bool.or_eq_true, decide_eq_true_eq] at g
                      rcases g.2 with g | g
                      · simp only [ins_in hys g]; omega
                      · have := ins_len ev y.1; simp only; omega
                    · rw [if_neg (by rw [g]; simp)] at w2
                      exact fin h9 ms (by rw [w2]; exact lim) (by rw [w2]; exact v9)
                  refine ⟨fun g => look_tS hse ⟨_, rfl, fun g2 => ?_, fun g2 => lenS_of mt_map_int_bool hse ⟨_, rfl, ?_⟩⟩, fun g => ?_⟩
                  · have : rr = true := by rw [w1, g, g2]; rfl
                    rw [this] at j11 ⊢; exact j11
                  · rw [hlen]
                    have : rr = decide ((y.1.length : Int) < pins) := by rw [w1, g, g2]; simp
                    rw [← this]; exact j11
                  · have : rr = false := by rw [w1, g]; rfl
                    rw [this] at j11 ⊢; exact j11
                · -- Release
                  obtain ⟨w1, w2⟩ := d4 hio hy g4
                  rw [hr] at w1; rw [hC] at w2; rw [hev] at w1 w2
                  refine look_tS hse ⟨_, rfl, ?_⟩
                  rw [← w1]
                  unfold F.spatelaw9_EpochSets.j12
                  refine ⟨fun g => ?_, fun g => ?_⟩
                  · rw [w1] at g
                    rw [if_pos (by simpa using g)] at w2
                    refine v9.sm.del hio hy fun h10 m10 o10 => ⟨rfl, ?_⟩
                    refine fin h10 ms ?_ (by have := v9.upd o10 hlb m10; rw [w2]; exact this)
                    rw [w2]; refine lim.mod q1 fun z hz => ?_
                    rw [hy] at hz; cases hz
                    have := List.length_filter_le (· != ev) y.1
                    simp only; omega
                  · rw [w1] at g
                    rw [if_neg (by simpa using g)] at w2
                    exact fin h9 ms (by rw [w2]; exact lim) (by rw [w2]; exact v9)
                · -- Done
                  obtain ⟨w1, w2⟩ := d5 hio hy g5
                  rw [hr] at w1; rw [hC] at w2
                  refine (ldI_iff (c1 k9)).2 (v9.sm.inner hio hy ⟨_, rfl, ?_⟩)
                  rw [← w1]
                  unfold F.spatelaw9_EpochSets.j13
                  refine ⟨fun g => ?_, fun g => ?_⟩
                  · rw [w1] at g
                    rw [if_neg (by simpa using g)] at w2
                    simp only [add_lit, Nat.zero_add]
                    refine (ldI_iff (c1 k9)).2 (v9.sm.reinn hio fun h10 m10 o10 _ => ?_)
                    exact fin h10 ms (by rw [w2]; exact lim.mod q1 fun z hz => lim.2 z (List.mem_of_getElem? hz)) (by have := v9.upd o10 (.inr (.inl rfl)) m10; rw [w2]; exact this)
                  · rw [w1] at g
                    rw [if_pos (by simpa using g)] at w2
                    exact fin h9 ms (by rw [w2]; exact lim) (by rw [w2]; exact v9)
                · -- Drop
                  obtain ⟨w1, w2⟩ := d6 hio hy g6
                  rw [hr] at w1; rw [hC] at w2
                  have j14 : F.spatelaw9_EpochSets.j14 Q (F.spatelaw9_EpochSets.l4 Q d) pins s1 (some ⟨n, 0, none⟩) (some sb) (some ib) (i : Int) ⟨a, 0, none⟩ (some (ms x.Owner.toNat)) rr rr h9 := by
                    unfold F.spatelaw9_EpochSets.j14
                    refine ⟨fun _ => ?_, fun g => by simp at g⟩
                    simp only [add_lit, Nat.zero_add]
                    refine (ldI_iff (c1 k9)).2 (make0_of fun cb h10 hcb m10 e10 s10 => ⟨_, rfl, ?_⟩)
                    have v10 := v9.ext e10
                    have k10 : Blk h10 a x.cells.toArray tn_spatelaw9_Step := e10.block k9 (fun f => f)
                    have hcl : ∀ y, LB sb ib ms y → y ≠ cb := fun y hy => by have := v9.sm.lt y hy; omega
                    refine v10.sm.new hio m10 hcl fun h11 m11 o11 => ?_
                    have k11 : Blk h11 a x.cells.toArray tn_spatelaw9_Step := o11.block k10 fun e => v10.sm.notblk (.inl rfl) (e ▸ k10)
                    have v11 : SV h1 h11 n C sb ib (fun p => if p = x.Owner.toNat then cb else ms p) (B.os.modify x.Owner.toNat fun z => ([], z.2)) := by
                      obtain ⟨F9', b9', hm9'⟩ := v9.bk
                      have lbc : ∀ y, LB sb ib (fun p => if p = x.Owner.toNat then cb else ms p) y → LB sb ib ms y ∨ y = cb := fun y hy => by
                        rcases hy with rfl | rfl | ⟨p, p1, p2, rfl⟩
                        · exact .inl (.inl rfl)
                        · exact .inl (.inr (.inl rfl))
                        · by_cases hp : p = x.Owner.toNat
                          · simp only [if_pos hp]; exact .inr trivial
                          · simp only [if_neg hp]; exact .inl (.inr (.inr ⟨p, p1, p2, rfl⟩))
                      refine ⟨⟨F9', (b9'.ext e10).only o11 (fun y hy e => hm9' sb (.inl rfl) (e ▸ hy)) (fun y hy e => by have := v9.lo sb (.inl rfl); omega), fun y hy hf => ?_⟩, m11, fun y hy => ?_⟩
                      · rcases lbc y hy with hy | rfl
                        · exact hm9' y hy hf
                        · have := b9'.lt y hf; omega
                      · rcases lbc y hy with hy | rfl
                        · exact v9.lo y hy
                        · have := v9.ext0.size; omega
                    refine (ldI_iff (c1 k11)).2 (v11.sm.reinn hio fun h12 m12 o12 _ => ?_)
                    have v12 := v11.upd o12 (.inr (.inl rfl)) m12
                    refine fin h12 (fun p => if p = x.Owner.toNat then cb else ms p) (by rw [w2]; exact lim.mod q1 fun z hz => by simp only [List.length_nil]; omega) ?_
                    have e2 : ((B.os.modify x.Owner.toNat fun z => (([] : List Int), z.2)).modify x.Owner.toNat fun z => (z.1, 0)) = C.os := by
                      rw [w2]
                      apply List.ext_getElem?; intro j
                      rw [get_mod, get_mod, get_mod]
                      split
                      · cases B.os[j]? <;> rfl
                      · rfl
                    rw [e2] at v12; exact v12
                  refine lenS_of mt_map_int_bool hse ⟨_, rfl, ?_⟩
                  rw [hlen]
                  refine ⟨fun g => ?_, fun g => (ldI_iff (c1 k9)).2 (v9.sm.inner hio hy ⟨_, rfl, ?_⟩)⟩
                  · have : rr = true := by rw [w1, decide_eq_true g]; rfl
                    rw [this] at j14 ⊢; exact j14
                  · have : rr = (y.2 != 0) := by rw [w1, decide_eq_false g]; rfl
                    rw [← this]; exact j14
                · have w2 : (doB B x).2.os = B.os := d_else (by simp only [not_or]; exact ⟨g1, g2, g3, g4, g5, g6⟩)
                  rw [hC] at w2
                  exact fin h9 ms (by rw [w2]; exact lim) (by rw [w2]; exact v9)
              · rw [if_neg hio]
                have hio' : isO x.Owner = false := by simpa using hio
                have none8 : (x.Kind = 1 ∨ x.Kind = 2 ∨ x.Kind = 3 ∨ x.Kind = 4 ∨ x.Kind = 5 ∨ x.Kind = 6) → rr = false ∧ F.spatelaw9_EpochSets.j8 Q (F.spatelaw9_EpochSets.l4 Q d) pins s1 (some ⟨n, 0, none⟩) (some sb) (some ib) (i : Int) rr false h9 := fun hk => by
                  obtain ⟨w1, w2⟩ := d_none (B := B) hk hio'
                  rw [hr] at w1; rw [hC] at w2
                  have := fin h9 ms (by rw [w2]; exact lim) (by rw [w2] at v9 ⊢; exact v9)
                  refine ⟨w1, ?_⟩
                  rw [w1] at this ⊢; exact this
                refine ⟨fun g1 => ⟨fun g => by simp at g, fun _ => ?_⟩, fun g1 => ⟨fun g2 => ⟨fun g => by simp at g, fun _ => ?_⟩, fun g2 => ⟨fun g3 => ⟨fun g => by simp at g, fun _ => ?_⟩, fun g3 => ⟨fun g4 => ⟨fun g => by simp at g, fun _ => ?_⟩, fun g4 => ⟨fun g5 => ⟨fun g => by simp at g, fun _ => ?_⟩, fun g5 => ⟨fun g6 => ⟨fun g => by simp at g, fun _ => ?_⟩, fun g6 => ?_⟩⟩⟩⟩⟩⟩
                · unfold F.spatelaw9_EpochSets.j9
                  exact ⟨fun g => (by cases g), fun _ => (none8 (by omega)).2⟩
                · unfold F.spatelaw9_EpochSets.j10
                  exact ⟨fun g => (by cases g), fun _ => (none8 (by omega)).2⟩
                · unfold F.spatelaw9_EpochSets.j11
                  exact ⟨fun g => (by cases g), fun _ => (none8 (by omega)).2⟩
                · unfold F.spatelaw9_EpochSets.j12
                  exact ⟨fun g => (by cases g), fun _ => (none8 (by omega)).2⟩
                · unfold F.spatelaw9_EpochSets.j13
                  exact ⟨fun g => (by cases g), fun _ => (none8 (by omega)).2⟩
                · unfold F.spatelaw9_EpochSets.j14
                  exact ⟨fun g => by simp at g, fun _ => (none8 (by omega)).2⟩
                · have w2 : (doB B x).2.os = B.os := d_else (by simp only [not_or]; exact ⟨g1, g2, g3, g4, g5, g6⟩)
                  rw [hC] at w2
                  exact fin h9 ms (by rw [w2]; exact lim) (by rw [w2]; exact v9)
        have := loop 65 1 (by omega) (by omega) (by omega)
        have h0 : ((B.os.take 1).any fun y => decide (ev ∈ y.1)) = false := by
          rw [show (1 : Nat) = 0 + 1 from rfl, take_snoc lim.1]; simp
        rw [h0] at this; exact this
    -- the sets are made
    have sets : ∀ (d o : Nat) (h' : H) (ms : Nat → Nat), 1 ≤ o → o ≤ 65 → 65 - o < d → PM h2 h' sb ib o ms →
        F.spatelaw9_EpochSets.l3 Q d pins s1 (some ⟨n, 0, none⟩) (some sb) (some ib) (o : Int) h' := by
      intro d
      induction d with
      | zero => intro o h' ms _ _ hm; omega
      | succ d ih =>
        intro o h' ms o1 o2 hm pm
        unfold F.spatelaw9_EpochSets.l3
        simp only [decide_eq_true_eq, decide_eq_false_iff_not]
        refine ⟨fun g => make0_of fun cb h5 hcb m5 e5 s5 => ⟨_, rfl, pm.more o1 hcb m5 e5 fun h6 pm6 => ?_⟩, fun g => ⟨S1.length + 1, ?_⟩⟩
        · rw [w64n (by omega)]
          exact ih (o + 1) h6 _ (by omega) (by omega) (by omega) pm6
        · have ho : o = 65 := by omega
          subst ho
          have hlb : ∀ y, LB sb ib ms y → h2.size ≤ y := fun y hy => by
            rcases hy with rfl | rfl | ⟨p, p1, p2, rfl⟩
            · exact pm.lo.1
            · exact pm.lo.2.1
            · exact pm.lo.2.2 p p1 (by omega)
          have hrep : ∀ (o : Nat) (x : List Int × Int), (newB pins).os[o]? = some x → x = ([], 0) := fun o x hx => by
            simp only [newB, List.getElem?_replicate] at hx
            split at hx
            · simpa using hx.symm
            · cases hx
          have q2' : BKs h1 h2 F2 [(n, newB pins)] := q2
          refine key _ 0 h' (newB pins) ms (by omega) (by omega) .new rfl ⟨by simp [newB], fun x hx => ?_⟩ ⟨⟨F2, q2'.ext pm.ext, fun y hy hf => ?_⟩, ⟨by simp [newB], ?_, fun p x p1 p2 hx => ?_, ⟨_, pm.inn, fun p x p1 p2 hx => ?_⟩, ⟨pm.dj.1, fun p p1 p2 => ?_⟩⟩, fun y hy => ?_⟩
          · obtain ⟨j, hj⟩ := List.mem_iff_getElem?.1 hx
            rw [hrep j x hj]; simp only [List.length_nil]; omega
          · have := hlb y hy; have := q2'.lt y hf; omega
          · obtain ⟨L, mL, eL⟩ := pm.sets
            refine ⟨L, mL, fun e => ?_⟩
            rw [eL e]
            by_cases he : isO e = true
            · rw [if_pos he, if_pos (by simp [isO] at he; omega)]
            · rw [if_neg he, if_neg (by simp [isO] at he; omega)]
          · rw [hrep p x hx]; exact pm.each p p1 (by omega)
          · rw [hrep p x hx]; rfl
          · have hd := pm.dj.2 p p1 (by omega)
            exact ⟨hd.1, hd.2.1, fun q q1 q2 => hd.2.2 q q1 (by omega)⟩
          · have := hlb y hy; have := q2'.ext0.size; omega
    have hs2 := e3.size
    refine sets 65 1 h4 (fun _ => 0) (by omega) (by omega) (by omega) ⟨e3.trans e4, ⟨[], m3.ext e4, fun e => ?_⟩, fun p p1 p2 => by omega, m4, ⟨by omega, by omega, fun p p1 p2 => by omega⟩, by omega, fun p p1 p2 => by omega⟩
    rw [if_neg (by omega)]; rfl
  refine ⟨fun g => j16 true (.inl rfl), fun g1 => ⟨fun g => j16 true (.inl rfl), fun g2 => j16 _ ?_⟩⟩
  simp only [decide_eq_false_iff_not] at g1 g2
  by_cases hp : pins > 64
  · exact .inl (by simp [hp])
  · exact .inr ⟨by simp [hp], by omega, by omega, by omega⟩
end Go.Proofs.Ytgcmojbajjajgaa.V
