/- Scripts that came in; a script carried out; no condition. -/
import Derived.Test.YtgcmojbajjajgaaEj
import Derived.Test.YtgcmojbajjajgaaVp
namespace Go.Proofs.Ytgcmojbajjajgaa.V
open Go Go.Proofs.Ytgcmojbajjajgaa.V.N
set_option linter.unusedVariables false
set_option linter.unusedSimpArgs false
abbrev W64 (n : Int) : Prop := -9223372036854775808 ≤ n ∧ n < 9223372036854775808
section
variable {T : Type} {enc : TypeId × Value → T} {w : World} {base : Nat} {spare : Nat → Bool} {held : Bool} {fuel : Nat}
theorem gen_open {α : Type} (f : α → List Value) (ok : α → Prop) {t e : TypeId} {k : Nat} {v : Value} {y : DataW T × List MemPlace} (hf : ∀ x, (f x).length = k) (ht : PP.underlying t = some (.slice e)) (hk : PP.cellsOf e = k) (hk0 : 0 < k) (h : DataW.trod enc PP w base spare held fuel t [v] = some y)
    (hG : ∀ n cs y, DataW.trod enc PP w base spare held n e cs = some y → cs.length = k → ∃ x, cs = f x ∧ ok x) :
    ∃ (s : Sl) (L : List α), v = s.enc ∧ Reads w.heap s k (L.flatMap f) ∧ s.len ≤ s.cap ∧ (L ≠ [] → ∀ b, s.blk = some b → b < w.heap.size) ∧ (∀ x ∈ L, ok x) ∧ L.length ≤ 9223372036854775807 := by
  obtain ⟨s, h1, h2, h3, CS, h4, h5, h6, h7⟩ := open_slice (fun cs => ∃ x : α, cs = f x ∧ ok x) ht hk hk0 h fun n cs y hy hl => hG n cs y hy hl
  have : ∀ (L : List (List Value)), (∀ c ∈ L, c.length = k ∧ ∃ x : α, c = f x ∧ ok x) → ∃ S : List α, L = S.map f ∧ ∀ x ∈ S, ok x := fun L => by
    induction L with
    | nil => intro _; exact ⟨[], rfl, fun n hn => by cases hn⟩
    | cons c r ih =>
      intro hL
      obtain ⟨E, h1, h2⟩ := ih fun c hc => hL c (List.mem_cons_of_mem _ hc)
      obtain ⟨_, n, rfl, hn⟩ := hL c (by simp)
      refine ⟨n :: E, by rw [h1]; rfl, fun m hm => ?_⟩
      rcases List.mem_cons.1 hm with e | e
      · subst e; exact hn
      · exact h2 m e
  obtain ⟨S, rfl, hS⟩ := this CS h5
  have hr : Reads w.heap s k (S.flatMap f) := by rw [List.flatMap_def]; exact h6
  refine ⟨s, S, h1, hr, h2, fun hn b hb => h7 (by simpa using hn) b hb, hS, ?_⟩
  have := rd_len hf hk0 hr
  simp only [maxLen] at h3; omega
theorem list4 {β : Type} : ∀ {l : List β}, l.length = 4 → ∃ a b c d, l = [a, b, c, d]
  | [a, b, c, d], _ => ⟨a, b, c, d, rfl⟩
def StepOk (x : Stp9) : Prop := W64 x.Kind ∧ W64 x.Owner ∧ W64 x.Epoch
theorem step_open {cs : List Value} {y : DataW T × List MemPlace} (h : DataW.trod enc PP w base spare held fuel tn_spatelaw9_Step cs = some y) (hl : cs.length = 4) : ∃ x : Stp9, cs = x.cells ∧ StepOk x := by
  obtain ⟨xs, n, _, _, _, hlen, hf⟩ := DataW.trod_struct ut_spatelaw9_Step h
  have hlen4 : xs.length = 4 := hlen
  have k3 : PP.cellsOf 3 = 1 := by kernel_rfl
  have k4 : PP.cellsOf 4 = 1 := by kernel_rfl
  obtain ⟨c0, c1, c2, c3, rfl⟩ := list4 hl
  obtain ⟨y0, y1, y2, y3, rfl⟩ := list4 hlen4
  have f0 : DataW.trod enc PP w base spare held n 3 (([c0, c1, c2, c3].drop 0).take (PP.cellsOf 3)) = some y0 := hf 0 _ rfl
  have f1 : DataW.trod enc PP w base spare held n 3 (([c0, c1, c2, c3].drop 1).take (PP.cellsOf 3)) = some y1 := hf 1 _ rfl
  have f2 : DataW.trod enc PP w base spare held n 3 (([c0, c1, c2, c3].drop 2).take (PP.cellsOf 3)) = some y2 := hf 2 _ rfl
  have f3 : DataW.trod enc PP w base spare held n 4 (([c0, c1, c2, c3].drop 3).take (PP.cellsOf 4)) = some y3 := hf 3 _ rfl
  rw [k3] at f0 f1 f2
  rw [k4] at f3
  simp only [List.drop_zero, List.drop_succ_cons, List.take_succ_cons, List.take_zero] at f0 f1 f2 f3
  obtain ⟨m0, e0, _, w0⟩ := DataW.trod_int Try.underlying3 f0
  obtain ⟨m1, e1, _, w1⟩ := DataW.trod_int Try.underlying3 f1
  obtain ⟨m2, e2, _, w2⟩ := DataW.trod_int Try.underlying3 f2
  obtain ⟨m3, e3, _⟩ := DataW.trod_bool Try.underlying4 f3
  simp only [List.cons.injEq, and_true] at e0 e1 e2 e3
  subst e0; subst e1; subst e2; subst e3
  exact ⟨⟨m0, m1, m2, m3⟩, rfl, i64_of w0, i64_of w1, i64_of w2⟩
theorem steps_open {v : Value} {y : DataW T × List MemPlace} (h : DataW.trod enc PP w base spare held fuel tn_Slspatelaw9_Step [v] = some y) :
    ∃ (s : Sl) (L : List Stp9), v = s.enc ∧ Reads w.heap s 4 (L.flatMap (·.cells)) ∧ s.len ≤ s.cap ∧ (L ≠ [] → ∀ b, s.blk = some b → b < w.heap.size) ∧ (∀ x ∈ L, StepOk x) ∧ L.length ≤ 9223372036854775807 :=
  gen_open (·.cells) StepOk step_len ut_Slspatelaw9_Step (show PP.cellsOf tn_spatelaw9_Step = 4 from by kernel_rfl) (by omega) h fun n cs y hy hl => step_open hy hl
end
section
variable {h0 h h' : H} {FP FP' : Nat → Prop} {L : List (Nat × Bk)} {i j n m : Nat} {B : Bk} {c : Nat}
/-- Step i of a script. -/
theorem step_at {s : Sl} {S : List Stp9} {e : Ext h0 h} (rd : Reads h0 s 4 (S.flatMap (·.cells))) {i : Nat} {x : Stp9} (hx : S[i]? = some x) {K : Stp9 → Prop} (e : Ext h0 h) (k : K x) : idxA s (i : Int) 4 fun a => ld_S_spatelaw9_Step h a K := by
  obtain ⟨p, p1, p2, p3⟩ := rd_at step_len (by omega) (rd.ext e) hx
  have hl := rd_len step_len (by omega) rd
  refine idxR_of (i := i) p1 (by have := (List.getElem?_eq_some_iff.1 hx).1; omega) rfl ⟨x, p3, k⟩
theorem take_snoc {α : Type} {l : List α} {i : Nat} {x : α} (h : l[i]? = some x) : l.take (i + 1) = l.take i ++ [x] := by rw [List.take_add_one, h]; rfl
theorem set_last {α : Type} {l : List α} {i : Nat} {x y : α} (h : i < l.length) : (l.set i x).set i y = l.set i y := by simp
theorem set_at {α : Type} {l : List α} {i : Nat} {x : α} (h : i < l.length) : (l.set i x)[i]? = some x := by simp [h]
theorem Ok.run' {S : List Stp9} {B : Bk} {c : Nat} (o : Ok B c) (i : Nat) (hi : S.length ≤ 3000) : Ok (runK B (S.take i)) (c + 3000) :=
  (o.run (ss := S.take i)).mono (by simp; omega)
theorem EpochTwins_spec {pins : Int} {s1 s2 s3 : Sl} {S1 S2 S3 : List Stp9} {Q : Bool → H → Prop} (t1 : Reads h s1 4 (S1.flatMap (·.cells))) (t2 : Reads h s2 4 (S2.flatMap (·.cells))) (t3 : Reads h s3 4 (S3.flatMap (·.cells))) (k : ∀ h', Ext h h' → Q true h') : F.spatelaw9_EpochTwins pins s1 s2 s3 h Q := by
  have l1 := rd_len step_len (by omega) t1
  have l2 := rd_len step_len (by omega) t2
  have l3 := rd_len step_len (by omega) t3
  unfold F.spatelaw9_EpochTwins
  refine known_spec fun h1 e1 => ⟨fun g => by simp at g, fun _ => ?_⟩
  have j14 : ∀ x : Bool, (x = true ∨ (x = false ∧ s1.len ≤ 3000 ∧ s2.len ≤ 3000 ∧ s3.len ≤ 3000 ∧ 1 ≤ pins ∧ pins ≤ 64)) → F.spatelaw9_EpochTwins.j14 Q pins s1 s2 s3 x h1 := by
    intro x hx
    unfold F.spatelaw9_EpochTwins.j14
    refine ⟨fun _ => k h1 e1, fun g => ?_⟩
    rcases hx with hx | ⟨_, b1, b2, b3, p1, p2⟩
    · rw [hx] at g; cases g
    rw [l1] at b1; rw [l2] at b2; rw [l3] at b3
    unfold F.spatelaw9_EpochTwins.j1
    refine new_bk (BKs.nil h1) (fun e => by omega) fun _ _ n h2 F2 q2 _ => ⟨fun g => by simp at g, fun _ => ?_⟩
    unfold F.spatelaw9_EpochTwins.j13 F.spatelaw9_EpochTwins.j2
    refine ⟨fun g => by simp at g, fun _ => ⟨S1.length + 1, ?_⟩⟩
    have ok0 : Ok (newB pins) 0 := Ok.new
    -- the script ahead
    have key1 : ∀ (d i : Nat) (h' : H) (F' : Nat → Prop), i ≤ S1.length → S1.length - i < d → BKs h1 h' F' [(n, runK (newB pins) (S1.take i))] → F.spatelaw9_EpochTwins.l3 Q d s1 s2 s3 (some ⟨n, 0, none⟩) (i : Int) h' := by
      intro d
      induction d with
      | zero => intro i h' F' _ hm; omega
      | succ d ih =>
        intro i h' F' hi hm b'
        unfold F.spatelaw9_EpochTwins.l3
        simp only [decide_eq_true_eq, decide_eq_false_iff_not]
        rw [l1]
        refine ⟨fun g => ?_, fun g => ?_⟩
        · obtain ⟨x, hx⟩ : ∃ x, S1[i]? = some x := ⟨_, List.getElem?_eq_getElem (by omega)⟩
          refine step_at (h0 := h) (e := e1.trans b'.ext0) t1 hx (e1.trans b'.ext0) ?_
          refine do_bk (i := 0) b' rfl (ok0.run' i b1) (by omega) fun h3 F3 b3 s3 => ?_
          rw [w64n (by omega)]
          refine ih (i + 1) h3 F3 (by omega) (by omega) ?_
          rw [take_snoc hx, runK_snoc]; exact b3
        · have : i = S1.length := by omega
          subst this
          rw [List.take_length] at b'
          generalize hB : runK (newB pins) S1 = B at b'
          have okB : Ok B 3000 := by rw [← hB]; exact (ok0.run).mono (by omega)
          refine twin_bk (i := 0) b' rfl fun nx h3 F3 c3 _ => twin_bk (i := 0) c3 rfl fun ny h4 F4 c4 _ => twin_bk (i := 0) c4 rfl fun nz h5 F5 c5 _ => ?_
          refine ⟨fun g => by simp at g, fun _ => ⟨fun g => by simp at g, fun _ => ?_⟩⟩
          unfold F.spatelaw9_EpochTwins.j12
          refine ⟨fun g => by simp at g, fun _ => ?_⟩
          unfold F.spatelaw9_EpochTwins.j4
          refine ⟨S2.length + S3.length + 1, ?_⟩
          -- both at once
          have key2 : ∀ (d i : Nat) (h' : H) (F' : Nat → Prop), (S2.length + S3.length) - i < d → i ≤ S2.length + S3.length → BKs h1 h' F' [(n, B), (nx, runK B (S2.take i)), (ny, runK B (S3.take i)), (nz, B)] → F.spatelaw9_EpochTwins.l5 Q d s2 s3 (some ⟨n, 0, none⟩) (some ⟨nx, 0, none⟩) (some ⟨ny, 0, none⟩) (some ⟨nz, 0, none⟩) (i : Int) h' := by
            intro d
            induction d with
            | zero => intro i h' F' hm; omega
            | succ d ih2 =>
              intro i h' F' hm hi b'
              have e' := e1.trans b'.ext0
              unfold F.spatelaw9_EpochTwins.l5
              -- the second one's turn
              have two : ∀ (h' : H) (F' : Nat → Prop), i < S2.length ∨ i < S3.length → BKs h1 h' F' [(n, B), (nx, runK B (S2.take (i + 1))), (ny, runK B (S3.take i)), (nz, B)] → F.spatelaw9_EpochTwins.j8 Q (F.spatelaw9_EpochTwins.l5 Q d) s2 s3 (some ⟨n, 0, none⟩) (some ⟨nx, 0, none⟩) (some ⟨ny, 0, none⟩) (some ⟨nz, 0, none⟩) (i : Int) h' := by
                intro h' F' hlt b'
                unfold F.spatelaw9_EpochTwins.j8 F.spatelaw9_EpochTwins.j7
                simp only [decide_eq_true_eq, decide_eq_false_iff_not]
                rw [l3, w64n (by omega)]
                refine ⟨fun g => ?_, fun g => ?_⟩
                · obtain ⟨x, hx⟩ : ∃ x, S3[i]? = some x := ⟨_, List.getElem?_eq_getElem (by omega)⟩
                  refine step_at (h0 := h) (e := e1.trans b'.ext0) t3 hx (e1.trans b'.ext0) ?_
                  refine do_bk (i := 2) b' rfl (okB.run' i b3) (by omega) fun h6 F6 b6 _ => ?_
                  refine ih2 (i + 1) h6 F6 (by omega) (by omega) ?_
                  rw [take_snoc hx, runK_snoc]; exact b6
                · refine ih2 (i + 1) h' F' (by omega) (by omega) ?_
                  rw [List.take_of_length_le (show S3.length ≤ i + 1 by omega)]
                  rw [List.take_of_length_le (show S3.length ≤ i by omega)] at b'
                  exact b'
              have one : ∀ x : Bool, (x = true → i < S2.length ∨ i < S3.length) → (x = false → ¬ i < S2.length ∧ ¬ i < S3.length) → F.spatelaw9_EpochTwins.j9 Q (F.spatelaw9_EpochTwins.l5 Q d) s2 s3 (some ⟨n, 0, none⟩) (some ⟨nx, 0, none⟩) (some ⟨ny, 0, none⟩) (some ⟨nz, 0, none⟩) (i : Int) x h' := by
                intro x hx1 hx0
                unfold F.spatelaw9_EpochTwins.j9
                refine ⟨fun g => ?_, fun g => ?_⟩
                · have hlt := hx1 g
                  unfold F.spatelaw9_EpochTwins.j6
                  simp only [decide_eq_true_eq, decide_eq_false_iff_not]
                  rw [l2]
                  refine ⟨fun g => ?_, fun g => ?_⟩
                  · obtain ⟨x, hx⟩ : ∃ x, S2[i]? = some x := ⟨_, List.getElem?_eq_getElem (by omega)⟩
                    refine step_at (h0 := h) (e := e') t2 hx e' ?_
                    refine do_bk (i := 1) b' rfl (okB.run' i b2) (by omega) fun h6 F6 b6 _ => ?_
                    refine two h6 F6 hlt ?_
                    rw [take_snoc hx, runK_snoc]; exact b6
                  · refine two h' F' hlt ?_
                    rw [List.take_of_length_le (show S2.length ≤ i + 1 by omega)]
                    rw [List.take_of_length_le (show S2.length ≤ i by omega)] at b'
                    exact b'
                · obtain ⟨g2, g3⟩ := hx0 g
                  rw [List.take_of_length_le (show S2.length ≤ i by omega), List.take_of_length_le (show S3.length ≤ i by omega)] at b'
                  refine alike_spec (i := 0) (j := 3) b' rfl rfl okB (by omega) fun h6 F6 b6 _ => ⟨fun g => by simp at g, fun _ => ⟨S2.length + 1, ?_⟩⟩
                  -- the first script once more
                  have key3 : ∀ (d i : Nat) (h' : H) (F' : Nat → Prop), i ≤ S2.length → S2.length - i < d → BKs h1 h' F' [(n, runK B (S2.take i)), (nx, runK B S2), (ny, runK B S3), (nz, B)] → F.spatelaw9_EpochTwins.l10 Q d s2 s3 (some ⟨n, 0, none⟩) (some ⟨nx, 0, none⟩) (some ⟨ny, 0, none⟩) (some ⟨nz, 0, none⟩) (i : Int) h' := by
                    intro d
                    induction d with
                    | zero => intro i h' F' _ hm; omega
                    | succ d ih3 =>
                      intro i h' F' hi hm b'
                      have e' := e1.trans b'.ext0
                      unfold F.spatelaw9_EpochTwins.l10
                      simp only [decide_eq_true_eq, decide_eq_false_iff_not]
                      rw [l2]
                      refine ⟨fun g => ?_, fun g => ⟨S3.length + 1, ?_⟩⟩
                      · obtain ⟨x, hx⟩ : ∃ x, S2[i]? = some x := ⟨_, List.getElem?_eq_getElem (by omega)⟩
                        refine step_at (h0 := h) (e := e') t2 hx e' ?_
                        refine do_bk (i := 0) b' rfl (okB.run' i b2) (by omega) fun h6 F6 b6 _ => ?_
                        rw [w64n (by omega)]
                        refine ih3 (i + 1) h6 F6 (by omega) (by omega) ?_
                        rw [take_snoc hx, runK_snoc]; exact b6
                      · rw [List.take_of_length_le (show S2.length ≤ i by omega)] at b'
                        have key4 : ∀ (d i : Nat) (h' : H) (F' : Nat → Prop), i ≤ S3.length → S3.length - i < d → BKs h1 h' F' [(n, runK B S2), (nx, runK B S2), (ny, runK B S3), (nz, runK B (S3.take i))] → F.spatelaw9_EpochTwins.l11 Q d s3 (some ⟨n, 0, none⟩) (some ⟨nx, 0, none⟩) (some ⟨ny, 0, none⟩) (some ⟨nz, 0, none⟩) (i : Int) h' := by
                          intro d
                          induction d with
                          | zero => intro i h' F' _ hm; omega
                          | succ d ih4 =>
                            intro i h' F' hi hm b'
                            have e' := e1.trans b'.ext0
                            unfold F.spatelaw9_EpochTwins.l11
                            simp only [decide_eq_true_eq, decide_eq_false_iff_not]
                            rw [l3]
                            refine ⟨fun g => ?_, fun g => ?_⟩
                            · obtain ⟨x, hx⟩ : ∃ x, S3[i]? = some x := ⟨_, List.getElem?_eq_getElem (by omega)⟩
                              refine step_at (h0 := h) (e := e') t3 hx e' ?_
                              refine do_bk (i := 3) b' rfl (okB.run' i b3) (by omega) fun h6 F6 b6 _ => ?_
                              rw [w64n (by omega)]
                              refine ih4 (i + 1) h6 F6 (by omega) (by omega) ?_
                              rw [take_snoc hx, runK_snoc]; exact b6
                            · rw [List.take_of_length_le (show S3.length ≤ i by omega)] at b'
                              have okx : Ok (runK B S2) 6000 := (okB.run).mono (by omega)
                              have oky : Ok (runK B S3) 6000 := (okB.run).mono (by omega)
                              refine alike_spec (i := 0) (j := 1) b' rfl rfl okx (by omega) fun h7 F7 b7 _ => ⟨fun _ => ?_, fun g => by simp at g⟩
                              refine alike_spec (i := 3) (j := 2) b7 rfl rfl oky (by omega) fun h8 F8 b8 _ => ?_
                              exact k h8 (e1.trans b8.ext0)
                        exact key4 _ 0 h' F' (by omega) (by omega) b'
                  exact key3 _ 0 h6 F6 (by omega) (by omega) b6
              simp only [decide_eq_true_eq, decide_eq_false_iff_not]
              rw [l2, l3]
              refine ⟨fun g => one true (fun _ => .inl (by omega)) (fun h => by cases h), fun g => one _ (fun h => .inr ?_) (fun h => ⟨by omega, ?_⟩)⟩
              · simp at h; omega
              · simp at h; omega
          exact key2 _ 0 h5 F5 (by omega) (by omega) c5
    exact key1 _ 0 h2 F2 (by omega) (by omega) q2
  refine ⟨fun g => j14 true (.inl rfl), fun g1 => ⟨fun g => j14 true (.inl rfl), fun g2 => ⟨fun g => j14 true (.inl rfl), fun g3 => ⟨fun g => j14 true (.inl rfl), fun g4 => j14 _ ?_⟩⟩⟩⟩
  simp only [decide_eq_false_iff_not] at g1 g2 g3 g4
  by_cases hp : pins > 64
  · exact .inl (by simp [hp])
  · exact .inr ⟨by simp [hp], by omega, by omega, by omega, by omega, by omega⟩
end
end Go.Proofs.Ytgcmojbajjajgaa.V
