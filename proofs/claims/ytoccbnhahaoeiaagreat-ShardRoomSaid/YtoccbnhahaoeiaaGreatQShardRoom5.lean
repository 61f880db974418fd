/- Parts of the proof of ShardRoom; no condition. -/
import Derived.Test.YtoccbnhahaoeiaaGreatQShardRoom4
namespace Go.Proofs.YtoccbnhahaoeiaaGreat.V.S
open Go Go.Proofs.YtoccbnhahaoeiaaGreat.V
set_option linter.unusedVariables false
set_option linter.unusedSimpArgs false
set_option maxRecDepth 20000
/-- The cell of a step. -/
theorem step_cel {h : H} {a : Addr} {x : S_spatelaw7_Step} (c : Cells h a x.cells) : Cells h (a.add 2) x.Cell.cells := fun i v hv => by
  have hi : i < 3 := (List.getElem?_eq_some_iff.1 hv).1
  have e : (a.add 2).add i = a.add (2 + i) := by simp [Addr.add, Nat.add_assoc]
  rw [e]
  exact c (2 + i) v (by
    match i, hi, hv with
    | 0, _, hv => exact hv
    | 1, _, hv => exact hv
    | 2, _, hv => exact hv)
theorem step_num {h0 h : H} {l : Sl} {L : List St} {i : Nat} {y : St} (rd : Reads h0 l 15 (L.flatMap fun y => y.x.cells)) (e : Ext h0 h) (hy : L[i]? = some y) {K : Addr → Prop} (kk : ∀ a, Cells h a y.x.cells → K a) : idxA l (i : Int) 15 K := by
  obtain ⟨p, p1, p2, p3⟩ := rd_at (f := fun y : St => y.x.cells) step_len (by omega) (rd.ext e) hy
  have hl := rd_len (f := fun y : St => y.x.cells) step_len (by omega) rd
  exact idxR_of (i := i) p1 (by have := (List.getElem?_eq_some_iff.1 hy).1; omega) rfl (kk _ p3)
theorem agg_z {a : S_api_Agg} : (!((a.Count == (⟨0, 0, 0, 0⟩ : S_api_Agg).Count) && ((a.Sum == (⟨0, 0, 0, 0⟩ : S_api_Agg).Sum) && ((a.Min == (⟨0, 0, 0, 0⟩ : S_api_Agg).Min) && ((a.Max == (⟨0, 0, 0, 0⟩ : S_api_Agg).Max) && true))))) = true ↔ a ≠ zA := by
  have := agg_eq (a := a) (b := ⟨0, 0, 0, 0⟩)
  rw [Bool.not_eq_true', ← Bool.not_eq_true, this]
theorem ShardRoom_spec {slots0 : Int} {l : Sl} {L : List St} {h : H} {Q : Bool → H → Prop} (rd : Reads h l 15 (L.flatMap fun y => y.x.cells)) (ok : ∀ y ∈ L, StOk h y) (hL : L.length ≤ 9223372036854775807) (k : ∀ h', Ext h h' → Q true h') : F.spatelaw7_ShardRoom slots0 l h Q := by
  unfold F.spatelaw7_ShardRoom
  have hl := rd_len (f := fun y : St => y.x.cells) step_len (by omega) rd
  refine within_spec (by omega) (by omega) ?_
  have r1 := within_range (a := slots0) (m := 20) (by omega)
  generalize withinM slots0 20 = sl at r1 ⊢
  rw [w64 (n := 2 + sl) (by omega) (by omega)]
  refine New_spec (R := fun b => h.size ≤ b) (fun g => by omega) (fun b hb => hb) fun _ _ h1 nd sh1 e1 hnd => ⟨fun g => by simp at g, fun _ => ?_⟩
  have hx0 : 2 + sl = (((2 + sl).toNat : Nat) : Int) := by omega
  rw [hx0]
  generalize (2 + sl).toNat = slots at sh1 ⊢
  unfold F.spatelaw7_ShardRoom.j14 F.spatelaw7_ShardRoom.j1
  refine ⟨fun g => by simp at g, fun _ => ?_⟩
  have hR : ∀ {hh : H}, Ext h hh → ∀ b, hh.size ≤ b → h.size ≤ b := fun e b hb => by have := e.size; omega
  have steps : ∀ (d i : Nat) (S : SL) (ep : Int) (hh : H), i ≤ L.length → L.length - i < d → SH hh nd S slots (fun b => h.size ≤ b) → Ext h hh → EB S ep → NZ S → 1 ≤ ep → ep ≤ (i : Int) + 1 → i ≤ 80 → F.spatelaw7_ShardRoom.l2 Q d (slots : Int) l (some ⟨nd, 0, none⟩) ep (i : Int) hh := by
    intro d
    induction d with
    | zero => intro i _ _ _ _ hm; omega
    | succ d ih =>
      intro i S ep hh hi hm sh e0 heb hnz hep1 hepi hi80
      unfold F.spatelaw7_ShardRoom.l2
      rw [hl]
      have done : ∀ (C1 : Int → Sl → (Option Addr) → Int → Int → H → Prop), F.spatelaw7_ShardRoom.j13 Q C1 (slots : Int) l (some ⟨nd, 0, none⟩) ep (i : Int) false hh := fun C1 => by
        unfold F.spatelaw7_ShardRoom.j13
        exact ⟨fun g => (by cases g), fun _ => head_spec fun h' e' => k h' (e0.trans e')⟩
      refine ⟨fun gg => ?_, fun _ => done _⟩
      have gg := of_decide_eq_true gg
      by_cases g80 : i < 80
      · rw [decide_eq_true (by omega)]
        have hm' : L.length - (i + 1) < d := by omega
        have hiL : i < L.length := by omega
        obtain ⟨y, hy⟩ : ∃ y, L[i]? = some y := ⟨_, List.getElem?_eq_getElem hiL⟩
        have yok := ok y (List.mem_of_getElem? hy)
        have j5 : ∀ (ep : Int), EB S ep → 1 ≤ ep → ep ≤ (i : Int) + 2 → F.spatelaw7_ShardRoom.j5 Q (F.spatelaw7_ShardRoom.l2 Q d) (slots : Int) l (some ⟨nd, 0, none⟩) ep (i : Int) hh := fun ep heb hep1 hepi => by
          unfold F.spatelaw7_ShardRoom.j5
          refine step_num rd e0 hy fun a ca => ⟨y.x.Cell, step_cel ca, few_spec fun h10 e10 => ?_⟩
          have hc := few_ok y.x.Cell
          generalize hcdef : fewC y.x.Cell = c at hc ⊢
          refine new_of fun m h12 hm12 b12 e12 s12 => ?_
          have b12' : Blk h12 m zeroC.cells.toArray tn_api_Cell := b12
          refine st_cel b12' (d := c) fun h14 b14 o14 s14 => ?_
          have z10 := e10.size
          have e14 : Ext hh h14 := (e10.trans e12).step o14 fun x hx hb => by omega
          have sh14 := sh.ext e14
          refine all_spec sh14 fun was h15 wwas mwas e15 => ?_
          have sh15 := sh14.ext e15
          simp only [nn_some, add_lit, Nat.add_zero]
          refine Units_spec sh15 ?_
          have b15 := e15.block b14 fun f => f
          refine ⟨c, Blk.cells b15, c, Blk.cells b15, newL_of fun m25 h25 hm25 b25 e25 s25 => ?_⟩
          have rd25 : Reads h25 ⟨some ⟨m25, 0, none⟩, 2, 2⟩ 3 ([c, c].flatMap S_api_Cell.cells) := blk_reads b25 rfl
          refine Need_spec (sh15.ext e25) rd25 (by simp) fun h27 e27 => ?_
          have e1527 := e25.trans e27
          have b27 := e1527.block b15 fun f => f
          rw [needT_two]
          have hneed := need_0 S ep c
          refine ⟨c, Blk.cells b27, Get_spec (sh15.ext e1527) fun h31 e31 => ?_⟩
          have e1531 := e1527.trans e31
          have b31 := e1531.block b15 fun f => f
          refine ⟨c, Blk.cells b31, newL_of fun m35 h35 hm35 b35 e35 s35 => ?_⟩
          have rd35 : Reads h35 ⟨some ⟨m35, 0, none⟩, 1, 1⟩ 3 ([c].flatMap S_api_Cell.cells) := blk_reads b35 rfl
          have e1535 := e1531.trans e35
          refine Fits_spec (sh15.ext e1535) rd35 (by simp) fun h37 e37 => ?_
          rw [needT_one]
          have us := sh.us
          have e1537 := e1535.trans e37
          have e37' : Ext h h37 := ((e0.trans e14).trans e15).trans e1537
          have sh37 := sh15.ext e1537
          have was37 := wwas.ext e1537
          generalize hth : (!((atS S c 0).Count == (⟨0, 0, 0, 0⟩ : S_api_Agg).Count && ((atS S c 0).Sum == (⟨0, 0, 0, 0⟩ : S_api_Agg).Sum && ((atS S c 0).Min == (⟨0, 0, 0, 0⟩ : S_api_Agg).Min && ((atS S c 0).Max == (⟨0, 0, 0, 0⟩ : S_api_Agg).Max && true))))) = there
          have hthere : there = true ↔ atS S c 0 ≠ zA := by rw [← hth]; exact agg_z
          rw [w64 (n := (unitsS S : Int) + needS S ep c) (by omega) (by omega)]
          generalize hfd : decide ((unitsS S : Int) + needS S ep c ≤ (slots : Int)) = fits
          refine ⟨fun g => by simp at g, fun _ => ⟨fun g => by have := of_decide_eq_true g; omega, fun _ => ?_⟩⟩
          unfold F.spatelaw7_ShardRoom.j12
          refine ⟨fun g => by have := of_decide_eq_true g; omega, fun _ => ?_⟩
          unfold F.spatelaw7_ShardRoom.j6
          refine step_at rd e37' hy yok sh37 (hR e37') (fun b hb => by show ¬ h.size ≤ b; omega) fun h43 sh43 o43 => ?_
          have e43 : Ext h h43 := e37'.step o43 fun b hb hh => by have := hh.1; omega
          have was43 := o43.owns was37 row_sh
          refine step_num rd e43 hy fun a2 ca2 => ldI_of (show cellH h43 (a2.add 0) = some (.int .i64 y.x.Kind) from ca2 0 _ rfl) (within_spec (by omega) (by omega) ?_)
          have hwr := within_range (a := y.x.Kind) (m := 4) (by omega)
          have heb' := heb.apply sh.ok.sort (slots := slots) (y := y)
          have hnz' := hnz.apply sh.ok.sort (slots := slots) (ep := ep) (y := y)
          have us' := sh43.us
          -- behind it
          have j7 : ∀ (r : Int), (r ≠ 0 → (applyM S slots ep y).2 = S) → F.spatelaw7_ShardRoom.j7 Q (F.spatelaw7_ShardRoom.l2 Q d) (slots : Int) l (some ⟨nd, 0, none⟩) ep (i : Int) was (unitsS S : Int) r h43 := fun r hr => by
            have next : ∀ h', Ext h43 h' → F.spatelaw7_ShardRoom.j8 Q (F.spatelaw7_ShardRoom.l2 Q d) (slots : Int) l (some ⟨nd, 0, none⟩) ep (i : Int) false h' := fun h' e' => by
              unfold F.spatelaw7_ShardRoom.j8 F.spatelaw7_ShardRoom.j4
              refine ⟨fun g => (by cases g), fun _ => ?_⟩
              rw [w64s (by omega)]
              exact ih (i + 1) _ ep h' (by omega) hm' (sh43.ext e') (e43.trans e') heb' hnz' hep1 (by omega) (by omega)
            unfold F.spatelaw7_ShardRoom.j7
            refine ⟨fun g => ?_, fun _ => ?_⟩
            · have g : r ≠ 0 := by simpa using g
              have hS := hr g
              refine all_spec sh43 fun now h47 wnow mnow e47 => ?_
              have hal := all_len sh43.ok us'.1 us'.2 0
              refine SameRows_spec wnow.reads (was43.ext e47).reads (by omega) (fun _ => ⟨fun g => (by cases g), fun _ => ?_⟩) fun hne => absurd (by rw [hS]) hne
              simp only [nn_some, add_lit, Nat.add_zero]
              refine Units_spec (sh43.ext e47) ?_
              rw [hS]
              refine ⟨fun g => by simp at g, fun _ => Units_spec (sh43.ext e47) ⟨fun g => by have := of_decide_eq_true g; omega, fun _ => Units_spec (sh43.ext e47) ?_⟩⟩
              rw [decide_eq_false (by omega)]
              exact next h47 e47
            · simp only [nn_some, add_lit, Nat.add_zero]
              refine Units_spec sh43 ⟨fun g => by have := of_decide_eq_true g; omega, fun _ => Units_spec sh43 ?_⟩
              rw [decide_eq_false (by omega)]
              exact next h43 (.refl _)
          refine ⟨fun g => ?_, fun g => ?_⟩
          · -- a kill
            have g : withinM y.x.Kind 4 = 0 := by simpa using g
            have hap : applyM S slots ep y = (killE S ep c, if killE S ep c = 0 then killS S ep c else S) := by unfold applyM; rw [if_pos g, hcdef]
            rw [hap] at sh43 us' heb' hnz' j7 ⊢
            simp only at sh43 us' heb' hnz' j7 ⊢
            have j9 : F.spatelaw7_ShardRoom.j9 Q (F.spatelaw7_ShardRoom.l2 Q d) (slots : Int) l (some ⟨nd, 0, none⟩) ep (i : Int) was (unitsS S : Int) (killE S ep c) false h43 := by
              unfold F.spatelaw7_ShardRoom.j9
              exact ⟨fun g => (by cases g), fun _ => j7 _ fun hr => if_neg hr⟩
            rcases room_kill sh.ok hnz heb hep1 (by omega) hc with ⟨q1, q2, q3⟩ | ⟨q1, q2⟩
            · rw [hthere.2 q1]
              rw [q2, if_pos rfl] at sh43
              rw [q2] at j9 ⊢
              refine ⟨fun g => by simp at g, fun _ => ⟨fun g => by simp at g, fun _ => ?_⟩⟩
              simp only [nn_some, add_lit, Nat.add_zero]
              refine Units_spec sh43 ?_
              rw [decide_eq_false (by omega)]
              exact j9
            · have hf : there = false := by
                cases ht : there with
                | false => rfl
                | true => exact absurd q1 (hthere.1 ht)
              rw [hf]
              rw [q2, if_neg (by decide)] at sh43
              rw [q2] at j9 ⊢
              refine ⟨fun g => by simp at g, fun _ => ⟨fun _ => ⟨fun g => by simp at g, fun _ => ?_⟩, fun g => by simp at g⟩⟩
              simp only [nn_some, add_lit, Nat.add_zero]
              refine Units_spec sh43 ?_
              rw [decide_eq_false (by omega)]
              exact j9
          · have g : withinM y.x.Kind 4 ≠ 0 := by simpa using g
            by_cases g1 : withinM y.x.Kind 4 = 1
            · -- pruned
              have hr0 : (applyM S slots ep y).1 = 0 := by unfold applyM; rw [if_neg g, if_pos g1]
              refine ⟨fun g2 => by rw [g1] at g2; simp at g2, fun _ => ?_⟩
              unfold F.spatelaw7_ShardRoom.j10
              rw [g1]
              refine ⟨fun g2 => by simp at g2, fun _ => j7 _ fun hr => absurd hr0 hr⟩
            · -- a put
              have hap : applyM S slots ep y = (putE S slots ep c (oneA y.x.Agg.Sum) true, if putE S slots ep c (oneA y.x.Agg.Sum) true = 0 then putS S ep c (oneA y.x.Agg.Sum) else S) := by unfold applyM; rw [if_neg g, if_neg g1, hcdef]
              rw [hap] at sh43 us' heb' hnz' j7 ⊢
              simp only at sh43 us' heb' hnz' j7 ⊢
              have j10 : F.spatelaw7_ShardRoom.j10 Q (F.spatelaw7_ShardRoom.l2 Q d) (slots : Int) l (some ⟨nd, 0, none⟩) ep (i : Int) was (unitsS S : Int) (needS S ep c) fits (putE S slots ep c (oneA y.x.Agg.Sum) true) true h43 := by
                unfold F.spatelaw7_ShardRoom.j10
                have j11 : F.spatelaw7_ShardRoom.j11 Q (F.spatelaw7_ShardRoom.l2 Q d) (slots : Int) l (some ⟨nd, 0, none⟩) ep (i : Int) was (unitsS S : Int) (putE S slots ep c (oneA y.x.Agg.Sum) true) false h43 := by
                  unfold F.spatelaw7_ShardRoom.j11
                  exact ⟨fun g => (by cases g), fun _ => j7 _ fun hr => if_neg hr⟩
                refine ⟨fun _ => ?_, fun g => by cases g⟩
                rcases room_put (v := y.x.Agg.Sum) sh.ok (slots := slots) heb hep1 (by omega) hc with ⟨q1, q2, q3⟩ | ⟨q1, q2⟩
                · rw [decide_eq_true q1] at hfd
                  subst hfd
                  rw [q2, if_pos rfl] at sh43
                  rw [q2] at j11 ⊢
                  refine ⟨fun g => by simp at g, fun _ => ⟨fun g => by simp at g, fun _ => ⟨fun _ => ?_, fun g => by simp at g⟩⟩⟩
                  simp only [nn_some, add_lit, Nat.add_zero]
                  refine Units_spec sh43 ?_
                  rw [w64 (n := (unitsS S : Int) + needS S ep c) (by omega) (by omega), q3]
                  simpa using j11
                · rw [decide_eq_false q1] at hfd
                  subst hfd
                  rw [q2, if_neg (by decide)] at sh43
                  rw [q2] at j11 ⊢
                  refine ⟨fun g => by simp at g, fun _ => ⟨fun _ => ⟨fun g => by simp at g, fun _ => ⟨fun g => by simp at g, fun _ => j11⟩⟩, fun g => by simp at g⟩⟩
              by_cases g2 : withinM y.x.Kind 4 = 2
              · rw [g2]; exact ⟨fun _ => j10, fun g => by simp at g⟩
              · have g3 : withinM y.x.Kind 4 = 3 := by omega
                rw [g3]; exact ⟨fun g => by simp at g, fun _ => j10⟩
        unfold F.spatelaw7_ShardRoom.j13 F.spatelaw7_ShardRoom.j3
        refine ⟨fun _ => step_num rd e0 hy fun a ca => ldI_of (show cellH hh (a.add 1) = some (.int .i64 y.x.Epoch) from ca 1 _ rfl) (within_spec (by omega) (by omega) ?_), fun g => by cases g⟩
        rw [w64 (n := ep + 1) (by omega) (by omega)]
        exact ⟨fun _ => j5 (ep + 1) (heb.mono (by omega)) (by omega) (by omega), fun _ => j5 ep heb hep1 (by omega)⟩
      · rw [decide_eq_false (by omega)]
        exact done _
  exact ⟨L.length + 1, steps _ 0 [] 1 h1 (by omega) (by omega) sh1 e1 (fun x hx => (by cases hx)) (fun x hx => (by cases hx)) (by omega) (by omega) (by omega)⟩
end Go.Proofs.YtoccbnhahaoeiaaGreat.V.S
