/- The law TableKeeps answers true; no condition. -/
import Derived.Test.YtkedkajdiclmjaaKw
namespace Go.Proofs.Ytkedkajdiclmjaa.V.K
open Go Go.Proofs.Ytkedkajdiclmjaa.V
set_option linter.unusedVariables false
set_option linter.unusedSimpArgs false

section
variable {c : LC} {T : Tb Sl} {M : List (ByteArray × Value)} {ka ma bq : Nat} {rq : Sl} {Q : Bool → H → Prop}
/-- One key of the first range. -/
theorem lies_one {rs es : Sl} {h' : H} {i l1 : Nat} {x : ByteArray × Sl} {X : Obj} {K1 : H → Prop} {J1 : Nat → H → Prop} {hs : H} (o : LOk c) (t0 : TH c.h c.n rs es T) (ok : TOk T) (el : EL T) (mp0 : MapH c.h c.b M) (br0 : BR c.h T M) (w : L1 c T ka ma bq rq i h') (lm : LM c T i h') (hsq : ∀ m, SQF ka ma bq rq m → c.c21 < m) (hx : (allL T)[i]? = some x) (hl : h'[l1]? = some X) (hl1 : c.top < l1)
    (kK : ∀ h2, L1 c T ka ma bq rq (i + 1) h2 → LM c T (i + 1) h2 → h2[l1]? = some X → K1 h2) :
    ldV h' ⟨c.c4, 0, none⟩ fun y28 => RunS PP (Instr.lookup 50 y28 (.string x.1) true) h' fun u h30 => ∃ (r31 : Int) (r32 : Bool), u = (.tuple #[(.int .i64 r31), (.bool r32)]) ∧
    ldP h30 ⟨c.c2, 0, none⟩ fun y33 => F.table_Table_Slint_Place y33 x.1 h30 fun r36 r37 r38 h35 =>
    ((!r32) = true → F.spatelaw6_lies.j5 Q K1 J1 l1 ⟨c.c2, 0, none⟩ ⟨c.c6, 0, none⟩ ⟨c.c8, 0, none⟩ ⟨c.c11, 0, none⟩ ⟨c.c16, 0, none⟩ ⟨c.c21, 0, none⟩ x.1 r36 r37 true h35) ∧
    ((!r32) = false →
    ((!r38) = true → F.spatelaw6_lies.j5 Q K1 J1 l1 ⟨c.c2, 0, none⟩ ⟨c.c6, 0, none⟩ ⟨c.c8, 0, none⟩ ⟨c.c11, 0, none⟩ ⟨c.c16, 0, none⟩ ⟨c.c21, 0, none⟩ x.1 r36 r37 true h35) ∧
    ((!r38) = false →
    idxA x.2 0 1 fun a150 => ldI .i64 h35 a150 fun y152 =>
    (((y152 != r31)) = true → F.spatelaw6_lies.j5 Q K1 J1 l1 ⟨c.c2, 0, none⟩ ⟨c.c6, 0, none⟩ ⟨c.c8, 0, none⟩ ⟨c.c11, 0, none⟩ ⟨c.c16, 0, none⟩ ⟨c.c21, 0, none⟩ x.1 r36 r37 true h35) ∧
    (((y152 != r31)) = false →
    ldI .i64 h35 ⟨c.c8, 0, none⟩ fun y155 =>
    ((decide (y155 > 0)) = true →
    ldS h35 ⟨c.c11, 0, none⟩ fun y158 =>
    F.spatelaw6_lies.j5 Q K1 J1 l1 ⟨c.c2, 0, none⟩ ⟨c.c6, 0, none⟩ ⟨c.c8, 0, none⟩ ⟨c.c11, 0, none⟩ ⟨c.c16, 0, none⟩ ⟨c.c21, 0, none⟩ x.1 r36 r37 (Op.bytesLess x.1.toList y158.toList || (x.1.toList == y158.toList)) h35) ∧
    ((decide (y155 > 0)) = false →
    F.spatelaw6_lies.j5 Q K1 J1 l1 ⟨c.c2, 0, none⟩ ⟨c.c6, 0, none⟩ ⟨c.c8, 0, none⟩ ⟨c.c11, 0, none⟩ ⟨c.c16, 0, none⟩ ⟨c.c21, 0, none⟩ x.1 r36 r37 false h35)))) := by
  have hxm := List.mem_of_getElem? hx
  have hsm := allL_small t0 ok hxm
  obtain ⟨hv, _⟩ := allL_mem ok hxm
  obtain ⟨nb, v, vi, g1, g2, g3⟩ := br0.has x.1 x.2 hv
  obtain ⟨e, p, hw, he0, he1⟩ := place_of ok hv
  have hi := (List.getElem?_eq_some_iff.1 hx).1
  have hlen := w.sq.len
  rw [ldV_iff (w.b4.cell (i := 0) rfl)]
  refine lookM_of (kt := 9) (et := 3) (z := .int .i64 0) Try.underlying50 Try.underlying9 Try.zeroValue3 (mp0.only w.ext fun f => f) ⟨v, true, by rw [if_pos rfl, g3]; rfl, ?_⟩
  rw [ldP_iff (w.b2.cell (i := 0) rfl)]
  refine Place_spec (t0.ext w.ext) hsm hw fun h5 e5 => ?_
  have w5 := w.extd o e5
  have hl5 : h5[l1]? = some X := e5.block hl (fun f => f)
  refine ⟨fun g => (by cases g), fun _ => ⟨fun g => (by cases g), fun _ => ?_⟩⟩
  rw [g1]
  have gb : Blk h5 nb #[.int .i64 v, .int .i64 vi] 3 := (w.ext.trans e5).block g2 (fun f => f)
  refine idxA_of (b := nb) (i := 0) rfl (by simp) rfl ?_
  rw [ldI_iff (gb.cell (i := 0) rfl)]
  simp only [bne_self_eq_false]
  refine ⟨fun g => (by cases g), fun _ => ?_⟩
  rw [ldI_iff (w5.b8.cell (i := 0) rfl)]
  obtain ⟨⟨R, r1, r2⟩, E, e1, e2⟩ := lm.only e5 (fun f => f) (fun f => f)
  -- the end of a round
  have j3 : ∀ h6, L1 c T ka ma bq rq i h6 → LM c T (i + 1) h6 → h6[l1]? = some X → F.spatelaw6_lies.j3 Q K1 J1 l1 ⟨c.c8, 0, none⟩ ⟨c.c11, 0, none⟩ x.1 h6 := fun h6 w6 lm6 hl6 => by
    unfold F.spatelaw6_lies.j3
    obtain ⟨l, q1, q2⟩ := w6.b11
    have o2 := o.o2; have o4 := o.o4; have o6 := o.o6; have o8 := o.o8; have o11 := o.o11; have obr := o.obr; have o16 := o.o16; have obe := o.obe; have o21 := o.o21; have otop := o.otop
    refine stH_of q1 (by simp) fun h7 b7 f7 _ => ?_
    rw [writeA_all (by simp)] at b7
    have b8' : Blk h7 c.c8 #[.int .i64 (i : Int)] 3 := f7.block w6.b8 (by omega)
    rw [ldI_iff (b8'.cell (i := 0) rfl), w64 (by omega) (by omega), show (i : Int) + 1 = ((i + 1 : Nat) : Int) from by omega]
    refine stH_of b8' (by simp) fun h8 b8 f8 _ => ?_
    rw [writeA_all (by simp)] at b8
    have oo : Only (fun m => m = c.c8 ∨ m = c.c11) h6 h8 := (f7.mono fun m _ e => .inr e).trans (f8.mono fun m _ e => .inl e) fun _ _ e => e
    have nn : ∀ m, m ≠ c.c8 → m ≠ c.c11 → ¬ (m = c.c8 ∨ m = c.c11) := fun m h1 h2 h3 => by rcases h3 with h3 | h3 <;> contradiction
    refine kK h8 ⟨w6.ext.step oo fun m hm e => by rcases e with e | e <;> omega, oo.block w6.b2 (nn _ (by omega) (by omega)), oo.block w6.b4 (nn _ (by omega) (by omega)), oo.block w6.b6 (nn _ (by omega) (by omega)), b8, ⟨x.1, f8.block b7 (by omega), fun j y hj hy => ?_⟩, oo.block w6.b16 (nn _ (by omega) (by omega)), oo.block w6.b21 (nn _ (by omega) (by omega)), w6.sq.only oo fun m hm => by have := hsq m hm; exact nn m (by omega) (by omega), oo.block w6.d (nn _ (by omega) (by omega))⟩ (lm6.only oo (nn _ (by omega) (by omega)) (nn _ (by omega) (by omega))) (oo.block hl6 (nn _ (by omega) (by omega)))
    have : j = i := by omega
    subst this
    rw [hx] at hy; cases hy; rfl
  have o2 := o.o2; have o4 := o.o4; have o6 := o.o6; have o8 := o.o8; have o11 := o.o11; have obr := o.obr; have o16 := o.o16; have obe := o.obe; have o21 := o.o21; have otop := o.otop
  have hbr := t0.br
  simp only [BIG] at hbr
  have th5 := t0.ext (w.ext.trans e5)
  have main : F.spatelaw6_lies.j5 Q K1 J1 l1 ⟨c.c2, 0, none⟩ ⟨c.c6, 0, none⟩ ⟨c.c8, 0, none⟩ ⟨c.c11, 0, none⟩ ⟨c.c16, 0, none⟩ ⟨c.c21, 0, none⟩ x.1 (plA (some (e, p))).1 (plA (some (e, p))).2.1 false h5 := by
    show F.spatelaw6_lies.j5 Q K1 J1 l1 ⟨c.c2, 0, none⟩ ⟨c.c6, 0, none⟩ ⟨c.c8, 0, none⟩ ⟨c.c11, 0, none⟩ ⟨c.c16, 0, none⟩ ⟨c.c21, 0, none⟩ x.1 (p : Int) e false h5
    unfold F.spatelaw6_lies.j5
    refine ⟨fun g => (by cases g), fun _ => ?_⟩
    unfold F.spatelaw6_lies.j1
    cases e with
    | true =>
      have hh := he1 rfl
      have hpl := hh.lt
      have hel : 2 * T.elder.length = T.row.length := by
        rcases el with h | h
        · rw [h] at hpl; simp at hpl
        · exact h
      refine ⟨fun _ => ?_, fun g => by cases g⟩
      rw [ldV_iff (w5.b21.cell (i := 0) rfl)]
      refine N.lookM_of (kt := 3) (et := 4) (z := .bool false) Try.underlying96 Try.underlying3 Try.zeroValue4 e1 ?_
      rw [e2.fresh ok hx hw]
      refine ⟨false, rfl, fun g => (by cases g), fun _ => ⟨fun g => (by cases g), fun _ => ?_⟩⟩
      rw [decide_eq_false (show ¬ (p : Int) < 0 by omega)]
      refine ⟨fun g => (by cases g), fun _ => ⟨fun g => (by cases g), fun _ => ⟨fun _ => ?_, fun g => by cases g⟩⟩⟩
      rw [ldP_iff (w5.b2.cell (i := 0) rfl)]
      refine Slots_spec th5 ⟨by omega, ?_⟩
      have hdv : Int.tdiv (T.row.length : Int) 2 = ((T.elder.length : Nat) : Int) := by
        rw [show (2 : Int) = ((2 : Nat) : Int) from rfl, ← Int.ofNat_tdiv]
        congr 1; omega
      rw [hdv, w64 (by omega) (by omega), decide_eq_false (by omega)]
      unfold F.spatelaw6_lies.j4
      refine ⟨fun g => (by cases g), fun _ => ?_⟩
      unfold F.spatelaw6_lies.j2
      refine ⟨fun _ => ?_, fun g => by cases g⟩
      rw [ldV_iff (w5.b21.cell (i := 0) rfl)]
      refine N.updM_of (kt := 3) (et := 4) Try.underlying96 Try.underlying3 e1 fun h6 m6 f6 _ => ?_
      have w6 : L1 c T ka ma bq rq i h6 := by
        obtain ⟨l, q1, q2⟩ := w5.b11
        exact ⟨w5.ext.step f6 fun m hm e => by omega, f6.block w5.b2 (by omega), f6.block w5.b4 (by omega), f6.block w5.b6 (by omega), f6.block w5.b8 (by omega), ⟨l, f6.block q1 (by omega), q2⟩, f6.block w5.b16 (by omega), f6.block w5.b21 (by omega), w5.sq.only f6 fun m hm => by have := hsq m hm; omega, f6.block w5.d (by omega)⟩
      exact j3 h6 w6 ⟨⟨R, r1.only f6 (by omega), r2.skip hx hw (by decide)⟩, _, m6, e2.put hx hw⟩ (f6.block hl5 (by omega))
    | false =>
      have hh := he0 rfl
      have hpl := hh.lt
      refine ⟨fun g => (by cases g), fun _ => ⟨fun _ => ?_, fun g => by cases g⟩⟩
      rw [ldV_iff (w5.b16.cell (i := 0) rfl)]
      refine N.lookM_of (kt := 3) (et := 4) (z := .bool false) Try.underlying96 Try.underlying3 Try.zeroValue4 r1 ?_
      rw [r2.fresh ok hx hw]
      refine ⟨false, rfl, fun g => (by cases g), fun _ => ?_⟩
      rw [decide_eq_false (show ¬ (p : Int) < 0 by omega)]
      refine ⟨fun g => (by cases g), fun _ => ⟨fun _ => ?_, fun g => by cases g⟩⟩
      rw [ldP_iff (w5.b2.cell (i := 0) rfl)]
      refine Slots_spec th5 ?_
      rw [decide_eq_false (show ¬ (p : Int) ≥ (T.row.length : Int) by omega)]
      refine ⟨fun g => (by cases g), fun _ => ⟨fun g => (by cases g), fun _ => ?_⟩⟩
      unfold F.spatelaw6_lies.j4
      refine ⟨fun g => (by cases g), fun _ => ?_⟩
      unfold F.spatelaw6_lies.j2
      refine ⟨fun g => (by cases g), fun _ => ?_⟩
      rw [ldV_iff (w5.b16.cell (i := 0) rfl)]
      refine N.updM_of (kt := 3) (et := 4) Try.underlying96 Try.underlying3 r1 fun h6 m6 f6 _ => ?_
      have w6 : L1 c T ka ma bq rq i h6 := by
        obtain ⟨l, q1, q2⟩ := w5.b11
        exact ⟨w5.ext.step f6 fun m hm e => by omega, f6.block w5.b2 (by omega), f6.block w5.b4 (by omega), f6.block w5.b6 (by omega), f6.block w5.b8 (by omega), ⟨l, f6.block q1 (by omega), q2⟩, f6.block w5.b16 (by omega), f6.block w5.b21 (by omega), w5.sq.only f6 fun m hm => by have := hsq m hm; omega, f6.block w5.d (by omega)⟩
      exact j3 h6 w6 ⟨⟨_, m6, r2.put hx hw⟩, E, e1.only f6 (by omega), e2.skip hx hw (by decide)⟩ (f6.block hl5 (by omega))
  simp only [gt_iff_lt, decide_eq_true_eq, decide_eq_false_iff_not]
  refine ⟨fun g => ?_, fun _ => main⟩
  obtain ⟨l, q1, q2⟩ := w5.b11
  rw [ldS_iff (q1.cell (i := 0) rfl)]
  obtain ⟨y, hy⟩ : ∃ y, (allL T)[i - 1]? = some y := ⟨_, List.getElem?_eq_getElem (by omega)⟩
  have hly := q2 (i - 1) y (by omega) hy
  have hlt : y.1.data.toList < x.1.data.toList := by
    have h1 := List.getElem?_eq_some_iff.1 hy
    have h2 := List.getElem?_eq_some_iff.1 hx
    have := List.pairwise_iff_getElem.1 (allL_up ok) (i - 1) i h1.1 h2.1 (by omega)
    rw [h1.2, h2.2] at this
    exact this
  have hfalse : (Op.bytesLess x.1.toList l.toList || (x.1.toList == l.toList)) = false := by
    rw [hly, toList_data, toList_data, bytesLess_eq, Bool.or_eq_false_iff]
    refine ⟨by rw [decide_eq_false_iff_not]; exact fun h => List.lt_irrefl _ (List.lt_trans h hlt), ?_⟩
    rw [beq_eq_false_iff_ne]
    intro he
    rw [he] at hlt
    exact List.lt_irrefl _ hlt
  rw [hfalse]
  exact main
end
end Go.Proofs.Ytkedkajdiclmjaa.V.K
