/- all answers true; TablePlays answers true; no condition. -/
import Derived.Test.YtkedkajdiclmjaaDu
namespace Go.Proofs.Ytkedkajdiclmjaa.V.D
open Go Go.Proofs.Ytkedkajdiclmjaa.V
set_option linter.unusedVariables false
set_option linter.unusedSimpArgs false

theorem all_spec : AllSays := fun {h n m rs es rd ed T Q} t ok hc k => by
  unfold F.spatelaw6_all
  refine new_of fun a2 h1 n2 b2 e1 z1 => ?_
  have t1 := t.ext e1
  refine All_spec t1.d ok fun h3 sz sn sv A => ?_
  have e3 := A.ext
  have s3 := e3.size
  refine new_of fun a7 h6 n7 b7 e6 z6 => ?_
  refine new_of fun a9 h8 n9 b9 e8 z8 => ?_
  refine stH_of (e8.block b7 (fun f => f)) (by simp) fun h10 c7 e10 z10 => ?_
  rw [writeA_all (by simp)] at c7
  refine stH_of (e10.block b9 (by omega)) (by simp) fun h11 c9 e11 z11 => ?_
  rw [writeA_all (by simp)] at c9
  refine new_of fun a13 h12 n13 b13 e12 z12 => ?_
  refine stH_of b13 (by simp) fun h14 c13 e14 z14 => ?_
  rw [writeA_all (by simp)] at c13
  have X : Ext h3 h14 := by
    refine ⟨by omega, fun q hq _ => ?_⟩
    rw [e14.same q (by omega) (by omega), e12.same q (by omega) (fun f => f), e11.same q (by omega) (by omega), e10.same q (by omega) (by omega), e8.same q (by omega) (fun f => f), e6.same q (by omega) (fun f => f)]
  refine V.All_spec (t1.ext (e3.trans X)).t ok hc fun h15 ka ma bq rq sq e15 mine _ => ?_
  have s15 := e15.size
  have B2 : Blk h15 a2 #[.bool false] 4 := ((e3.trans X).trans e15).block b2 (fun f => f)
  have B7 : Blk h15 a7 #[sn.enc] 37 := e15.block (e14.block (e12.block (e11.block c7 (by omega)) (fun f => f)) (by omega)) (fun f => f)
  have B9 : Blk h15 a9 #[sv.enc] 38 := e15.block (e14.block (e12.block c9 (fun f => f)) (by omega)) (fun f => f)
  have B13 : Blk h15 a13 #[.int .i64 0] 3 := e15.block c13 (fun f => f)
  have N15 := A.n.ext (X.trans e15)
  have V15 := A.v.ext (X.trans e15)
  have nlt : ∀ b, sn.blk = some b → b ≠ a13 := fun b hb => by have := A.n.blk_lt hb; omega
  have vlt : ∀ b, sv.blk = some b → b ≠ a13 := fun b hb => by have := A.v.blk_lt hb; omega
  have XE := ((e1.trans e3).trans X).trans e15
  have hlen : (allL T).length = T.count := by unfold allL; rw [List.length_map, sortT_len, List.length_map, tk_len ok]
  have dpush : Ext h15 (h15.push (.deferred (some []))) := .push _ _
  have sE := (e1.trans e3).size
  refine range_seq (fun i h' => Only (· = a13) h15 h' ∧ Blk h' a13 #[.int .i64 (i : Int)] 3 ∧ h'[h15.size]? = some (.deferred (some []))) (fun _ _ => False) (fun i h' h'' t o => ⟨t.1.trans o fun m hm e => by omega, o.block t.2.1 (by omega), o.block t.2.2 (by omega)⟩) (fun _ _ _ f _ => f) (fun i h' t => sq.only t.1 fun q hq e => by have := mine q hq; omega) ⟨dpush.only, dpush.block B13 (fun f => f), by simp⟩ (fun Y i x hh K J hY hI hll hx kK kJ => ?_) (fun h' hI => ?_) (fun _ _ f => f.elim)
  · obtain ⟨o, c, d⟩ := hI
    have hi : i < (allL T).length := (List.getElem?_eq_some_iff.1 hx).1
    have nh := N15.only o nlt
    have vh := V15.only o vlt
    have ln : sn.len = (allL T).length := by rw [own_len cT_len (by omega) nh]; simp
    have lv : sv.len = (allL T).length := by rw [own_len cI_len (by omega) vh]; simp
    have B7h : Blk hh a7 #[sn.enc] 37 := o.block B7 (by omega)
    have B9h : Blk hh a9 #[sv.enc] 38 := o.block B9 (by omega)
    rw [ldI_iff (c.cell (i := 0) rfl), ldL_iff (B7h.cell (i := 0) rfl)]
    simp only [decide_eq_true_eq, decide_eq_false_iff_not]
    refine ⟨fun g => by omega, fun _ => ?_⟩
    rw [ldL_iff (B7h.cell (i := 0) rfl), ldI_iff (c.cell (i := 0) rfl)]
    obtain ⟨bn, q1, q2⟩ := own_at (x := x.1) (i := i) cT_len (by omega) nh (by simp [hx])
    refine idxA_of q1 (by omega) rfl ?_
    rw [ldS_iff (by have := q2 0 _ rfl; simpa only [add_lit, Nat.add_zero] using this)]
    simp only [beq_self_eq_true, Bool.not_true]
    refine ⟨fun g => (by cases g), fun _ => ?_⟩
    rw [ldL_iff (B9h.cell (i := 0) rfl), ldI_iff (c.cell (i := 0) rfl)]
    obtain ⟨bv, v1, v2⟩ := own_at (x := x.2) (i := i) cI_len (by omega) vh (by simp [hx])
    refine idxA_of v1 (by omega) rfl ?_
    rw [ldI_iff (by have := v2 0 _ rfl; simpa only [add_lit, Nat.add_zero] using this)]
    simp only [bne_self_eq_false]
    unfold F.spatelaw6_all.j2
    refine ⟨fun g => (by cases g), fun _ => ?_⟩
    unfold F.spatelaw6_all.j1
    rw [ldI_iff (c.cell (i := 0) rfl), w64 (by omega) (by omega)]
    refine stH_of c (by simp) fun h2 c2 f2 _ => ?_
    rw [writeA_all (by simp)] at c2
    exact kK h2 ⟨o.trans f2 fun _ _ e => e, c2, f2.block d (by omega)⟩ (f2.block hll (by omega))
  · obtain ⟨o, c, d⟩ := hI
    have ln : sn.len = (allL T).length := by rw [own_len cT_len (by omega) N15]; simp
    have B7h : Blk h' a7 #[sn.enc] 37 := o.block B7 (by omega)
    have B2h : Blk h' a2 #[.bool false] 4 := o.block B2 (by omega)
    rw [ldI_iff (c.cell (i := 0) rfl), ldL_iff (B7h.cell (i := 0) rfl), ln]
    simp only [beq_self_eq_true]
    refine stH_of B2h (by simp) fun h2 c2 f2 _ => ?_
    rw [writeA_all (by simp)] at c2
    refine ⟨f2.block d (by omega), ?_⟩
    have f3 := put_only h2 h15.size (.deferred none)
    have c3 : Blk (put h2 h15.size (.deferred none)) a2 #[.bool true] 4 := f3.block c2 (by omega)
    show ldB _ _ _
    rw [ldB_iff (c3.cell (i := 0) rfl)]
    have sx := XE.size
    exact k _ (((XE.step o fun j hj e => by omega).step f2 fun j hj e => by omega).step f3 fun j hj e => by omega)
end Go.Proofs.Ytkedkajdiclmjaa.V.D
namespace Go.Proofs.Ytkedkajdiclmjaa.V
theorem TablePlays_spec {h : H} {x0 : Sl} {S : List Step} {Q : Bool → H → Prop} (r0 : Reads h x0 3 (S.flatMap (·.cells))) (okS : ∀ x ∈ S, StepOk x) (k : ∀ h', Ext h h' → Q true h') : F.spatelaw6_TablePlays x0 h Q := D.plays_spec D.all_spec r0 okS k
end Go.Proofs.Ytkedkajdiclmjaa.V
