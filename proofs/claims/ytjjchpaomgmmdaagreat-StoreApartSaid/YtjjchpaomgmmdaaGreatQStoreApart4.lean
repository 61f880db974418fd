/- Parts of the proof of StoreApart; no condition. -/
import Derived.ChangeSlices
import Derived.OpenShut
import Derived.Test.YtjjchpaomgmmdaaGreatQStoreApart3
namespace Go.Proofs.YtjjchpaomgmmdaaGreat.V.S
open Go Go.Proofs.YtjjchpaomgmmdaaGreat.V
set_option linter.unusedVariables false
set_option linter.unusedSimpArgs false
set_option maxRecDepth 20000
def RightIs (a : S_api_Agg) (b : Bool) : Prop := ∀ (h : H) (Q : Bool -> H -> Prop), (∀ h', Ext h h' -> Q b h') -> F.xbk a h Q
def putE (S : SL) (slots : Nat) (e : Int) (c : Cel) (a : S_api_Agg) (rt : Bool) : Int :=
  if okC c ≠ 0 then okC c else if e < 1 ∨ e > 1099511627776 ∨ a.Count = 0 ∨ rt = false then 1 else if (C.newestM ((getS S c).getD [])).2.1 > e then 32 else if (unitsS S : Int) + needS S e c > slots then 31 else 0
def putS (S : SL) (e : Int) (c : Cel) (a : S_api_Agg) : SL := setS S c (C.layM ((getS S c).getD []) ⟨e, a, false⟩)
def killE (S : SL) (e : Int) (c : Cel) : Int :=
  if okC c ≠ 0 then okC c else if e < 1 ∨ e > 1099511627776 then 1 else match getS S c with
  | none => 44
  | some vs => if (C.newestM vs).2.1 > e then 32 else if alive vs = false then 44 else 0
def killS (S : SL) (e : Int) (c : Cel) : SL := setS S c (C.layM ((getS S c).getD []) ⟨e, zA, true⟩)
theorem getS_ne {S : SL} (h : SOk S) {c : Cel} : ∀ vs, getS S c = some vs -> VOk vs := fun vs hg => by
  unfold getS at hg
  cases hx : getK (fun x : Cel × List Ver => x.1) S c with
  | none => rw [hx] at hg; cases hg
  | some x =>
    rw [hx] at hg; cases hg
    exact (h.ok x (getK_some hx).1).2
theorem put_units {S : SL} (h : SOk S) {e : Int} {c : Cel} {a : S_api_Agg} (hc : okC c = 0) (hn : ¬ (C.newestM ((getS S c).getD [])).2.1 > e) :
    (unitsS (putS S e c a) : Int) = unitsS S + needS S e c ∧ (thereS (putS S e c a) : Int) = thereS S + (1 - aliveN ((getS S c).getD [])) ∧ needS S e c = C.layN ((getS S c).getD []) ⟨e, a, false⟩ + (1 - aliveN ((getS S c).getD [])) := by
  have h1 := set_units h.sort c (C.layM ((getS S c).getD []) ⟨e, a, false⟩)
  have h2 := set_there h.sort c (C.layM ((getS S c).getD []) ⟨e, a, false⟩)
  have h3 := lay_units ((getS S c).getD []) ⟨e, a, false⟩
  have h4 := lay_alive ((getS S c).getD []) ⟨e, a, false⟩
  have h5 := units_eq ((getS S c).getD [])
  have h6 := need_lay (getS S c) e ⟨e, a, false⟩ rfl rfl hn fun vs hv => (getS_ne h vs hv).ne
  have h7 : needS S e c = needV (getS S c) e := by unfold needS; rw [if_neg (fun h => h hc)]
  simp only [Bool.false_eq_true, if_false] at h3 h4
  unfold putS
  rw [h7]
  refine ⟨by omega, by omega, by omega⟩
theorem mayM_ok {vs : List Ver} {e : Int} (h1 : 1 <= e) (h2 : e <= 1099511627776) : C.mayM vs e = if vs ≠ [] ∧ e < (C.newestM vs).2.1 then 32 else 0 := by
  unfold C.mayM
  rw [if_neg (by omega), lastE_newest]
section
variable {h : H} {n : Nat} {S : SL} {slots : Nat} {R : Nat -> Prop}
theorem Put_spec {e : Int} {x : S_api_Row} {rt : Bool} {Q : Int -> H -> Prop} (s : SH h n S slots R) (hrt : RightIs x.Agg rt) (hR : ∀ b, h.size <= b -> R b)
    (k0 : putE S slots e x.Cell x.Agg rt ≠ 0 -> ∀ h', Ext h h' -> Q (putE S slots e x.Cell x.Agg rt) h')
    (k1 : putE S slots e x.Cell x.Agg rt = 0 -> ∀ h', SH h' n (putS S e x.Cell x.Agg) slots R -> SOnly R h h' -> Q 0 h') : F.xaf (some ⟨n, 0, none⟩) e x h Q := by
  have sok := s.ok
  obtain ⟨tn, rs, es, T, Z, hZ, z⟩ := s
  obtain ⟨c, a⟩ := x
  simp only at hrt k0 k1
  unfold F.xaf
  refine new_of fun m h1 hm b1 e1 s1 => ?_
  have rc : Cells h1 ⟨m, 0, none⟩ (c.cells ++ a.cells) := Blk.cells b1
  simp only [add_lit, Nat.zero_add, Nat.add_zero]
  have ra : ∀ {hh : H}, Ext h1 hh -> Cells hh ⟨m, 3, none⟩ a.cells := fun ee => (cells_r rc : Cells h1 ⟨m, 0 + 3, none⟩ a.cells).ext ee
  have rcc : ∀ {hh : H}, Ext h1 hh -> Cells hh ⟨m, 0, none⟩ c.cells := fun ee => (cells_l rc).ext ee
  refine ⟨c, rcc (.refl _), ?_⟩
  unfold putE at k0 k1
  refine key_spec (fun g h2 e2 => ⟨fun _ => ?_, fun g2 => absurd (by simpa using g2) g⟩) fun g h2 e2 => ⟨fun g2 => by simp at g2, fun _ => ?_⟩
  · rw [if_pos g] at k0; exact k0 g h2 (e1.trans e2)
  rw [if_neg (fun h => h g)] at k0 k1
  have e02 := e1.trans e2
  have a0 : ∀ {hh : H}, Ext h1 hh -> cellH hh ⟨m, 3, none⟩ = some (.int .i64 a.Count) := fun ee => ra ee 0 _ rfl
  -- a bad argument
  have bad : ∀ {hh : H}, Ext h hh -> (e < 1 ∨ e > 1099511627776 ∨ a.Count = 0 ∨ rt = false) -> F.xaf.j4 Q (some ⟨n, 0, none⟩) e ⟨m, 0, none⟩ (keyB c) true hh := fun ee hb => by
    unfold F.xaf.j4
    refine ⟨fun _ => ?_, fun h => by cases h⟩
    rw [if_pos hb] at k0
    exact k0 (by decide) _ ee
  -- the last step: a chain that is there is written
  have j1 : ∀ h3, Ext h2 h3 -> 1 <= e -> e <= 1099511627776 -> a.Count ≠ 0 -> rt = true -> F.xaf.j1 Q (some ⟨n, 0, none⟩) e ⟨m, 0, none⟩ (keyB c) h3 := by
    intro h3 e3 he1 he2 hac hrt1
    rw [if_neg (by rintro (h | h | h | h)
                   · omega
                   · omega
                   · exact hac h
                   · rw [hrt1] at h; cases h)] at k0 k1
    have e03 := e02.trans e3
    have z3 := z.ext e03
    unfold F.xaf.j1
    simp only [nn_some, add_lit, Nat.zero_add, Nat.add_zero]
    rw [ldP_iff z3.cs3]
    refine P.Get_spec z3.th z3.ok (key_small g) fun h4 e4 => ?_
    have e04 := e03.trans e4
    have e14 : Ext h1 h4 := (e2.trans e3).trans e4
    have z4 := z3.ext e4
    have hlk := z3.look g
    rw [hlk]
    -- room is asked for
    have j2 : ∀ (h5 : H) (l : Option Addr) (is th : Bool), Ext h4 h5 -> ¬ (C.newestM ((getS S c).getD [])).2.1 > e -> ((unitsS S : Int) + needS S e c <= slots -> ∀ h6, Ext h5 h6 -> ((!is) = true -> F.xce h6 fun r60 h59 => ldP h59 ⟨n, 3, none⟩ fun y63 => F.xbf y63 (keyB c) r60 h59 fun h65 => F.xaf.j3 Q (some ⟨n, 0, none⟩) e ⟨m, 0, none⟩ r60 th h65) ∧ ((!is) = false -> F.xaf.j3 Q (some ⟨n, 0, none⟩) e ⟨m, 0, none⟩ l th h6)) ->
        F.xaf.j2 Q (some ⟨n, 0, none⟩) e ⟨m, 0, none⟩ (keyB c) l is th h5 := by
      intro h5 l is th e5 hnw hgo
      have z5 := z4.ext e5
      unfold F.xaf.j2
      simp only [nn_some, add_lit, Nat.zero_add, Nat.add_zero]
      rw [ldI_iff z5.cs0]
      refine ⟨c, rcc (e14.trans e5), ldI_of z5.cs2 (need_spec z5 fun h6 e6 => ⟨(z5.ext e6).cs2, (z5.ext e6).cs0, ?_⟩)⟩
      rw [hZ]
      rw [if_neg hnw] at k0 k1
      have hus := z.us
      have hsl := z.sl
      rw [hZ] at hus
      have hnd : 0 <= needS S e c ∧ needS S e c <= 2 := by
        unfold needS needV
        split
        · omega
        · cases getS S c with
          | none => simp
          | some vs => simp only; split <;> (try split) <;> (try split) <;> omega
      rw [w64 (by omega) (by omega)]
      refine ⟨fun g2 => ?_, fun g2 => hgo (by have := of_decide_eq_false g2; omega) h6 e6⟩
      have g2 := of_decide_eq_true g2
      rw [if_pos g2] at k0
      exact k0 (by decide) h6 ((e04.trans e5).trans e6)
    have hgs : getS S c = (getK Rec.c Z c).map (·.vs) := by rw [← hZ]; exact z.getS c
    have hpu := fun (hn : ¬ (C.newestM ((getS S c).getD [])).2.1 > e) => put_units (a := a) sok g hn
    -- the numbers
    have nums : ∀ (h8 : H) (rs' es' : Sl) (T' : Tb (Option Addr)) (Z' : List Rec) (th : Bool), SZ h8 n tn rs' es' T' Z' slots R (unitsS S : Int) (thereS S : Int) -> toS Z' = putS S e c a -> SOnly R h h8 -> ¬ (C.newestM ((getS S c).getD [])).2.1 > e -> (unitsS S : Int) + needS S e c <= slots ->
        (aliveN ((getS S c).getD []) = if th then 1 else 0) ->
        (nn (some ⟨n, 0, none⟩) fun a36 => ldI .i64 h8 ((a36.add 0).add 0) fun y38 => nn (some ⟨n, 0, none⟩) fun a40 => stH h8 ((a40.add 0).add 0) [(.int .i64 (IntKind.wrap .i64 (y38 + C.layN ((getS S c).getD []) ⟨e, a, false⟩)))] fun h42 =>
          ((!th) = true -> nn (some ⟨n, 0, none⟩) fun a44 => ldI .i64 h42 ((a44.add 0).add 0) fun y46 => nn (some ⟨n, 0, none⟩) fun a48 => stH h42 ((a48.add 0).add 0) [(.int .i64 (IntKind.wrap .i64 (y46 + 1)))] fun h50 => nn (some ⟨n, 0, none⟩) fun a51 => ldI .i64 h50 ((a51.add 0).add 1) fun y53 => nn (some ⟨n, 0, none⟩) fun a55 => stH h50 ((a55.add 0).add 1) [(.int .i64 (IntKind.wrap .i64 (y53 + 1)))] fun h57 => Q 0 h57) ∧ ((!th) = false -> Q 0 h42)) := by
      intro h8 rs' es' T' Z' th z8 hZ' so hnw hroom hth
      obtain ⟨p1, p2, p3⟩ := hpu hnw
      have hsl := z.sl
      have htl : thereS S <= unitsS S := there_le
      have hus := z.us
      rw [hZ] at hus
      have hlr := layN_range ((getS S c).getD []) ⟨e, a, false⟩
      rw [if_neg hnw, if_neg (show ¬ (unitsS S : Int) + needS S e c > slots by omega)] at k1
      simp only [nn_some, add_lit, Nat.zero_add, Nat.add_zero]
      rw [ldI_iff z8.cs0, w64 (by omega) (by omega)]
      refine z8.st0 fun h9 z9 o9 => ?_
      have so9 := so.trans o9
      refine ⟨fun g3 => ?_, fun g3 => ?_⟩
      · have hth0 : th = false := by simpa using g3
        rw [hth0] at hth
        simp only [Bool.false_eq_true, if_false] at hth
        rw [ldI_iff z9.cs0, w64 (by omega) (by omega)]
        refine z9.st0 fun h10 z10 o10 => ?_
        rw [ldI_iff z10.cs1, w64 (by omega) (by omega)]
        refine z10.st1 fun h11 z11 o11 => ?_
        refine k1 rfl h11 ⟨tn, rs', es', T', Z', hZ', ?_⟩ ((so9.trans o10).trans o11)
        rw [hZ', p1, p2, p3, hth]
        have q1 : (unitsS S : Int) + C.layN ((getS S c).getD []) ⟨e, a, false⟩ + 1 = unitsS S + (C.layN ((getS S c).getD []) ⟨e, a, false⟩ + (1 - ((0 : Nat) : Int))) := by omega
        have q2 : (thereS S : Int) + 1 = thereS S + (1 - ((0 : Nat) : Int)) := by omega
        rw [← q1, ← q2]; exact z11
      · have hth1 : th = true := by simpa using g3
        rw [hth1] at hth
        simp only [if_true] at hth
        refine k1 rfl h9 ⟨tn, rs', es', T', Z', hZ', ?_⟩ so9
        rw [hZ', p1, p2, p3, hth]
        have q1 : (unitsS S : Int) + C.layN ((getS S c).getD []) ⟨e, a, false⟩ = unitsS S + (C.layN ((getS S c).getD []) ⟨e, a, false⟩ + (1 - ((1 : Nat) : Int))) := by omega
        have q2 : (thereS S : Int) = thereS S + (1 - ((1 : Nat) : Int)) := by omega
        rw [← q1, ← q2]; exact z9
    cases hg : getK Rec.c Z c with
    | none =>
      refine ⟨fun h => (by cases h), fun _ => ?_⟩
      have hgd : (getS S c).getD [] = [] := by rw [hgs, hg]; rfl
      have hnw : ¬ (C.newestM ((getS S c).getD [])).2.1 > e := by rw [hgd]; show ¬ (0 : Int) > e; omega
      refine j2 h4 _ _ _ (.refl _) hnw fun hroom h6 e6 => ⟨fun _ => ?_, fun h => by cases h⟩
      have z6 := z4.ext e6
      refine C.New_spec fun p h7 hp c7 e7 => ?_
      have z7 := z6.ext e7
      rw [ldP_iff z7.cs3]
      obtain ⟨T', t1, t2, t3, t4, t5, t6⟩ := put_ok (z := P.nilA) z7.ok (keyB c) (some ⟨p, 0, none⟩)
      have hcnt := z7.count
      have hzl := z7.len
      have hrl := z7.rl
      have hgn : getM T (keyB c) = none := by rw [z.look g, hg]; rfl
      rw [hgn] at t5
      simp only [Option.isSome_none, Bool.false_eq_true, if_false] at t5
      have hrl' : T'.row.length <= 4200000 := by
        rcases t6 with ⟨_, q1, q2, _⟩ | ⟨_, q2, _⟩
        · have q1 : 3 * T.row.length < 4 * (T.count + 1) := q1
          omega
        · omega
      refine P.Put_spec z7.th z7.ok (key_small g) t1 (by show _ <= 1099511627776; omega) (by show _ <= 1099511627776; omega) fun h8 rs' es' th8 stp => ?_
      unfold F.xaf.j3
      simp only [add_lit, Nat.zero_add, Nat.add_zero]
      have hp6 : p < h7.size := c7.lt
      have l7 := z7.f_lt
      have c8 : C.Ch h8 p [] none := c7.only stp.only (fun hb => by
        have := z6.th.lt p hb; omega) fun b hb => by cases hb
      have e17 : Ext h1 h7 := (e14.trans e6).trans e7
      have e07 := ((e04.trans e6).trans e7)
      have rb8 : Cells h8 ⟨m, 3, none⟩ a.cells := (ra e17).only stp.only fun hb => by
        have := z.th.lt m hb; omega
      refine ⟨a, rb8, ?_⟩
      refine C.Put_spec c8 (by simp) (fun h => absurd (by rw [mayM_ok he1 he2]; simp) h) fun _ h9 B' c9 o9 kin9 => ?_
      have hsetq : toS (setK Rec.c Z ⟨c, C.layM [] ⟨e, a, false⟩, p, B'⟩) = putS S e c a := by
        rw [toS_set, hZ]; unfold putS; rw [hgd]
      have vok : VOk (C.layM [] ⟨e, a, false⟩) := lay_ok (.inl rfl) (.inr rfl) (fun h => by cases h) he1 he2
      obtain ⟨p1, p2, p3⟩ := hpu hnw
      have hz := z.add (c := c) g hg (e07) (by have := ((e04.trans e6)).size; omega) hp6 th8 t2 stp t4 hrl' c9 o9 kin9 vok (by rw [hsetq]; omega) hR
      have := nums h9 rs' es' T' _ false (by rw [← hZ]; exact hz.1) hsetq hz.2 hnw hroom (by rw [hgd]; rfl)
      rw [hgd] at this
      exact this
    | some r =>
      refine ⟨fun _ => ?_, fun h => by cases h⟩
      obtain ⟨hr, hrc⟩ := getK_some hg
      have hgd : (getS S c).getD [] = r.vs := by rw [hgs, hg]; rfl
      have hv := (z.wf r hr).2
      refine C.Newest_spec (z4.ch r hr) (by have := z.vlen hr; omega) fun h5 e5 => ⟨fun g2 => ?_, fun g2 => ?_⟩
      · have g2 := of_decide_eq_true g2
        rw [hgd, if_pos g2] at k0
        exact k0 (by decide) h5 (e04.trans e5)
      have hnw : ¬ (C.newestM ((getS S c).getD [])).2.1 > e := by rw [hgd]; exact of_decide_eq_false g2
      refine j2 h5 _ _ _ e5 hnw fun hroom h6 e6 => ⟨fun h => (by cases h), fun _ => ?_⟩
      have e06 := (e04.trans e5).trans e6
      have z6 := z.ext e06
      unfold F.xaf.j3
      simp only [add_lit, Nat.zero_add, Nat.add_zero]
      refine ⟨a, ra ((e14.trans e5).trans e6), ?_⟩
      refine C.Put_spec (z6.ch r hr) (by have := z.vlen hr; omega) (fun h => absurd (by rw [mayM_ok he1 he2, if_neg (fun h2 => by rw [hgd] at hnw; omega)]) h) fun _ h9 B' c9 o9 kin9 => ?_
      have hsetq : toS (setK Rec.c Z ⟨r.c, C.layM r.vs ⟨e, a, false⟩, r.p, B'⟩) = putS S e c a := by
        rw [toS_set, hZ, hrc]; unfold putS; rw [hgd]
      have hn2 : C.lastE r.vs <= e := by rw [lastE_newest]; rw [hgd] at hnw; omega
      have vok : VOk (C.layM r.vs ⟨e, a, false⟩) := lay_ok (.inr hv) (.inl hn2) (fun h => by cases h) he1 he2
      obtain ⟨p1, p2, p3⟩ := hpu hnw
      have hz := z6.lay hr c9 o9 kin9 vok (by rw [hsetq]; omega) fun b hb => hR b (by have := e06.size; omega)
      have := nums h9 rs es T _ (alive r.vs) (by rw [← hZ]; exact hz.1) hsetq ((SOnly.of e06).trans hz.2) hnw hroom (by rw [hgd]; rfl)
      rw [hgd] at this
      exact this
  have e2r : Ext h1 h2 := e2
  refine ⟨fun g2 => bad e02 (.inl (of_decide_eq_true g2)), fun g2 => ⟨fun g3 => bad e02 (.inr (.inl (of_decide_eq_true g3))), fun g3 => ?_⟩⟩
  rw [ldI_iff (a0 e2)]
  refine ⟨fun g4 => bad e02 (.inr (.inr (.inl (by simpa using g4)))), fun g4 => ⟨a, ra e2, hrt h2 _ fun h3 e3 => ?_⟩⟩
  have g2 := of_decide_eq_false g2
  have g3 := of_decide_eq_false g3
  have g4 : a.Count ≠ 0 := by simpa using g4
  cases hrv : rt with
  | false => exact bad (e02.trans e3) (.inr (.inr (.inr hrv)))
  | true =>
    unfold F.xaf.j4
    exact ⟨fun h => (by cases h), fun _ => j1 h3 e3 (by omega) (by omega) g4 hrv⟩
theorem kill_units {S : SL} (h : SOk S) {e : Int} {c : Cel} {vs : List Ver} (hg : getS S c = some vs) (ha : alive vs = true) :
    (unitsS (killS S e c) : Int) = unitsS S + (C.layN vs ⟨e, zA, true⟩ - 1) ∧ (thereS (killS S e c) : Int) = thereS S - 1 := by
  have h1 := set_units h.sort c (C.layM ((getS S c).getD []) ⟨e, zA, true⟩)
  have h2 := set_there h.sort c (C.layM ((getS S c).getD []) ⟨e, zA, true⟩)
  have h3 := lay_units ((getS S c).getD []) ⟨e, zA, true⟩
  have h4 := lay_alive ((getS S c).getD []) ⟨e, zA, true⟩
  have h5 := units_eq ((getS S c).getD [])
  have h6 : aliveN ((getS S c).getD []) = 1 := by rw [hg]; unfold aliveN; rw [Option.getD_some, if_pos ha]
  simp only [if_true] at h3 h4
  rw [show (C.layN vs ⟨e, zA, true⟩) = C.layN ((getS S c).getD []) ⟨e, zA, true⟩ from by rw [hg]; rfl]
  unfold killS
  refine ⟨by omega, by omega⟩
theorem Kill_spec {e : Int} {c : Cel} {Q : Int -> H -> Prop} (s : SH h n S slots R) (hR : ∀ b, h.size <= b -> R b)
    (k0 : killE S e c ≠ 0 -> ∀ h', Ext h h' -> Q (killE S e c) h')
    (k1 : killE S e c = 0 -> ∀ h', SH h' n (killS S e c) slots R -> SOnly R h h' -> Q 0 h') : F.xat (some ⟨n, 0, none⟩) e c h Q := by
  have sok := s.ok
  obtain ⟨tn, rs, es, T, Z, hZ, z⟩ := s
  unfold F.xat
  refine new_of fun m h1 hm b1 e1 s1 => ⟨c, Blk.cells b1, ?_⟩
  unfold killE at k0 k1
  refine key_spec (fun g h2 e2 => ⟨fun _ => ?_, fun g2 => absurd (by simpa using g2) g⟩) fun g h2 e2 => ⟨fun g2 => by simp at g2, fun _ => ?_⟩
  · rw [if_pos g] at k0; exact k0 g h2 (e1.trans e2)
  rw [if_neg (fun h => h g)] at k0 k1
  have e02 := e1.trans e2
  have bad : (e < 1 ∨ e > 1099511627776) -> F.xat.j2 Q (some ⟨n, 0, none⟩) e ⟨m, 0, none⟩ true h2 := fun hb => by
    unfold F.xat.j2
    refine ⟨fun _ => ?_, fun h => by cases h⟩
    rw [if_pos hb] at k0
    exact k0 (by decide) _ e02
  refine ⟨fun g2 => bad (.inl (of_decide_eq_true g2)), fun g2 => ?_⟩
  have g2 := of_decide_eq_false g2
  cases hb : decide (e > 1099511627776) with
  | true => exact bad (.inr (of_decide_eq_true hb))
  | false =>
    have g3 := of_decide_eq_false hb
    unfold F.xat.j2
    refine ⟨fun h => (by cases h), fun _ => ?_⟩
    rw [if_neg (by omega)] at k0 k1
    unfold F.xat.j1
    refine ⟨c, (Blk.cells b1).ext e2, ?_⟩
    have z2 := z.ext e02
    have hgs : getS S c = (getK Rec.c Z c).map (·.vs) := by rw [← hZ]; exact z.getS c
    refine chain_spec z2 (fun g4 h3 e3 => ⟨fun _ => ?_, fun h => by simp at h⟩) fun _ r hg h3 e3 => ⟨fun h => by simp at h, fun _ => ?_⟩
    · have : getK Rec.c Z c = none := by
        rcases g4 with g4 | g4
        · exact absurd g g4
        · exact g4
      rw [hgs, this] at k0
      exact k0 (fun h => by cases h) h3 (e02.trans e3)
    · obtain ⟨hr, hrc⟩ := getK_some hg
      rw [hg] at hgs
      have hgs : getS S c = some r.vs := hgs
      rw [hgs] at k0 k1
      dsimp only at k0 k1
      have e03 := e02.trans e3
      have z3 := z.ext e03
      have hv := (z.wf r hr).2
      have hml := mayM_ok (vs := r.vs) (e := e) (by omega) (by omega)
      have hmne : r.vs ≠ [] := hv.ne
      refine C.Kill_spec (z3.ch r hr) (by have := z.vlen hr; omega) (fun g4 => ⟨fun g5 => ?_, fun g5 => ?_⟩) (fun g4 g5 h4 e4 => ⟨fun _ => ?_, fun h => by simp at h⟩) fun g4 g5 h4 B' c4 o4 kin4 => ⟨fun h => by simp at h, fun _ => ?_⟩
      · rw [hml] at g4 ⊢
        have : r.vs ≠ [] ∧ e < (C.newestM r.vs).2.1 := by
          refine Classical.byContradiction fun hn => ?_
          rw [if_neg hn] at g4; exact g4 rfl
        rw [if_pos this]
        rw [if_pos (show (C.newestM r.vs).2.1 > e from this.2)] at k0
        exact k0 (by decide) h3 e03
      · exact absurd (by simpa using g5) g4
      · have hnw : ¬ (C.newestM r.vs).2.1 > e := fun hh => by rw [hml, if_pos ⟨hmne, hh⟩] at g4; cases g4
        rw [if_neg hnw, if_pos (show alive r.vs = false from g5)] at k0
        exact k0 (by decide) h4 (e03.trans e4)
      · have hnw : ¬ (C.newestM r.vs).2.1 > e := fun hh => by rw [hml, if_pos ⟨hmne, hh⟩] at g4; cases g4
        rw [if_neg hnw, if_neg (show ¬ alive r.vs = false from by rw [show alive r.vs = (C.newestM r.vs).2.2 from rfl, g5]; decide)] at k1
        obtain ⟨p1, p2⟩ := kill_units (e := e) sok hgs g5
        have hus := z.us
        have hsl := z.sl
        rw [hZ] at hus
        have hlr := layN_range r.vs ⟨e, zA, true⟩
        have htl : thereS S <= unitsS S := there_le
        have hsetq : toS (setK Rec.c Z ⟨r.c, C.layM r.vs ⟨e, zA, true⟩, r.p, B'⟩) = killS S e c := by
          rw [toS_set, hZ, hrc]; unfold killS; rw [hgs]; rfl
        have hn2 : C.lastE r.vs <= e := by rw [lastE_newest]; omega
        have vok : VOk (C.layM r.vs ⟨e, zA, true⟩) := lay_ok (.inr hv) (.inl hn2) (fun _ => rfl) (by show 1 <= e; omega) (by show e <= _; omega)
        have hz := z3.lay hr c4 o4 kin4 vok (by rw [hsetq]; omega) fun b hb => hR b (by have := e03.size; omega)
        obtain ⟨z4, so4⟩ := hz
        rw [hZ] at z4
        simp only [nn_some, add_lit, Nat.zero_add, Nat.add_zero]
        rw [ldI_iff z4.cs0, w64 (n := C.layN r.vs ⟨e, zA, true⟩ - 1) (by omega) (by omega), w64 (by omega) (by omega)]
        refine z4.st0 fun h5 z5 o5 => ?_
        rw [ldI_iff z5.cs1, w64 (by omega) (by omega)]
        refine z5.st1 fun h6 z6 o6 => ?_
        refine k1 rfl h6 ⟨tn, rs, es, T, _, hsetq, ?_⟩ ((((SOnly.of e03).trans so4).trans o5).trans o6)
        rw [hsetq, p1, p2]; exact z6
end
abbrev Rw := S_api_Row
abbrev cW (x : Rw) : List Value := x.cells
theorem cW_len (x : Rw) : (cW x).length = 7 := rfl
def keysZ (Z : List Rec) : List (ByteArray × Option Addr) := Z.map fun r => (keyB r.c, some ⟨r.p, 0, none⟩)
theorem keysZ_len (Z : List Rec) : (keysZ Z).length = Z.length := List.length_map _
theorem cB_lt : ∀ (x y : List UInt8), Lib.compareBytes x y = -1 -> x < y
  | [], [], h => by simp [Lib.compareBytes] at h
  | [], b :: y, _ => List.nil_lt_cons b y
  | a :: x, [], h => by simp [Lib.compareBytes] at h
  | a :: x, b :: y, h => by
    simp only [Lib.compareBytes] at h
    rcases u8_tri a b with g | g | g
    · exact List.cons_lt_cons_iff.2 (.inl g)
    · subst g
      simp only [u8_irr, if_false] at h
      exact List.cons_lt_cons_iff.2 (.inr ⟨rfl, cB_lt x y h⟩)
    · simp [g, u8_asym g] at h
theorem key_lt {a b : Cel} (ha : okC a = 0) (hb : okC b = 0) (h : cmpC a b = -1) : keyL a < keyL b :=
  cB_lt _ _ (by rw [key_cmp (ok_may ha) (ok_may hb) (ok_start ha) (ok_start hb)]; exact h)
section
variable {h h' : H} {n tn : Nat} {rs es : Sl} {T : Tb (Option Addr)} {Z : List Rec} {slots : Nat} {R : Nat -> Prop} {u t : Int}
theorem tk_has (ok : TOk T) {k : ByteArray} {v : Option Addr} (hg : getM T k = some v) : ∃ p ∈ P.tkL (T.row ++ T.elder), p.1 = k := by
  have go : ∀ (W : List (Pl (Option Addr))), valOf W k = some v -> ∃ p ∈ P.tkL W, p.1 = k := fun W hv => by
    obtain ⟨i, p, h1, h2, h3, h4⟩ := valOf_some hv
    exact ⟨(p.key, .pointer p.value), List.mem_map.2 ⟨p, List.mem_filter.2 ⟨List.mem_of_getElem? h1, by simp [h2]⟩, rfl⟩, kL_inj h3⟩
  unfold getM at hg
  rw [P.tkL_app]
  cases hv : valOf T.row k with
  | some w =>
    rw [hv] at hg; cases hg
    obtain ⟨p, h1, h2⟩ := go _ hv
    exact ⟨p, List.mem_append_left _ h1, h2⟩
  | none =>
    rw [hv] at hg
    obtain ⟨p, h1, h2⟩ := go _ hg
    exact ⟨p, List.mem_append_right _ h1, h2⟩
theorem all_eq (z : SZ h n tn rs es T Z slots R u t) : P.allL T = keysZ Z := by
  have hk : ∀ c : Cel, (keyB c).data.toList = keyL c := fun c => by simp [keyB]
  have hsort : (Z.map fun r => keyB r.c).Pairwise fun a b => a.data.toList < b.data.toList := by
    rw [List.pairwise_map]
    have := z.srt
    refine List.Pairwise.imp_of_mem ?_ this
    intro a b ha hb hab
    rw [hk, hk]
    exact key_lt (z.wf a ha).1 (z.wf b hb).1 hab
  have hn2 : (Z.map fun r => keyB r.c).Nodup := hsort.imp fun {a b} hab e => by subst e; exact List.lt_irrefl _ hab
  have hn1 := P.KU_of z.ok
  have hp : ((P.tkL (T.row ++ T.elder)).map (·.1)).Perm (Z.map fun r => keyB r.c) := (List.perm_ext_iff_of_nodup hn1 hn2).2 fun k => by
    constructor
    · intro hk'
      obtain ⟨⟨k2, v⟩, hm, rfl⟩ := List.mem_map.1 hk'
      obtain ⟨w, hw, _⟩ := P.tk_val z.ok hm
      obtain ⟨r, hr, e⟩ := z.all k2 w hw
      refine List.mem_map.2 ⟨r, hr, kL_inj ?_⟩
      rw [kL_keyB]; exact e.symm
    · intro hk'
      obtain ⟨r, hr, rfl⟩ := List.mem_map.1 hk'
      have hg := z.get r hr
      refine Classical.byContradiction fun hno => ?_
      have hlt := tk_has z.ok hg
      obtain ⟨p, hp1, hp2⟩ := hlt
      exact hno (List.mem_map.2 ⟨p, hp1, hp2⟩)
  unfold P.allL
  rw [sortT_perm hp, P.sortT_id hsort, List.map_map]
  refine List.map_congr_left fun r hr => ?_
  simp only [Function.comp, z.get r hr, Option.getD_some]
end
theorem st_cel {h : H} {n : Nat} {c d : Cel} {e : TypeId} {K : H -> Prop} (b : Blk h n c.cells.toArray e) (k : ∀ h', Blk h' n d.cells.toArray e -> Only (· = n) h h' -> h'.size = h.size -> K h') : stH h ⟨n, 0, none⟩ d.cells K := by
  refine stH_of b (Nat.le_refl 3) fun h' q1 q2 q3 => k h' ?_ q2 q3
  rw [writeA_all (by rfl)] at q1
  exact q1
theorem shut1 {d : Nat} {h : H} {K : H -> Prop} (hd : h[d]? = some (.deferred (some []))) (k : ∀ h', Only (· = d) h h' -> K h') : shuts [d] h K :=
  ⟨hd, k _ ⟨by simp [put], fun b hb hn => by simp only [put]; rw [Array.getElem?_setIfInBounds_ne (fun e => hn e.symm)]⟩⟩
theorem rng1_spec {h : H} {n4 n6 : Nat} {fr to c : Cel} {K : Value -> H -> Prop} (b4 : Cells h ⟨n4, 0, none⟩ fr.cells) (b6 : Cells h ⟨n6, 0, none⟩ to.cells) (k : ∀ h', Ext h h' -> K (.bool (decide (cmpC fr c <= 0) && decide (cmpC c to < 0))) h') :
    CV PP (.func (.func no_shard_Shard_Range_1) #[] #[.pointer (some ⟨n4, 0, none⟩), .pointer (some ⟨n6, 0, none⟩)]) [.agg c.cells.toArray] h K := by
  refine CV_func (fun a w => no_shard_Shard_Range_1_call a w) ?_
  have : F.xcy c ⟨n4, 0, none⟩ ⟨n6, 0, none⟩ h fun r h' => K (.bool r) h' := by
    unfold F.xcy
    refine new_of fun m h1 hm b1 e1 s1 => ⟨fr, b4.ext e1, c, Blk.cells b1, Compare_spec fun h2 e2 => ⟨fun g => ⟨c, (Blk.cells b1).ext e2, to, (b6.ext e1).ext e2, Compare_spec fun h3 e3 => ?_⟩, fun g => ?_⟩⟩
    · have := k h3 ((e1.trans e2).trans e3)
      rw [g, Bool.true_and] at this; exact this
    · have := k h2 (e1.trans e2)
      rw [g, Bool.false_and] at this; exact this
  have := F.xcy_ok this
  simp only [List.append_toArray, Array.empty_append, Array.append_empty]
  exact this.mono fun r h' ⟨r0, e, q⟩ => by subst e; exact q
def rowsZ (e : Int) (fr to : Cel) (Z : List Rec) : List Rw := (Z.filter fun r => inS e fr to (r.c, r.vs)).map fun r => rowS e (r.c, r.vs)
theorem rows_toS (e : Int) (fr to : Cel) (Z : List Rec) : rangeS (toS Z) e fr to = rowsZ e fr to Z := by
  unfold rangeS rowsZ toS
  rw [List.filter_map, List.map_map]
  rfl
theorem rows_snoc (e : Int) (fr to : Cel) {Z : List Rec} {i : Nat} {r : Rec} (h : Z[i]? = some r) : rowsZ e fr to (Z.take (i + 1)) = rowsZ e fr to (Z.take i) ++ (if inS e fr to (r.c, r.vs) then [rowS e (r.c, r.vs)] else []) := by
  obtain ⟨h1, h2⟩ := List.getElem?_eq_some_iff.1 h
  unfold rowsZ
  rw [List.take_succ_eq_append_getElem h1, h2, List.filter_append, List.map_append]
  congr 1
  by_cases hi : inS e fr to (r.c, r.vs) <;> simp [hi]
theorem rows_pre (e : Int) (fr to : Cel) (Z : List Rec) (i : Nat) : (rowsZ e fr to (Z.take i)) <+: rowsZ e fr to Z := by
  unfold rowsZ
  exact ((List.take_prefix i Z).filter _).map _
structure RI (h hL h' : H) (n2 n4 n6 n8 n10 n12 ka ma b : Nat) (r : Sl) (L : List (ByteArray × Option Addr)) (ep most : Int) (fr to : Cel) (rows : List Rw) : Prop where
  ext : Ext h h'
  b2 : Blk h' n2 #[.int .i64 ep] tn_int
  b4 : Blk h' n4 fr.cells.toArray tn_api_Cell
  b6 : Blk h' n6 to.cells.toArray tn_api_Cell
  b8 : Blk h' n8 #[.int .i64 most] tn_int
  b12 : Blk h' n12 #[.func (.func no_shard_Shard_Range_1) #[] #[.pointer (some ⟨n4, 0, none⟩), .pointer (some ⟨n6, 0, none⟩)]] tn_func_api_Cell_bool
  sq : P.SeqH h' ka ma b r L
  dfr : h'[hL.size]? = some (.deferred (some []))
  out : ∃ o, Blk h' n10 #[o.enc] tn_Slapi_Row ∧ Owns h' o tn_api_Row 7 (rows.flatMap cW) ∧ ∀ x, o.blk = some x -> hL.size + 2 <= x
  len : rows.length <= most.toNat
  sz : hL.size + 1 <= h'.size
  lt : n2 < hL.size ∧ n4 < hL.size ∧ n6 < hL.size ∧ n8 < hL.size ∧ n10 < hL.size ∧ n12 < hL.size ∧ (∀ m, SQF ka ma b r m -> m < hL.size ∧ m ≠ n10) ∧ n2 ≠ n10 ∧ n4 ≠ n10 ∧ n6 ≠ n10 ∧ n8 ≠ n10 ∧ n12 ≠ n10 ∧ h.size <= n10
section
variable {h hL h' h'' : H} {n2 n4 n6 n8 n10 n12 ka ma b : Nat} {r : Sl} {L : List (ByteArray × Option Addr)} {ep most : Int} {fr to : Cel} {rows : List Rw}
theorem RI.only {S : Nat -> Prop} (v : RI h hL h' n2 n4 n6 n8 n10 n12 ka ma b r L ep most fr to rows) (o : Only S h' h'') (hS : ∀ m, S m -> hL.size < m ∧ ∀ o : Sl, Blk h' n10 #[o.enc] tn_Slapi_Row -> o.blk ≠ some m) : RI h hL h'' n2 n4 n6 n8 n10 n12 ka ma b r L ep most fr to rows := by
  obtain ⟨l2, l4, l6, l8, l10, l12, lq, q⟩ := v.lt
  have no : ∀ m, m <= hL.size -> ¬ S m := fun m hm h => by have := (hS m h).1; omega
  obtain ⟨ou, o1, o2, o3⟩ := v.out
  have hle : h.size <= hL.size := by obtain ⟨_, _, _, _, _, hq⟩ := q; omega
  exact ⟨v.ext.step o fun m hm => no m (by omega), o.block v.b2 (no _ (by omega)), o.block v.b4 (no _ (by omega)), o.block v.b6 (no _ (by omega)), o.block v.b8 (no _ (by omega)), o.block v.b12 (no _ (by omega)), v.sq.only o fun m hm => no m (by have := (lq m hm).1; omega), o.block v.dfr (no _ (by omega)),
    ⟨ou, o.block o1 (no _ (by omega)), o2.only o fun m hm hs => (hS m hs).2 ou o1 hm, o3⟩, v.len, by have := o.size; have := v.sz; omega, v.lt⟩
theorem RI.e (v : RI h hL h' n2 n4 n6 n8 n10 n12 ka ma b r L ep most fr to rows) (e : Ext h' h'') : RI h hL h'' n2 n4 n6 n8 n10 n12 ka ma b r L ep most fr to rows := v.only e fun _ f => f.elim
end
theorem Range_spec {h : H} {n : Nat} {S : SL} {slots : Nat} {R : Nat -> Prop} {ep most : Int} {fr to : Cel} {Q : Sl -> H -> Prop} (s : SH h n S slots R)
    (k : ∀ r h', Owns h' r tn_api_Row 7 (((rangeS S ep fr to).take most.toNat).flatMap cW) -> Mine h r -> Ext h h' -> Q r h') : F.xai (some ⟨n, 0, none⟩) ep fr to most h Q := by
  obtain ⟨tn, rs, es, T, Z, rfl, z⟩ := s
  unfold F.xai
  refine new_of fun n2 h1 hn2 b2 e1 s1 => new_of fun n4 h3 hn4 b4 e3 s3 => new_of fun n6 h5 hn6 b6 e5 s5 => new_of fun n8 h7 hn8 b8 e7 s7 => new_of fun n10 h9 hn10 b10 e9 s9 => new_of fun n12 h11 hn12 b12 e11 s11 => ?_
  refine stH_of b12 (by simp) fun h13 b13 o13 s13 => ?_
  have x2 : Blk h13 n2 #[.int .i64 ep] tn_int := o13.block (((((e3.trans e5).trans e7).trans e9).trans e11).block b2 fun f => f) (by omega)
  have x4 : Blk h13 n4 fr.cells.toArray tn_api_Cell := o13.block ((((e5.trans e7).trans e9).trans e11).block b4 fun f => f) (by omega)
  have x6 : Blk h13 n6 to.cells.toArray tn_api_Cell := o13.block (((e7.trans e9).trans e11).block b6 fun f => f) (by omega)
  have x8 : Blk h13 n8 #[.int .i64 most] tn_int := o13.block ((e9.trans e11).block b8 fun f => f) (by omega)
  have x10 : Blk h13 n10 #[(⟨none, 0, 0⟩ : Sl).enc] tn_Slapi_Row := o13.block (e11.block b10 fun f => f) (by omega)
  have e013 : Ext h h13 := (((((e1.trans e3).trans e5).trans e7).trans e9).trans e11).step o13 fun m hm hb => by omega
  have z13 := z.ext e013
  simp only [nn_some, add_lit, Nat.zero_add, Nat.add_zero]
  rw [ldP_iff z13.cs3]
  have hcnt := z.count
  have hzl := z.len
  refine P.All_spec z13.th z13.ok (by omega) fun hL ka ma b r sq eL hmine _ => ?_
  rw [all_eq z13] at sq
  have hLs := eL.size
  have hgt : ∀ {Y : List Rec} {i : Nat} {x : ByteArray × Option Addr}, (keysZ Y)[i]? = some x -> ∃ q, Y[i]? = some q ∧ x = (keyB q.c, some ⟨q.p, 0, none⟩) := fun {Y i x} hx => by
    unfold keysZ at hx
    rw [List.getElem?_map] at hx
    cases hy : Y[i]? with
    | none => rw [hy] at hx; cases hx
    | some q => rw [hy] at hx; cases hx; exact ⟨q, rfl, rfl⟩
  -- the end
  have fin : ∀ (h' : H) (rows : List Rw), RI h hL h' n2 n4 n6 n8 n10 n12 ka ma b r (keysZ Z) ep most fr to rows -> rows = (rangeS (toS Z) ep fr to).take most.toNat -> F.xai.j1 Q (hL.size :: ([] : List Nat)) ⟨n10, 0, none⟩ h' := fun h' rows v hrows => by
    obtain ⟨o, o1, o2, o3⟩ := v.out
    unfold F.xai.j1
    refine ldL_of (Blk.cell (i := 0) o1 rfl) (shut1 v.dfr fun h9 o9 => ?_)
    rw [hrows] at o2
    refine k o h9 (o2.only o9 fun m hm e => by have := o3 m hm; omega) (fun x hx => by have := o3 x hx; have := e013.size; omega) (v.ext.step o9 fun m hm e => by have := e013.size; omega)
  refine P.range_seq (I := fun i h' => RI h hL h' n2 n4 n6 n8 n10 n12 ka ma b r (keysZ Z) ep most fr to (rowsZ ep fr to (Z.take i)))
    (E := fun j h' => j = 0 ∧ ∃ i, RI h hL h' n2 n4 n6 n8 n10 n12 ka ma b r (keysZ Z) ep most fr to (rowsZ ep fr to (Z.take i)) ∧ most <= ((rowsZ ep fr to (Z.take i)).length : Int))
    (fun i h' h'' v o => v.only o fun m hm => ⟨by omega, fun ou hou hb => ?_⟩) (fun j h' h'' v o => ⟨v.1, v.2.elim fun i hi => ⟨i, hi.1.only o fun m hm => ⟨by omega, fun ou hou hb => ?_⟩, hi.2⟩⟩) (fun i h' v => v.sq) ?_ ?_ (fun h' v => ?_) (fun j h' v => ?_)
  · obtain ⟨o', o1, o2, o3⟩ := v.out
    have heq := o1.symm.trans hou
    have : o' = ou := enc_inj.1 (by simpa using heq)
    subst this
    have := o3 m hb; omega
  · obtain ⟨o', o1, o2, o3⟩ := hi.1.out
    have heq := o1.symm.trans hou
    have : o' = ou := enc_inj.1 (by simpa using heq)
    subst this
    have := o3 m hb; omega
  · have ep0 : Ext hL (hL.push (.deferred (some []))) := .push _ _
    have eH := eL.trans ep0
    refine ⟨e013.trans eH, eH.block x2 fun f => f, eH.block x4 fun f => f, eH.block x6 fun f => f, eH.block x8 fun f => f, eH.block b13 fun f => f, sq.only ep0 fun m hm f => f, by simp, ⟨_, eH.block x10 fun f => f, by simpa [rowsZ] using Owns.nil _ tn_api_Row 7, fun x hx => by simp [Sl.blk] at hx⟩, by simp [rowsZ], by simp, ?_⟩
    refine ⟨by omega, by omega, by omega, by omega, by omega, by omega, fun m hm => ⟨sq.lt m hm, ?_⟩, by omega, by omega, by omega, by omega, by omega, by omega⟩
    have := hmine m hm; omega
  · intro X i x h5 K J hX v hx hxi kK kJ
    obtain ⟨q, hq, rfl⟩ := hgt hxi
    have hqz : q ∈ Z := List.mem_of_getElem? hq
    obtain ⟨o, o1, o2, o3⟩ := v.out
    have hlo := own_len cW_len (by omega) o2
    refine ldL_of (Blk.cell (i := 0) o1 rfl) (ldI_of (Blk.cell (i := 0) v.b8 rfl) ⟨fun g => ?_, fun g => ?_⟩)
    · have g := of_decide_eq_true g
      exact kJ 0 h5 ⟨rfl, i, v, by rw [← hlo]; exact g⟩ hx
    · have g := of_decide_eq_false g
      have hok := (z.wf q hqz).1
      have hv := (z.wf q hqz).2
      refine Cell_spec (by show (keyL q.c).toArray.size < _; have := key_size hok; simp; omega) fun h6 e6 => ?_
      rw [show (keyB q.c).data.toList = keyL q.c from by simp [keyB], cell_back (ok_may hok) (ok_start hok)]
      refine new_of fun m7 h7 hm7 b7 e7 s7 => ?_
      have b7' : Blk h7 m7 zeroC.cells.toArray tn_api_Cell := b7
      refine st_cel b7' (d := q.c) fun h8 b8' o8 s8 => ?_
      have e58 : Ext h5 h8 := (e6.trans e7).step o8 fun m hm hb => by have := e6.size; omega
      have v8 := v.e e58
      refine ldI_of (Blk.cell (i := 0) v8.b2 rfl) ?_
      have zq := z.ext v8.ext
      refine at_spec (zq.ch q hqz) hv.rise (by have := z.vlen hqz; omega) fun h9 e9 => ?_
      refine new_of fun m10 h10 hm10 bb10 e10 s10 => ?_
      have bb10' : Blk h10 m10 zA.cells.toArray tn_api_Agg := bb10
      refine C.st_agg bb10' fun h11' b11 o11 s11' => ?_
      have e8b : Ext h8 h11' := (e9.trans e10).step o11 fun m hm hb => by have := e9.size; omega
      have e5b := e58.trans e8b
      have v11 := v.e e5b
      have x11 : h11'[hL.size + 1]? = some X := e5b.block hx fun f => f
      have b8b : Blk h11' m7 q.c.cells.toArray tn_api_Cell := e8b.block b8' fun f => f
      have hsn := rows_snoc ep fr to hq
      -- nothing is told
      have skip : ∀ h12', Ext h11' h12' -> inS ep fr to (q.c, q.vs) = false -> K h12' := fun h12' e12 hno => by
        refine kK h12' ?_ (e12.block x11 fun f => f)
        rw [hsn, hno]
        simp only [Bool.false_eq_true, if_false, List.append_nil]
        exact v11.e e12
      have lay : ∀ (h12 : H), Ext h11' h12 -> inS ep fr to (q.c, q.vs) = true -> F.xai.j2 Q K J (hL.size + 1) ⟨n10, 0, none⟩ ⟨m7, 0, none⟩ ⟨m10, 0, none⟩ true h12 := fun h12 e12 hyes => by
        unfold F.xai.j2
        refine ⟨fun _ => ?_, fun h => by cases h⟩
        have v12 := v11.e e12
        have e512 := e5b.trans e12
        have o1' : Blk h12 n10 #[o.enc] tn_Slapi_Row := e512.block o1 fun f => f
        refine ldL_of (Blk.cell (i := 0) o1' rfl) ⟨q.c, (Blk.cells b8b).ext e12, (atV q.vs ep).1, (Blk.cells b11).ext e12, ?_⟩
        have hsz : h5.size <= h12.size := e512.size
        have hrl : (rowsZ ep fr to (Z.take i)).length <= 1048576 := by
          unfold rowsZ
          have := List.length_filter_le (fun r : Rec => inS ep fr to (r.c, r.vs)) (Z.take i)
          rw [List.length_map]
          rw [List.length_take] at this
          omega
        have hh5 : hL.size + 1 < h5.size := (Array.getElem?_eq_some_iff.1 hx).1
        refine newL_of fun n14 h14 hn14 b14 e14 s14 => ?_
        refine app_list (L := rowsZ ep fr to (Z.take i)) (M := [rowS ep (q.c, q.vs)]) cW_len (by omega) el_Slapi_Row ((o2.ext e512).ext e14) (blk_reads b14 rfl) (fun x => ones_S_api_Row x) (by simp only [List.length_singleton]; omega) fun r15 h15 w15 o15 n15 => ?_
        have x14 : Blk h14 n10 #[o.enc] tn_Slapi_Row := e14.block o1' fun f => f
        have l10 := v.lt.2.2.2.2.1
        have hob : o.blk ≠ some n10 := fun e => by have := o3 _ e; omega
        have x15 : Blk h15 n10 #[o.enc] tn_Slapi_Row := o15.block x14 hob
        refine stH_of x15 (by simp) fun h16 b16 o16 s16 => ?_
        have r15n : ∀ y, r15.blk = some y -> hL.size + 2 <= y := fun y hy => by
          rcases n15 with n15 | ⟨y', n15, n16⟩
          · exact o3 y (by rw [← n15]; exact hy)
          · rw [n15] at hy; cases hy
            have := e14.size; omega
        have v14 := v12.e e14
        obtain ⟨_, _, _, _, _, _, lq, d2, d4, d6, d8, d12, dh⟩ := v.lt
        have lts := v.lt
        have no : ∀ m, m <= hL.size + 1 -> ¬ (o.blk = some m) := fun m hm e => by have := o3 m e; omega
        refine kK h16 ?_ (o16.block (o15.block (e14.block (e12.block x11 fun f => f) fun f => f) (no _ (Nat.le_refl _))) (by omega))
        have kp : ∀ {m : Nat} {y : Obj}, m <= hL.size -> m ≠ n10 -> h14[m]? = some y -> h16[m]? = some y := fun hm hne hy => o16.block (o15.block hy (no _ (by omega))) hne
        have o14 : Only (fun m => o.blk = some m ∨ m = n10) h14 h16 := (o15.mono fun _ _ e => .inl e).trans o16 fun _ _ e => .inr e
        refine ⟨v14.ext.step o14 fun m hm e => ?_, kp (by omega) d2 v14.b2, kp (by omega) d4 v14.b4, kp (by omega) d6 v14.b6, kp (by omega) d8 v14.b8, kp (by omega) d12 v14.b12, v14.sq.only o14 fun m hm e => ?_, kp (Nat.le_refl _) (by omega) v14.dfr, ⟨r15, b16, ?_, r15n⟩, ?_, ?_, lts⟩
        · have hle : h.size <= hL.size := by have := e013.size; omega
          rcases e with e | e
          · have := o3 m e; omega
          · omega
        · rcases e with e | e
          · have := o3 m e; have := (lq m hm).1; omega
          · exact (lq m hm).2 e
        · rw [hsn, hyes]
          exact w15.only o16 fun m hm e => by have := r15n m hm; omega
        · rw [hsn, hyes, List.length_append]
          simp only [if_true, List.length_singleton]
          rw [hlo] at g; omega
        · have := o14.size; have := v14.sz; omega
      refine ⟨fun g2 => ?_, fun g2 => ?_⟩
      · refine ⟨_, Blk.cell (i := 0) v11.b12 rfl, q.c, Blk.cells b8b, rng1_spec (Blk.cells v11.b4) (Blk.cells v11.b6) fun h12 e12 => ⟨_, rfl, ?_⟩⟩
        have hin : inS ep fr to (q.c, q.vs) = (decide (cmpC fr q.c <= 0) && decide (cmpC q.c to < 0)) := by
          unfold inS; rw [show (atV (q.c, q.vs).2 ep).2 = true from g2, Bool.true_and]
        rw [← hin]
        cases hi : inS ep fr to (q.c, q.vs) with
        | true => exact lay h12 e12 hi
        | false =>
          unfold F.xai.j2
          exact ⟨fun h => (by cases h), fun _ => skip h12 e12 hi⟩
      · unfold F.xai.j2
        refine ⟨fun h => (by cases h), fun _ => skip h11' (.refl _) ?_⟩
        unfold inS; rw [show (atV (q.c, q.vs).2 ep).2 = false from g2, Bool.false_and]
  · refine fin h' _ v ?_
    rw [keysZ_len, List.take_length, rows_toS]
    have hl := v.len
    rw [keysZ_len, List.take_length] at hl
    exact (List.take_of_length_le hl).symm
  · obtain ⟨rfl, i, v, hm⟩ := v
    refine ⟨_, rfl, fun _ => fin h' _ v ?_⟩
    rw [rows_toS]
    have hl := v.len
    obtain ⟨tl, htl⟩ := rows_pre ep fr to Z i
    rw [← htl]
    have : most.toNat = (rowsZ ep fr to (Z.take i)).length := by omega
    rw [this, List.take_left]
theorem w64s {n : Nat} (h : n < 9000000000000000000) : IntKind.wrap .i64 ((n : Int) + 1) = ((n + 1 : Nat) : Int) := by rw [w64 (by omega) (by omega)]; omega
section
variable {W : List Ver -> Prop} {h h' : H} {n tn : Nat} {rs es : Sl} {T : Tb (Option Addr)} {Z : List Rec} {slots : Nat} {R : Nat -> Prop} {u t : Int}
theorem not_sh {h : H} {m : Nat} {c : Array Value} {e : TypeId} (b : Blk h m c e) (he : ¬ ShE e) : ¬ ShTy h m := fun ⟨e', h1, c', h2⟩ => he (by
  have := b.symm.trans h2
  simp at this
  rw [this.2]; exact h1)
end
section
variable {W W' : List Ver -> Prop} {h h' : H} {n tn : Nat} {rs es : Sl} {T : Tb (Option Addr)} {Z : List Rec} {slots : Nat} {R R' : Nat -> Prop} {u t : Int}
theorem SZG.turn (z : SZG W h n tn rs es T Z slots R u t) (hw : ∀ r ∈ Z, W r.vs -> W' r.vs) (hr : ∀ b, b < h.size -> R b -> R' b) : SZG W' h n tn rs es T Z slots R' u t := by
  obtain ⟨l1, l2, l3⟩ := z.f_lt
  exact { z with wf := fun r hr => ⟨(z.wf r hr).1, hw r hr (z.wf r hr).2⟩, rn := hr _ l1 z.rn, rt := hr _ (l2 _ (.inl rfl)) z.rt, rr := fun b hb => hr _ (l2 _ (.inr (.inl hb))) (z.rr b hb), re := fun b hb => hr _ (l2 _ (.inr (.inr hb))) (z.re b hb), rp := fun r hm => ⟨hr _ (l3 r hm).1 (z.rp r hm).1, fun x hx => hr _ ((l3 r hm).2 x hx) ((z.rp r hm).2 x hx)⟩ }
end
abbrev oneA (v : Int) : S_api_Agg := ⟨1, v, v, v⟩
theorem one_spec {h : H} {v : Int} {Q : S_api_Agg -> H -> Prop} (k : ∀ h', Ext h h' -> Q (oneA v) h') : F.xbs v h Q := by
  unfold F.xbs
  refine new_of fun m h1 hm b1 e1 s1 => ?_
  have b1' : Blk h1 m zA.cells.toArray tn_api_Agg := b1
  exact C.st_agg b1' (d := oneA v) fun h2 b2 o2 s2 => ⟨_, b2.cells, k h2 (e1.step o2 fun x hx hb => by omega)⟩
theorem right_one (a b c : Int) : RightIs ⟨1, a, b, c⟩ (decide (b = a ∧ c = a)) := fun h Q k => by
  unfold F.xbk
  refine new_of fun m h1 hm b1 e1 s1 => ?_
  have c0 : cellH h1 ⟨m, 0, none⟩ = some (.int .i64 1) := Blk.cells b1 0 _ rfl
  have c1 : cellH h1 ⟨m, 1, none⟩ = some (.int .i64 a) := Blk.cells b1 1 _ rfl
  have c2 : cellH h1 ⟨m, 2, none⟩ = some (.int .i64 b) := Blk.cells b1 2 _ rfl
  have c3 : cellH h1 ⟨m, 3, none⟩ = some (.int .i64 c) := Blk.cells b1 3 _ rfl
  simp only [add_lit, Nat.zero_add, Nat.add_zero]
  rw [ldI_iff c0]
  refine ⟨fun g => by have := of_decide_eq_true g; omega, fun _ => ?_⟩
  rw [ldI_iff c0]
  refine ⟨fun _ => ?_, fun g => by simp at g⟩
  rw [ldI_iff c2, ldI_iff c1]
  have k := k h1 e1
  refine ⟨fun g => ?_, fun g => ?_⟩
  · have g : b = a := by simpa using g
    rw [ldI_iff c3, ldI_iff c1]
    have : decide (b = a ∧ c = a) = (c == a) := by
      by_cases h : c = a <;> simp [g, h]
    rw [this] at k; exact k
  · have g : ¬ b = a := by simpa using g
    have : decide (b = a ∧ c = a) = false := by simp [g]
    rw [this] at k; exact k
theorem right_one' (v : Int) : RightIs (oneA v) true := by
  have := right_one v v v
  simpa using this
abbrev cA : Cel := ⟨0, ⟨#[97]⟩, 0⟩
theorem key_some {t : ByteArray} (h : 1 <= t.size) : t.data.toList ≠ [] := fun e => by
  have := size_data (s := t)
  rw [e] at this
  simp only [List.length_nil] at this
  omega
def withinM (a m : Int) : Int := if Int.tmod a m < 0 then Int.tmod a m + m else Int.tmod a m
theorem within_range {a m : Int} (h : 0 < m) : 0 <= withinM a m ∧ withinM a m < m := by
  have h1 := Int.tmod_lt_of_pos a h
  have h2 : -m < Int.tmod a m := by
    have := Int.tmod_lt_of_pos (-a) h
    rw [Int.neg_tmod] at this
    omega
  unfold withinM
  split <;> omega
theorem within_spec {a m : Int} {h : H} {Q : Int -> H -> Prop} (h0 : 0 < m) (h1 : m < 4611686018427387904) (k : Q (withinM a m) h) : F.xay a m h Q := by
  have hr := Int.tmod_lt_of_pos a h0
  have h2 : -m < Int.tmod a m := by
    have := Int.tmod_lt_of_pos (-a) h0
    rw [Int.neg_tmod] at this
    omega
  unfold F.xay F.xay.j1
  unfold withinM at k
  refine ⟨by omega, fun g => ?_, fun g => ?_⟩
  · have g := of_decide_eq_true g
    rw [if_pos g] at k
    rw [w64 (by omega) (by omega)]; exact k
  · have g := of_decide_eq_false g
    rw [if_neg g] at k; exact k
theorem rowAt {h : H} {s : Sl} {A : List Rw} (rd : Reads h s 7 (A.flatMap cW)) {i : Nat} {x : Rw} (hx : A[i]? = some x) {K : Addr -> Prop} (k : ∀ a, Cells h a (cW x) -> K a) : idxA s (i : Int) 7 K := by
  obtain ⟨p, p1, p2, p3⟩ := rd_at cW_len (by omega) rd hx
  have hl := rd_len cW_len (by omega) rd
  exact idxR_of (i := i) p1 (by have := (List.getElem?_eq_some_iff.1 hx).1; omega) rfl (k _ p3)
theorem row_eq {x y : Rw} : ((((x.Cell.View == y.Cell.View) && ((x.Cell.Key.toList == y.Cell.Key.toList) && ((x.Cell.Start == y.Cell.Start) && true)))) && ((((x.Agg.Count == y.Agg.Count) && ((x.Agg.Sum == y.Agg.Sum) && ((x.Agg.Min == y.Agg.Min) && ((x.Agg.Max == y.Agg.Max) && true))))) && true)) = true ↔ x = y := by
  obtain ⟨⟨a1, ⟨⟨a2⟩⟩, a3⟩, ⟨a4, a5, a6, a7⟩⟩ := x
  obtain ⟨⟨b1, ⟨⟨b2⟩⟩, b3⟩, ⟨b4, b5, b6, b7⟩⟩ := y
  simp [toList_data, and_assoc]
theorem tk_snoc {α : Type} {L : List α} {i : Nat} {x : α} (h : L[i]? = some x) : L.take (i + 1) = L.take i ++ [x] := by
  obtain ⟨h1, h2⟩ := List.getElem?_eq_some_iff.1 h
  rw [List.take_succ_eq_append_getElem h1, h2]
theorem SameRows_spec {h : H} {r s : Sl} {A C : List Rw} {Q : Bool -> H -> Prop} (ra : Reads h r 7 (A.flatMap cW)) (rc : Reads h s 7 (C.flatMap cW)) (hs : A.length < 4000000) (kt : A = C -> Q true h) (kf : A ≠ C -> Q false h) : F.xbm r s h Q := by
  have la := rd_len cW_len (by omega) ra
  have lc := rd_len cW_len (by omega) rc
  unfold F.xbm
  rw [la, lc]
  refine ⟨fun gg => kf fun e => by rw [e] at gg; simp at gg, fun gg => ⟨A.length + 1, ?_⟩⟩
  have hl : A.length = C.length := by simp at gg; omega
  have key : ∀ (d i : Nat), i <= A.length -> A.length - i < d -> A.take i = C.take i -> F.xbm.l1 Q d r s (i : Int) h := by
    intro d
    induction d with
    | zero => intro i _ hm; omega
    | succ d ih =>
      intro i hi hm he
      unfold F.xbm.l1
      simp only [decide_eq_true_eq, decide_eq_false_iff_not]
      rw [la]
      refine ⟨fun gg => ?_, fun gg => ?_⟩
      · obtain ⟨x, hx⟩ : ∃ x, A[i]? = some x := ⟨_, List.getElem?_eq_getElem (by omega)⟩
        obtain ⟨y, hy⟩ : ∃ y, C[i]? = some y := ⟨_, List.getElem?_eq_getElem (by omega)⟩
        refine rowAt ra hx fun a ca => ⟨x, ca, rowAt rc hy fun a' ca' => ⟨y, ca', ?_⟩⟩
        have hrow := row_eq (x := x) (y := y)
        refine ⟨fun g2 => kf fun e => ?_, fun g2 => ?_⟩
        · have : x = y := by rw [e] at hx; rw [hx] at hy; exact Option.some.inj hy
          rw [hrow.2 this] at g2; cases g2
        · have hxy : x = y := hrow.1 (by simpa using g2)
          rw [w64s (by omega)]
          refine ih (i + 1) (by omega) (by omega) ?_
          rw [tk_snoc hx, tk_snoc hy, he, hxy]
      · have : i = A.length := by omega
        subst this
        rw [List.take_length] at he
        exact kt (by rw [he, hl, List.take_length])
  exact key _ 0 (by omega) (by omega) (by simp)
abbrev loC : Cel := ⟨0, ⟨#[]⟩, 0⟩
abbrev hiC : Cel := ⟨9, ⟨#[]⟩, 0⟩
structure St where
  x : S_spatelaw7_Step
  E : List Int
  C : List Cel
structure StOk (h : H) (y : St) : Prop where
  re : Reads h y.x.Held 1 (y.E.flatMap cI)
  be : y.E ≠ [] -> ∀ b, y.x.Held.blk = some b -> b < h.size
  oe : ∀ e ∈ y.E, -9223372036854775808 <= e ∧ e < 9223372036854775808
  rc : Reads h y.x.Cells 3 (y.C.flatMap S_api_Cell.cells)
  bc : y.C ≠ [] -> ∀ b, y.x.Cells.blk = some b -> b < h.size
  oc : ∀ c ∈ y.C, (-9223372036854775808 <= c.View ∧ c.View < 9223372036854775808) ∧ (-9223372036854775808 <= c.Start ∧ c.Start < 9223372036854775808) ∧ c.Key.size <= maxLen
  k64 : -9223372036854775808 <= y.x.Kind ∧ y.x.Kind < 9223372036854775808
  e64 : -9223372036854775808 <= y.x.Epoch ∧ y.x.Epoch < 9223372036854775808
  m64 : -9223372036854775808 <= y.x.Most ∧ y.x.Most < 9223372036854775808
  cel : (-9223372036854775808 <= y.x.Cell.View ∧ y.x.Cell.View < 9223372036854775808) ∧ (-9223372036854775808 <= y.x.Cell.Start ∧ y.x.Cell.Start < 9223372036854775808) ∧ y.x.Cell.Key.size <= maxLen
  agg : (-9223372036854775808 <= y.x.Agg.Count ∧ y.x.Agg.Count < 9223372036854775808) ∧ (-9223372036854775808 <= y.x.Agg.Sum ∧ y.x.Agg.Sum < 9223372036854775808) ∧ (-9223372036854775808 <= y.x.Agg.Min ∧ y.x.Agg.Min < 9223372036854775808) ∧ (-9223372036854775808 <= y.x.Agg.Max ∧ y.x.Agg.Max < 9223372036854775808)
  too : (-9223372036854775808 <= y.x.To.View ∧ y.x.To.View < 9223372036854775808) ∧ (-9223372036854775808 <= y.x.To.Start ∧ y.x.To.Start < 9223372036854775808) ∧ y.x.To.Key.size <= maxLen
open Go Go.Proofs.YtjjchpaomgmmdaaGreat.V Go.Proofs.YtjjchpaomgmmdaaGreat.V.M
section
variable {α : Type} {key : α -> Cel}
theorem sortK_irr {S : List α} (hs : SortK key S) : S.Pairwise (· ≠ ·) := hs.imp fun h e => by subst e; rw [cC_self] at h; cases h
theorem sortK_ext : ∀ {A B : List α}, SortK key A -> SortK key B -> (∀ x, x ∈ A ↔ x ∈ B) -> A = B
  | [], [], _, _, _ => rfl
  | [], b :: B, _, _, h => by have := (h b).2 (List.mem_cons_self ..); cases this
  | a :: A, [], _, _, h => by have := (h a).1 (List.mem_cons_self ..); cases this
  | a :: A, b :: B, ha, hb, h => by
    have ha' := List.pairwise_cons.1 ha
    have hb' := List.pairwise_cons.1 hb
    have hab : a = b := by
      rcases List.mem_cons.1 ((h a).1 (List.mem_cons_self ..)) with h1 | h1
      · exact h1
      · rcases List.mem_cons.1 ((h b).2 (List.mem_cons_self ..)) with h2 | h2
        · exact h2.symm
        · have e1 := hb'.1 a h1
          have e2 := ha'.1 b h2
          rw [cC_anti, e2] at e1; cases e1
    subst hab
    have hA : a ∉ A := fun hm => by have := ha'.1 a hm; rw [cC_self] at this; cases this
    have hB : a ∉ B := fun hm => by have := hb'.1 a hm; rw [cC_self] at this; cases this
    rw [sortK_ext ha'.2 hb'.2 fun x => ⟨fun hx => ?_, fun hx => ?_⟩]
    · rcases List.mem_cons.1 ((h x).1 (List.mem_cons_of_mem _ hx)) with h1 | h1
      · subst h1; exact absurd hx hA
      · exact h1
    · rcases List.mem_cons.1 ((h x).2 (List.mem_cons_of_mem _ hx)) with h1 | h1
      · subst h1; exact absurd hx hB
      · exact h1
end
def rt (n : Nat) (c : Cel) : Nat := hashM c.Key % n
theorem rt_lt {n : Nat} (h : 0 < n) (c : Cel) : rt n c < n := Nat.mod_lt _ h
def partS (n k : Nat) (S : SL) : SL := S.filter fun x => decide (rt n x.1 = k)
theorem part_mem {n k : Nat} {S : SL} {x : Cel × List Ver} : x ∈ partS n k S ↔ x ∈ S ∧ rt n x.1 = k := by unfold partS; rw [List.mem_filter]; simp
theorem part_ok {n k : Nat} {S : SL} (h : SOk S) : SOk (partS n k S) := ⟨List.Pairwise.filter _ h.sort, fun x hx => h.ok x (part_mem.1 hx).1⟩
theorem sort_setS {S : SL} (h : SortS S) (c : Cel) (vs : List Ver) : SortS (setS S c vs) := sort_set (key := fun x : Cel × List Ver => x.1) h
theorem part_set {n k : Nat} {S : SL} (h : SortS S) (c : Cel) (vs : List Ver) : partS n k (setS S c vs) = if rt n c = k then setS (partS n k S) c vs else partS n k S := by
  have hp : SortS (partS n k S) := List.Pairwise.filter _ h
  have hq : SortS (partS n k (setS S c vs)) := List.Pairwise.filter _ (sort_setS h c vs)
  have hm : ∀ x, x ∈ partS n k (setS S c vs) ↔ (x = (c, vs) ∨ (x ∈ S ∧ x.1 ≠ c)) ∧ rt n x.1 = k := fun x => by rw [part_mem, mem_set (key := fun x : Cel × List Ver => x.1) h]
  split
  · rename_i hc
    refine sortK_ext (key := fun x : Cel × List Ver => x.1) hq (sort_setS hp c vs) fun x => ?_
    rw [hm, mem_set (key := fun x : Cel × List Ver => x.1) hp, part_mem]
    constructor
    · rintro ⟨h1 | h1, h2⟩
      · exact .inl h1
      · exact .inr ⟨⟨h1.1, h2⟩, h1.2⟩
    · rintro (h1 | h1)
      · subst h1; exact ⟨.inl rfl, hc⟩
      · exact ⟨.inr ⟨h1.1.1, h1.2⟩, h1.1.2⟩
  · rename_i hc
    refine sortK_ext (key := fun x : Cel × List Ver => x.1) hq hp fun x => ?_
    rw [hm, part_mem]
    constructor
    · rintro ⟨h1 | h1, h2⟩
      · subst h1; exact absurd h2 hc
      · exact ⟨h1.1, h2⟩
    · rintro ⟨h1, h2⟩
      exact ⟨.inr ⟨h1, fun e => hc (by rw [← e]; exact h2)⟩, h2⟩
theorem part_get {n : Nat} {S : SL} (c : Cel) : getS (partS n (rt n c) S) c = getS S c := by
  unfold getS getK partS
  rw [List.find?_filter]
  congr 2
  funext x
  by_cases h : cmpC x.1 c = 0
  · have := cC_zero.1 h
    simp [this, cC_self]
  · simp [h]
theorem part_kill {n : Nat} {S : SL} (c : Cel) (e : Int) : killE (partS n (rt n c) S) e c = killE S e c := by unfold killE; rw [part_get]
theorem part_range {n k : Nat} {S : SL} (e : Int) (fr to : Cel) : rangeS (partS n k S) e fr to = (rangeS S e fr to).filter fun r => decide (rt n r.Cell = k) := by
  unfold rangeS partS
  rw [List.filter_map, List.filter_filter, List.filter_filter]
  congr 2
  funext x
  simp only [Function.comp, rowS]
  exact Bool.and_comm _ _
abbrev SortR (X : List S_api_Row) : Prop := SortK (fun r : S_api_Row => r.Cell) X
theorem range_sort {S : SL} (h : SOk S) (e : Int) (fr to : Cel) : SortR (rangeS S e fr to) := by
  unfold rangeS SortR SortK
  rw [List.pairwise_map]
  exact List.Pairwise.filter _ h.sort
theorem take_filter {α : Type} {X : List α} {m : Nat} {q : α -> Bool} {x : α} (hx : x ∈ X.take m) (hq : q x = true) : x ∈ (X.filter q).take m := by
  have e : X.filter q = (X.take m).filter q ++ (X.drop m).filter q := by rw [← List.filter_append, List.take_append_drop]
  rw [e, List.take_append]
  refine List.mem_append_left _ ?_
  rw [List.take_of_length_le (Nat.le_trans (List.length_filter_le _ _) (by rw [List.length_take]; omega))]
  exact List.mem_filter.2 ⟨hx, hq⟩
theorem filter_take {α : Type} {X : List α} {m : Nat} {p : α -> Bool} (h : ∀ x ∈ X.take m, p x = true) : (X.filter p).take m = X.take m := by
  have e : X.filter p = X.take m ++ (X.drop m).filter p := by
    conv => lhs; rw [← List.take_append_drop m X, List.filter_append]
    rw [List.filter_eq_self.2 h]
  rw [e, List.take_append]
  by_cases hm : m <= X.length
  · rw [show m - (X.take m).length = 0 by rw [List.length_take]; omega, List.take_zero, List.append_nil, List.take_take, Nat.min_self]
  · rw [List.drop_eq_nil_of_le (by omega), List.filter_nil, List.take_nil, List.append_nil, List.take_take, Nat.min_self]
theorem mAll_mem {Ls : List (List S_api_Row)} {x : S_api_Row} : x ∈ mR Ls ↔ ∃ l ∈ Ls, x ∈ l := by
  unfold mR mAll
  induction Ls with
  | nil => simp
  | cons l Ls ih => rw [List.foldr_cons, List.mem_merge, ih]; simp
theorem leC_trans (a b c : S_api_Row) (h1 : leC a b = true) (h2 : leC b c = true) : leC a c = true := by
  unfold leC at *
  exact decide_eq_true (cC_le_trans (of_decide_eq_true h1) (of_decide_eq_true h2))
theorem leC_total (a b : S_api_Row) : (leC a b || leC b a) = true := by
  unfold leC
  have := cC_anti a.Cell b.Cell
  have := cC_range a.Cell b.Cell
  simp only [Bool.or_eq_true, decide_eq_true_eq]
  omega
theorem mAll_le {Ls : List (List S_api_Row)} (h : ∀ l ∈ Ls, l.Pairwise fun a b => leC a b = true) : (mR Ls).Pairwise fun a b => leC a b = true := by
  unfold mR mAll
  induction Ls with
  | nil => simp
  | cons l Ls ih =>
    rw [List.foldr_cons]
    exact List.pairwise_merge leC_trans leC_total _ _ (h l (List.mem_cons_self ..)) (ih fun x hx => h x (List.mem_cons_of_mem _ hx))
theorem mAll_perm : ∀ Ls : List (List S_api_Row), (mR Ls).Perm Ls.flatten
  | [] => .refl _
  | l :: Ls => by
    unfold mR mAll
    rw [List.foldr_cons, List.flatten_cons]
    exact (List.merge_perm_append leC).trans ((mAll_perm Ls).append_left l)
theorem sort_le {X : List S_api_Row} (h : SortR X) : X.Pairwise fun a b => leC a b = true := h.imp fun hh => by unfold leC; rw [hh]; rfl
theorem scan_law {X : List S_api_Row} (hX : SortR X) {n : Nat} (hn : 0 < n) (m : Nat) : (mR ((List.range n).map fun k => (X.filter fun r => decide (rt n r.Cell = k)).take m)).take m = X.take m := by
  classical
  generalize hL : ((List.range n).map fun k => (X.filter fun r => decide (rt n r.Cell = k)).take m) = Ls
  have hmem : ∀ x, x ∈ mR Ls ↔ ∃ k, k < n ∧ x ∈ (X.filter fun r => decide (rt n r.Cell = k)).take m := fun x => by
    rw [mAll_mem, ← hL]
    constructor
    · rintro ⟨l, hl, hx⟩
      obtain ⟨k, hk, rfl⟩ := List.mem_map.1 hl
      exact ⟨k, List.mem_range.1 hk, hx⟩
    · rintro ⟨k, hk, hx⟩
      exact ⟨_, List.mem_map.2 ⟨k, List.mem_range.2 hk, rfl⟩, hx⟩
  have sub : ∀ x, x ∈ mR Ls -> x ∈ X := fun x hx => by
    obtain ⟨k, _, hk⟩ := (hmem x).1 hx
    exact (List.mem_filter.1 (List.mem_of_mem_take hk)).1
  -- nothing stands in it twice
  have nd : (mR Ls).Nodup := by
    refine (mAll_perm Ls).nodup_iff.2 ?_
    unfold List.Nodup
    rw [List.pairwise_flatten]
    refine ⟨fun l hl => ?_, ?_⟩
    · rw [← hL] at hl
      obtain ⟨k, _, rfl⟩ := List.mem_map.1 hl
      exact List.Pairwise.sublist ((List.take_sublist _ _).trans List.filter_sublist) (sortK_irr hX)
    · rw [← hL, List.pairwise_map]
      refine List.Pairwise.imp ?_ List.nodup_range
      intro a b hab
      refine fun x h1 y h2 he => hab ?_
      subst he
      have h1 := (List.mem_filter.1 (List.mem_of_mem_take h1)).2
      have h2 := (List.mem_filter.1 (List.mem_of_mem_take h2)).2
      rw [decide_eq_true_eq] at h1 h2
      rw [← h1, ← h2]
  have inj : ∀ a b, a ∈ X -> b ∈ X -> a.Cell = b.Cell -> a = b := fun a b ha hb he => by
    have h1 := getK_mem (key := fun r : S_api_Row => r.Cell) hX ha
    have h2 := getK_mem (key := fun r : S_api_Row => r.Cell) hX hb
    rw [he] at h1
    rw [h1] at h2
    exact Option.some.inj h2
  have srt : SortR (mR Ls) := by
    have h1 : (mR Ls).Pairwise fun a b => leC a b = true := mAll_le fun l hl => by
      rw [← hL] at hl
      obtain ⟨k, _, rfl⟩ := List.mem_map.1 hl
      exact List.Pairwise.sublist ((List.take_sublist _ _).trans List.filter_sublist) (sort_le hX)
    have h2 := List.Pairwise.and h1 nd
    refine h2.imp_of_mem ?_
    intro a b ha hb ⟨hl, hne⟩
    have hl : cmpC a.Cell b.Cell <= 0 := of_decide_eq_true hl
    rcases cC_range a.Cell b.Cell with h | h | h
    · exact h
    · exact absurd (inj a b (sub a ha) (sub b hb) (cC_zero.1 h)) hne
    · omega
  have hf : mR Ls = X.filter fun r => decide (r ∈ mR Ls) := by
    refine sortK_ext (key := fun r : S_api_Row => r.Cell) srt (List.Pairwise.filter _ hX) fun x => ?_
    rw [List.mem_filter, decide_eq_true_eq]
    exact ⟨fun h => ⟨sub x h, h⟩, fun h => h.2⟩
  rw [hf]
  refine filter_take fun x hx => decide_eq_true ((hmem x).2 ⟨rt n x.Cell, rt_lt hn _, take_filter hx (decide_eq_true rfl)⟩)
theorem sum_zero {f : Nat -> Nat} : ∀ n, (∀ k, k < n -> f k = 0) -> ((List.range n).map f).sum = 0
  | 0, _ => rfl
  | n + 1, h => by rw [List.range_succ, List.map_append, List.sum_append, sum_zero n fun k hk => h k (by omega)]; simp [h n (by omega)]
theorem sum_one {f g : Nat -> Nat} {j d : Nat} : ∀ n, (∀ k, k < n -> f k = g k + if k = j then d else 0) -> j < n -> ((List.range n).map f).sum = ((List.range n).map g).sum + d
  | 0, _, h => by omega
  | n + 1, h, hj => by
    rw [List.range_succ, List.map_append, List.sum_append, List.map_append, List.sum_append]
    by_cases hn : j < n
    · rw [sum_one n (fun k hk => h k (by omega)) hn]
      have := h n (by omega)
      rw [if_neg (by omega)] at this
      simp [this]; omega
    · have hjn : j = n := by omega
      have e : (List.range n).map f = (List.range n).map g := List.map_congr_left fun k hk => by
        have hk := List.mem_range.1 hk
        rw [h k (by omega), if_neg (by omega)]; rfl
      have := h n (by omega)
      rw [if_pos hjn.symm] at this
      simp [e, this]; omega
theorem part_cons {n k : Nat} {x : Cel × List Ver} {S : SL} : partS n k (x :: S) = if rt n x.1 = k then x :: partS n k S else partS n k S := by
  unfold partS; rw [List.filter_cons]
  by_cases h : rt n x.1 = k <;> simp [h]
theorem sum_parts {n : Nat} (hn : 0 < n) (f : Cel × List Ver -> Nat) : ∀ S : SL, ((List.range n).map fun k => ((partS n k S).map f).sum).sum = (S.map f).sum
  | [] => sum_zero n fun k _ => rfl
  | x :: S => by
    rw [sum_one (g := fun k => ((partS n k S).map f).sum) (j := rt n x.1) (d := f x) n (fun k hk => ?_) (rt_lt hn _), sum_parts hn f S, List.map_cons, List.sum_cons]
    · omega
    · show ((partS n k (x :: S)).map f).sum = ((partS n k S).map f).sum + if k = rt n x.1 then f x else 0
      rw [part_cons]
      by_cases h : rt n x.1 = k
      · rw [if_pos h, if_pos h.symm, List.map_cons, List.sum_cons]; omega
      · rw [if_neg h, if_neg (fun e => h e.symm)]; rfl
end Go.Proofs.YtjjchpaomgmmdaaGreat.V.S
namespace Go.Proofs.YtjjchpaomgmmdaaGreat.V
open Go
set_option linter.unusedVariables false
set_option linter.unusedSimpArgs false
section
variable {T : Type} {P : Program} {enc : TypeId × Value -> T} {w : World} {base : Nat} {spare : Nat -> Bool} {held : Bool} {fuel : Nat}
theorem cells_of {a : Addr} {n : Nat} {cs : List Value} (h : w.cells? base a n = some cs) : cs.length = n ∧ ∀ j v, cs[j]? = some v -> w.cell? (a.add j) = some v := by
  obtain ⟨h1, h2, h3⟩ := World.cells?_some h
  refine ⟨h2, fun j v hv => ?_⟩
  have hj : j < n := by rw [← h2]; exact (List.getElem?_eq_some_iff.1 hv).1
  rw [h3 j hj, hv]
theorem open_slice {t e : TypeId} {k : Nat} {v : Value} {x : DataW T × List MemPlace} (G : List Value -> Prop) (ht : P.underlying t = some (.slice e)) (hk : P.cellsOf e = k) (hk0 : 0 < k) (h : DataW.trod enc P w base spare held fuel t [v] = some x)
    (hG : ∀ n cs y, DataW.trod enc P w base spare held n e cs = some y -> cs.length = k -> G cs) :
    ∃ s : Sl, v = s.enc ∧ s.len <= s.cap ∧ s.cap <= maxLen ∧ ∃ CS : List (List Value), CS.length = s.len ∧ (∀ c ∈ CS, c.length = k ∧ G c) ∧ Reads w.heap s k CS.flatten ∧ (CS ≠ [] -> ∀ b, s.blk = some b -> b < w.heap.size) := by
  rcases DataW.trod_slice ht h with ⟨h0, _⟩ | ⟨a, len, cap, elems, rest, n, _, h0, _, hb, hl, hm, hlen, hel, _, _⟩
  · simp at h0; subst h0
    exact ⟨⟨none, 0, 0⟩, rfl, Nat.le_refl _, Nat.zero_le _, [], rfl, (fun c hc => by cases hc), ⟨by simp, fun _ => ⟨rfl, rfl⟩, fun i v hv => by simp at hv⟩, fun h => absurd rfl h⟩
  · simp at h0; subst h0
    rw [hk] at hel
    have each : ∀ i, i < len -> ∃ cs, w.cells? base (a.add (i * k)) k = some cs ∧ G cs := fun i hi => by
      have hx := hel i hi
      rw [List.getElem?_eq_getElem (by omega), Option.bind_eq_some_iff] at hx
      obtain ⟨cs, hc, ht'⟩ := hx
      exact ⟨cs, hc, hG _ _ _ ht' (cells_of hc).1⟩
    obtain ⟨CS, hCS, hall⟩ : ∃ CS : List (List Value), CS.length = len ∧ ∀ i c, CS[i]? = some c -> w.cells? base (a.add (i * k)) k = some c ∧ G c := by
      clear hel h
      have : ∀ m, m <= len -> ∃ CS : List (List Value), CS.length = m ∧ ∀ i c, CS[i]? = some c -> w.cells? base (a.add (i * k)) k = some c ∧ G c := fun m => by
        induction m with
        | zero => intro _; exact ⟨[], rfl, fun i c hc => by simp at hc⟩
        | succ m ih =>
          intro hm2
          obtain ⟨CS, h1, h2⟩ := ih (by omega)
          obtain ⟨c, h3, h4⟩ := each m (by omega)
          refine ⟨CS ++ [c], by simp [h1], fun i d hd => ?_⟩
          by_cases hi : i < CS.length
          · rw [List.getElem?_append_left hi] at hd; exact h2 i d hd
          · rw [List.getElem?_append_right (by omega)] at hd
            have hi2 : i - CS.length = 0 := by
              have := (List.getElem?_eq_some_iff.1 hd).1
              simp at this; omega
            rw [hi2] at hd; simp at hd; subst hd
            have : i = m := by omega
            subst this; exact ⟨h3, h4⟩
      exact this len (Nat.le_refl _)
    have hlen' : ∀ c ∈ CS, c.length = k ∧ G c := fun c hc => by
      obtain ⟨i, hi⟩ := List.mem_iff_getElem?.1 hc
      exact ⟨(cells_of (hall i c hi).1).1, (hall i c hi).2⟩
    have hspot : 0 < len -> a.spot = none ∧ a.block < w.heap.size := fun h0 => by
      obtain ⟨c, hc⟩ : ∃ c, CS[0]? = some c := ⟨_, List.getElem?_eq_getElem (by omega)⟩
      obtain ⟨h1, h2⟩ := cells_of (hall 0 c hc).1
      obtain ⟨v, hv⟩ : ∃ v, c[0]? = some v := ⟨_, List.getElem?_eq_getElem (by omega)⟩
      have hcell : cellH w.heap ((a.add (0 * k)).add 0) = some v := h2 0 v hv
      have e0 : ∀ p : Addr, p.add 0 = p := fun p => by unfold Addr.add; split <;> simp_all
      rw [Nat.zero_mul, e0, e0] at hcell
      unfold cellH at hcell
      split at hcell
      · rename_i hh
        refine ⟨?_, (Array.getElem?_eq_some_iff.1 hh).1⟩
        cases hs : a.spot with
        | none => rfl
        | some s => rw [hs] at hcell; simp at hcell
      · cases hcell
    refine ⟨⟨some a, len, cap⟩, rfl, hl, hm, CS, hCS, hlen', ⟨?_, (fun h => by cases h), fun i v hv => ?_⟩, fun hne b hb => ?_⟩
    · rw [← hCS]
      have : ∀ (L : List (List Value)), (∀ c ∈ L, c.length = k) -> L.flatten.length = L.length * k := fun L => by
        induction L with
        | nil => intro _; simp
        | cons c r ih => intro hL; simp [hL c (by simp), ih fun c hc => hL c (List.mem_cons_of_mem _ hc), Nat.add_mul]; omega
      exact this CS fun c hc => (hlen' c hc).1
    · have : ∀ (L : List (List Value)) (m : Nat), (∀ c ∈ L, c.length = k) -> (∀ i c, L[i]? = some c -> ∀ j v, c[j]? = some v -> w.cell? (a.add ((m + i) * k + j)) = some v) -> ∀ i v, L.flatten[i]? = some v -> w.cell? (a.add (m * k + i)) = some v := fun L => by
        induction L with
        | nil => intro m _ _ i v hv; simp at hv
        | cons c r ih =>
          intro m hL hc i v hv
          have hcl := hL c (by simp)
          rw [List.flatten_cons] at hv
          by_cases hi : i < c.length
          · rw [List.getElem?_append_left hi] at hv
            exact hc 0 c rfl i v hv
          · rw [List.getElem?_append_right (by omega)] at hv
            have := ih (m + 1) (fun c hc => hL c (List.mem_cons_of_mem _ hc)) (fun i d hd j v hj => by
              have := hc (i + 1) d (by simpa using hd) j v hj
              rwa [show m + (i + 1) = m + 1 + i from by omega] at this) _ v hv
            rwa [show (m + 1) * k + (i - c.length) = m * k + i from by rw [Nat.add_mul]; omega] at this
      have hlt : 0 < len := by
        rcases Nat.eq_zero_or_pos len with h0 | h0
        · have : CS = [] := List.eq_nil_of_length_eq_zero (by omega)
          subst this; simp at hv
        · exact h0
      obtain ⟨hsp, _⟩ := hspot hlt
      refine ⟨a, rfl, hsp, ?_⟩
      have := this CS 0 (fun c hc => (hlen' c hc).1) (fun i c hc j v hj => by
        have h1 := (cells_of (hall i c hc).1).2 j v hj
        obtain ⟨ab, ao, asp⟩ := a
        simp only at hsp; subst hsp
        rw [add_lit, add_lit] at h1
        rw [add_lit, Nat.zero_add, ← Nat.add_assoc]; exact h1) i v hv
      rw [Nat.zero_mul, Nat.zero_add] at this
      exact this
    · simp [Sl.blk] at hb
      subst hb
      have : 0 < len := by
        rw [← hCS]; exact List.length_pos_iff.2 hne
      exact (hspot this).2
end
end Go.Proofs.YtjjchpaomgmmdaaGreat.V
namespace Go.Proofs.YtjjchpaomgmmdaaGreat.V.S
open Go Go.Proofs.YtjjchpaomgmmdaaGreat.V
set_option linter.unusedVariables false
set_option linter.unusedSimpArgs false
abbrev W64 (n : Int) : Prop := -9223372036854775808 <= n ∧ n < 9223372036854775808
abbrev CelOk (c : Cel) : Prop := W64 c.View ∧ W64 c.Start ∧ c.Key.size <= maxLen
section
variable {T : Type} {enc : TypeId × Value -> T} {w : World} {base : Nat} {spare : Nat -> Bool} {held : Bool} {fuel : Nat}
theorem gen_open {α : Type} (f : α -> List Value) (ok : α -> Prop) {t e : TypeId} {k : Nat} {v : Value} {y : DataW T × List MemPlace} (hf : ∀ x, (f x).length = k) (ht : PP.underlying t = some (.slice e)) (hk : PP.cellsOf e = k) (hk0 : 0 < k) (h : DataW.trod enc PP w base spare held fuel t [v] = some y)
    (hG : ∀ n cs y, DataW.trod enc PP w base spare held n e cs = some y -> cs.length = k -> ∃ x, cs = f x ∧ ok x) :
    ∃ (s : Sl) (L : List α), v = s.enc ∧ Reads w.heap s k (L.flatMap f) ∧ s.len <= s.cap ∧ (L ≠ [] -> ∀ b, s.blk = some b -> b < w.heap.size) ∧ (∀ x ∈ L, ok x) ∧ L.length <= 9223372036854775807 := by
  obtain ⟨s, h1, h2, h3, CS, h4, h5, h6, h7⟩ := open_slice (fun cs => ∃ x : α, cs = f x ∧ ok x) ht hk hk0 h fun n cs y hy hl => hG n cs y hy hl
  have : ∀ (L : List (List Value)), (∀ c ∈ L, c.length = k ∧ ∃ x : α, c = f x ∧ ok x) -> ∃ S : List α, L = S.map f ∧ ∀ x ∈ S, ok x := fun L => by
    induction L with
    | nil => intro _; exact ⟨[], rfl, fun n hn => by cases hn⟩
    | cons c r ih =>
      intro hL
      obtain ⟨E, h1, h2⟩ := ih fun c hc => hL c (List.mem_cons_of_mem _ hc)
      obtain ⟨_, n, rfl, hn⟩ := hL c (by simp)
      refine ⟨n :: E, by rw [h1]; rfl, fun m hm => ?_⟩
      rcases List.mem_cons.1 hm with e | e
      · subst e; exact hn
      · exact h2 m e
  obtain ⟨S, rfl, hS⟩ := this CS h5
  have hr : Reads w.heap s k (S.flatMap f) := by rw [List.flatMap_def]; exact h6
  refine ⟨s, S, h1, hr, h2, fun hn b hb => h7 (by simpa using hn) b hb, hS, ?_⟩
  have := rd_len hf hk0 hr
  simp only [maxLen] at h3; omega
theorem list4 {β : Type} : ∀ {l : List β}, l.length = 4 -> ∃ a b c d, l = [a, b, c, d]
  | [a, b, c, d], _ => ⟨a, b, c, d, rfl⟩
theorem agg_open {cs : List Value} {y : DataW T × List MemPlace} (h : DataW.trod enc PP w base spare held fuel tn_api_Agg cs = some y) (hl : cs.length = 4) : ∃ x : S_api_Agg, cs = x.cells ∧ W64 x.Count ∧ W64 x.Sum ∧ W64 x.Min ∧ W64 x.Max := by
  obtain ⟨xs, n, _, _, _, hlen, hf⟩ := DataW.trod_struct ut_api_Agg h
  have hlen4 : xs.length = 4 := hlen
  have k2 : PP.cellsOf 2 = 1 := by kernel_rfl
  obtain ⟨c0, c1, c2, c3, rfl⟩ := list4 hl
  obtain ⟨y0, y1, y2, y3, rfl⟩ := list4 hlen4
  have f0 : DataW.trod enc PP w base spare held n 2 (([c0, c1, c2, c3].drop 0).take (PP.cellsOf 2)) = some y0 := hf 0 _ rfl
  have f1 : DataW.trod enc PP w base spare held n 2 (([c0, c1, c2, c3].drop 1).take (PP.cellsOf 2)) = some y1 := hf 1 _ rfl
  have f2 : DataW.trod enc PP w base spare held n 2 (([c0, c1, c2, c3].drop 2).take (PP.cellsOf 2)) = some y2 := hf 2 _ rfl
  have f3 : DataW.trod enc PP w base spare held n 2 (([c0, c1, c2, c3].drop 3).take (PP.cellsOf 2)) = some y3 := hf 3 _ rfl
  rw [k2] at f0 f1 f2 f3
  simp only [List.drop_zero, List.drop_succ_cons, List.take_succ_cons, List.take_zero] at f0 f1 f2 f3
  obtain ⟨m0, e0, _, w0⟩ := DataW.trod_int Tryz.underlying2 f0
  obtain ⟨m1, e1, _, w1⟩ := DataW.trod_int Tryz.underlying2 f1
  obtain ⟨m2, e2, _, w2⟩ := DataW.trod_int Tryz.underlying2 f2
  obtain ⟨m3, e3, _, w3⟩ := DataW.trod_int Tryz.underlying2 f3
  simp only [List.cons.injEq, and_true] at e0 e1 e2 e3
  subst e0; subst e1; subst e2; subst e3
  exact ⟨⟨m0, m1, m2, m3⟩, rfl, i64_of w0, i64_of w1, i64_of w2, i64_of w3⟩
theorem list3 {β : Type} : ∀ {l : List β}, l.length = 3 -> ∃ a b c, l = [a, b, c]
  | [a, b, c], _ => ⟨a, b, c, rfl⟩
theorem cell_open {cs : List Value} {y : DataW T × List MemPlace} (h : DataW.trod enc PP w base spare held fuel tn_api_Cell cs = some y) (hl : cs.length = 3) :
    ∃ c : Cel, cs = c.cells ∧ CelOk c := by
  obtain ⟨xs, n, _, _, _, hlen, hf⟩ := DataW.trod_struct ut_api_Cell h
  have hlen3 : xs.length = 3 := hlen
  have k3 : PP.cellsOf 3 = 1 := by kernel_rfl
  have k9 : PP.cellsOf 9 = 1 := by kernel_rfl
  have k2 : PP.cellsOf 2 = 1 := by kernel_rfl
  obtain ⟨c0, c1, c2, rfl⟩ := list3 hl
  obtain ⟨y0, y1, y2, rfl⟩ := list3 hlen3
  have f0 : DataW.trod enc PP w base spare held n 3 (([c0, c1, c2].drop 0).take (PP.cellsOf 3)) = some y0 := hf 0 _ rfl
  have f1 : DataW.trod enc PP w base spare held n 9 (([c0, c1, c2].drop 1).take (PP.cellsOf 9)) = some y1 := hf 1 _ rfl
  have f2 : DataW.trod enc PP w base spare held n 2 (([c0, c1, c2].drop 2).take (PP.cellsOf 2)) = some y2 := hf 2 _ rfl
  rw [k3] at f0
  rw [k9] at f1
  rw [k2] at f2
  simp only [List.drop_zero, List.drop_succ_cons, List.take_succ_cons, List.take_zero] at f0 f1 f2
  obtain ⟨m0, e0, _, w0⟩ := DataW.trod_int Tryz.underlying3 f0
  obtain ⟨s1, e1, _, w1⟩ := DataW.trod_string Tryz.underlying9 f1
  obtain ⟨m2, e2, _, w2⟩ := DataW.trod_int Tryz.underlying2 f2
  simp only [List.cons.injEq, and_true] at e0 e1 e2
  subst e0; subst e1; subst e2
  exact ⟨⟨m0, s1, m2⟩, rfl, i64_of w0, i64_of w2, w1⟩
theorem ints_open {v : Value} {y : DataW T × List MemPlace} (h : DataW.trod enc PP w base spare held fuel tn_Slint [v] = some y) :
    ∃ (s : Sl) (L : List Int), v = s.enc ∧ Reads w.heap s 1 (L.flatMap cI) ∧ s.len <= s.cap ∧ (L ≠ [] -> ∀ b, s.blk = some b -> b < w.heap.size) ∧ (∀ x ∈ L, W64 x) ∧ L.length <= 9223372036854775807 :=
  gen_open cI W64 cI_len ut_Slint (show PP.cellsOf 3 = 1 from by kernel_rfl) (by omega) h fun n cs y hy _ => by
    obtain ⟨m, e1, _, e2⟩ := DataW.trod_int Tryz.underlying3 hy
    exact ⟨m, e1, i64_of e2⟩
theorem cells_open {v : Value} {y : DataW T × List MemPlace} (h : DataW.trod enc PP w base spare held fuel tn_Slapi_Cell [v] = some y) :
    ∃ (s : Sl) (L : List Cel), v = s.enc ∧ Reads w.heap s 3 (L.flatMap S_api_Cell.cells) ∧ s.len <= s.cap ∧ (L ≠ [] -> ∀ b, s.blk = some b -> b < w.heap.size) ∧ (∀ x ∈ L, CelOk x) ∧ L.length <= 9223372036854775807 :=
  gen_open S_api_Cell.cells CelOk (fun _ => rfl) ut_Slapi_Cell (show PP.cellsOf tn_api_Cell = 3 from by kernel_rfl) (by omega) h fun n cs y hy hl => cell_open hy hl
theorem list15 {β : Type} : ∀ {l : List β}, l.length = 15 -> ∃ c0 c1 c2 c3 c4 c5 c6 c7 c8 c9 c10 c11 c12 c13 c14, l = [c0, c1, c2, c3, c4, c5, c6, c7, c8, c9, c10, c11, c12, c13, c14]
  | [c0, c1, c2, c3, c4, c5, c6, c7, c8, c9, c10, c11, c12, c13, c14], _ => ⟨c0, c1, c2, c3, c4, c5, c6, c7, c8, c9, c10, c11, c12, c13, c14, rfl⟩
theorem list8 {β : Type} : ∀ {l : List β}, l.length = 8 -> ∃ a b c d e f g h, l = [a, b, c, d, e, f, g, h]
  | [a, b, c, d, e, f, g, h], _ => ⟨a, b, c, d, e, f, g, h, rfl⟩
theorem step_open {cs : List Value} {y : DataW T × List MemPlace} (h : DataW.trod enc PP w base spare held fuel tn_spatelaw7_Step cs = some y) (hl : cs.length = 15) : ∃ x : St, cs = x.x.cells ∧ StOk w.heap x := by
  obtain ⟨xs, n, _, _, _, hlen, hf⟩ := DataW.trod_struct ut_spatelaw7_Step h
  have hlen8 : xs.length = 8 := hlen
  have k3 : PP.cellsOf 3 = 1 := by kernel_rfl
  have kc : PP.cellsOf tn_api_Cell = 3 := by kernel_rfl
  have ka : PP.cellsOf tn_api_Agg = 4 := by kernel_rfl
  have kl : PP.cellsOf tn_Slapi_Cell = 1 := by kernel_rfl
  have ki : PP.cellsOf tn_Slint = 1 := by kernel_rfl
  obtain ⟨c0, c1, c2, c3, c4, c5, c6, c7, c8, c9, c10, c11, c12, c13, c14, rfl⟩ := list15 hl
  obtain ⟨y0, y1, y2, y3, y4, y5, y6, y7, rfl⟩ := list8 hlen8
  have f0 : DataW.trod enc PP w base spare held n 3 (([c0, c1, c2, c3, c4, c5, c6, c7, c8, c9, c10, c11, c12, c13, c14].drop 0).take (PP.cellsOf 3)) = some y0 := hf 0 _ rfl
  rw [k3] at f0
  have f1 : DataW.trod enc PP w base spare held n 3 (([c0, c1, c2, c3, c4, c5, c6, c7, c8, c9, c10, c11, c12, c13, c14].drop 1).take (PP.cellsOf 3)) = some y1 := hf 1 _ rfl
  rw [k3] at f1
  have f2 : DataW.trod enc PP w base spare held n tn_api_Cell (([c0, c1, c2, c3, c4, c5, c6, c7, c8, c9, c10, c11, c12, c13, c14].drop 2).take (PP.cellsOf tn_api_Cell)) = some y2 := hf 2 _ rfl
  rw [kc] at f2
  have f3 : DataW.trod enc PP w base spare held n tn_api_Agg (([c0, c1, c2, c3, c4, c5, c6, c7, c8, c9, c10, c11, c12, c13, c14].drop 5).take (PP.cellsOf tn_api_Agg)) = some y3 := hf 3 _ rfl
  rw [ka] at f3
  have f4 : DataW.trod enc PP w base spare held n tn_Slapi_Cell (([c0, c1, c2, c3, c4, c5, c6, c7, c8, c9, c10, c11, c12, c13, c14].drop 9).take (PP.cellsOf tn_Slapi_Cell)) = some y4 := hf 4 _ rfl
  rw [kl] at f4
  have f5 : DataW.trod enc PP w base spare held n tn_Slint (([c0, c1, c2, c3, c4, c5, c6, c7, c8, c9, c10, c11, c12, c13, c14].drop 10).take (PP.cellsOf tn_Slint)) = some y5 := hf 5 _ rfl
  rw [ki] at f5
  have f6 : DataW.trod enc PP w base spare held n tn_api_Cell (([c0, c1, c2, c3, c4, c5, c6, c7, c8, c9, c10, c11, c12, c13, c14].drop 11).take (PP.cellsOf tn_api_Cell)) = some y6 := hf 6 _ rfl
  rw [kc] at f6
  have f7 : DataW.trod enc PP w base spare held n 3 (([c0, c1, c2, c3, c4, c5, c6, c7, c8, c9, c10, c11, c12, c13, c14].drop 14).take (PP.cellsOf 3)) = some y7 := hf 7 _ rfl
  rw [k3] at f7
  simp only [List.drop_zero, List.drop_succ_cons, List.take_succ_cons, List.take_zero] at f0 f1 f2 f3 f4 f5 f6 f7
  obtain ⟨m0, e0, _, w0⟩ := DataW.trod_int Tryz.underlying3 f0
  obtain ⟨m1, e1, _, w1⟩ := DataW.trod_int Tryz.underlying3 f1
  obtain ⟨x2, e2, w2⟩ := cell_open f2 rfl
  obtain ⟨x3, e3, w3⟩ := agg_open f3 rfl
  obtain ⟨s4, L4, e4, r4, _, b4, o4, _⟩ := cells_open f4
  obtain ⟨s5, L5, e5, r5, _, b5, o5, _⟩ := ints_open f5
  obtain ⟨x6, e6, w6⟩ := cell_open f6 rfl
  obtain ⟨m7, e7, _, w7⟩ := DataW.trod_int Tryz.underlying3 f7
  refine ⟨⟨⟨m0, m1, x2, x3, s4, s5, x6, m7⟩, L5, L4⟩, ?_, ⟨r5, b5, o5, r4, b4, o4, i64_of w0, i64_of w1, i64_of w7, w2, w3, w6⟩⟩
  have : [c0, c1, c2, c3, c4, c5, c6, c7, c8, c9, c10, c11, c12, c13, c14] = [c0] ++ [c1] ++ [c2, c3, c4] ++ [c5, c6, c7, c8] ++ [c9] ++ [c10] ++ [c11, c12, c13] ++ [c14] := rfl
  rw [this, e0, e1, e2, e3, e4, e5, e6, e7]; rfl
end
set_option maxRecDepth 20000
def cellM (n : Nat) : Cel := ⟨0, ⟨#[UInt8.ofNat (97 + n / 160000 % 20), UInt8.ofNat (97 + n / 8000 % 20), UInt8.ofNat (97 + n / 400 % 20), UInt8.ofNat (97 + n / 20 % 20)]⟩, ((n % 20 : Nat) : Int)⟩
theorem u8lt {x y : Nat} (hx : x < 20) (hy : y < 20) : (UInt8.ofNat (97 + x) < UInt8.ofNat (97 + y)) ↔ x < y := by
  rw [UInt8.lt_iff_toNat_lt]
  simp
  omega
theorem cb_lt {x y : Nat} (hx : x < 20) (hy : y < 20) (h : x < y) (A B : List UInt8) : Lib.compareBytes (UInt8.ofNat (97 + x) :: A) (UInt8.ofNat (97 + y) :: B) = -1 := by
  simp only [Lib.compareBytes]
  rw [if_pos ((u8lt hx hy).2 h)]
theorem cb_eq {x y : Nat} (h : x = y) (A B : List UInt8) : Lib.compareBytes (UInt8.ofNat (97 + x) :: A) (UInt8.ofNat (97 + y) :: B) = Lib.compareBytes A B := by
  subst h
  simp only [Lib.compareBytes, u8_irr, if_false]
theorem cell_lt {a b : Nat} (h : a < b) (hb : b < 3200000) : cmpC (cellM a) (cellM b) = -1 := by
  rw [cC_lt]
  refine .inr ⟨rfl, ?_⟩
  show Lib.compareBytes [UInt8.ofNat (97 + a / 160000 % 20), UInt8.ofNat (97 + a / 8000 % 20), UInt8.ofNat (97 + a / 400 % 20), UInt8.ofNat (97 + a / 20 % 20)] [UInt8.ofNat (97 + b / 160000 % 20), UInt8.ofNat (97 + b / 8000 % 20), UInt8.ofNat (97 + b / 400 % 20), UInt8.ofNat (97 + b / 20 % 20)] = -1 ∨ ([UInt8.ofNat (97 + a / 160000 % 20), UInt8.ofNat (97 + a / 8000 % 20), UInt8.ofNat (97 + a / 400 % 20), UInt8.ofNat (97 + a / 20 % 20)] = [UInt8.ofNat (97 + b / 160000 % 20), UInt8.ofNat (97 + b / 8000 % 20), UInt8.ofNat (97 + b / 400 % 20), UInt8.ofNat (97 + b / 20 % 20)] ∧ ((a % 20 : Nat) : Int) < ((b % 20 : Nat) : Int))
  have ka := Nat.mod_lt (a / 160000) (show 20 > 0 by omega)
  by_cases e1 : a / 160000 % 20 = b / 160000 % 20
  · rw [cb_eq e1]
    by_cases e2 : a / 8000 % 20 = b / 8000 % 20
    · rw [cb_eq e2]
      by_cases e3 : a / 400 % 20 = b / 400 % 20
      · rw [cb_eq e3]
        by_cases e4 : a / 20 % 20 = b / 20 % 20
        · rw [e1, e2, e3, e4]; exact .inr ⟨rfl, by omega⟩
        · exact .inl (cb_lt (by omega) (by omega) (by omega) _ _)
      · exact .inl (cb_lt (by omega) (by omega) (by omega) _ _)
    · exact .inl (cb_lt (by omega) (by omega) (by omega) _ _)
  · exact .inl (cb_lt (by omega) (by omega) (by omega) _ _)
theorem row_cell {h : H} {a : Addr} {x : Rw} (c : Cells h a (cW x)) : Cells h (a.add 0) x.Cell.cells := fun i v hv => by
  have hi : i < 3 := (List.getElem?_eq_some_iff.1 hv).1
  have := c i v (by
    match i, hi, hv with
    | 0, _, hv => exact hv
    | 1, _, hv => exact hv
    | 2, _, hv => exact hv)
  have e : (a.add 0).add i = a.add i := by simp [Addr.add]
  rw [e]; exact this
end Go.Proofs.YtjjchpaomgmmdaaGreat.V.S
namespace Go.Proofs.YtjjchpaomgmmdaaGreat.V
open Go
set_option linter.unusedVariables false
set_option linter.unusedSimpArgs false
abbrev cS8 (s : Sl) : List Value := [s.enc]
theorem cS8_len (s : Sl) : (cS8 s).length = 1 := rfl
theorem own_typ {h h' : H} {s r : Sl} {e e' : TypeId} {k k' : Nat} {cs ds : List Value} (w : Owns h r e k cs) (o : Only (fun b => s.blk = some b) h h') (ws : Owns h s e' k' ds) (he : e ≠ e') : Owns h' r e k cs := w.only o fun y hy hb => by
  obtain ⟨_, ⟨q1, q2, q3⟩ | ⟨b', c', q1, q2, _⟩⟩ := w
  · simp [Sl.blk, q1] at hy
  · simp [Sl.blk, q1] at hy
    subst hy
    exact own_neG ws q2 (fun e => he e.symm) hb
theorem tab_at {hh : H} {s : Sl} {ss : List Sl} (w : Reads hh s 1 (ss.flatMap cS8)) {i : Nat} {x : Sl} (hs : ss[i]? = some x) {K : Sl -> Prop} (k : K x) : idxA s (i : Int) 1 fun a => ldL hh a K := by
  obtain ⟨q, r1, r2, r3⟩ := rd_at cS8_len (by omega) w hs
  have hl := rd_len cS8_len (by omega) w
  exact idxR_of (i := i) r1 (by have := (List.getElem?_eq_some_iff.1 hs).1; omega) rfl ((ldL_iff r3.one).2 k)
section
variable {α : Type} {f : α -> List Value} {kk : Nat} {e : TypeId} {base h h' : H} {Z : List (Sl × List α)}
end
end Go.Proofs.YtjjchpaomgmmdaaGreat.V
namespace Go.Proofs.YtjjchpaomgmmdaaGreat.V.S
open Go Go.Proofs.YtjjchpaomgmmdaaGreat.V
set_option linter.unusedVariables false
set_option linter.unusedSimpArgs false
set_option maxRecDepth 20000
theorem SH.turn {h : H} {n : Nat} {S : SL} {slots : Nat} {R R' : Nat -> Prop} (s : SH h n S slots R) (hr : ∀ b, b < h.size -> R b -> R' b) : SH h n S slots R' := by
  obtain ⟨tn, rs, es, T, Z, hZ, z⟩ := s
  exact ⟨tn, rs, es, T, Z, hZ, z.turn (fun r hr h => h) hr⟩
theorem own_nsh {h : H} {t : Sl} {e : TypeId} {k : Nat} {cs : List Value} (w : Owns h t e k cs) (he : ¬ ShE e) {b : Nat} (hb : t.blk = some b) : ¬ ShTy h b := by
  obtain ⟨_, ⟨q1, _, _⟩ | ⟨b', c', q1, q2, _⟩⟩ := w
  · simp [Sl.blk, q1] at hb
  · simp [Sl.blk, q1] at hb
    subst hb
    exact not_sh q2 he
theorem own_diff {h : H} {s r : Sl} {e e' : TypeId} {k k' : Nat} {cs ds : List Value} (w : Owns h r e k cs) (ws : Owns h s e' k' ds) (he : e ≠ e') {b : Nat} (hb : r.blk = some b) : s.blk ≠ some b := by
  obtain ⟨_, ⟨q1, _, _⟩ | ⟨b', c', q1, q2, _⟩⟩ := w
  · simp [Sl.blk, q1] at hb
  · simp [Sl.blk, q1] at hb
    subst hb
    exact own_neG ws q2 (fun e => he e.symm)
theorem slrow_sh : ¬ ShE tn_Slapi_Row := by unfold ShE; decide
open Go Go.Proofs.YtjjchpaomgmmdaaGreat.V Go.Proofs.YtjjchpaomgmmdaaGreat.V.M
abbrev tSt : TypeId := tn_store_Store
abbrev tPs : TypeId := tp_shard_Shard
abbrev cQ (q : Nat) : List Value := [.pointer (some ⟨q, 0, none⟩)]
theorem cQ_len (q : Nat) : (cQ q).length = 1 := rfl
theorem st_sh : ¬ ShE tSt := by unfold ShE; decide
theorem ps_sh : ¬ ShE tPs := by unfold ShE; decide
theorem sty_lt {h : H} {b : Nat} (t : ShTy h b) : b < h.size := by
  obtain ⟨e, _, c, hc⟩ := t
  exact block_lt hc
structure TS (h : H) (p : Nat) (l : Sl) (ps : List Nat) (S : SL) (slots : Nat) (R : Nat -> Prop) : Prop where
  ok : SOk S
  n1 : 1 <= ps.length
  n2 : ps.length <= 16
  sb : Blk h p #[l.enc] tSt
  own : Owns h l tPs 1 (ps.flatMap cQ)
  lt : ∀ b, R b -> b < h.size
  ex : ∃ Rk : Nat -> Nat -> Prop, (∀ k q, ps[k]? = some q -> SH h q (partS ps.length k S) slots (Rk k)) ∧ (∀ k b, k < ps.length -> Rk k b -> R b) ∧ (∀ j k b, j < ps.length -> k < ps.length -> Rk j b -> Rk k b -> j = k)
section
variable {h h' : H} {p : Nat} {l : Sl} {ps : List Nat} {S : SL} {slots : Nat} {R : Nat -> Prop}
theorem TS.keep {P : Nat -> Prop} (t : TS h p l ps S slots R) (o : Only P h h') (hn : ∀ b, R b -> ShTy h b -> ¬ P b) (h1 : ¬ P p) (h2 : ∀ b, l.blk = some b -> ¬ P b) : TS h' p l ps S slots R := by
  obtain ⟨Rk, e1, e2, e3⟩ := t.ex
  exact ⟨t.ok, t.n1, t.n2, o.block t.sb h1, t.own.only o fun b hb => h2 b hb, fun b hb => Nat.lt_of_lt_of_le (t.lt b hb) o.size, Rk, fun k q hq => (e1 k q hq).keep o fun b hb ht => hn b (e2 k b (List.getElem?_eq_some_iff.1 hq).1 hb) ht, e2, e3⟩
theorem TS.ext (t : TS h p l ps S slots R) (e : Ext h h') : TS h' p l ps S slots R := t.keep e (fun _ _ _ f => f) (fun f => f) fun _ _ f => f
theorem TS.len (t : TS h p l ps S slots R) : l.len = ps.length := own_len cQ_len (by omega) t.own
theorem TS.ldl (t : TS h p l ps S slots R) {K : Sl -> Prop} (k : K l) : ldL h ⟨p, 0, none⟩ K := (ldL_iff (t.sb.cell (i := 0) rfl)).2 k
theorem TS.at (t : TS h p l ps S slots R) {i q : Nat} (hq : ps[i]? = some q) {K : Option Addr -> Prop} (k : K (some ⟨q, 0, none⟩)) : idxA l (i : Int) 1 fun a => ldP h a K := by
  obtain ⟨r, r1, r2, r3⟩ := rd_at cQ_len (by omega) t.own.reads hq
  have hl := t.len
  refine idxR_of (i := i) r1 (by have := (List.getElem?_eq_some_iff.1 hq).1; omega) rfl ?_
  rw [Nat.mul_one] at r3 ⊢
  exact ldP_of (by have := r3 0 _ rfl; exact this) k
theorem TS.sh (t : TS h p l ps S slots R) {i q : Nat} (hq : ps[i]? = some q) : ∃ R0, SH h q (partS ps.length i S) slots R0 := by
  obtain ⟨Rk, e1, _⟩ := t.ex
  exact ⟨_, e1 i q hq⟩
theorem TS.op (t : TS h p l ps S slots R) {i q : Nat} (hq : ps[i]? = some q) : ∃ R0 : Nat -> Prop, SH h q (partS ps.length i S) slots R0 ∧ (∀ b, h.size <= b -> R0 b) ∧ (∀ b, R0 b -> R b ∨ h.size <= b) ∧
    ∀ h' S', SortS S' -> SH h' q (partS ps.length i S') slots R0 -> SOnly R0 h h' -> (∀ j, j < ps.length -> j ≠ i -> partS ps.length j S' = partS ps.length j S) ->
      ∃ R', TS h' p l ps S' slots R' ∧ SOnly R h h' ∧ ∀ b, R' b -> R b ∨ h.size <= b := by
  obtain ⟨Rk, e1, e2, e3⟩ := t.ex
  have hi : i < ps.length := (List.getElem?_eq_some_iff.1 hq).1
  refine ⟨fun b => Rk i b ∨ h.size <= b, (e1 i q hq).turn fun b _ hb => .inl hb, fun b hb => .inr hb, fun b hb => hb.imp (e2 i b hi) id, fun h' S' srt sh' o oth => ?_⟩
  have o' : SOnly R h h' := o.mono fun b hb g => ⟨g.1.elim (e2 i b hi) (fun x => by omega), g.2⟩
  have hsz := o.size
  refine ⟨fun b => R b ∨ (h.size <= b ∧ b < h'.size), ⟨⟨srt, fun x hx => ?_⟩, t.n1, t.n2, o.block t.sb (fun g => not_sh t.sb st_sh g.2), t.own.only o fun b hb g => own_nsh t.own ps_sh hb g.2, fun b hb => ?_, fun j b => if j = i then (Rk i b ∨ h.size <= b) ∧ b < h'.size else Rk j b, fun k q' hq' => ?_, fun k b hk hb => ?_, fun j k b hj hk h1 h2 => ?_⟩, o', fun b hb => hb.imp id (·.1)⟩
  · -- each of them is fine
    have hlt := rt_lt (show 0 < ps.length by omega) x.1
    have hm : x ∈ partS ps.length (rt ps.length x.1) S' := part_mem.2 ⟨hx, rfl⟩
    by_cases hr : rt ps.length x.1 = i
    · rw [hr] at hm; exact sh'.ok.ok x hm
    · rw [oth _ hlt hr] at hm; exact t.ok.ok x (part_mem.1 hm).1
  · rcases hb with hb | hb
    · have := t.lt b hb; omega
    · exact hb.2
  · by_cases hk : k = i
    · subst hk
      rw [hq] at hq'; cases hq'
      simp only [if_pos]
      exact sh'.turn fun b hb hr => ⟨hr, hb⟩
    · have hkl := (List.getElem?_eq_some_iff.1 hq').1
      simp only [if_neg hk]
      rw [oth k hkl hk]
      refine (e1 k q' hq').keep o fun b hb ht g => g.1.elim (fun x => hk (e3 k i b hkl hi hb x)) fun x => ?_
      have := sty_lt ht; omega
  · by_cases hki : k = i
    · simp only [if_pos hki] at hb
      rcases hb.1 with g | g
      · exact .inl (e2 i b hi g)
      · exact .inr ⟨g, hb.2⟩
    · simp only [if_neg hki] at hb
      exact .inl (e2 k b hk hb)
  · have old : ∀ k, k < ps.length -> Rk k b -> b < h.size := fun k hk g => t.lt b (e2 k b hk g)
    by_cases hji : j = i
    · by_cases hki : k = i
      · omega
      · simp only [if_pos hji] at h1
        simp only [if_neg hki] at h2
        have := old k hk h2
        rcases h1.1 with g | g
        · rw [hji]; exact (e3 k i b hk hi h2 g).symm
        · omega
    · by_cases hki : k = i
      · simp only [if_neg hji] at h1
        simp only [if_pos hki] at h2
        have := old j hj h1
        rcases h2.1 with g | g
        · rw [hki]; exact e3 j i b hj hi h1 g
        · omega
      · simp only [if_neg hji] at h1
        simp only [if_neg hki] at h2
        exact e3 j k b hj hk h1 h2
abbrev KeyOk (c : Cel) : Prop := c.Key.size <= 9223372036854775807
theorem rt_wrap {n x : Nat} (h0 : 0 < n) (hn : n <= 16) : IntKind.wrap .u64 (n : Int) = (n : Int) ∧ IntKind.wrap .i64 (Int.tmod (x : Int) (n : Int)) = ((x % n : Nat) : Int) := by
  have := Nat.mod_lt x h0
  refine ⟨by rw [wrap_u64]; omega, ?_⟩
  rw [← Int.ofNat_tmod, w64 (by omega) (by omega)]
theorem TRoute {c : Cel} {Q : Int -> H -> Prop} (t : TS h p l ps S slots R) (hk : KeyOk c) (k : ∀ h', Ext h h' -> Q ((rt ps.length c : Nat) : Int) h') : F.xaz (some ⟨p, 0, none⟩) c.Key h Q := by
  unfold F.xaz
  simp only [nn_some, add_lit, Nat.add_zero]
  have h1 := t.n1
  refine t.ldl (Hash_spec hk fun h5 e5 => ⟨(t.ext e5).sb.cell (i := 0) rfl, ?_⟩)
  obtain ⟨q1, q2⟩ := rt_wrap (x := hashM c.Key) (show 0 < ps.length by omega) t.n2
  rw [t.len, q1]
  refine ⟨by omega, ?_⟩
  rw [q2]
  exact k h5 e5
theorem TS.has (t : TS h p l ps S slots R) (c : Cel) : ∃ q, ps[rt ps.length c]? = some q := ⟨_, List.getElem?_eq_getElem (rt_lt (by have := t.n1; omega) c)⟩
theorem TOf {c : Cel} {q : Nat} {Q : Option Addr -> H -> Prop} (t : TS h p l ps S slots R) (hk : KeyOk c) (hq : ps[rt ps.length c]? = some q) (k : ∀ h', Ext h h' -> Q (some ⟨q, 0, none⟩) h') : F.xcc (some ⟨p, 0, none⟩) c h Q := by
  unfold F.xcc
  refine new_of fun m h1 hm b1 e1 s1 => ?_
  have t1 := t.ext e1
  have c1 : cellH h1 ⟨m, 1, none⟩ = some (.string c.Key) := Blk.cells b1 1 _ rfl
  simp only [nn_some, add_lit, Nat.add_zero, Nat.zero_add]
  refine t1.ldl ((ldS_iff c1).2 (TRoute t1 hk fun h9 e9 => ⟨(t1.ext e9).sb.cell (i := 0) rfl, (t1.ext e9).at hq (k h9 (e1.trans e9))⟩))
end
theorem part_nil (n k : Nat) : partS n k [] = [] := rfl
theorem TNew {h : H} {m sl : Int} {Q : Option Addr -> Int -> H -> Prop} (k0 : (m < 1 ∨ m > 16 ∨ sl < 2 ∨ sl > 1048576) -> Q none 1 h)
    (k1 : 1 <= m -> m <= 16 -> 2 <= sl -> sl <= 1048576 -> ∀ h' p l ps R, (ps.length : Int) = m -> TS h' p l ps [] sl.toNat R -> Ext h h' -> (∀ b, R b -> h.size <= b) -> h.size <= p -> Mine h l -> Q (some ⟨p, 0, none⟩) 0 h') : F.xaj m sl h Q := by
  have bad : (m < 1 ∨ m > 16 ∨ sl < 2 ∨ sl > 1048576) -> F.xaj.j3 Q m sl true h := fun g => by
    unfold F.xaj.j3
    exact ⟨fun _ => k0 g, fun g => by cases g⟩
  unfold F.xaj
  refine ⟨fun g => bad (by have := of_decide_eq_true g; omega), fun g1 => ⟨fun g => bad (by have := of_decide_eq_true g; omega), fun g2 => ⟨fun g => bad (by have := of_decide_eq_true g; omega), fun g3 => ?_⟩⟩⟩
  have g1 := of_decide_eq_false g1
  have g2 := of_decide_eq_false g2
  have g3 := of_decide_eq_false g3
  unfold F.xaj.j3
  refine ⟨fun g => k0 (by have := of_decide_eq_true g; omega), fun g4 => ?_⟩
  have g4 := of_decide_eq_false g4
  unfold F.xaj.j1
  refine new_of fun p h1 hp b1 e1 s1 => ⟨m.toNat + 1, ?_⟩
  have key : ∀ (d i : Nat) (hh : H) (l : Sl) (ps : List Nat) (Rk : Nat -> Nat -> Prop), i <= m.toNat -> m.toNat - i < d -> ps.length = i -> Blk hh p #[l.enc] tSt -> Owns hh l tPs 1 (ps.flatMap cQ) -> Mine h l -> Ext h hh ->
      (∀ k q, ps[k]? = some q -> SH hh q [] sl.toNat (Rk k)) -> (∀ k b, k < i -> Rk k b -> h.size <= b ∧ b < hh.size) -> (∀ j k b, j < i -> k < i -> Rk j b -> Rk k b -> j = k) -> F.xaj.l2 Q d sl ⟨p, 0, none⟩ m (i : Int) hh := by
    intro d
    induction d with
    | zero => intro i _ _ _ _ _ hm; omega
    | succ d ih =>
      intro i hh l ps Rk hi hm hl b w mi e hs hb hd
      unfold F.xaj.l2
      refine ⟨fun g => ?_, fun g => ?_⟩
      · have g := of_decide_eq_true g
        refine New_spec (R := fun b => hh.size <= b) (fun g => by omega) (fun _ hb => hb) fun _ _ h4 q sh4 e4 hq => ⟨fun g => by simp at g, fun _ => ?_⟩
        have b4 : Blk h4 p #[l.enc] tSt := e4.block b fun f => f
        simp only [add_lit, Nat.add_zero]
        refine (ldL_iff (b4.cell (i := 0) rfl)).2 ?_
        refine newL_of fun m2 h10 hm2 b10 e10 s10 => ?_
        have r10 : Reads h10 ⟨some ⟨m2, 0, none⟩, 1, 1⟩ 1 ([q].flatMap cQ) := blk_reads (by simpa using b10) rfl
        have w10 := (w.ext e4).ext e10
        refine app_list (L := ps) (M := [q]) cQ_len (by omega) el_Sl_shard_Shard w10 r10 (fun x v hv => by simp at hv; subst hv; rfl) (by simp only [List.length_singleton]; omega) fun r3 h12 w3 o3 n3 => ?_
        have hsz4 := e4.size
        have hsz10 := e10.size
        have hsz3 := o3.size
        have hsz := e.size
        have m3 : Mine h r3 := fun y hy => by
          rcases n3 with n3 | ⟨b', n3, n4⟩
          · exact mi y (by rw [← n3]; exact hy)
          · rw [n3] at hy; cases hy; omega
        have e12 : Ext h h12 := ((e.trans e4).trans e10).mine mi o3
        have b12 : Blk h12 p #[l.enc] tSt := o3.block (e10.block b4 fun f => f) fun hb' => own_ne w10 (e10.block b4 fun f => f) (by decide) hb'
        refine stH_of b12 (by simp) fun h14 b14 o14 s14 => ?_
        rw [writeA_all (by simp)] at b14
        have w14 : Owns h14 r3 tPs 1 ((ps ++ [q]).flatMap cQ) := w3.only o14 fun y hy hf => own_ne w3 b12 (by decide) (by rw [hy, hf])
        rw [w64 (by omega) (by omega)]
        have hsz14 := o14.size
        -- a shard stays
        have stay : ∀ {q' : Nat} {R' : Nat -> Prop}, SH h10 q' [] sl.toNat R' -> SH h14 q' [] sl.toNat R' := fun s => (s.oth o3 w10 ps_sh).keep o14 fun x _ ht e => by subst e; exact not_sh b12 st_sh ht
        refine ih (i + 1) h14 r3 (ps ++ [q]) (fun k b => if k = i then hh.size <= b ∧ b < h14.size else Rk k b) (by omega) (by omega) (by simp [hl]) b14 w14 m3 (e12.step o14 fun x hx e => by omega) (fun k q' hq' => ?_) (fun k b hk hr => ?_) fun j k b hj hk h1 h2 => ?_
        · by_cases hk : k = i
          · subst hk
            rw [List.getElem?_append_right (by omega), hl, Nat.sub_self] at hq'
            cases hq'
            simp only [if_pos]
            exact (stay (sh4.ext e10)).turn fun b hb hr => ⟨hr, hb⟩
          · simp only [if_neg hk]
            have hlt : k < ps.length := by
              have := (List.getElem?_eq_some_iff.1 hq').1
              rw [List.length_append, List.length_singleton] at this
              omega
            rw [List.getElem?_append_left hlt] at hq'
            exact stay (((hs k q' hq').ext e4).ext e10)
        · by_cases hki : k = i
          · simp only [if_pos hki] at hr; exact ⟨by omega, hr.2⟩
          · simp only [if_neg hki] at hr
            have := hb k b (by omega) hr
            exact ⟨this.1, by omega⟩
        · by_cases hji : j = i
          · by_cases hki : k = i
            · omega
            · simp only [if_pos hji] at h1
              simp only [if_neg hki] at h2
              have := hb k b (by omega) h2; omega
          · by_cases hki : k = i
            · simp only [if_neg hji] at h1
              simp only [if_pos hki] at h2
              have := hb j b (by omega) h1; omega
            · simp only [if_neg hji] at h1
              simp only [if_neg hki] at h2
              exact hd j k b (by omega) (by omega) h1 h2
      · have g := of_decide_eq_false g
        refine k1 (by omega) (by omega) (by omega) (by omega) hh p l ps (fun b => ∃ k, k < i ∧ Rk k b) (by omega) ⟨⟨List.Pairwise.nil, fun x hx => by cases hx⟩, by omega, by omega, b, w, fun x ⟨k, hk, hx⟩ => (hb k x hk hx).2, Rk, fun k q hq => by rw [part_nil]; exact hs k q hq, fun k b hk hr => ⟨k, by omega, hr⟩, fun j k b hj hk => hd j k b (by omega) (by omega)⟩ e (fun x ⟨k, hk, hx⟩ => (hb k x hk hx).1) (by omega) mi
  exact key _ 0 h1 ⟨none, 0, 0⟩ [] (fun _ _ => False) (by omega) (by omega) rfl b1 (by simpa using Owns.nil h1 tPs 1) (by intro x hx; simp [Sl.blk] at hx) e1 (fun k q hq => by simp at hq) (fun k b hk => by omega) fun j k b hj => by omega
section
variable {n k : Nat} {S : SL}
theorem put_part (hs : SortS S) (e : Int) (c : Cel) (a : S_api_Agg) : partS n (rt n c) (putS S e c a) = putS (partS n (rt n c) S) e c a := by unfold putS; rw [part_set hs, if_pos rfl, part_get]
theorem put_other (hs : SortS S) (e : Int) (c : Cel) (a : S_api_Agg) (hk : k ≠ rt n c) : partS n k (putS S e c a) = partS n k S := by unfold putS; rw [part_set hs, if_neg (fun g => hk g.symm)]
theorem kill_part (hs : SortS S) (e : Int) (c : Cel) : partS n (rt n c) (killS S e c) = killS (partS n (rt n c) S) e c := by unfold killS; rw [part_set hs, if_pos rfl, part_get]
theorem kill_other (hs : SortS S) (e : Int) (c : Cel) (hk : k ≠ rt n c) : partS n k (killS S e c) = partS n k S := by unfold killS; rw [part_set hs, if_neg (fun g => hk g.symm)]
theorem sum_le {f g : Nat -> Nat} : ∀ n, (∀ k, k < n -> f k <= g k) -> ((List.range n).map f).sum <= ((List.range n).map g).sum
  | 0, _ => Nat.le_refl _
  | n + 1, h => by
    rw [List.range_succ, List.map_append, List.sum_append, List.map_append, List.sum_append]
    have := sum_le n fun k hk => h k (by omega)
    have := h n (by omega)
    simp; omega
theorem sum_ones {α : Type} (L : List α) : (L.map fun _ => 1).sum = L.length := by
  induction L with
  | nil => rfl
  | cons a L ih => simp only [List.map_cons, List.sum_cons, List.length_cons]; omega
theorem len_parts (hn : 0 < n) (S : SL) : ((List.range n).map fun k => (partS n k S).length).sum = S.length := by
  have h := sum_parts hn (fun _ => 1) S
  simp only [sum_ones] at h
  exact h
def partX (n : Nat) (k : Int) (S : SL) : SL := if 0 <= k ∧ k < n then partS n k.toNat S else []
theorem partX_nat (hk : k < n) : partX n (k : Int) S = partS n k S := by unfold partX; rw [if_pos (by omega)]; rfl
end
section
variable {h h' : H} {p : Nat} {l : Sl} {ps : List Nat} {S : SL} {slots : Nat} {R : Nat -> Prop}
theorem TPut {e : Int} {x : S_api_Row} {b : Bool} {Q : Int -> H -> Prop} (t : TS h p l ps S slots R) (hk : KeyOk x.Cell) (hrt : RightIs x.Agg b)
    (k0 : putE (partS ps.length (rt ps.length x.Cell) S) slots e x.Cell x.Agg b ≠ 0 -> ∀ h', Ext h h' -> Q (putE (partS ps.length (rt ps.length x.Cell) S) slots e x.Cell x.Agg b) h')
    (k1 : putE (partS ps.length (rt ps.length x.Cell) S) slots e x.Cell x.Agg b = 0 -> ∀ h' R', TS h' p l ps (putS S e x.Cell x.Agg) slots R' -> SOnly R h h' -> (∀ b, R' b -> R b ∨ h.size <= b) -> Q 0 h') : F.xbn (some ⟨p, 0, none⟩) e x h Q := by
  unfold F.xbn
  refine new_of fun m h1 hm b1 e1 s1 => ?_
  have t1 := t.ext e1
  obtain ⟨q, hq⟩ := t.has x.Cell
  refine ⟨x.Cell, row_cell (Blk.cells b1), x, Blk.cells b1, TOf t1 hk hq fun h7 e7 => ⟨(Blk.cells b1).ext e7, ?_⟩⟩
  have t7 := t1.ext e7
  have e17 := e1.trans e7
  obtain ⟨R0, sh, hR, hRR, fin⟩ := t7.op hq
  refine Put_spec sh hrt hR (fun g h' e' => k0 g h' (e17.trans e')) fun g h' sh' o => ?_
  obtain ⟨R', t', o', hR'⟩ := fin h' (putS S e x.Cell x.Agg) (sort_setS t.ok.sort _ _) (by rw [put_part t.ok.sort]; exact sh') o fun j hj hne => put_other t.ok.sort _ _ _ hne
  exact k1 g h' R' t' (SOnly.trans (SOnly.of e17) o') fun b hb => (hR' b hb).imp id fun x => Nat.le_trans e17.size x
theorem TKill {e : Int} {c : Cel} {Q : Int -> H -> Prop} (t : TS h p l ps S slots R) (hk : KeyOk c)
    (k0 : killE S e c ≠ 0 -> ∀ h', Ext h h' -> Q (killE S e c) h')
    (k1 : killE S e c = 0 -> ∀ h' R', TS h' p l ps (killS S e c) slots R' -> SOnly R h h' -> (∀ b, R' b -> R b ∨ h.size <= b) -> Q 0 h') : F.xca (some ⟨p, 0, none⟩) e c h Q := by
  unfold F.xca
  refine new_of fun m h1 hm b1 e1 s1 => ?_
  have t1 := t.ext e1
  obtain ⟨q, hq⟩ := t.has c
  refine ⟨c, Blk.cells b1, c, Blk.cells b1, TOf t1 hk hq fun h7 e7 => ⟨(Blk.cells b1).ext e7, ?_⟩⟩
  have t7 := t1.ext e7
  have e17 := e1.trans e7
  obtain ⟨R0, sh, hR, hRR, fin⟩ := t7.op hq
  refine Kill_spec sh hR (fun g h' e' => ?_) fun g h' sh' o => ?_
  · rw [part_kill] at g ⊢
    exact k0 g h' (e17.trans e')
  · rw [part_kill] at g
    obtain ⟨R', t', o', hR'⟩ := fin h' (killS S e c) (sort_setS t.ok.sort _ _) (by rw [kill_part t.ok.sort]; exact sh') o fun j hj hne => kill_other t.ok.sort _ _ hne
    exact k1 g h' R' t' (SOnly.trans (SOnly.of e17) o') fun b hb => (hR' b hb).imp id fun x => Nat.le_trans e17.size x
theorem TIs {i : Int} {Q : Bool -> H -> Prop} (t : TS h p l ps S slots R) (k : Q (decide (0 <= i ∧ i < ps.length)) h) : F.xbz (some ⟨p, 0, none⟩) i h Q := by
  unfold F.xbz
  refine ⟨fun g => ?_, fun g => ?_⟩
  · have g := of_decide_eq_true g
    simp only [nn_some, add_lit, Nat.add_zero]
    refine t.ldl ?_
    rw [t.len]
    rw [show decide (0 <= i ∧ i < (ps.length : Int)) = decide (i < (ps.length : Int)) by rw [decide_eq_decide]; omega] at k
    exact k
  · have g := of_decide_eq_false g
    rw [decide_eq_false (by omega)] at k
    exact k
theorem TS.nth (t : TS h p l ps S slots R) {i : Int} (hi : 0 <= i ∧ i < ps.length) : ∃ q, ps[i.toNat]? = some q ∧ ((i.toNat : Nat) : Int) = i := ⟨_, List.getElem?_eq_getElem (by omega), by omega⟩
theorem TUnits {i : Int} {Q : Int -> H -> Prop} (t : TS h p l ps S slots R) (k : Q (unitsS (partX ps.length i S) : Int) h) : F.xbg (some ⟨p, 0, none⟩) i h Q := by
  unfold F.xbg
  refine TIs t ?_
  by_cases hi : 0 <= i ∧ i < ps.length
  · unfold partX at k
    rw [if_pos hi] at k
    rw [decide_eq_true hi]
    obtain ⟨q, hq, hin⟩ := t.nth hi
    refine ⟨fun g => by simp at g, fun _ => ?_⟩
    simp only [nn_some, add_lit, Nat.add_zero]
    refine t.ldl ?_
    rw [← hin]
    refine t.at hq ?_
    simp only [nn_some, add_lit, Nat.add_zero]
    obtain ⟨R0, sh⟩ := t.sh hq
    exact Units_spec sh k
  · unfold partX at k
    rw [if_neg hi] at k
    rw [decide_eq_false hi]
    exact ⟨fun _ => k, fun g => by cases g⟩
theorem TRange {i e most : Int} {fr to : Cel} {Q : Sl -> H -> Prop} (t : TS h p l ps S slots R)
    (k : ∀ r h', Owns h' r tn_api_Row 7 (((rangeS (partX ps.length i S) e fr to).take most.toNat).flatMap cW) -> Mine h r -> Ext h h' -> Q r h') : F.xby (some ⟨p, 0, none⟩) i e fr to most h Q := by
  unfold F.xby
  refine new_of fun m h1 hm b1 e1 s1 => new_of fun m2 h3 hm2 b3 e3 s3 => ?_
  have t3 := (t.ext e1).ext e3
  have e13 := e1.trans e3
  refine TIs t3 ?_
  by_cases hi : 0 <= i ∧ i < ps.length
  · unfold partX at k
    rw [if_pos hi] at k
    rw [decide_eq_true hi]
    obtain ⟨q, hq, hin⟩ := t.nth hi
    refine ⟨fun g => by simp at g, fun _ => ?_⟩
    simp only [nn_some, add_lit, Nat.add_zero]
    refine t3.ldl ?_
    conv => arg 2; rw [← hin]
    obtain ⟨R0, sh⟩ := t3.sh hq
    exact t3.at (K := fun y14 => _) hq ⟨fr, (Blk.cells b1).ext e3, to, Blk.cells b3, Range_spec sh fun r h' w m' e' => k r h' w (fun y hy => Nat.le_trans e13.size (m' y hy)) (e13.trans e')⟩
  · unfold partX at k
    rw [if_neg hi] at k
    rw [decide_eq_false hi]
    exact ⟨fun _ => k _ h3 (by simpa [rangeS] using Owns.nil h3 tn_api_Row 7) (fun y hy => by simp [Sl.blk] at hy) e13, fun g => by cases g⟩
end
section
variable {h h' : H} {p : Nat} {l : Sl} {ps : List Nat} {S : SL} {slots : Nat} {R : Nat -> Prop}
theorem TScan {e most : Int} {fr to : Cel} {Q : Sl -> H -> Prop} (t : TS h p l ps S slots R) (hS : S.length < 100000)
    (k : ∀ r h', Owns h' r tn_api_Row 7 (((rangeS S e fr to).take most.toNat).flatMap cW) -> Mine h r -> Ext h h' -> Q r h') : F.xbh (some ⟨p, 0, none⟩) e fr to most h Q := by
  unfold F.xbh
  refine new_of fun n2 h1 hm b1 e1 s1 => new_of fun n4 h3 hm2 b3 e3 s3 => ?_
  have t3 := (t.ext e1).ext e3
  have e13 := e1.trans e3
  have n16 := t.n2
  simp only [nn_some, add_lit, Nat.add_zero]
  refine t3.ldl ⟨ps.length + 1, ?_⟩
  rw [t.len]
  have key : ∀ (d i : Nat) (hh : H) (l8 : Sl) (ss : List Sl), i <= ps.length -> ps.length - i < d -> ss.length = i -> Ext h3 hh -> Owns hh l8 tn_Slapi_Row 1 (ss.flatMap V.cS8) -> Mine h3 l8 ->
      (∀ (j : Nat) s, ss[j]? = some s -> Owns hh s tn_api_Row 7 (((rangeS (partS ps.length j S) e fr to).take most.toNat).flatMap cW)) -> F.xbh.l1 Q d e most ⟨n2, 0, none⟩ ⟨n4, 0, none⟩ l8 l (ps.length : Int) (i : Int) hh := by
    intro d
    induction d with
    | zero => intro i _ _ _ _ hm; omega
    | succ d ih =>
      intro i hh l8 ss hi hm hl ee w mi rows
      unfold F.xbh.l1
      refine ⟨fun g => ?_, fun g => ?_⟩
      · have g := of_decide_eq_true g
        obtain ⟨q, hq⟩ : ∃ q, ps[i]? = some q := ⟨_, List.getElem?_eq_getElem (by omega)⟩
        have te := t3.ext ee
        obtain ⟨R0, sh⟩ := te.sh hq
        refine te.at hq ⟨fr, ((Blk.cells b1).ext e3).ext ee, to, (Blk.cells b3).ext ee, Range_spec sh fun r h18 w18 m18 e18 => ?_⟩
        refine newL_of fun m2 h20 hm2 b20 e20 s20 => ?_
        have r20 : Reads h20 ⟨some ⟨m2, 0, none⟩, 1, 1⟩ 1 ([r].flatMap V.cS8) := blk_reads (by simpa using b20) rfl
        have w20 := (w.ext e18).ext e20
        refine app_list (L := ss) (M := [r]) V.cS8_len (by omega) el_SlSlapi_Row w20 r20 (fun x v hv => by simp at hv; subst hv; rfl) (by simp only [List.length_singleton]; omega) fun r3 h22 w3 o3 n3 => ?_
        have hsz18 := e18.size
        have hsz20 := e20.size
        have hsz := ee.size
        have m3 : Mine h3 r3 := fun y hy => by
          rcases n3 with n3 | ⟨b', n3, n4⟩
          · exact mi y (by rw [← n3]; exact hy)
          · rw [n3] at hy; cases hy; omega
        rw [w64 (by omega) (by omega)]
        refine ih (i + 1) h22 r3 (ss ++ [r]) (by omega) (by omega) (by simp [hl]) (((ee.trans e18).trans e20).mine mi o3) w3 m3 fun j s hs => ?_
        rcases Nat.lt_or_ge j ss.length with hj | hj
        · rw [List.getElem?_append_left hj] at hs
          exact V.own_typ (((rows j s hs).ext e18).ext e20) o3 w20 (by decide)
        · have hj2 : j = ss.length := by
            have := (List.getElem?_eq_some_iff.1 hs).1
            rw [List.length_append, List.length_singleton] at this; omega
          subst hj2
          rw [List.getElem?_append_right (by omega), Nat.sub_self] at hs
          cases hs
          rw [hl]
          exact V.own_typ (w18.ext e20) o3 w20 (by decide)
      · have g := of_decide_eq_false g
        have hin : i = ps.length := by omega
        subst hin
        have npos : 0 < ps.length := by have := t.n1; omega
        have hX := range_sort t.ok e fr to
        generalize hLs : ((List.range ps.length).map fun k => ((rangeS S e fr to).filter fun r => decide (rt ps.length r.Cell = k)).take most.toNat) = Ls
        have law := scan_law hX npos most.toNat
        rw [hLs] at law
        have hLl : Ls.length = ps.length := by rw [← hLs]; simp
        have hLj : ∀ (j : Nat) (A : List S_api_Row), Ls[j]? = some A -> A = (rangeS (partS ps.length j S) e fr to).take most.toNat := fun j A hA => by
          rw [← hLs] at hA
          have hj := (List.getElem?_eq_some_iff.1 hA).1
          rw [List.length_map, List.length_range] at hj
          rw [List.getElem?_map, List.getElem?_range hj] at hA
          simp only [Option.map_some, Option.some.injEq] at hA
          rw [← hA, part_range]
        have tb : TB hh l8 ss Ls := ⟨w.reads, by rw [hl, hLl], fun j s A hs hA => by rw [hLj j A hA]; exact ⟨(rows j s hs).reads, (rows j s hs).le_cap⟩⟩
        have hlen : (mR Ls).length < 100000 := by
          have h1 : (mR Ls).length = (Ls.map List.length).sum := mAll_len
          have h2 : (Ls.map List.length).sum <= S.length := by
            rw [← hLs, List.map_map, ← len_parts npos S]
            refine sum_le _ fun k hk => ?_
            simp only [Function.comp]
            rw [← part_range, List.length_take]
            have : (rangeS (partS ps.length k S) e fr to).length <= (partS ps.length k S).length := by unfold rangeS; rw [List.length_map]; exact List.length_filter_le _ _
            omega
          omega
        refine Rows_spec tb (by omega) hlen fun r h24 w24 m24 e24 => ?_
        rw [law] at w24
        exact k r h24 w24 (fun y hy => by have := m24 y hy; have := ee.size; have := e13.size; omega) ((e13.trans ee).trans e24)
  exact key _ 0 h3 ⟨none, 0, 0⟩ [] (by omega) (by omega) rfl (.refl _) (by simpa using Owns.nil h3 tn_Slapi_Row 1) (fun y hy => by simp [Sl.blk] at hy) fun j s hs => by simp at hs
end
abbrev cBb : Cel := ⟨0, ⟨#[98]⟩, 0⟩
abbrev ab1 : SL := putS [] 1 cA (oneA 1)
abbrev ab2 : SL := putS ab1 1 cBb (oneA 2)
theorem rt_a : rt 2 cA = 0 := by decide +kernel
theorem rt_b : rt 2 cBb = 1 := by decide +kernel
theorem put_1 : putE (partS 2 (rt 2 cA) []) 9 1 cA (oneA 1) true = 0 := by rw [rt_a, part_nil]; decide
theorem put_2 : putE (partS 2 (rt 2 cBb) ab1) 9 1 cBb (oneA 2) true = 0 := by
  have : partS 2 1 ab1 = [] := by
    show partS 2 1 [(cA, _)] = []
    unfold partS
    rw [List.filter_cons, List.filter_nil, show rt 2 (cA, C.layM ((getS ([] : SL) cA).getD []) ⟨1, oneA 1, false⟩).1 = 0 from rt_a]; rfl
  rw [rt_b, this]; decide
theorem part_2 : partS 2 1 ab2 = [(cBb, [⟨1, oneA 2, false⟩])] := by
  show partS 2 1 [(cA, [⟨1, oneA 1, false⟩]), (cBb, [⟨1, oneA 2, false⟩])] = _
  unfold partS
  rw [List.filter_cons, List.filter_cons, List.filter_nil]
  simp only [rt_a, rt_b]
  rfl
theorem units_1 : (unitsS (partX 2 1 ab2) : Int) = 2 := by
  show (unitsS (partX 2 ((1 : Nat) : Int) ab2) : Int) = 2
  rw [partX_nat (by omega), part_2]; rfl
theorem units_2 : (unitsS (partX 2 2 ab2) : Int) = 0 := by
  unfold partX; rw [if_neg (by omega)]; rfl
theorem head10 {h : H} {Q : Bool -> H -> Prop} (k : ∀ h', Ext h h' -> Q true h') : F.xax h Q := by
  unfold F.xax
  refine TNew (fun g => by omega) fun _ _ _ _ h1 p l ps R hps t e1 hR hp ml => ⟨fun g => by simp at g, fun _ => ?_⟩
  have hps : ps.length = 2 := by omega
  unfold F.xax.j2
  refine ⟨fun g => by simp at g, fun _ => ?_⟩
  unfold F.xax.j1
  refine one_spec fun h4 e4 => ?_
  refine TPut (x := ⟨cA, oneA 1⟩) (t.ext e4) (show cA.Key.size <= _ by decide) (right_one' 1) (fun g => absurd (by rw [hps]; exact put_1) g) fun _ h6 R6 t6 o6 hR6 => ?_
  have hR6' : ∀ b, R6 b -> h.size <= b := fun b hb => (hR6 b hb).elim (hR b) fun x => by have := e1.size; have := e4.size; omega
  refine one_spec fun h8 e8 => ?_
  refine TPut (x := ⟨cBb, oneA 2⟩) (t6.ext e8) (show cBb.Key.size <= _ by decide) (right_one' 2) (fun g => absurd (by rw [hps]; exact put_2) g) fun _ h10 R10 t10 o10 hR10 => ?_
  have e06 : Ext h h6 := o6.base (e1.trans e4) hR
  have e010 : Ext h h10 := o10.base (e06.trans e8) hR6'
  refine TScan t10 (by decide) fun r13 h12 w12 m12 e12 => ⟨fun _ => ⟨fun _ => ?_, fun g => by simp at g⟩, fun g => by simp at g⟩
  have t12 := t10.ext e12
  have w12 : Owns h12 r13 tn_api_Row 7 (([⟨cA, oneA 1⟩, ⟨cBb, oneA 2⟩] : List S_api_Row).flatMap cW) := w12
  have hl := own_len cW_len (by omega) w12
  refine TRoute (c := cA) t12 (show cA.Key.size <= _ by decide) fun h16 e16 => ?_
  rw [hps, rt_a]
  refine ⟨fun _ => ?_, fun g => by simp at g⟩
  refine TRoute (c := cBb) (t12.ext e16) (show cBb.Key.size <= _ by decide) fun h19 e19 => ?_
  rw [hps, rt_b]
  refine ⟨fun _ => ⟨fun _ => ?_, fun g => by rw [hl] at g; simp at g⟩, fun g => by simp at g⟩
  refine rowAt (i := 1) ((w12.ext e16).ext e19).reads rfl fun a ca => ?_
  have c4 : cellH h19 (a.add 4) = some (.int .i64 2) := ca 4 _ rfl
  refine ldI_of (by simpa [add_lit, Addr.add, Nat.add_assoc] using c4) ⟨fun _ => ?_, fun g => by simp at g⟩
  have t19 := (t12.ext e16).ext e19
  refine TUnits t19 ?_
  rw [hps]
  refine ⟨fun _ => TUnits t19 ?_, fun g => absurd (show ((unitsS (partX 2 1 ab2) : Int) == 2) = false from g) (by rw [units_1]; decide)⟩
  rw [hps]
  have u2 : ((unitsS (partX 2 2 ab2) : Int) == 0) = true := by rw [units_2]; rfl
  show Q ((unitsS (partX 2 2 ab2) : Int) == 0) h19
  rw [u2]
  exact k h19 ((e010.trans e12).trans (e16.trans e19))
def fewKey (k : ByteArray) : ByteArray := match k.data.toList with
  | [] => ⟨#[107]⟩
  | b :: _ => ⟨#[UInt8.ofNat (97 + b.toNat % 9), UInt8.ofNat (97 + k.size % 3)]⟩
def fewC (c : Cel) : Cel := ⟨withinM c.View 2, fewKey c.Key, Int.tmod c.Start 3⟩
theorem fewKey_size (k : ByteArray) : 1 <= (fewKey k).size ∧ (fewKey k).size <= 2 := by
  unfold fewKey
  split
  · exact ⟨Nat.le_refl 1, by show 1 <= 2; omega⟩
  · exact ⟨by show 1 <= 2; omega, Nat.le_refl 2⟩
theorem few_ok (c : Cel) : okC (fewC c) = 0 := by
  have h1 := within_range (a := c.View) (m := 2) (by omega)
  have h2 := fewKey_size c.Key
  have h3 := Int.tmod_lt_of_pos c.Start (show (0 : Int) < 3 by omega)
  have h4 : -3 < Int.tmod c.Start 3 := by
    have := Int.tmod_lt_of_pos (-c.Start) (show (0 : Int) < 3 by omega)
    rw [Int.neg_tmod] at this
    omega
  unfold okC fewC
  simp only
  rw [if_neg (by omega), if_neg (by omega), if_neg (by omega)]
theorem few_key (c : Cel) : KeyOk (fewC c) := by have := fewKey_size c.Key; show (fewKey c.Key).size <= _; omega
theorem few_spec {h : H} {c : Cel} {Q : S_api_Cell -> H -> Prop} (hk : KeyOk c) (k : ∀ h', Ext h h' -> Q (fewC c) h') : F.xbd c h Q := by
  unfold F.xbd
  refine new_of fun n h1 hn b1 e1 s1 => new_of fun n3 h3 hn3 b3 e3 s3 => ?_
  have b3' : Blk h3 n3 zeroC.cells.toArray tn_api_Cell := b3
  have c0 : ∀ {hh : H}, Ext h3 hh -> cellH hh ⟨n, 0, none⟩ = some (.int .i64 c.View) := fun e => (e3.trans e).cell (Blk.cells b1 0 _ rfl) fun f => f
  have c1 : ∀ {hh : H}, Ext h3 hh -> cellH hh ⟨n, 1, none⟩ = some (.string c.Key) := fun e => (e3.trans e).cell (Blk.cells b1 1 _ rfl) fun f => f
  have c2 : ∀ {hh : H}, Ext h3 hh -> cellH hh ⟨n, 2, none⟩ = some (.int .i64 c.Start) := fun e => (e3.trans e).cell (Blk.cells b1 2 _ rfl) fun f => f
  have j1 : ∀ (key : ByteArray) (hh : H), Ext h3 hh -> key = fewKey c.Key -> F.xbd.j1 Q ⟨n, 0, none⟩ ⟨n3, 0, none⟩ key hh := fun key hh e hk => by
    unfold F.xbd.j1
    simp only [add_lit, Nat.zero_add, Nat.add_zero]
    refine ldI_of (c0 e) (ldI_of (c2 e) ⟨by omega, within_spec (by omega) (by omega) ⟨c2 e, ?_⟩⟩)
    have b3e : Blk hh n3 zeroC.cells.toArray tn_api_Cell := e.block b3' fun f => f
    refine st_cel b3e (d := ⟨withinM c.View 2, key, Int.tmod c.Start 3⟩) fun h5 b5 o5 s5 => ⟨_, b5.cells, ?_⟩
    rw [hk]
    exact k h5 (((e1.trans e3).trans e).step o5 fun x hx hb => by omega)
  simp only [add_lit, Nat.zero_add, Nat.add_zero]
  rw [ldS_iff (c1 (.refl _))]
  refine ⟨fun g => ldS_of (c1 (.refl _)) ?_, fun g => j1 _ h3 (.refl _) ?_⟩
  · have g := of_decide_eq_true g
    obtain ⟨b, r, hbr⟩ : ∃ b r, c.Key.data.toList = b :: r := by
      cases hl : c.Key.data.toList with
      | nil => exact absurd hl (key_some (by omega))
      | cons b r => exact ⟨b, r, rfl⟩
    refine idxS_of (i := 0) (b := b) (by rw [hbr]; rfl) rfl ⟨by omega, ldS_of (c1 (.refl _)) ⟨by omega, ?_⟩⟩
    have hbt := b.toNat_lt
    have hb : IntKind.wrap .u8 (97 + Int.tmod ((b.toNat : Nat) : Int) 9) = (((UInt8.ofNat (97 + b.toNat % 9)).toNat : Nat) : Int) := by
      rw [wrap_u8, Int.tmod_eq_emod_of_nonneg (by omega)]
      simp
    have hc : IntKind.wrap .u8 (97 + IntKind.wrap .u8 (Int.tmod ((c.Key.size : Nat) : Int) 3)) = (((UInt8.ofNat (97 + c.Key.size % 3)).toNat : Nat) : Int) := by
      rw [wrap_u8, wrap_u8, Int.tmod_eq_emod_of_nonneg (by omega)]
      simp
    rw [hb, hc]
    refine newL_of fun n5 h5 hn5 b5 e5 s5 => ?_
    have rd : Reads h5 ⟨some ⟨n5, 0, none⟩, 2, 2⟩ 1 ([UInt8.ofNat (97 + b.toNat % 9), UInt8.ofNat (97 + c.Key.size % 3)].flatMap cU) := blk_reads b5 rfl
    refine cvtT_of (l := [UInt8.ofNat (97 + b.toNat % 9), UInt8.ofNat (97 + c.Key.size % 3)]) el_Sluint8.slice Tryz.underlying5 Tryz.underlying9 rd ?_
    exact j1 _ h5 e5 (by unfold fewKey; rw [hbr])
  · have g := of_decide_eq_false g
    unfold fewKey
    cases hl : c.Key.data.toList with
    | nil => rfl
    | cons b r => have e2 := size_data (s := c.Key); rw [hl] at e2; simp only [List.length_cons] at e2; omega
structure St0 where
  y : St
  n : Int
abbrev c0 (x : St0) : List Value := (⟨x.y.x, x.n⟩ : S_spatelaw10_Step).cells
theorem c0_len (x : St0) : (c0 x).length = 16 := rfl
structure St0Ok (h : H) (x : St0) : Prop where
  ok : StOk h x.y
  n64 : -9223372036854775808 <= x.n ∧ x.n < 9223372036854775808
section
variable {T : Type} {enc : TypeId × Value -> T} {w : World} {base : Nat} {spare : Nat -> Bool} {held : Bool} {fuel : Nat}
theorem list16 {β : Type} : ∀ {l : List β}, l.length = 16 -> ∃ a b, a.length = 15 ∧ l = a ++ [b]
  | l, h => by
    have hn : l ≠ [] := fun e => by subst e; cases h
    exact ⟨l.dropLast, l.getLast hn, by rw [List.length_dropLast, h], (List.dropLast_concat_getLast hn).symm⟩
theorem list2 {β : Type} : ∀ {l : List β}, l.length = 2 -> ∃ a b, l = [a, b]
  | [a, b], _ => ⟨a, b, rfl⟩
theorem step0_open {cs : List Value} {y : DataW T × List MemPlace} (h : DataW.trod enc PP w base spare held fuel tn_spatelaw10_Step cs = some y) (hl : cs.length = 16) : ∃ x : St0, cs = c0 x ∧ St0Ok w.heap x := by
  obtain ⟨xs, n, _, _, _, hlen, hf⟩ := DataW.trod_struct ut_spatelaw10_Step h
  have hlen2 : xs.length = 2 := hlen
  have k3 : PP.cellsOf 3 = 1 := by kernel_rfl
  have ks : PP.cellsOf tn_spatelaw7_Step = 15 := by kernel_rfl
  obtain ⟨a, b, ha, rfl⟩ := list16 hl
  obtain ⟨y0, y1, rfl⟩ := list2 hlen2
  have f0 : DataW.trod enc PP w base spare held n tn_spatelaw7_Step (((a ++ [b]).drop 0).take (PP.cellsOf tn_spatelaw7_Step)) = some y0 := hf 0 _ rfl
  rw [ks] at f0
  have f1 : DataW.trod enc PP w base spare held n 3 (((a ++ [b]).drop 15).take (PP.cellsOf 3)) = some y1 := hf 1 _ rfl
  rw [k3] at f1
  rw [List.drop_zero, List.take_left' ha] at f0
  rw [List.drop_left' ha] at f1
  obtain ⟨x0, e0, w0⟩ := step_open f0 ha
  obtain ⟨m1, e1, _, w1⟩ := DataW.trod_int Tryz.underlying3 f1
  refine ⟨⟨x0, m1⟩, ?_, ⟨w0, i64_of w1⟩⟩
  rw [e0, show [b] = [Value.int .i64 m1] from e1]; rfl
theorem steps_open {v : Value} {y : DataW T × List MemPlace} (h : DataW.trod enc PP w base spare held fuel tn_Slspatelaw10_Step [v] = some y) :
    ∃ (s : Sl) (L : List St0), v = s.enc ∧ Reads w.heap s 16 (L.flatMap c0) ∧ s.len <= s.cap ∧ (L ≠ [] -> ∀ b, s.blk = some b -> b < w.heap.size) ∧ (∀ x ∈ L, St0Ok w.heap x) ∧ L.length <= 9223372036854775807 :=
  gen_open c0 (St0Ok w.heap) c0_len ut_Slspatelaw10_Step (show PP.cellsOf tn_spatelaw10_Step = 16 from by kernel_rfl) (by omega) h fun n cs y hy hl => step0_open hy hl
end
section
variable {h0 h : H} {l : Sl} {L : List St0} {i : Nat} {x : St0}
theorem step0_at (rd : Reads h0 l 16 (L.flatMap c0)) (e : Ext h0 h) (hy : L[i]? = some x) {K : Addr -> Prop} (kk : ∀ a, Cells h a (c0 x) -> K a) : idxA l (i : Int) 16 K := by
  obtain ⟨p, p1, p2, p3⟩ := rd_at c0_len (by omega) (rd.ext e) hy
  have hl := rd_len c0_len (by omega) rd
  exact idxR_of (i := i) p1 (by have := (List.getElem?_eq_some_iff.1 hy).1; omega) rfl (kk _ p3)
theorem step0_cel {a : Addr} (c : Cells h a (c0 x)) : Cells h ((a.add 0).add 2) x.y.x.Cell.cells := fun i v hv => by
  have hi : i < 3 := (List.getElem?_eq_some_iff.1 hv).1
  have e : ((a.add 0).add 2).add i = a.add (2 + i) := by simp [Addr.add, Nat.add_assoc]
  rw [e]
  exact c (2 + i) v (by
    match i, hi, hv with
    | 0, _, hv => exact hv
    | 1, _, hv => exact hv
    | 2, _, hv => exact hv)
theorem step0_kind {a : Addr} (c : Cells h a (c0 x)) : cellH h ((a.add 0).add 0) = some (.int .i64 x.y.x.Kind) := by
  have e : (a.add 0).add 0 = a.add 0 := by simp [Addr.add]
  rw [e]; exact c 0 _ rfl
theorem St0Ok.key (o : St0Ok h x) : KeyOk x.y.x.Cell := by have := o.ok.cel.2.2; simp only [maxLen] at this; show x.y.x.Cell.Key.size <= _; omega
end
structure TI (base h : H) (p : Nat) (l : Sl) (ps : List Nat) (S : SL) (slots : Nat) : Prop where
  t : ∃ R, TS h p l ps S slots R ∧ ∀ b, R b -> base.size <= b
  e : Ext base h
  hp : base.size <= p
  hl : Mine base l
section
variable {base h h' : H} {p : Nat} {l : Sl} {ps : List Nat} {S : SL} {slots : Nat}
abbrev NOnly (base h h' : H) : Prop := SOnly (fun b => base.size <= b) h h'
theorem TI.keep {P : Nat -> Prop} (t : TI base h p l ps S slots) (e : Ext base h') (o : Only P h h') (hn : ∀ b, base.size <= b -> ShTy h b -> ¬ P b) (h1 : ¬ P p) (h2 : ∀ b, l.blk = some b -> ¬ P b) : TI base h' p l ps S slots := by
  obtain ⟨R, t1, hR⟩ := t.t
  exact ⟨⟨R, t1.keep o (fun b hb => hn b (hR b hb)) h1 h2, hR⟩, e, t.hp, t.hl⟩
theorem TI.ext (t : TI base h p l ps S slots) (e : Ext h h') : TI base h' p l ps S slots := t.keep (t.e.trans e) e (fun _ _ _ f => f) (fun f => f) fun _ _ f => f
theorem TI.ok (t : TI base h p l ps S slots) : SOk S := by obtain ⟨R, t1, _⟩ := t.t; exact t1.ok
theorem TI.n1 (t : TI base h p l ps S slots) : 1 <= ps.length := by obtain ⟨R, t1, _⟩ := t.t; exact t1.n1
theorem TI.n2 (t : TI base h p l ps S slots) : ps.length <= 16 := by obtain ⟨R, t1, _⟩ := t.t; exact t1.n2
theorem TI.sb (t : TI base h p l ps S slots) : Blk h p #[l.enc] tSt := by obtain ⟨R, t1, _⟩ := t.t; exact t1.sb
theorem TI.own (t : TI base h p l ps S slots) : Owns h l tPs 1 (ps.flatMap cQ) := by obtain ⟨R, t1, _⟩ := t.t; exact t1.own
theorem TI.oth (t : TI base h p l ps S slots) {s : Sl} {e : TypeId} {k : Nat} {cs : List Value} (o : Only (fun b => s.blk = some b) h h') (w : Owns h s e k cs) (he : ¬ ShE e ∧ e ≠ tSt ∧ e ≠ tPs) (m : Mine base s) : TI base h' p l ps S slots :=
  t.keep (t.e.mine m o) o (fun b _ ht hb => own_nsh w he.1 hb ht) (fun hb => own_ne w t.sb he.2.1 hb) fun b hb hs => own_diff t.own w (fun e => he.2.2 e.symm) hb hs
theorem NOnly.kp {m : Nat} {c : Array Value} {e : TypeId} (o : NOnly base h h') (b : Blk h m c e) (he : ¬ ShE e) : Blk h' m c e := o.block b fun hh => not_sh b he hh.2
theorem cel_sh' : ¬ ShE tn_api_Cell := by unfold ShE; decide
theorem set_len {α : Type} {key : α -> Cel} {x : α} : ∀ S : List α, (setK key S x).length <= S.length + 1
  | [] => by simp [setK]
  | y :: r => by
    unfold setK
    have := set_len (x := x) (key := key) r
    split
    · simp
    · split <;> simp <;> omega
theorem putS_len {S : SL} (e : Int) (c : Cel) (a : S_api_Agg) : (putS S e c a).length <= S.length + 1 := set_len _
theorem killS_len {S : SL} (e : Int) (c : Cel) : (killS S e c).length <= S.length + 1 := set_len _
abbrev putN (n : Nat) (S : SL) (slots : Nat) (e : Int) (c : Cel) (a : S_api_Agg) (b : Bool) : Int := putE (partS n (rt n c) S) slots e c a b
theorem INew {h : H} {m sl : Int} {Q : Option Addr -> Int -> H -> Prop} (h1 : 1 <= m) (h2 : m <= 16) (h3 : 2 <= sl) (h4 : sl <= 1048576) (k : ∀ h' p l ps, (ps.length : Int) = m -> TI h h' p l ps [] sl.toNat -> Q (some ⟨p, 0, none⟩) 0 h') : F.xaj m sl h Q :=
  TNew (fun g => by omega) fun _ _ _ _ h' p l ps R hps t e hR hp ml => k h' p l ps hps ⟨⟨R, t, hR⟩, e, hp, ml⟩
theorem IPut {e : Int} {x : S_api_Row} {b : Bool} {Q : Int -> H -> Prop} (t : TI base h p l ps S slots) (hk : KeyOk x.Cell) (hrt : RightIs x.Agg b)
    (k : ∀ h', TI base h' p l ps (if putN ps.length S slots e x.Cell x.Agg b = 0 then putS S e x.Cell x.Agg else S) slots -> NOnly base h h' -> Q (putN ps.length S slots e x.Cell x.Agg b) h') : F.xbn (some ⟨p, 0, none⟩) e x h Q := by
  obtain ⟨R, t1, hR⟩ := t.t
  refine TPut t1 hk hrt (fun g h' e' => ?_) fun g h' R' t' o hR' => ?_
  · have := k h'
    unfold putN at this
    rw [if_neg g] at this
    exact this (t.ext e') (SOnly.of e')
  · have := k h'
    unfold putN at this
    rw [if_pos g, g] at this
    have o' : NOnly base h h' := o.mono fun b _ hb => ⟨hR b hb.1, hb.2⟩
    exact this ⟨⟨R', t', fun b hb => (hR' b hb).elim (hR b) fun x => Nat.le_trans t.e.size x⟩, o.base t.e hR, t.hp, t.hl⟩ o'
theorem IKill {e : Int} {c : Cel} {Q : Int -> H -> Prop} (t : TI base h p l ps S slots) (hk : KeyOk c)
    (k : ∀ h', TI base h' p l ps (if killE S e c = 0 then killS S e c else S) slots -> NOnly base h h' -> Q (killE S e c) h') : F.xca (some ⟨p, 0, none⟩) e c h Q := by
  obtain ⟨R, t1, hR⟩ := t.t
  refine TKill t1 hk (fun g h' e' => ?_) fun g h' R' t' o hR' => ?_
  · have := k h'
    rw [if_neg g] at this
    exact this (t.ext e') (SOnly.of e')
  · have := k h'
    rw [if_pos g, g] at this
    have o' : NOnly base h h' := o.mono fun b _ hb => ⟨hR b hb.1, hb.2⟩
    exact this ⟨⟨R', t', fun b hb => (hR' b hb).elim (hR b) fun x => Nat.le_trans t.e.size x⟩, o.base t.e hR, t.hp, t.hl⟩ o'
theorem IRoute {c : Cel} {Q : Int -> H -> Prop} (t : TI base h p l ps S slots) (hk : KeyOk c) (k : ∀ h', Ext h h' -> Q ((rt ps.length c : Nat) : Int) h') : F.xaz (some ⟨p, 0, none⟩) c.Key h Q := by
  obtain ⟨R, t1, _⟩ := t.t; exact TRoute t1 hk k
theorem IUnits {i : Int} {Q : Int -> H -> Prop} (t : TI base h p l ps S slots) (k : Q (unitsS (partX ps.length i S) : Int) h) : F.xbg (some ⟨p, 0, none⟩) i h Q := by
  obtain ⟨R, t1, _⟩ := t.t; exact TUnits t1 k
theorem IRange {i e most : Int} {fr to : Cel} {Q : Sl -> H -> Prop} (t : TI base h p l ps S slots)
    (k : ∀ r h', Owns h' r tn_api_Row 7 (((rangeS (partX ps.length i S) e fr to).take most.toNat).flatMap cW) -> Mine h r -> Ext h h' -> Q r h') : F.xby (some ⟨p, 0, none⟩) i e fr to most h Q := by
  obtain ⟨R, t1, _⟩ := t.t; exact TRange t1 k
theorem range_at {S : SL} (hok : SOk S) {e : Int} {fr to : Cel} {r : S_api_Row} (hr : r ∈ rangeS S e fr to) : okC r.Cell = 0 ∧ atS S r.Cell e = r.Agg ∧ cmpC fr r.Cell <= 0 ∧ cmpC r.Cell to < 0 := by
  unfold rangeS at hr
  obtain ⟨y, hy, rfl⟩ := List.mem_map.1 hr
  obtain ⟨hy, hin⟩ := List.mem_filter.1 hy
  have h0 := (hok.ok y hy).1
  have h1 : getS S y.1 = some y.2 := by
    have := getK_mem (key := fun x : Cel × List Ver => x.1) hok.sort hy
    unfold getS; rw [this]; rfl
  unfold inS at hin
  simp only [Bool.and_eq_true, decide_eq_true_eq] at hin
  refine ⟨h0, ?_, hin.2.1, hin.2.2⟩
  unfold atS rowS
  rw [if_neg (by simp only; omega)]
  simp only [h1]
end
structure TabI (h3 hh : H) (l8 : Sl) (ss : List Sl) (f : Nat -> List S_api_Row) : Prop where
  w : Owns hh l8 tn_Slapi_Row 1 (ss.flatMap V.cS8)
  mi : Mine h3 l8
  rows : ∀ (j : Nat) s, ss[j]? = some s -> Owns hh s tn_api_Row 7 ((f j).flatMap cW)
section
variable {h3 hh h18 : H} {l8 : Sl} {ss : List Sl} {f : Nat -> List S_api_Row}
theorem TabI.nil : TabI h3 hh ⟨none, 0, 0⟩ [] f := ⟨by simpa using Owns.nil hh tn_Slapi_Row 1, fun y hy => by simp [Sl.blk] at hy, fun j s hs => by simp at hs⟩
theorem TabI.ext (v : TabI h3 hh l8 ss f) (e : Ext hh h18) : TabI h3 h18 l8 ss f := ⟨v.w.ext e, v.mi, fun j s hs => (v.rows j s hs).ext e⟩
theorem TabI.sonly {R : Nat -> Prop} (v : TabI h3 hh l8 ss f) (o : SOnly R hh h18) : TabI h3 h18 l8 ss f := ⟨o.owns v.w slrow_sh, v.mi, fun j s hs => o.owns (v.rows j s hs) row_sh⟩
theorem TabI.oth (v : TabI h3 hh l8 ss f) {s : Sl} {e : TypeId} {k : Nat} {cs : List Value} (o : Only (fun b => s.blk = some b) hh h18) (w : Owns hh s e k cs) (h1 : e ≠ tn_Slapi_Row) (h2 : e ≠ tn_api_Row) : TabI h3 h18 l8 ss f :=
  ⟨V.own_typ v.w o w (fun e => h1 e.symm), v.mi, fun j s hs => V.own_typ (v.rows j s hs) o w (fun e => h2 e.symm)⟩
theorem TabI.push (v : TabI h3 hh l8 ss f) (ee : Ext h3 hh) (hn : ss.length < 100000) {t : TypeId} (el : El PP t tn_Slapi_Row 1 24 (⟨none, 0, 0⟩ : Sl).enc) {r : Sl} (e18 : Ext hh h18) (w18 : Owns h18 r tn_api_Row 7 ((f ss.length).flatMap cW)) {K : Sl -> H -> Prop}
    (k : ∀ r3 h22, TabI h3 h22 r3 (ss ++ [r]) f -> Ext h3 h22 -> Owns h18 l8 tn_Slapi_Row 1 (ss.flatMap V.cS8) -> Only (fun b => l8.blk = some b) h18 h22 -> K r3 h22) : newL h18 #[r.enc] tn_Slapi_Row 1 fun s h20 => runL PP (Builtin.append_ #[t, t] t #[l8.enc, s.enc]) h20 K := by
  refine newL_of fun m2 h20 hm2 b20 e20 s20 => ?_
  have r20 : Reads h20 ⟨some ⟨m2, 0, none⟩, 1, 1⟩ 1 ([r].flatMap V.cS8) := blk_reads (by simpa using b20) rfl
  have w20 := (v.w.ext e18).ext e20
  refine app_list (L := ss) (M := [r]) V.cS8_len (by omega) el w20 r20 (fun x v hv => by simp at hv; subst hv; rfl) (by simp only [List.length_singleton]; omega) fun r3 h22 w3 o3 n3 => ?_
  have hsz18 := e18.size
  have hsz20 := e20.size
  have hsz := ee.size
  have m3 : Mine h3 r3 := fun y hy => by
    rcases n3 with n3 | ⟨b', n3, n4⟩
    · exact v.mi y (by rw [← n3]; exact hy)
    · rw [n3] at hy; cases hy; omega
  refine k r3 h22 ⟨w3, m3, fun j s hs => ?_⟩ (((ee.trans e18).trans e20).mine v.mi o3) (v.w.ext e18) (Only.trans (S := fun b => l8.blk = some b) (Ext.only e20) o3 fun n _ g => g)
  rcases Nat.lt_or_ge j ss.length with hj | hj
  · rw [List.getElem?_append_left hj] at hs
    exact V.own_typ (((v.rows j s hs).ext e18).ext e20) o3 w20 (by decide)
  · have hj2 : j = ss.length := by
      have := (List.getElem?_eq_some_iff.1 hs).1
      rw [List.length_append, List.length_singleton] at this; omega
    subst hj2
    rw [List.getElem?_append_right (by omega), Nat.sub_self] at hs
    cases hs
    exact V.own_typ (w18.ext e20) o3 w20 (by decide)
end
theorem all_spec10 {h : H} {Q : S_api_Cell -> S_api_Cell -> H -> Prop} (k : ∀ h', Ext h h' -> Q loC hiC h') : F.xcj h Q := by
  unfold F.xcj
  refine new_of fun n h1 hm1 b1 e1 s1 => new_of fun m h3 hm3 b3 e3 s3 => ?_
  have b1' : Blk h3 n zeroC.cells.toArray tn_api_Cell := e3.block b1 fun f => f
  refine st_cel b1' (d := loC) fun h5 b5 o5 s5 => ?_
  have b3' : Blk h5 m zeroC.cells.toArray tn_api_Cell := o5.block b3 (by omega)
  refine st_cel b3' (d := hiC) fun h6 b6 o6 s6 => ⟨loC, Blk.cells (e := tn_api_Cell) (o6.block b5 (by omega)), hiC, b6.cells, k h6 (((e1.trans e3).step o5 fun x hx g => by omega).step o6 fun x hx g => by omega)⟩
theorem intAtC {h : H} {s : Sl} {A : List Int} (rd : Reads h s 1 (A.flatMap cI)) {i : Nat} {x : Int} (hx : A[i]? = some x) {K : Addr -> Prop} (k : ∀ a, cellH h a = some (.int .i64 x) -> K a) : idxA s (i : Int) 1 K := by
  obtain ⟨p, p1, p2, p3⟩ := rd_at cI_len (by omega) rd hx
  have hl := rd_len cI_len (by omega) rd
  exact idxR_of (i := i) p1 (by have := (List.getElem?_eq_some_iff.1 hx).1; omega) rfl (k _ p3.one)
theorem int_sh' : ¬ ShE tn_int := by unfold ShE; decide
theorem key_ok {c : Cel} (h : okC c = 0) : KeyOk c := by
  unfold okC at h
  split at h
  · omega
  · split at h
    · omega
    · show c.Key.size <= _; omega
theorem row_key {h : H} {a : Addr} {x : S_api_Row} (c : Cells h a (cW x)) : cellH h ((a.add 0).add 1) = some (.string x.Cell.Key) := by
  have e : (a.add 0).add 1 = a.add 1 := by simp [Addr.add]
  rw [e]; exact c 1 _ rfl
theorem StoreApart_spec {sh : Int} {l0 : Sl} {L : List St0} {h : H} {Q : Bool -> H -> Prop} (rd : Reads h l0 16 (L.flatMap c0)) (ok : ∀ y ∈ L, St0Ok h y) (hL : L.length <= 9223372036854775807) (k : ∀ h', Ext h h' -> Q true h') : F.xaa sh l0 h Q := by
  unfold F.xaa
  have hlen := rd_len c0_len (by omega) rd
  refine within_spec (by omega) (by omega) ?_
  have wr := within_range (a := sh) (m := 16) (by omega)
  generalize withinM sh 16 = w at wr ⊢
  rw [w64 (by omega) (by omega)]
  refine INew (by omega) (by omega) (by omega) (by omega) fun h9 p l ps hps t9 => ⟨fun g => by simp at g, fun _ => ?_⟩
  unfold F.xaa.j14 F.xaa.j1
  refine ⟨fun g => by simp at g, fun _ => all_spec10 fun h6 e6 => new_of fun n8 h10 hm10 b10 e10 s10 => new_of fun n9 h11 hm11 b11 e11 s11 => ?_⟩
  have t6 := t9.ext e6
  have z6 := t6.e.size
  have b10' : Blk h11 n8 zeroC.cells.toArray tn_api_Cell := e11.block b10 fun f => f
  refine st_cel b10' (d := loC) fun h13 b13 o13 s13 => ?_
  have b11' : Blk h13 n9 zeroC.cells.toArray tn_api_Cell := o13.block b11 (by omega)
  refine st_cel b11' (d := hiC) fun h14 b14 o14 s14 => ⟨L.length + 1, ?_⟩
  have e14 : Ext h6 h14 := ((e10.trans e11).step o13 fun x hx g => by omega).step o14 fun x hx g => by omega
  have hn : (ps.length : Int) = 1 + w := hps
  have n16 := t9.n2
  have steps : ∀ (d i : Nat) (S : SL) (hh : H), i <= L.length -> L.length - i < d -> TI h hh p l ps S 300 -> Blk hh n8 loC.cells.toArray tn_api_Cell -> Blk hh n9 hiC.cells.toArray tn_api_Cell -> S.length <= i ->
      F.xaa.l2 Q d l0 (1 + w) (some ⟨p, 0, none⟩) ⟨n8, 0, none⟩ ⟨n9, 0, none⟩ (i : Int) hh := by
    intro d
    induction d with
    | zero => intro i _ _ _ hm; omega
    | succ d ih =>
      intro i S hh hi hm t q8 q9 hS
      unfold F.xaa.l2
      rw [hlen]
      have eh := t.e
      have done : ∀ C1, F.xaa.j13 Q C1 l0 (1 + w) (some ⟨p, 0, none⟩) ⟨n8, 0, none⟩ ⟨n9, 0, none⟩ (i : Int) false hh := fun C1 => by
        unfold F.xaa.j13
        exact ⟨fun g => (by cases g), fun _ => head10 fun h' e' => k h' (eh.trans e')⟩
      refine ⟨fun gg => ?_, fun _ => done _⟩
      have gg := of_decide_eq_true gg
      by_cases g40 : (i : Int) < 40
      · rw [decide_eq_true g40]
        obtain ⟨y, hy⟩ : ∃ y, L[i]? = some y := ⟨_, List.getElem?_eq_getElem (by omega)⟩
        have yok := ok y (List.mem_of_getElem? hy)
        have hc0 := few_ok y.y.x.Cell
        have hck := few_key y.y.x.Cell
        unfold F.xaa.j13 F.xaa.j3
        refine ⟨fun _ => ⟨ps.length + 1, ?_⟩, fun g => (by cases g)⟩
        have fld : ∃ f : Nat -> List S_api_Row, f = fun j => (rangeS (partS ps.length j S) 0 loC hiC).take 500 := ⟨_, rfl⟩
        obtain ⟨f, hf⟩ := fld
        -- behind the table: the step, and what is told then
        have after : ∀ (h2 : H) (l8 l9 : Sl) (ss : List Sl), TI h h2 p l ps S 300 -> TabI hh h2 l8 ss f -> ss.length = ps.length -> Owns h2 l9 tn_int 1 (((List.range ps.length).map fun j => (unitsS (partS ps.length j S) : Int)).flatMap cI) -> Blk h2 n8 loC.cells.toArray tn_api_Cell -> Blk h2 n9 hiC.cells.toArray tn_api_Cell ->
            idxA l0 (i : Int) 16 fun a32 => ld_S_api_Cell h2 ((a32.add 0).add 2) fun y34 => F.xbd y34 h2 fun r37 h36 => new h36 (((⟨0, (⟨#[]⟩ : ByteArray), 0⟩ : S_api_Cell) : S_api_Cell).cells.toArray) tn_api_Cell fun a39 h38 => stH h38 a39 r37.cells fun h40 => ldS h40 (a39.add 1) fun y41 =>
              F.xaz (some ⟨p, 0, none⟩) y41 h40 fun r44 h43 => idxA l0 (i : Int) 16 fun a80 => ldI .i64 h43 ((a80.add 0).add 0) fun y82 => F.xay y82 4 h43 fun r85 h84 =>
                (((r85 == 0)) = true -> ld_S_api_Cell h84 a39 fun y87 => F.xca (some ⟨p, 0, none⟩) 1 y87 h84 fun r90 h89 => F.xaa.j6 Q (F.xaa.l2 Q d) l0 (1 + w) (some ⟨p, 0, none⟩) ⟨n8, 0, none⟩ ⟨n9, 0, none⟩ (i : Int) l8 l9 r44 h89) ∧
                (((r85 == 0)) = false -> ld_S_api_Cell h84 a39 fun y91 => F.xbs 5 h84 fun r94 h93 => Cells h93 a39 y91.cells ∧ F.xbn (some ⟨p, 0, none⟩) 1 (⟨y91, r94⟩ : S_api_Row) h93 fun r97 h96 => F.xaa.j6 Q (F.xaa.l2 Q d) l0 (1 + w) (some ⟨p, 0, none⟩) ⟨n8, 0, none⟩ ⟨n9, 0, none⟩ (i : Int) l8 l9 r44 h96) := fun h2 l8 l9 ss t2 v hss wu u8 u9 => by
          refine step0_at rd t2.e hy fun a ca => ⟨y.y.x.Cell, step0_cel ca, few_spec yok.key fun h36 e36 => new_of fun m h38 hm38 b38 e38 s38 => ?_⟩
          generalize hcd : fewC y.y.x.Cell = c at hc0 hck ⊢
          have b38' : Blk h38 m zeroC.cells.toArray tn_api_Cell := b38
          refine st_cel b38' (d := c) fun h40 b40 o40 s40 => ?_
          have x40 : Ext h2 h40 := (e36.trans e38).step o40 fun x hx g => by have := e36.size; omega
          have t40 := t2.ext x40
          have c41 : cellH h40 ⟨m, 1, none⟩ = some (.string c.Key) := Blk.cells b40 1 _ rfl
          simp only [add_lit, Nat.zero_add]
          refine ldS_of c41 (IRoute t40 hck fun h43 e43 => step0_at rd (t40.ext e43).e hy fun a2 ca2 => ldI_of (step0_kind ca2) (within_spec (by omega) (by omega) ?_))
          have t43 := t40.ext e43
          have x43 := x40.trans e43
          -- the shards behind the step
          have shards : ∀ (S' : SL) (h3 : H), TI h h3 p l ps S' 300 -> NOnly h h43 h3 -> S'.length <= i + 1 -> (∀ j, j ≠ rt ps.length c -> partS ps.length j S' = partS ps.length j S) -> F.xaa.j6 Q (F.xaa.l2 Q d) l0 (1 + w) (some ⟨p, 0, none⟩) ⟨n8, 0, none⟩ ⟨n9, 0, none⟩ (i : Int) l8 l9 ((rt ps.length c : Nat) : Int) h3 := fun S' h3 t3 o3 hS' oth => by
            unfold F.xaa.j6
            refine ⟨ps.length + 1, ?_⟩
            have v3 := (v.ext x43).sonly o3
            have wu3 : Owns h3 l9 tn_int 1 (((List.range ps.length).map fun j => (unitsS (partS ps.length j S) : Int)).flatMap cI) := o3.owns (wu.ext x43) int_sh'
            have u83 : Blk h3 n8 loC.cells.toArray tn_api_Cell := NOnly.kp o3 (x43.block u8 fun f => f) cel_sh'
            have u93 : Blk h3 n9 hiC.cells.toArray tn_api_Cell := NOnly.kp o3 (x43.block u9 fun f => f) cel_sh'
            have hrt := rt_lt (show 0 < ps.length by have := t.n1; omega) c
            have loop : ∀ (d2 j : Nat) (h4 : H), j <= ps.length -> ps.length - j < d2 -> Ext h3 h4 -> F.xaa.l7 Q (F.xaa.l2 Q d) d2 l0 (1 + w) (some ⟨p, 0, none⟩) ⟨n8, 0, none⟩ ⟨n9, 0, none⟩ (i : Int) l8 l9 ((rt ps.length c : Nat) : Int) (j : Int) h4 := by
              intro d2
              induction d2 with
              | zero => intro j _ _ hm; omega
              | succ d2 ih2 =>
                intro j h4 hj hm2 x4
                unfold F.xaa.l7
                refine ⟨fun g => ?_, fun g => ?_⟩
                · have g := of_decide_eq_true g
                  have t4 := t3.ext x4
                  refine ⟨loC, (Blk.cells u83).ext x4, hiC, (Blk.cells u93).ext x4, IRange t4 fun r h50 w50 m50 e50 => ?_⟩
                  rw [partX_nat (by omega)] at w50
                  have x50 := x4.trans e50
                  have t50 := t4.ext e50
                  have Ydef : ∃ Y, Y = (rangeS (partS ps.length j S') 0 loC hiC).take (500 : Int).toNat := ⟨_, rfl⟩
                  obtain ⟨Y, hY⟩ := Ydef
                  rw [← hY] at w50
                  have hYl : Y.length <= 500 := by rw [hY, List.length_take]; exact Nat.min_le_left _ _
                  have hYm : ∀ r ∈ Y, okC r.Cell = 0 ∧ rt ps.length r.Cell = j := fun r hr => by
                    rw [hY] at hr
                    have hr := List.mem_of_mem_take hr
                    refine ⟨(range_at (part_ok t3.ok) hr).1, ?_⟩
                    rw [part_range] at hr
                    exact of_decide_eq_true (List.mem_filter.1 hr).2
                  have hly := own_len cW_len (by omega) w50
                  -- its rows are its own
                  have own : ∀ h5, Ext h50 h5 -> F.xaa.j11 Q (F.xaa.l2 Q d) (F.xaa.l7 Q (F.xaa.l2 Q d) d2) l0 (1 + w) (some ⟨p, 0, none⟩) ⟨n8, 0, none⟩ ⟨n9, 0, none⟩ (i : Int) l8 l9 ((rt ps.length c : Nat) : Int) (j : Int) r false h5 := fun h5 x5 => by
                    unfold F.xaa.j11 F.xaa.j9
                    refine ⟨fun g => (by cases g), fun _ => ⟨Y.length + 1, ?_⟩⟩
                    have rows : ∀ (d3 a : Nat) (h6 : H), a <= Y.length -> Y.length - a < d3 -> Ext h50 h6 -> F.xaa.l10 Q (F.xaa.l2 Q d) (F.xaa.l7 Q (F.xaa.l2 Q d) d2) d3 l0 (1 + w) (some ⟨p, 0, none⟩) ⟨n8, 0, none⟩ ⟨n9, 0, none⟩ (i : Int) l8 l9 ((rt ps.length c : Nat) : Int) (j : Int) r (a : Int) h6 := by
                      intro d3
                      induction d3 with
                      | zero => intro a _ _ hm; omega
                      | succ d3 ih3 =>
                        intro a h6 ha hm3 x6
                        unfold F.xaa.l10
                        rw [hly]
                        refine ⟨fun g => ?_, fun g => ?_⟩
                        · have g := of_decide_eq_true g
                          obtain ⟨q, hq⟩ : ∃ q, Y[a]? = some q := ⟨_, List.getElem?_eq_getElem (by omega)⟩
                          obtain ⟨q1, q2⟩ := hYm q (List.mem_of_getElem? hq)
                          refine rowAt (w50.ext x6).reads hq fun b cb => ldS_of (row_key cb) (IRoute (t50.ext x6) (key_ok q1) fun h58 e58 => ?_)
                          rw [q2]
                          refine ⟨fun g => by simp at g, fun _ => ?_⟩
                          rw [w64 (by omega) (by omega)]
                          exact ih3 (a + 1) h58 (by omega) (by omega) (x6.trans e58)
                        · unfold F.xaa.j8
                          rw [w64 (by omega) (by omega)]
                          exact ih2 (j + 1) h6 (by omega) (by omega) (x50.trans x6)
                    exact rows _ 0 h5 (by omega) (by omega) x5
                  refine ⟨fun gne => ?_, fun _ => own h50 (.refl _)⟩
                  have gne : j ≠ rt ps.length c := fun e => by rw [e] at gne; simp at gne
                  have hsj : ∃ s, ss[j]? = some s := ⟨_, List.getElem?_eq_getElem (by omega)⟩
                  obtain ⟨s, hs⟩ := hsj
                  have v50 := v3.ext x50
                  refine tab_at v50.w.reads hs ?_
                  have ws := v50.rows j s hs
                  rw [hf] at ws
                  simp only at ws
                  have hsame : Y = (rangeS (partS ps.length j S) 0 loC hiC).take 500 := by rw [hY, oth j gne]; rfl
                  refine SameRows_spec w50.reads ws.reads (by omega) (fun _ => ?_) fun hne => absurd hsame hne
                  refine ⟨fun g => by simp at g, fun _ => ?_⟩
                  refine intAtC (i := j) (x := (unitsS (partS ps.length j S) : Int)) (wu3.ext x50).reads (by rw [List.getElem?_map, List.getElem?_range (by omega)]; rfl) fun a ca => ldI_of ca (IUnits t50 ⟨ca, ?_⟩)
                  rw [partX_nat (by omega), oth j gne]
                  simpa using own h50 (.refl _)
                · have g := of_decide_eq_false g
                  have fin : F.xaa.j12 Q (F.xaa.l2 Q d) l0 (1 + w) (some ⟨p, 0, none⟩) ⟨n8, 0, none⟩ ⟨n9, 0, none⟩ (i : Int) false h4 := by
                    unfold F.xaa.j12 F.xaa.j4
                    refine ⟨fun g => (by cases g), fun _ => ?_⟩
                    rw [w64 (by omega) (by omega)]
                    exact ih (i + 1) S' h4 (by omega) (by omega) (t3.ext x4) (x4.block u83 fun f => f) (x4.block u93 fun f => f) (by omega)
                  refine ⟨fun g => by have := of_decide_eq_true g; omega, fun _ => ?_⟩
                  rw [decide_eq_false (by omega)]
                  exact fin
            exact loop _ 0 h3 (by omega) (by omega) (.refl _)
          refine ⟨fun _ => ⟨c, (Blk.cells b40).ext e43, IKill t43 hck fun h89 t89 o89 => shards _ h89 t89 o89 ?_ fun j hj => ?_⟩, fun _ => ⟨c, (Blk.cells b40).ext e43, one_spec fun h93 e93 => ⟨((Blk.cells b40).ext e43).ext e93, IPut (x := ⟨c, oneA 5⟩) (t43.ext e93) hck (right_one' 5) fun h96 t96 o96 => shards _ h96 t96 (SOnly.trans (SOnly.of e93) o96) ?_ fun j hj => ?_⟩⟩⟩
          · split
            · have := killS_len (S := S) 1 c; omega
            · omega
          · split
            · exact kill_other t.ok.sort _ _ hj
            · rfl
          · split
            · have := putS_len (S := S) 1 c (oneA 5); simp only at this ⊢; omega
            · omega
          · split
            · exact put_other t.ok.sort _ _ _ hj
            · rfl
        -- the table of what was told
        have table : ∀ (d2 j : Nat) (h2 : H) (l8 l9 : Sl) (ss : List Sl), j <= ps.length -> ps.length - j < d2 -> ss.length = j -> TI h h2 p l ps S 300 -> Ext hh h2 -> TabI hh h2 l8 ss f -> Owns h2 l9 tn_int 1 (((List.range j).map fun j => (unitsS (partS ps.length j S) : Int)).flatMap cI) -> Mine hh l9 -> Blk h2 n8 loC.cells.toArray tn_api_Cell -> Blk h2 n9 hiC.cells.toArray tn_api_Cell ->
            F.xaa.l5 Q (F.xaa.l2 Q d) d2 l0 (1 + w) (some ⟨p, 0, none⟩) ⟨n8, 0, none⟩ ⟨n9, 0, none⟩ (i : Int) l8 l9 (j : Int) h2 := by
          intro d2
          induction d2 with
          | zero => intro j _ _ _ _ _ hm; omega
          | succ d2 ih2 =>
            intro j h2 l8 l9 ss hj hm2 hss t2 x2 v wu mu u8 u9
            unfold F.xaa.l5
            have zz := eh.size
            refine ⟨fun g => ?_, fun g => ?_⟩
            · have g := of_decide_eq_true g
              refine ⟨loC, u8.cells, hiC, u9.cells, IRange t2 fun r h20 w20 m20 e20 => ?_⟩
              rw [partX_nat (by omega)] at w20
              refine v.push x2 (by omega) el_SlSlapi_Row e20 (by rw [hss, hf]; exact w20) fun r3 h24 v3 x24 wl ol => ?_
              have t24 : TI h h24 p l ps S 300 := (t2.ext e20).oth ol wl ⟨slrow_sh, by decide, by decide⟩ fun x hx => by have := v.mi x hx; omega
              have z2 := x2.size
              have z24 := x24.size
              have u824 : Blk h24 n8 loC.cells.toArray tn_api_Cell := x24.block q8 fun f => f
              have u924 : Blk h24 n9 hiC.cells.toArray tn_api_Cell := x24.block q9 fun f => f
              have wu24 : Owns h24 l9 tn_int 1 (((List.range j).map fun j => (unitsS (partS ps.length j S) : Int)).flatMap cI) := V.own_typ (wu.ext e20) ol wl (by decide)
              refine IUnits t24 ?_
              rw [partX_nat (by omega)]
              refine newL_of fun m2 h28 hm28 b28 e28 s28 => ?_
              have r28 : Reads h28 ⟨some ⟨m2, 0, none⟩, 1, 1⟩ 1 ([(unitsS (partS ps.length j S) : Int)].flatMap cI) := blk_reads (by simpa using b28) rfl
              have wu28 := wu24.ext e28
              refine app_list (L := (List.range j).map fun j => (unitsS (partS ps.length j S) : Int)) (M := [(unitsS (partS ps.length j S) : Int)]) cI_len (by omega) el_Slint wu28 r28 (fun x v hv => by simp at hv; subst hv; rfl) (by simp; omega) fun r4 h30 w4 o4 n4 => ?_
              have m4 : Mine hh r4 := fun x hx => by
                rcases n4 with n4 | ⟨b', n4, n5⟩
                · exact mu x (by rw [← n4]; exact hx)
                · rw [n4] at hx; cases hx; have := e28.size; omega
              have x30 : Ext hh h30 := (x24.trans e28).mine mu o4
              have t30 : TI h h30 p l ps S 300 := (t24.ext e28).oth o4 wu28 ⟨int_sh', by decide, by decide⟩ fun x hx => by have := mu x hx; omega
              rw [w64 (by omega) (by omega)]
              refine ih2 (j + 1) h30 r3 r4 (ss ++ [r]) (by omega) (by omega) (by simp [hss]) t30 x30 ((v3.ext e28).oth o4 wu28 (by decide) (by decide)) (by rw [List.range_succ, List.map_append]; exact w4) m4 (x30.block q8 fun f => f) (x30.block q9 fun f => f)
            · have g := of_decide_eq_false g
              have hjn : j = ps.length := by omega
              subst hjn
              exact after h2 l8 l9 ss t2 v hss wu u8 u9
        exact table _ 0 hh ⟨none, 0, 0⟩ ⟨none, 0, 0⟩ [] (by omega) (by omega) rfl t (.refl _) .nil (by simpa using Owns.nil hh tn_int 1) (fun x hx => by simp [Sl.blk] at hx) q8 q9
      · rw [decide_eq_false g40]; exact done _
  exact steps _ 0 [] h14 (by omega) (by omega) (t6.ext e14) (o14.block b13 (by omega)) b14 (by simp)
end Go.Proofs.YtjjchpaomgmmdaaGreat.V.S
