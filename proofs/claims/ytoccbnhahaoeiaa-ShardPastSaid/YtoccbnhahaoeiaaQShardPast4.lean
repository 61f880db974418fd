/- Parts of the proof of ShardPast; no condition. -/
import Derived.ArgAppend
import Derived.ChangeSlices
import Derived.OpenShut
import Derived.Test.YtoccbnhahaoeiaaQShardPast3
namespace Go.Proofs.Ytoccbnhahaoeiaa.V.S
open Go Go.Proofs.Ytoccbnhahaoeiaa.V
set_option linter.unusedVariables false
set_option linter.unusedSimpArgs false
set_option maxRecDepth 20000
/-- What agg.Right tells of an aggregate. -/
def RightIs (a : S_api_Agg) (b : Bool) : Prop := ∀ (h : H) (Q : Bool → H → Prop), (∀ h', Ext h h' → Q b h') → F.agg_Right a h Q
def putE (S : SL) (slots : Nat) (e : Int) (c : Cel) (a : S_api_Agg) (rt : Bool) : Int :=
  if okC c ≠ 0 then okC c else if e < 1 ∨ e > 1099511627776 ∨ a.Count = 0 ∨ rt = false then 1 else if (C.newestM ((getS S c).getD [])).2.1 > e then 32 else if (unitsS S : Int) + needS S e c > slots then 31 else 0
def putS (S : SL) (e : Int) (c : Cel) (a : S_api_Agg) : SL := setS S c (C.layM ((getS S c).getD []) ⟨e, a, false⟩)
def killE (S : SL) (e : Int) (c : Cel) : Int :=
  if okC c ≠ 0 then okC c else if e < 1 ∨ e > 1099511627776 then 1 else match getS S c with
  | none => 44
  | some vs => if (C.newestM vs).2.1 > e then 32 else if alive vs = false then 44 else 0
def killS (S : SL) (e : Int) (c : Cel) : SL := setS S c (C.layM ((getS S c).getD []) ⟨e, zA, true⟩)
theorem getS_ne {S : SL} (h : SOk S) {c : Cel} : ∀ vs, getS S c = some vs → VOk vs := fun vs hg => by
  unfold getS at hg
  cases hx : getK (fun x : Cel × List Ver => x.1) S c with
  | none => rw [hx] at hg; cases hg
  | some x =>
    rw [hx] at hg; cases hg
    exact (h.ok x (getK_some hx).1).2
theorem put_units {S : SL} (h : SOk S) {e : Int} {c : Cel} {a : S_api_Agg} (hc : okC c = 0) (hn : ¬ (C.newestM ((getS S c).getD [])).2.1 > e) :
    (unitsS (putS S e c a) : Int) = unitsS S + needS S e c ∧ (thereS (putS S e c a) : Int) = thereS S + (1 - aliveN ((getS S c).getD [])) ∧ needS S e c = C.layN ((getS S c).getD []) ⟨e, a, false⟩ + (1 - aliveN ((getS S c).getD [])) := by
  have h1 := set_units h.sort c (C.layM ((getS S c).getD []) ⟨e, a, false⟩)
  have h2 := set_there h.sort c (C.layM ((getS S c).getD []) ⟨e, a, false⟩)
  have h3 := lay_units ((getS S c).getD []) ⟨e, a, false⟩
  have h4 := lay_alive ((getS S c).getD []) ⟨e, a, false⟩
  have h5 := units_eq ((getS S c).getD [])
  have h6 := need_lay (getS S c) e ⟨e, a, false⟩ rfl rfl hn fun vs hv => (getS_ne h vs hv).ne
  have h7 : needS S e c = needV (getS S c) e := by unfold needS; rw [if_neg (fun h => h hc)]
  simp only [Bool.false_eq_true, if_false] at h3 h4
  unfold putS
  rw [h7]
  refine ⟨by omega, by omega, by omega⟩
theorem mayM_ok {vs : List Ver} {e : Int} (h1 : 1 ≤ e) (h2 : e ≤ 1099511627776) : C.mayM vs e = if vs ≠ [] ∧ e < (C.newestM vs).2.1 then 32 else 0 := by
  unfold C.mayM
  rw [if_neg (by omega), lastE_newest]
section
variable {h : H} {n : Nat} {S : SL} {slots : Nat} {R : Nat → Prop}
theorem Put_spec {e : Int} {x : S_api_Row} {rt : Bool} {Q : Int → H → Prop} (s : SH h n S slots R) (hrt : RightIs x.Agg rt) (hR : ∀ b, h.size ≤ b → R b)
    (k0 : putE S slots e x.Cell x.Agg rt ≠ 0 → ∀ h', Ext h h' → Q (putE S slots e x.Cell x.Agg rt) h')
    (k1 : putE S slots e x.Cell x.Agg rt = 0 → ∀ h', SH h' n (putS S e x.Cell x.Agg) slots R → SOnly R h h' → Q 0 h') : F.shard_Shard_Put (some ⟨n, 0, none⟩) e x h Q := by
  have sok := s.ok
  obtain ⟨tn, rs, es, T, Z, hZ, z⟩ := s
  obtain ⟨c, a⟩ := x
  simp only at hrt k0 k1
  unfold F.shard_Shard_Put
  refine new_of fun m h1 hm b1 e1 s1 => ?_
  have rc : Cells h1 ⟨m, 0, none⟩ (c.cells ++ a.cells) := Blk.cells b1
  simp only [add_lit, Nat.zero_add, Nat.add_zero]
  have ra : ∀ {hh : H}, Ext h1 hh → Cells hh ⟨m, 3, none⟩ a.cells := fun ee => (cells_r rc : Cells h1 ⟨m, 0 + 3, none⟩ a.cells).ext ee
  have rcc : ∀ {hh : H}, Ext h1 hh → Cells hh ⟨m, 0, none⟩ c.cells := fun ee => (cells_l rc).ext ee
  refine ⟨c, rcc (.refl _), ?_⟩
  unfold putE at k0 k1
  refine key_spec (fun g h2 e2 => ⟨fun _ => ?_, fun g2 => absurd (by simpa using g2) g⟩) fun g h2 e2 => ⟨fun g2 => by simp at g2, fun _ => ?_⟩
  · rw [if_pos g] at k0; exact k0 g h2 (e1.trans e2)
  rw [if_neg (fun h => h g)] at k0 k1
  have e02 := e1.trans e2
  have a0 : ∀ {hh : H}, Ext h1 hh → cellH hh ⟨m, 3, none⟩ = some (.int .i64 a.Count) := fun ee => ra ee 0 _ rfl
  -- a bad argument
  have bad : ∀ {hh : H}, Ext h hh → (e < 1 ∨ e > 1099511627776 ∨ a.Count = 0 ∨ rt = false) → F.shard_Shard_Put.j4 Q (some ⟨n, 0, none⟩) e ⟨m, 0, none⟩ (keyB c) true hh := fun ee hb => by
    unfold F.shard_Shard_Put.j4
    refine ⟨fun _ => ?_, fun h => by cases h⟩
    rw [if_pos hb] at k0
    exact k0 (by decide) _ ee
  -- the last step: a chain that is there is written
  have j1 : ∀ h3, Ext h2 h3 → 1 ≤ e → e ≤ 1099511627776 → a.Count ≠ 0 → rt = true → F.shard_Shard_Put.j1 Q (some ⟨n, 0, none⟩) e ⟨m, 0, none⟩ (keyB c) h3 := by
    intro h3 e3 he1 he2 hac hrt1
    rw [if_neg (by rintro (h | h | h | h)
                   · omega
                   · omega
                   · exact hac h
                   · rw [hrt1] at h; cases h)] at k0 k1
    have e03 := e02.trans e3
    have z3 := z.ext e03
    unfold F.shard_Shard_Put.j1
    simp only [nn_some, add_lit, Nat.zero_add, Nat.add_zero]
    rw [ldP_iff z3.cs3]
    refine P.Get_spec z3.th z3.ok (key_small g) fun h4 e4 => ?_
    have e04 := e03.trans e4
    have e14 : Ext h1 h4 := (e2.trans e3).trans e4
    have z4 := z3.ext e4
    have hlk := z3.look g
    rw [hlk]
    -- room is asked for
    have j2 : ∀ (h5 : H) (l : Option Addr) (is th : Bool), Ext h4 h5 → ¬ (C.newestM ((getS S c).getD [])).2.1 > e → ((unitsS S : Int) + needS S e c ≤ slots → ∀ h6, Ext h5 h6 → ((!is) = true → F.chain_New_api_Agg h6 fun r60 h59 => ldP h59 ⟨n, 3, none⟩ fun y63 => F.table_Table_chain_Chain_api_Agg_Put y63 (keyB c) r60 h59 fun h65 => F.shard_Shard_Put.j3 Q (some ⟨n, 0, none⟩) e ⟨m, 0, none⟩ r60 th h65) ∧ ((!is) = false → F.shard_Shard_Put.j3 Q (some ⟨n, 0, none⟩) e ⟨m, 0, none⟩ l th h6)) →
        F.shard_Shard_Put.j2 Q (some ⟨n, 0, none⟩) e ⟨m, 0, none⟩ (keyB c) l is th h5 := by
      intro h5 l is th e5 hnw hgo
      have z5 := z4.ext e5
      unfold F.shard_Shard_Put.j2
      simp only [nn_some, add_lit, Nat.zero_add, Nat.add_zero]
      rw [ldI_iff z5.cs0]
      refine ⟨c, rcc (e14.trans e5), ldI_of z5.cs2 (need_spec z5 fun h6 e6 => ⟨(z5.ext e6).cs2, (z5.ext e6).cs0, ?_⟩)⟩
      rw [hZ]
      rw [if_neg hnw] at k0 k1
      have hus := z.us
      have hsl := z.sl
      rw [hZ] at hus
      have hnd : 0 ≤ needS S e c ∧ needS S e c ≤ 2 := by
        unfold needS needV
        split
        · omega
        · cases getS S c with
          | none => simp
          | some vs => simp only; split <;> (try split) <;> (try split) <;> omega
      rw [w64 (by omega) (by omega)]
      refine ⟨fun g2 => ?_, fun g2 => hgo (by have := of_decide_eq_false g2; omega) h6 e6⟩
      have g2 := of_decide_eq_true g2
      rw [if_pos g2] at k0
      exact k0 (by decide) h6 ((e04.trans e5).trans e6)
    have hgs : getS S c = (getK Rec.c Z c).map (·.vs) := by rw [← hZ]; exact z.getS c
    have hpu := fun (hn : ¬ (C.newestM ((getS S c).getD [])).2.1 > e) => put_units (a := a) sok g hn
    -- the numbers
    have nums : ∀ (h8 : H) (rs' es' : Sl) (T' : Tb (Option Addr)) (Z' : List Rec) (th : Bool), SZ h8 n tn rs' es' T' Z' slots R (unitsS S : Int) (thereS S : Int) → toS Z' = putS S e c a → SOnly R h h8 → ¬ (C.newestM ((getS S c).getD [])).2.1 > e → (unitsS S : Int) + needS S e c ≤ slots →
        (aliveN ((getS S c).getD []) = if th then 1 else 0) →
        (nn (some ⟨n, 0, none⟩) fun a36 => ldI .i64 h8 ((a36.add 0).add 0) fun y38 => nn (some ⟨n, 0, none⟩) fun a40 => stH h8 ((a40.add 0).add 0) [(.int .i64 (IntKind.wrap .i64 (y38 + C.layN ((getS S c).getD []) ⟨e, a, false⟩)))] fun h42 =>
          ((!th) = true → nn (some ⟨n, 0, none⟩) fun a44 => ldI .i64 h42 ((a44.add 0).add 0) fun y46 => nn (some ⟨n, 0, none⟩) fun a48 => stH h42 ((a48.add 0).add 0) [(.int .i64 (IntKind.wrap .i64 (y46 + 1)))] fun h50 => nn (some ⟨n, 0, none⟩) fun a51 => ldI .i64 h50 ((a51.add 0).add 1) fun y53 => nn (some ⟨n, 0, none⟩) fun a55 => stH h50 ((a55.add 0).add 1) [(.int .i64 (IntKind.wrap .i64 (y53 + 1)))] fun h57 => Q 0 h57) ∧ ((!th) = false → Q 0 h42)) := by
      intro h8 rs' es' T' Z' th z8 hZ' so hnw hroom hth
      obtain ⟨p1, p2, p3⟩ := hpu hnw
      have hsl := z.sl
      have htl : thereS S ≤ unitsS S := there_le
      have hus := z.us
      rw [hZ] at hus
      have hlr := layN_range ((getS S c).getD []) ⟨e, a, false⟩
      rw [if_neg hnw, if_neg (show ¬ (unitsS S : Int) + needS S e c > slots by omega)] at k1
      simp only [nn_some, add_lit, Nat.zero_add, Nat.add_zero]
      rw [ldI_iff z8.cs0, w64 (by omega) (by omega)]
      refine z8.st0 fun h9 z9 o9 => ?_
      have so9 := so.trans o9
      refine ⟨fun g3 => ?_, fun g3 => ?_⟩
      · have hth0 : th = false := by simpa using g3
        rw [hth0] at hth
        simp only [Bool.false_eq_true, if_false] at hth
        rw [ldI_iff z9.cs0, w64 (by omega) (by omega)]
        refine z9.st0 fun h10 z10 o10 => ?_
        rw [ldI_iff z10.cs1, w64 (by omega) (by omega)]
        refine z10.st1 fun h11 z11 o11 => ?_
        refine k1 rfl h11 ⟨tn, rs', es', T', Z', hZ', ?_⟩ ((so9.trans o10).trans o11)
        rw [hZ', p1, p2, p3, hth]
        have q1 : (unitsS S : Int) + C.layN ((getS S c).getD []) ⟨e, a, false⟩ + 1 = unitsS S + (C.layN ((getS S c).getD []) ⟨e, a, false⟩ + (1 - ((0 : Nat) : Int))) := by omega
        have q2 : (thereS S : Int) + 1 = thereS S + (1 - ((0 : Nat) : Int)) := by omega
        rw [← q1, ← q2]; exact z11
      · have hth1 : th = true := by simpa using g3
        rw [hth1] at hth
        simp only [if_true] at hth
        refine k1 rfl h9 ⟨tn, rs', es', T', Z', hZ', ?_⟩ so9
        rw [hZ', p1, p2, p3, hth]
        have q1 : (unitsS S : Int) + C.layN ((getS S c).getD []) ⟨e, a, false⟩ = unitsS S + (C.layN ((getS S c).getD []) ⟨e, a, false⟩ + (1 - ((1 : Nat) : Int))) := by omega
        have q2 : (thereS S : Int) = thereS S + (1 - ((1 : Nat) : Int)) := by omega
        rw [← q1, ← q2]; exact z9
    cases hg : getK Rec.c Z c with
    | none =>
      refine ⟨fun h => (by cases h), fun _ => ?_⟩
      have hgd : (getS S c).getD [] = [] := by rw [hgs, hg]; rfl
      have hnw : ¬ (C.newestM ((getS S c).getD [])).2.1 > e := by rw [hgd]; show ¬ (0 : Int) > e; omega
      refine j2 h4 _ _ _ (.refl _) hnw fun hroom h6 e6 => ⟨fun _ => ?_, fun h => by cases h⟩
      have z6 := z4.ext e6
      refine C.New_spec fun p h7 hp c7 e7 => ?_
      have z7 := z6.ext e7
      rw [ldP_iff z7.cs3]
      obtain ⟨T', t1, t2, t3, t4, t5, t6⟩ := put_ok (z := P.nilA) z7.ok (keyB c) (some ⟨p, 0, none⟩)
      have hcnt := z7.count
      have hzl := z7.len
      have hrl := z7.rl
      have hgn : getM T (keyB c) = none := by rw [z.look g, hg]; rfl
      rw [hgn] at t5
      simp only [Option.isSome_none, Bool.false_eq_true, if_false] at t5
      have hrl' : T'.row.length ≤ 4200000 := by
        rcases t6 with ⟨_, q1, q2, _⟩ | ⟨_, q2, _⟩
        · have q1 : 3 * T.row.length < 4 * (T.count + 1) := q1
          omega
        · omega
      refine P.Put_spec z7.th z7.ok (key_small g) t1 (by show _ ≤ 1099511627776; omega) (by show _ ≤ 1099511627776; omega) fun h8 rs' es' th8 stp => ?_
      unfold F.shard_Shard_Put.j3
      simp only [add_lit, Nat.zero_add, Nat.add_zero]
      have hp6 : p < h7.size := c7.lt
      have l7 := z7.f_lt
      have c8 : C.Ch h8 p [] none := c7.only stp.only (fun hb => by
        have := z6.th.lt p hb; omega) fun b hb => by cases hb
      have e17 : Ext h1 h7 := (e14.trans e6).trans e7
      have e07 := ((e04.trans e6).trans e7)
      have rb8 : Cells h8 ⟨m, 3, none⟩ a.cells := (ra e17).only stp.only fun hb => by
        have := z.th.lt m hb; omega
      refine ⟨a, rb8, ?_⟩
      refine C.Put_spec c8 (by simp) (fun h => absurd (by rw [mayM_ok he1 he2]; simp) h) fun _ h9 B' c9 o9 kin9 => ?_
      have hsetq : toS (setK Rec.c Z ⟨c, C.layM [] ⟨e, a, false⟩, p, B'⟩) = putS S e c a := by
        rw [toS_set, hZ]; unfold putS; rw [hgd]
      have vok : VOk (C.layM [] ⟨e, a, false⟩) := lay_ok (.inl rfl) (.inr rfl) (fun h => by cases h) he1 he2
      obtain ⟨p1, p2, p3⟩ := hpu hnw
      have hz := z.add (c := c) g hg (e07) (by have := ((e04.trans e6)).size; omega) hp6 th8 t2 stp t4 hrl' c9 o9 kin9 vok (by rw [hsetq]; omega) hR
      have := nums h9 rs' es' T' _ false (by rw [← hZ]; exact hz.1) hsetq hz.2 hnw hroom (by rw [hgd]; rfl)
      rw [hgd] at this
      exact this
    | some r =>
      refine ⟨fun _ => ?_, fun h => by cases h⟩
      obtain ⟨hr, hrc⟩ := getK_some hg
      have hgd : (getS S c).getD [] = r.vs := by rw [hgs, hg]; rfl
      have hv := (z.wf r hr).2
      refine C.Newest_spec (z4.ch r hr) (by have := z.vlen hr; omega) fun h5 e5 => ⟨fun g2 => ?_, fun g2 => ?_⟩
      · have g2 := of_decide_eq_true g2
        rw [hgd, if_pos g2] at k0
        exact k0 (by decide) h5 (e04.trans e5)
      have hnw : ¬ (C.newestM ((getS S c).getD [])).2.1 > e := by rw [hgd]; exact of_decide_eq_false g2
      refine j2 h5 _ _ _ e5 hnw fun hroom h6 e6 => ⟨fun h => (by cases h), fun _ => ?_⟩
      have e06 := (e04.trans e5).trans e6
      have z6 := z.ext e06
      unfold F.shard_Shard_Put.j3
      simp only [add_lit, Nat.zero_add, Nat.add_zero]
      refine ⟨a, ra ((e14.trans e5).trans e6), ?_⟩
      refine C.Put_spec (z6.ch r hr) (by have := z.vlen hr; omega) (fun h => absurd (by rw [mayM_ok he1 he2, if_neg (fun h2 => by rw [hgd] at hnw; omega)]) h) fun _ h9 B' c9 o9 kin9 => ?_
      have hsetq : toS (setK Rec.c Z ⟨r.c, C.layM r.vs ⟨e, a, false⟩, r.p, B'⟩) = putS S e c a := by
        rw [toS_set, hZ, hrc]; unfold putS; rw [hgd]
      have hn2 : C.lastE r.vs ≤ e := by rw [lastE_newest]; rw [hgd] at hnw; omega
      have vok : VOk (C.layM r.vs ⟨e, a, false⟩) := lay_ok (.inr hv) (.inl hn2) (fun h => by cases h) he1 he2
      obtain ⟨p1, p2, p3⟩ := hpu hnw
      have hz := z6.lay hr c9 o9 kin9 vok (by rw [hsetq]; omega) fun b hb => hR b (by have := e06.size; omega)
      have := nums h9 rs es T _ (alive r.vs) (by rw [← hZ]; exact hz.1) hsetq ((SOnly.of e06).trans hz.2) hnw hroom (by rw [hgd]; rfl)
      rw [hgd] at this
      exact this
  have e2r : Ext h1 h2 := e2
  refine ⟨fun g2 => bad e02 (.inl (of_decide_eq_true g2)), fun g2 => ⟨fun g3 => bad e02 (.inr (.inl (of_decide_eq_true g3))), fun g3 => ?_⟩⟩
  rw [ldI_iff (a0 e2)]
  refine ⟨fun g4 => bad e02 (.inr (.inr (.inl (by simpa using g4)))), fun g4 => ⟨a, ra e2, hrt h2 _ fun h3 e3 => ?_⟩⟩
  have g2 := of_decide_eq_false g2
  have g3 := of_decide_eq_false g3
  have g4 : a.Count ≠ 0 := by simpa using g4
  cases hrv : rt with
  | false => exact bad (e02.trans e3) (.inr (.inr (.inr hrv)))
  | true =>
    unfold F.shard_Shard_Put.j4
    exact ⟨fun h => (by cases h), fun _ => j1 h3 e3 (by omega) (by omega) g4 hrv⟩
theorem kill_units {S : SL} (h : SOk S) {e : Int} {c : Cel} {vs : List Ver} (hg : getS S c = some vs) (ha : alive vs = true) :
    (unitsS (killS S e c) : Int) = unitsS S + (C.layN vs ⟨e, zA, true⟩ - 1) ∧ (thereS (killS S e c) : Int) = thereS S - 1 := by
  have h1 := set_units h.sort c (C.layM ((getS S c).getD []) ⟨e, zA, true⟩)
  have h2 := set_there h.sort c (C.layM ((getS S c).getD []) ⟨e, zA, true⟩)
  have h3 := lay_units ((getS S c).getD []) ⟨e, zA, true⟩
  have h4 := lay_alive ((getS S c).getD []) ⟨e, zA, true⟩
  have h5 := units_eq ((getS S c).getD [])
  have h6 : aliveN ((getS S c).getD []) = 1 := by rw [hg]; unfold aliveN; rw [Option.getD_some, if_pos ha]
  simp only [if_true] at h3 h4
  rw [show (C.layN vs ⟨e, zA, true⟩) = C.layN ((getS S c).getD []) ⟨e, zA, true⟩ from by rw [hg]; rfl]
  unfold killS
  refine ⟨by omega, by omega⟩
theorem Kill_spec {e : Int} {c : Cel} {Q : Int → H → Prop} (s : SH h n S slots R) (hR : ∀ b, h.size ≤ b → R b)
    (k0 : killE S e c ≠ 0 → ∀ h', Ext h h' → Q (killE S e c) h')
    (k1 : killE S e c = 0 → ∀ h', SH h' n (killS S e c) slots R → SOnly R h h' → Q 0 h') : F.shard_Shard_Kill (some ⟨n, 0, none⟩) e c h Q := by
  have sok := s.ok
  obtain ⟨tn, rs, es, T, Z, hZ, z⟩ := s
  unfold F.shard_Shard_Kill
  refine new_of fun m h1 hm b1 e1 s1 => ⟨c, Blk.cells b1, ?_⟩
  unfold killE at k0 k1
  refine key_spec (fun g h2 e2 => ⟨fun _ => ?_, fun g2 => absurd (by simpa using g2) g⟩) fun g h2 e2 => ⟨fun g2 => by simp at g2, fun _ => ?_⟩
  · rw [if_pos g] at k0; exact k0 g h2 (e1.trans e2)
  rw [if_neg (fun h => h g)] at k0 k1
  have e02 := e1.trans e2
  have bad : (e < 1 ∨ e > 1099511627776) → F.shard_Shard_Kill.j2 Q (some ⟨n, 0, none⟩) e ⟨m, 0, none⟩ true h2 := fun hb => by
    unfold F.shard_Shard_Kill.j2
    refine ⟨fun _ => ?_, fun h => by cases h⟩
    rw [if_pos hb] at k0
    exact k0 (by decide) _ e02
  refine ⟨fun g2 => bad (.inl (of_decide_eq_true g2)), fun g2 => ?_⟩
  have g2 := of_decide_eq_false g2
  cases hb : decide (e > 1099511627776) with
  | true => exact bad (.inr (of_decide_eq_true hb))
  | false =>
    have g3 := of_decide_eq_false hb
    unfold F.shard_Shard_Kill.j2
    refine ⟨fun h => (by cases h), fun _ => ?_⟩
    rw [if_neg (by omega)] at k0 k1
    unfold F.shard_Shard_Kill.j1
    refine ⟨c, (Blk.cells b1).ext e2, ?_⟩
    have z2 := z.ext e02
    have hgs : getS S c = (getK Rec.c Z c).map (·.vs) := by rw [← hZ]; exact z.getS c
    refine chain_spec z2 (fun g4 h3 e3 => ⟨fun _ => ?_, fun h => by simp at h⟩) fun _ r hg h3 e3 => ⟨fun h => by simp at h, fun _ => ?_⟩
    · have : getK Rec.c Z c = none := by
        rcases g4 with g4 | g4
        · exact absurd g g4
        · exact g4
      rw [hgs, this] at k0
      exact k0 (fun h => by cases h) h3 (e02.trans e3)
    · obtain ⟨hr, hrc⟩ := getK_some hg
      rw [hg] at hgs
      have hgs : getS S c = some r.vs := hgs
      rw [hgs] at k0 k1
      dsimp only at k0 k1
      have e03 := e02.trans e3
      have z3 := z.ext e03
      have hv := (z.wf r hr).2
      have hml := mayM_ok (vs := r.vs) (e := e) (by omega) (by omega)
      have hmne : r.vs ≠ [] := hv.ne
      refine C.Kill_spec (z3.ch r hr) (by have := z.vlen hr; omega) (fun g4 => ⟨fun g5 => ?_, fun g5 => ?_⟩) (fun g4 g5 h4 e4 => ⟨fun _ => ?_, fun h => by simp at h⟩) fun g4 g5 h4 B' c4 o4 kin4 => ⟨fun h => by simp at h, fun _ => ?_⟩
      · rw [hml] at g4 ⊢
        have : r.vs ≠ [] ∧ e < (C.newestM r.vs).2.1 := by
          refine Classical.byContradiction fun hn => ?_
          rw [if_neg hn] at g4; exact g4 rfl
        rw [if_pos this]
        rw [if_pos (show (C.newestM r.vs).2.1 > e from this.2)] at k0
        exact k0 (by decide) h3 e03
      · exact absurd (by simpa using g5) g4
      · have hnw : ¬ (C.newestM r.vs).2.1 > e := fun hh => by rw [hml, if_pos ⟨hmne, hh⟩] at g4; cases g4
        rw [if_neg hnw, if_pos (show alive r.vs = false from g5)] at k0
        exact k0 (by decide) h4 (e03.trans e4)
      · have hnw : ¬ (C.newestM r.vs).2.1 > e := fun hh => by rw [hml, if_pos ⟨hmne, hh⟩] at g4; cases g4
        rw [if_neg hnw, if_neg (show ¬ alive r.vs = false from by rw [show alive r.vs = (C.newestM r.vs).2.2 from rfl, g5]; decide)] at k1
        obtain ⟨p1, p2⟩ := kill_units (e := e) sok hgs g5
        have hus := z.us
        have hsl := z.sl
        rw [hZ] at hus
        have hlr := layN_range r.vs ⟨e, zA, true⟩
        have htl : thereS S ≤ unitsS S := there_le
        have hsetq : toS (setK Rec.c Z ⟨r.c, C.layM r.vs ⟨e, zA, true⟩, r.p, B'⟩) = killS S e c := by
          rw [toS_set, hZ, hrc]; unfold killS; rw [hgs]; rfl
        have hn2 : C.lastE r.vs ≤ e := by rw [lastE_newest]; omega
        have vok : VOk (C.layM r.vs ⟨e, zA, true⟩) := lay_ok (.inr hv) (.inl hn2) (fun _ => rfl) (by show 1 ≤ e; omega) (by show e ≤ _; omega)
        have hz := z3.lay hr c4 o4 kin4 vok (by rw [hsetq]; omega) fun b hb => hR b (by have := e03.size; omega)
        obtain ⟨z4, so4⟩ := hz
        rw [hZ] at z4
        simp only [nn_some, add_lit, Nat.zero_add, Nat.add_zero]
        rw [ldI_iff z4.cs0, w64 (n := C.layN r.vs ⟨e, zA, true⟩ - 1) (by omega) (by omega), w64 (by omega) (by omega)]
        refine z4.st0 fun h5 z5 o5 => ?_
        rw [ldI_iff z5.cs1, w64 (by omega) (by omega)]
        refine z5.st1 fun h6 z6 o6 => ?_
        refine k1 rfl h6 ⟨tn, rs, es, T, _, hsetq, ?_⟩ ((((SOnly.of e03).trans so4).trans o5).trans o6)
        rw [hsetq, p1, p2]; exact z6
end
end Go.Proofs.Ytoccbnhahaoeiaa.V.S
namespace Go.Proofs.Ytoccbnhahaoeiaa.V.S
open Go Go.Proofs.Ytoccbnhahaoeiaa.V
set_option linter.unusedVariables false
set_option linter.unusedSimpArgs false
set_option maxRecDepth 20000
abbrev Rw := S_api_Row
abbrev cW (x : Rw) : List Value := x.cells
theorem cW_len (x : Rw) : (cW x).length = 7 := rfl
/-- The keys of a shard's table, with what lies under them. -/
def keysZ (Z : List Rec) : List (ByteArray × Option Addr) := Z.map fun r => (keyB r.c, some ⟨r.p, 0, none⟩)
theorem keysZ_len (Z : List Rec) : (keysZ Z).length = Z.length := List.length_map _
theorem cB_lt : ∀ (x y : List UInt8), Lib.compareBytes x y = -1 → x < y
  | [], [], h => by simp [Lib.compareBytes] at h
  | [], b :: y, _ => List.nil_lt_cons b y
  | a :: x, [], h => by simp [Lib.compareBytes] at h
  | a :: x, b :: y, h => by
    simp only [Lib.compareBytes] at h
    rcases u8_tri a b with g | g | g
    · exact List.cons_lt_cons_iff.2 (.inl g)
    · subst g
      simp only [u8_irr, if_false] at h
      exact List.cons_lt_cons_iff.2 (.inr ⟨rfl, cB_lt x y h⟩)
    · simp [g, u8_asym g] at h
theorem key_lt {a b : Cel} (ha : okC a = 0) (hb : okC b = 0) (h : cmpC a b = -1) : keyL a < keyL b :=
  cB_lt _ _ (by rw [key_cmp (ok_may ha) (ok_may hb) (ok_start ha) (ok_start hb)]; exact h)
section
variable {h h' : H} {n tn : Nat} {rs es : Sl} {T : Tb (Option Addr)} {Z : List Rec} {slots : Nat} {R : Nat → Prop} {u t : Int}
theorem tk_has (ok : TOk T) {k : ByteArray} {v : Option Addr} (hg : getM T k = some v) : ∃ p ∈ P.tkL (T.row ++ T.elder), p.1 = k := by
  have go : ∀ (W : List (Pl (Option Addr))), valOf W k = some v → ∃ p ∈ P.tkL W, p.1 = k := fun W hv => by
    obtain ⟨i, p, h1, h2, h3, h4⟩ := valOf_some hv
    exact ⟨(p.key, .pointer p.value), List.mem_map.2 ⟨p, List.mem_filter.2 ⟨List.mem_of_getElem? h1, by simp [h2]⟩, rfl⟩, kL_inj h3⟩
  unfold getM at hg
  rw [P.tkL_app]
  cases hv : valOf T.row k with
  | some w =>
    rw [hv] at hg; cases hg
    obtain ⟨p, h1, h2⟩ := go _ hv
    exact ⟨p, List.mem_append_left _ h1, h2⟩
  | none =>
    rw [hv] at hg
    obtain ⟨p, h1, h2⟩ := go _ hg
    exact ⟨p, List.mem_append_right _ h1, h2⟩
theorem all_eq (z : SZ h n tn rs es T Z slots R u t) : P.allL T = keysZ Z := by
  have hk : ∀ c : Cel, (keyB c).data.toList = keyL c := fun c => by simp [keyB]
  have hsort : (Z.map fun r => keyB r.c).Pairwise fun a b => a.data.toList < b.data.toList := by
    rw [List.pairwise_map]
    have := z.srt
    refine List.Pairwise.imp_of_mem ?_ this
    intro a b ha hb hab
    rw [hk, hk]
    exact key_lt (z.wf a ha).1 (z.wf b hb).1 hab
  have hn2 : (Z.map fun r => keyB r.c).Nodup := hsort.imp fun {a b} hab e => by subst e; exact List.lt_irrefl _ hab
  have hn1 := P.KU_of z.ok
  have hp : ((P.tkL (T.row ++ T.elder)).map (·.1)).Perm (Z.map fun r => keyB r.c) := (List.perm_ext_iff_of_nodup hn1 hn2).2 fun k => by
    constructor
    · intro hk'
      obtain ⟨⟨k2, v⟩, hm, rfl⟩ := List.mem_map.1 hk'
      obtain ⟨w, hw, _⟩ := P.tk_val z.ok hm
      obtain ⟨r, hr, e⟩ := z.all k2 w hw
      refine List.mem_map.2 ⟨r, hr, kL_inj ?_⟩
      rw [kL_keyB]; exact e.symm
    · intro hk'
      obtain ⟨r, hr, rfl⟩ := List.mem_map.1 hk'
      have hg := z.get r hr
      refine Classical.byContradiction fun hno => ?_
      have hlt := tk_has z.ok hg
      obtain ⟨p, hp1, hp2⟩ := hlt
      exact hno (List.mem_map.2 ⟨p, hp1, hp2⟩)
  unfold P.allL
  rw [sortT_perm hp, P.sortT_id hsort, List.map_map]
  refine List.map_congr_left fun r hr => ?_
  simp only [Function.comp, z.get r hr, Option.getD_some]
end
theorem st_cel {h : H} {n : Nat} {c d : Cel} {e : TypeId} {K : H → Prop} (b : Blk h n c.cells.toArray e) (k : ∀ h', Blk h' n d.cells.toArray e → Only (· = n) h h' → h'.size = h.size → K h') : stH h ⟨n, 0, none⟩ d.cells K := by
  refine stH_of b (Nat.le_refl 3) fun h' q1 q2 q3 => k h' ?_ q2 q3
  rw [writeA_all (by rfl)] at q1
  exact q1
theorem shut1 {d : Nat} {h : H} {K : H → Prop} (hd : h[d]? = some (.deferred (some []))) (k : ∀ h', Only (· = d) h h' → K h') : shuts [d] h K :=
  ⟨hd, k _ ⟨by simp [put], fun b hb hn => by simp only [put]; rw [Array.getElem?_setIfInBounds_ne (fun e => hn e.symm)]⟩⟩
theorem rng1_spec {h : H} {n4 n6 : Nat} {fr to c : Cel} {K : Value → H → Prop} (b4 : Cells h ⟨n4, 0, none⟩ fr.cells) (b6 : Cells h ⟨n6, 0, none⟩ to.cells) (k : ∀ h', Ext h h' → K (.bool (decide (cmpC fr c ≤ 0) && decide (cmpC c to < 0))) h') :
    CV PP (.func (.func no_shard_Shard_Range_1) #[] #[.pointer (some ⟨n4, 0, none⟩), .pointer (some ⟨n6, 0, none⟩)]) [.agg c.cells.toArray] h K := by
  refine CV_func (fun a w => no_shard_Shard_Range_1_call a w) ?_
  have : F.shard_Shard_Range_1 c ⟨n4, 0, none⟩ ⟨n6, 0, none⟩ h fun r h' => K (.bool r) h' := by
    unfold F.shard_Shard_Range_1
    refine new_of fun m h1 hm b1 e1 s1 => ⟨fr, b4.ext e1, c, Blk.cells b1, Compare_spec fun h2 e2 => ⟨fun g => ⟨c, (Blk.cells b1).ext e2, to, (b6.ext e1).ext e2, Compare_spec fun h3 e3 => ?_⟩, fun g => ?_⟩⟩
    · have := k h3 ((e1.trans e2).trans e3)
      rw [g, Bool.true_and] at this; exact this
    · have := k h2 (e1.trans e2)
      rw [g, Bool.false_and] at this; exact this
  have := F.shard_Shard_Range_1_ok this
  simp only [List.append_toArray, Array.empty_append, Array.append_empty]
  exact this.mono fun r h' ⟨r0, e, q⟩ => by subst e; exact q
def rowsZ (e : Int) (fr to : Cel) (Z : List Rec) : List Rw := (Z.filter fun r => inS e fr to (r.c, r.vs)).map fun r => rowS e (r.c, r.vs)
theorem rows_toS (e : Int) (fr to : Cel) (Z : List Rec) : rangeS (toS Z) e fr to = rowsZ e fr to Z := by
  unfold rangeS rowsZ toS
  rw [List.filter_map, List.map_map]
  rfl
theorem rows_snoc (e : Int) (fr to : Cel) {Z : List Rec} {i : Nat} {r : Rec} (h : Z[i]? = some r) : rowsZ e fr to (Z.take (i + 1)) = rowsZ e fr to (Z.take i) ++ (if inS e fr to (r.c, r.vs) then [rowS e (r.c, r.vs)] else []) := by
  obtain ⟨h1, h2⟩ := List.getElem?_eq_some_iff.1 h
  unfold rowsZ
  rw [List.take_succ_eq_append_getElem h1, h2, List.filter_append, List.map_append]
  congr 1
  by_cases hi : inS e fr to (r.c, r.vs) <;> simp [hi]
theorem rows_pre (e : Int) (fr to : Cel) (Z : List Rec) (i : Nat) : (rowsZ e fr to (Z.take i)) <+: rowsZ e fr to Z := by
  unfold rowsZ
  exact ((List.take_prefix i Z).filter _).map _
/-- While a range is told: hL: the heap where it began. -/
structure RI (h hL h' : H) (n2 n4 n6 n8 n10 n12 ka ma b : Nat) (r : Sl) (L : List (ByteArray × Option Addr)) (ep most : Int) (fr to : Cel) (rows : List Rw) : Prop where
  ext : Ext h h'
  b2 : Blk h' n2 #[.int .i64 ep] tn_int
  b4 : Blk h' n4 fr.cells.toArray tn_api_Cell
  b6 : Blk h' n6 to.cells.toArray tn_api_Cell
  b8 : Blk h' n8 #[.int .i64 most] tn_int
  b12 : Blk h' n12 #[.func (.func no_shard_Shard_Range_1) #[] #[.pointer (some ⟨n4, 0, none⟩), .pointer (some ⟨n6, 0, none⟩)]] tn_func_api_Cell_bool
  sq : P.SeqH h' ka ma b r L
  dfr : h'[hL.size]? = some (.deferred (some []))
  out : ∃ o, Blk h' n10 #[o.enc] tn_Slapi_Row ∧ Owns h' o tn_api_Row 7 (rows.flatMap cW) ∧ ∀ x, o.blk = some x → hL.size + 2 ≤ x
  len : rows.length ≤ most.toNat
  sz : hL.size + 1 ≤ h'.size
  lt : n2 < hL.size ∧ n4 < hL.size ∧ n6 < hL.size ∧ n8 < hL.size ∧ n10 < hL.size ∧ n12 < hL.size ∧ (∀ m, SQF ka ma b r m → m < hL.size ∧ m ≠ n10) ∧ n2 ≠ n10 ∧ n4 ≠ n10 ∧ n6 ≠ n10 ∧ n8 ≠ n10 ∧ n12 ≠ n10 ∧ h.size ≤ n10
section
variable {h hL h' h'' : H} {n2 n4 n6 n8 n10 n12 ka ma b : Nat} {r : Sl} {L : List (ByteArray × Option Addr)} {ep most : Int} {fr to : Cel} {rows : List Rw}
theorem RI.only {S : Nat → Prop} (v : RI h hL h' n2 n4 n6 n8 n10 n12 ka ma b r L ep most fr to rows) (o : Only S h' h'') (hS : ∀ m, S m → hL.size < m ∧ ∀ o : Sl, Blk h' n10 #[o.enc] tn_Slapi_Row → o.blk ≠ some m) : RI h hL h'' n2 n4 n6 n8 n10 n12 ka ma b r L ep most fr to rows := by
  obtain ⟨l2, l4, l6, l8, l10, l12, lq, q⟩ := v.lt
  have no : ∀ m, m ≤ hL.size → ¬ S m := fun m hm h => by have := (hS m h).1; omega
  obtain ⟨ou, o1, o2, o3⟩ := v.out
  have hle : h.size ≤ hL.size := by obtain ⟨_, _, _, _, _, hq⟩ := q; omega
  exact ⟨v.ext.step o fun m hm => no m (by omega), o.block v.b2 (no _ (by omega)), o.block v.b4 (no _ (by omega)), o.block v.b6 (no _ (by omega)), o.block v.b8 (no _ (by omega)), o.block v.b12 (no _ (by omega)), v.sq.only o fun m hm => no m (by have := (lq m hm).1; omega), o.block v.dfr (no _ (by omega)),
    ⟨ou, o.block o1 (no _ (by omega)), o2.only o fun m hm hs => (hS m hs).2 ou o1 hm, o3⟩, v.len, by have := o.size; have := v.sz; omega, v.lt⟩
theorem RI.e (v : RI h hL h' n2 n4 n6 n8 n10 n12 ka ma b r L ep most fr to rows) (e : Ext h' h'') : RI h hL h'' n2 n4 n6 n8 n10 n12 ka ma b r L ep most fr to rows := v.only e fun _ f => f.elim
end
theorem Range_spec {h : H} {n : Nat} {S : SL} {slots : Nat} {R : Nat → Prop} {ep most : Int} {fr to : Cel} {Q : Sl → H → Prop} (s : SH h n S slots R)
    (k : ∀ r h', Owns h' r tn_api_Row 7 (((rangeS S ep fr to).take most.toNat).flatMap cW) → Mine h r → Ext h h' → Q r h') : F.shard_Shard_Range (some ⟨n, 0, none⟩) ep fr to most h Q := by
  obtain ⟨tn, rs, es, T, Z, rfl, z⟩ := s
  unfold F.shard_Shard_Range
  refine new_of fun n2 h1 hn2 b2 e1 s1 => new_of fun n4 h3 hn4 b4 e3 s3 => new_of fun n6 h5 hn6 b6 e5 s5 => new_of fun n8 h7 hn8 b8 e7 s7 => new_of fun n10 h9 hn10 b10 e9 s9 => new_of fun n12 h11 hn12 b12 e11 s11 => ?_
  refine stH_of b12 (by simp) fun h13 b13 o13 s13 => ?_
  have x2 : Blk h13 n2 #[.int .i64 ep] tn_int := o13.block (((((e3.trans e5).trans e7).trans e9).trans e11).block b2 fun f => f) (by omega)
  have x4 : Blk h13 n4 fr.cells.toArray tn_api_Cell := o13.block ((((e5.trans e7).trans e9).trans e11).block b4 fun f => f) (by omega)
  have x6 : Blk h13 n6 to.cells.toArray tn_api_Cell := o13.block (((e7.trans e9).trans e11).block b6 fun f => f) (by omega)
  have x8 : Blk h13 n8 #[.int .i64 most] tn_int := o13.block ((e9.trans e11).block b8 fun f => f) (by omega)
  have x10 : Blk h13 n10 #[(⟨none, 0, 0⟩ : Sl).enc] tn_Slapi_Row := o13.block (e11.block b10 fun f => f) (by omega)
  have e013 : Ext h h13 := (((((e1.trans e3).trans e5).trans e7).trans e9).trans e11).step o13 fun m hm hb => by omega
  have z13 := z.ext e013
  simp only [nn_some, add_lit, Nat.zero_add, Nat.add_zero]
  rw [ldP_iff z13.cs3]
  have hcnt := z.count
  have hzl := z.len
  refine P.All_spec z13.th z13.ok (by omega) fun hL ka ma b r sq eL hmine _ => ?_
  rw [all_eq z13] at sq
  have hLs := eL.size
  have hgt : ∀ {Y : List Rec} {i : Nat} {x : ByteArray × Option Addr}, (keysZ Y)[i]? = some x → ∃ q, Y[i]? = some q ∧ x = (keyB q.c, some ⟨q.p, 0, none⟩) := fun {Y i x} hx => by
    unfold keysZ at hx
    rw [List.getElem?_map] at hx
    cases hy : Y[i]? with
    | none => rw [hy] at hx; cases hx
    | some q => rw [hy] at hx; cases hx; exact ⟨q, rfl, rfl⟩
  -- the end
  have fin : ∀ (h' : H) (rows : List Rw), RI h hL h' n2 n4 n6 n8 n10 n12 ka ma b r (keysZ Z) ep most fr to rows → rows = (rangeS (toS Z) ep fr to).take most.toNat → F.shard_Shard_Range.j1 Q (hL.size :: ([] : List Nat)) ⟨n10, 0, none⟩ h' := fun h' rows v hrows => by
    obtain ⟨o, o1, o2, o3⟩ := v.out
    unfold F.shard_Shard_Range.j1
    refine ldL_of (Blk.cell (i := 0) o1 rfl) (shut1 v.dfr fun h9 o9 => ?_)
    rw [hrows] at o2
    refine k o h9 (o2.only o9 fun m hm e => by have := o3 m hm; omega) (fun x hx => by have := o3 x hx; have := e013.size; omega) (v.ext.step o9 fun m hm e => by have := e013.size; omega)
  refine P.range_seq (I := fun i h' => RI h hL h' n2 n4 n6 n8 n10 n12 ka ma b r (keysZ Z) ep most fr to (rowsZ ep fr to (Z.take i)))
    (E := fun j h' => j = 0 ∧ ∃ i, RI h hL h' n2 n4 n6 n8 n10 n12 ka ma b r (keysZ Z) ep most fr to (rowsZ ep fr to (Z.take i)) ∧ most ≤ ((rowsZ ep fr to (Z.take i)).length : Int))
    (fun i h' h'' v o => v.only o fun m hm => ⟨by omega, fun ou hou hb => ?_⟩) (fun j h' h'' v o => ⟨v.1, v.2.elim fun i hi => ⟨i, hi.1.only o fun m hm => ⟨by omega, fun ou hou hb => ?_⟩, hi.2⟩⟩) (fun i h' v => v.sq) ?_ ?_ (fun h' v => ?_) (fun j h' v => ?_)
  · obtain ⟨o', o1, o2, o3⟩ := v.out
    have heq := o1.symm.trans hou
    have : o' = ou := enc_inj.1 (by simpa using heq)
    subst this
    have := o3 m hb; omega
  · obtain ⟨o', o1, o2, o3⟩ := hi.1.out
    have heq := o1.symm.trans hou
    have : o' = ou := enc_inj.1 (by simpa using heq)
    subst this
    have := o3 m hb; omega
  · have ep0 : Ext hL (hL.push (.deferred (some []))) := .push _ _
    have eH := eL.trans ep0
    refine ⟨e013.trans eH, eH.block x2 fun f => f, eH.block x4 fun f => f, eH.block x6 fun f => f, eH.block x8 fun f => f, eH.block b13 fun f => f, sq.only ep0 fun m hm f => f, by simp, ⟨_, eH.block x10 fun f => f, by simpa [rowsZ] using Owns.nil _ tn_api_Row 7, fun x hx => by simp [Sl.blk] at hx⟩, by simp [rowsZ], by simp, ?_⟩
    refine ⟨by omega, by omega, by omega, by omega, by omega, by omega, fun m hm => ⟨sq.lt m hm, ?_⟩, by omega, by omega, by omega, by omega, by omega, by omega⟩
    have := hmine m hm; omega
  · intro X i x h5 K J hX v hx hxi kK kJ
    obtain ⟨q, hq, rfl⟩ := hgt hxi
    have hqz : q ∈ Z := List.mem_of_getElem? hq
    obtain ⟨o, o1, o2, o3⟩ := v.out
    have hlo := own_len cW_len (by omega) o2
    refine ldL_of (Blk.cell (i := 0) o1 rfl) (ldI_of (Blk.cell (i := 0) v.b8 rfl) ⟨fun g => ?_, fun g => ?_⟩)
    · have g := of_decide_eq_true g
      exact kJ 0 h5 ⟨rfl, i, v, by rw [← hlo]; exact g⟩ hx
    · have g := of_decide_eq_false g
      have hok := (z.wf q hqz).1
      have hv := (z.wf q hqz).2
      refine Cell_spec (by show (keyL q.c).toArray.size < _; have := key_size hok; simp; omega) fun h6 e6 => ?_
      rw [show (keyB q.c).data.toList = keyL q.c from by simp [keyB], cell_back (ok_may hok) (ok_start hok)]
      refine new_of fun m7 h7 hm7 b7 e7 s7 => ?_
      have b7' : Blk h7 m7 zeroC.cells.toArray tn_api_Cell := b7
      refine st_cel b7' (d := q.c) fun h8 b8' o8 s8 => ?_
      have e58 : Ext h5 h8 := (e6.trans e7).step o8 fun m hm hb => by have := e6.size; omega
      have v8 := v.e e58
      refine ldI_of (Blk.cell (i := 0) v8.b2 rfl) ?_
      have zq := z.ext v8.ext
      refine at_spec (zq.ch q hqz) hv.rise (by have := z.vlen hqz; omega) fun h9 e9 => ?_
      refine new_of fun m10 h10 hm10 bb10 e10 s10 => ?_
      have bb10' : Blk h10 m10 zA.cells.toArray tn_api_Agg := bb10
      refine C.st_agg bb10' fun h11' b11 o11 s11' => ?_
      have e8b : Ext h8 h11' := (e9.trans e10).step o11 fun m hm hb => by have := e9.size; omega
      have e5b := e58.trans e8b
      have v11 := v.e e5b
      have x11 : h11'[hL.size + 1]? = some X := e5b.block hx fun f => f
      have b8b : Blk h11' m7 q.c.cells.toArray tn_api_Cell := e8b.block b8' fun f => f
      have hsn := rows_snoc ep fr to hq
      -- nothing is told
      have skip : ∀ h12', Ext h11' h12' → inS ep fr to (q.c, q.vs) = false → K h12' := fun h12' e12 hno => by
        refine kK h12' ?_ (e12.block x11 fun f => f)
        rw [hsn, hno]
        simp only [Bool.false_eq_true, if_false, List.append_nil]
        exact v11.e e12
      have lay : ∀ (h12 : H), Ext h11' h12 → inS ep fr to (q.c, q.vs) = true → F.shard_Shard_Range.j2 Q K J (hL.size + 1) ⟨n10, 0, none⟩ ⟨m7, 0, none⟩ ⟨m10, 0, none⟩ true h12 := fun h12 e12 hyes => by
        unfold F.shard_Shard_Range.j2
        refine ⟨fun _ => ?_, fun h => by cases h⟩
        have v12 := v11.e e12
        have e512 := e5b.trans e12
        have o1' : Blk h12 n10 #[o.enc] tn_Slapi_Row := e512.block o1 fun f => f
        refine ldL_of (Blk.cell (i := 0) o1' rfl) ⟨q.c, (Blk.cells b8b).ext e12, (atV q.vs ep).1, (Blk.cells b11).ext e12, ?_⟩
        have hsz : h5.size ≤ h12.size := e512.size
        have hrl : (rowsZ ep fr to (Z.take i)).length ≤ 1048576 := by
          unfold rowsZ
          have := List.length_filter_le (fun r : Rec => inS ep fr to (r.c, r.vs)) (Z.take i)
          rw [List.length_map]
          rw [List.length_take] at this
          omega
        have hh5 : hL.size + 1 < h5.size := (Array.getElem?_eq_some_iff.1 hx).1
        refine newL_of fun n14 h14 hn14 b14 e14 s14 => ?_
        refine app_list (L := rowsZ ep fr to (Z.take i)) (M := [rowS ep (q.c, q.vs)]) cW_len (by omega) el_Slapi_Row ((o2.ext e512).ext e14) (blk_reads b14 rfl) (fun x => ones_S_api_Row x) (by simp only [List.length_singleton]; omega) fun r15 h15 w15 o15 n15 => ?_
        have x14 : Blk h14 n10 #[o.enc] tn_Slapi_Row := e14.block o1' fun f => f
        have l10 := v.lt.2.2.2.2.1
        have hob : o.blk ≠ some n10 := fun e => by have := o3 _ e; omega
        have x15 : Blk h15 n10 #[o.enc] tn_Slapi_Row := o15.block x14 hob
        refine stH_of x15 (by simp) fun h16 b16 o16 s16 => ?_
        have r15n : ∀ y, r15.blk = some y → hL.size + 2 ≤ y := fun y hy => by
          rcases n15 with n15 | ⟨y', n15, n16⟩
          · exact o3 y (by rw [← n15]; exact hy)
          · rw [n15] at hy; cases hy
            have := e14.size; omega
        have v14 := v12.e e14
        obtain ⟨_, _, _, _, _, _, lq, d2, d4, d6, d8, d12, dh⟩ := v.lt
        have lts := v.lt
        have no : ∀ m, m ≤ hL.size + 1 → ¬ (o.blk = some m) := fun m hm e => by have := o3 m e; omega
        refine kK h16 ?_ (o16.block (o15.block (e14.block (e12.block x11 fun f => f) fun f => f) (no _ (Nat.le_refl _))) (by omega))
        have kp : ∀ {m : Nat} {y : Obj}, m ≤ hL.size → m ≠ n10 → h14[m]? = some y → h16[m]? = some y := fun hm hne hy => o16.block (o15.block hy (no _ (by omega))) hne
        have o14 : Only (fun m => o.blk = some m ∨ m = n10) h14 h16 := (o15.mono fun _ _ e => .inl e).trans o16 fun _ _ e => .inr e
        refine ⟨v14.ext.step o14 fun m hm e => ?_, kp (by omega) d2 v14.b2, kp (by omega) d4 v14.b4, kp (by omega) d6 v14.b6, kp (by omega) d8 v14.b8, kp (by omega) d12 v14.b12, v14.sq.only o14 fun m hm e => ?_, kp (Nat.le_refl _) (by omega) v14.dfr, ⟨r15, b16, ?_, r15n⟩, ?_, ?_, lts⟩
        · have hle : h.size ≤ hL.size := by have := e013.size; omega
          rcases e with e | e
          · have := o3 m e; omega
          · omega
        · rcases e with e | e
          · have := o3 m e; have := (lq m hm).1; omega
          · exact (lq m hm).2 e
        · rw [hsn, hyes]
          exact w15.only o16 fun m hm e => by have := r15n m hm; omega
        · rw [hsn, hyes, List.length_append]
          simp only [if_true, List.length_singleton]
          rw [hlo] at g; omega
        · have := o14.size; have := v14.sz; omega
      refine ⟨fun g2 => ?_, fun g2 => ?_⟩
      · refine ⟨_, Blk.cell (i := 0) v11.b12 rfl, q.c, Blk.cells b8b, rng1_spec (Blk.cells v11.b4) (Blk.cells v11.b6) fun h12 e12 => ⟨_, rfl, ?_⟩⟩
        have hin : inS ep fr to (q.c, q.vs) = (decide (cmpC fr q.c ≤ 0) && decide (cmpC q.c to < 0)) := by
          unfold inS; rw [show (atV (q.c, q.vs).2 ep).2 = true from g2, Bool.true_and]
        rw [← hin]
        cases hi : inS ep fr to (q.c, q.vs) with
        | true => exact lay h12 e12 hi
        | false =>
          unfold F.shard_Shard_Range.j2
          exact ⟨fun h => (by cases h), fun _ => skip h12 e12 hi⟩
      · unfold F.shard_Shard_Range.j2
        refine ⟨fun h => (by cases h), fun _ => skip h11' (.refl _) ?_⟩
        unfold inS; rw [show (atV (q.c, q.vs).2 ep).2 = false from g2, Bool.false_and]
  · refine fin h' _ v ?_
    rw [keysZ_len, List.take_length, rows_toS]
    have hl := v.len
    rw [keysZ_len, List.take_length] at hl
    exact (List.take_of_length_le hl).symm
  · obtain ⟨rfl, i, v, hm⟩ := v
    refine ⟨_, rfl, fun _ => fin h' _ v ?_⟩
    rw [rows_toS]
    have hl := v.len
    obtain ⟨tl, htl⟩ := rows_pre ep fr to Z i
    rw [← htl]
    have : most.toNat = (rowsZ ep fr to (Z.take i)).length := by omega
    rw [this, List.take_left]
end Go.Proofs.Ytoccbnhahaoeiaa.V.S
namespace Go.Proofs.Ytoccbnhahaoeiaa.V.S
open Go Go.Proofs.Ytoccbnhahaoeiaa.V
set_option linter.unusedVariables false
set_option linter.unusedSimpArgs false
set_option maxRecDepth 20000
theorem max_of {k : IntKind} {ts : Array TypeId} {t : TypeId} {h : H} {a b : Int} {K : Int → H → Prop} (kk : K (if a < b then b else a) h) : runI PP (Builtin.max_ ts t #[.int k a, .int k b]) h k K := fun w hw =>
  ⟨_, w, rfl, .refl _, _, rfl, by rw [hw]; exact kk⟩
def maxL (L : List Nat) : Nat := L.foldl max 0
theorem w64s {n : Nat} (h : n < 9000000000000000000) : IntKind.wrap .i64 ((n : Int) + 1) = ((n + 1 : Nat) : Int) := by rw [w64 (by omega) (by omega)]; omega
abbrev cN (n : Nat) : List Value := [.int .i64 (n : Int)]
theorem cN_len (n : Nat) : (cN n).length = 1 := rfl
theorem Max_spec {h : H} {s : Sl} {L : List Nat} {Q : Int → H → Prop} (rd : Reads h s 1 (L.flatMap cN)) (hn : L ≠ []) (hl : L.length < 4611686018427387904) (k : Q (maxL L : Int) h) : F.slices_Max_Slint_int s h Q := by
  have hs := rd_len cN_len (by omega) rd
  have hpos := List.length_pos_iff.2 hn
  have at_ : ∀ {i : Nat} {x : Nat} {K : Int → Prop}, L[i]? = some x → K (x : Int) → idxA s (i : Int) 1 fun a => ldI .i64 h a K := fun {i x K} hx kk => by
    obtain ⟨p, p1, p2, p3⟩ := rd_at cN_len (by omega) rd hx
    exact idxR_of (i := i) p1 (by have := (List.getElem?_eq_some_iff.1 hx).1; omega) rfl ((ldI_iff (n := x) p3.one).2 kk)
  unfold F.slices_Max_Slint_int
  rw [hs]
  refine ⟨fun g => by have := of_decide_eq_true g; omega, fun _ => ?_⟩
  unfold F.slices_Max_Slint_int.j1
  obtain ⟨x0, hx0⟩ : ∃ x, L[0]? = some x := ⟨_, List.getElem?_eq_getElem hpos⟩
  refine at_ (i := 0) hx0 ⟨L.length + 1, ?_⟩
  have key : ∀ (d i m : Nat), i ≤ L.length → L.length - i < d → m = maxL (L.take i) → F.slices_Max_Slint_int.l2 Q d s (m : Int) (i : Int) h := by
    intro d
    induction d with
    | zero => intro i m _ hd; omega
    | succ d ih =>
      intro i m hi hd hm
      unfold F.slices_Max_Slint_int.l2
      rw [hs]
      refine ⟨fun g => ?_, fun g => ?_⟩
      · have g := of_decide_eq_true g
        obtain ⟨x, hx⟩ : ∃ x, L[i]? = some x := ⟨_, List.getElem?_eq_getElem (by omega)⟩
        refine at_ hx (max_of ?_)
        rw [w64s (by omega)]
        have hmx : (if (m : Int) < (x : Int) then (x : Int) else (m : Int)) = ((max m x : Nat) : Int) := by split <;> omega
        rw [hmx]
        refine ih (i + 1) (max m x) (by omega) (by omega) ?_
        obtain ⟨h1, h2⟩ := List.getElem?_eq_some_iff.1 hx
        rw [List.take_succ_eq_append_getElem h1, h2]
        unfold maxL at hm ⊢
        rw [List.foldl_append, ← hm]; rfl
      · have : i = L.length := by have := of_decide_eq_false g; omega
        rw [this, List.take_length] at hm
        rw [hm]; exact k
  refine key _ 1 x0 (by omega) (by omega) ?_
  cases L with
  | nil => exact absurd rfl hn
  | cons y r => simp at hx0; subst hx0; simp [maxL]
def lensZ (Z : List Rec) : List Nat := Z.map fun r => r.vs.length
theorem lensZ_len (Z : List Rec) : (lensZ Z).length = Z.length := List.length_map _
def mostS (S : SL) : Nat := maxL (S.map fun x => x.2.length)
structure MI (h hL h' : H) (n2 ka ma b : Nat) (r : Sl) (L : List (ByteArray × Option Addr)) (out : List Nat) : Prop where
  ext : Ext h h'
  sq : P.SeqH h' ka ma b r L
  dfr : h'[hL.size]? = some (.deferred (some []))
  out : ∃ o, Blk h' n2 #[o.enc] tn_Slint ∧ Owns h' o tn_int 1 (out.flatMap cN) ∧ ∀ x, o.blk = some x → hL.size + 2 ≤ x
  sz : hL.size + 1 ≤ h'.size
  lt : n2 < hL.size ∧ (∀ m, SQF ka ma b r m → m < hL.size ∧ m ≠ n2) ∧ h.size ≤ n2
theorem MI.only {h hL h' h'' : H} {n2 ka ma b : Nat} {r : Sl} {L : List (ByteArray × Option Addr)} {out : List Nat} {S : Nat → Prop} (v : MI h hL h' n2 ka ma b r L out) (o : Only S h' h'') (hS : ∀ m, S m → hL.size < m ∧ ∀ o : Sl, Blk h' n2 #[o.enc] tn_Slint → o.blk ≠ some m) : MI h hL h'' n2 ka ma b r L out := by
  obtain ⟨l2, lq, q⟩ := v.lt
  have no : ∀ m, m ≤ hL.size → ¬ S m := fun m hm h => by have := (hS m h).1; omega
  obtain ⟨ou, o1, o2, o3⟩ := v.out
  exact ⟨v.ext.step o fun m hm => no m (by omega), v.sq.only o fun m hm => no m (by have := (lq m hm).1; omega), o.block v.dfr (no _ (by omega)),
    ⟨ou, o.block o1 (no _ (by omega)), o2.only o fun m hm hs => (hS m hs).2 ou o1 hm, o3⟩, by have := o.size; have := v.sz; omega, v.lt⟩
theorem Most_spec {h : H} {n : Nat} {S : SL} {slots : Nat} {R : Nat → Prop} {Q : Int → H → Prop} (s : SH h n S slots R) (k : ∀ h', Ext h h' → Q (mostS S : Int) h') : F.shard_Shard_Most (some ⟨n, 0, none⟩) h Q := by
  obtain ⟨tn, rs, es, T, Z, rfl, z⟩ := s
  unfold F.shard_Shard_Most
  refine new_of fun n2 h1 hn2 b2 e1 s1 => ?_
  have z1 := z.ext e1
  simp only [nn_some, add_lit, Nat.zero_add, Nat.add_zero]
  rw [ldP_iff z1.cs3]
  have hcnt := z.count
  have hzl := z.len
  refine P.All_spec z1.th z1.ok (by omega) fun hL ka ma b r sq eL hmine _ => ?_
  rw [all_eq z1] at sq
  have hLs := eL.size
  have hmost : mostS (toS Z) = maxL (lensZ Z) := by unfold mostS toS lensZ; rw [List.map_map]; rfl
  refine P.range_seq (I := fun i h' => MI h hL h' n2 ka ma b r (keysZ Z) (lensZ (Z.take i))) (E := fun j h' => False)
    (fun i h' h'' v o => v.only o fun m hm => ⟨by omega, fun ou hou hb => ?_⟩) (fun j h' h'' v o => v) (fun i h' v => v.sq) ?_ ?_ (fun h' v => ?_) (fun j h' v => v.elim)
  · obtain ⟨o', o1, o2, o3⟩ := v.out
    have heq := o1.symm.trans hou
    have : o' = ou := enc_inj.1 (by simpa using heq)
    subst this
    have := o3 m hb; omega
  · have ep0 : Ext hL (hL.push (.deferred (some []))) := .push _ _
    refine ⟨(e1.trans eL).trans ep0, sq.only ep0 fun m hm f => f, by simp, ⟨_, ep0.block (eL.block b2 fun f => f) fun f => f, by simpa [lensZ] using Owns.nil _ tn_int 1, fun x hx => by simp [Sl.blk] at hx⟩, by simp, ?_⟩
    exact ⟨by omega, fun m hm => ⟨sq.lt m hm, by have := hmine m hm; omega⟩, by omega⟩
  · intro X i x h5 K J hX v hx hxi kK kJ
    unfold keysZ at hxi
    rw [List.getElem?_map] at hxi
    obtain ⟨q, hq, rfl⟩ : ∃ q, Z[i]? = some q ∧ x = (keyB q.c, some ⟨q.p, 0, none⟩) := by
      cases hy : Z[i]? with
      | none => rw [hy] at hxi; cases hxi
      | some q => rw [hy] at hxi; cases hxi; exact ⟨q, rfl, rfl⟩
    have hqz : q ∈ Z := List.mem_of_getElem? hq
    obtain ⟨o, o1, o2, o3⟩ := v.out
    have hlo := own_len cN_len (by omega) o2
    rw [lensZ_len, List.length_take] at hlo
    have zq := z.ext v.ext
    have c5 : cellH h5 ⟨n2, 0, none⟩ = some o.enc := Blk.cell (i := 0) o1 rfl
    refine ldL_of c5 (C.Len_spec (zq.ch q hqz) ⟨c5, ?_⟩)
    refine newL_of fun n14 h14 hn14 b14 e14 s14 => ⟨e14.cell c5 fun f => f, ?_⟩
    have hi : i < Z.length := (List.getElem?_eq_some_iff.1 hq).1
    refine app_list (L := lensZ (Z.take i)) (M := [q.vs.length]) cN_len (by omega) el_Slint (o2.ext e14) (blk_reads b14 rfl) (fun x => one1 rfl) (by simp only [List.length_singleton, lensZ_len, List.length_take]; omega) fun r15 h15 w15 o15 n15 => ?_
    have x14 : Blk h14 n2 #[o.enc] tn_Slint := e14.block o1 fun f => f
    obtain ⟨l2, lq, ld⟩ := v.lt
    have lts := v.lt
    have hob : o.blk ≠ some n2 := fun e => by have := o3 _ e; omega
    have x15 : Blk h15 n2 #[o.enc] tn_Slint := o15.block x14 hob
    have hh5 : hL.size + 1 < h5.size := (Array.getElem?_eq_some_iff.1 hx).1
    refine stH_of x15 (by simp) fun h16 b16 o16 s16 => ?_
    have r15n : ∀ y, r15.blk = some y → hL.size + 2 ≤ y := fun y hy => by
      rcases n15 with n15 | ⟨y', n15, n16⟩
      · exact o3 y (by rw [← n15]; exact hy)
      · rw [n15] at hy; cases hy
        have := e14.size; omega
    have v14 : MI h hL h14 n2 ka ma b r (keysZ Z) (lensZ (Z.take i)) := v.only e14 fun _ f => f.elim
    have no : ∀ m, m ≤ hL.size + 1 → ¬ (o.blk = some m) := fun m hm e => by have := o3 m e; omega
    have o14 : Only (fun m => o.blk = some m ∨ m = n2) h14 h16 := (o15.mono fun _ _ e => .inl e).trans o16 fun _ _ e => .inr e
    refine kK h16 ⟨v14.ext.step o14 fun m hm e => ?_, v14.sq.only o14 fun m hm e => ?_, o14.block v14.dfr fun e => ?_, ⟨r15, b16, ?_, r15n⟩, ?_, lts⟩ (o14.block (e14.block hx fun f => f) fun e => ?_)
    · rcases e with e | e
      · have := o3 m e; have := (e1.trans eL).size; omega
      · omega
    · rcases e with e | e
      · have := o3 m e; have := (lq m hm).1; omega
      · exact (lq m hm).2 e
    · rcases e with e | e
      · exact no _ (by omega) e
      · omega
    · have hsn : lensZ (Z.take (i + 1)) = lensZ (Z.take i) ++ [q.vs.length] := by
        unfold lensZ
        obtain ⟨h1, h2⟩ := List.getElem?_eq_some_iff.1 hq
        rw [List.take_succ_eq_append_getElem h1, h2, List.map_append]; rfl
      rw [hsn]
      exact w15.only o16 fun m hm e => by have := r15n m hm; omega
    · have := o14.size; have := v14.sz; omega
    · rcases e with e | e
      · exact no _ (Nat.le_refl _) e
      · omega
  · obtain ⟨o, o1, o2, o3⟩ := v.out
    rw [keysZ_len, List.take_length] at o2
    have hlo := own_len cN_len (by omega) o2
    rw [lensZ_len] at hlo
    have c5 : cellH h' ⟨n2, 0, none⟩ = some o.enc := Blk.cell (i := 0) o1 rfl
    have hle : h.size ≤ hL.size := (e1.trans eL).size
    refine ldL_of c5 ⟨fun g => ?_, fun g => ldL_of c5 ?_⟩
    · have hz : Z = [] := List.eq_nil_of_length_eq_zero (by have : (o.len : Int) = 0 := by simpa using g
                                                            omega)
      refine shut1 v.dfr fun h9 o9 => ?_
      have := k h9 (v.ext.step o9 fun m hm e => by omega)
      rw [hmost, hz] at this; exact this
    · have hz : Z ≠ [] := fun e => by rw [e] at hlo; simp [hlo] at g
      refine Max_spec o2.reads (by simpa [lensZ] using hz) (by rw [lensZ_len]; omega) (shut1 v.dfr fun h9 o9 => ?_)
      have := k h9 (v.ext.step o9 fun m hm e => by omega)
      rw [hmost] at this; exact this
end Go.Proofs.Ytoccbnhahaoeiaa.V.S
namespace Go.Proofs.Ytoccbnhahaoeiaa.V.S
open Go Go.Proofs.Ytoccbnhahaoeiaa.V
set_option linter.unusedVariables false
set_option linter.unusedSimpArgs false
set_option maxRecDepth 20000
theorem aliveN_nil : aliveN [] = 0 := rfl
theorem prune_alive {vs : List Ver} (hv : VOk vs) (E : List Int) : aliveN (C.pruneM vs E) = aliveN vs := by
  have hl : (C.newestM vs) = ((vs.getLast hv.ne).value, (vs.getLast hv.ne).epoch, !(vs.getLast hv.ne).dead) := by
    unfold C.newestM; rw [List.getLast?_eq_some_getLast hv.ne]
  rcases C.prune_last hv.rise hv.ne E with ⟨h1, h2⟩ | h1
  · rw [h1, aliveN_nil]
    unfold aliveN alive
    rw [hl, h2]; rfl
  · unfold aliveN alive
    rw [hl]
    unfold C.newestM
    rw [h1]
theorem prune_ok {vs : List Ver} (hv : VOk vs) (E : List Int) (h : C.pruneM vs E ≠ []) : VOk (C.pruneM vs E) := by
  have hs := C.prune_sub vs E
  exact ⟨h, C.rise_sub hv.rise hs, fun v hm => hv.dead v (hs.subset hm), fun v hm => hv.ep v (hs.subset hm)⟩
theorem prune_units {vs : List Ver} (hv : VOk vs) (E : List Int) : unitsV (C.pruneM vs E) + (vs.length - (C.pruneM vs E).length) = unitsV vs := by
  have h1 := prune_alive hv E
  have h2 := C.prune_le vs E
  rw [units_eq, units_eq, h1]; omega
def diffN (E : List Int) (Z : List Rec) : Nat := (Z.map fun r => r.vs.length - (C.pruneM r.vs E).length).sum
def emptyK (E : List Int) (Z : List Rec) : List ByteArray := (Z.filter fun r => (C.pruneM r.vs E).isEmpty).map fun r => keyB r.c
theorem diff_snoc (E : List Int) {Z : List Rec} {i : Nat} {r : Rec} (h : Z[i]? = some r) : diffN E (Z.take (i + 1)) = diffN E (Z.take i) + (r.vs.length - (C.pruneM r.vs E).length) := by
  obtain ⟨h1, h2⟩ := List.getElem?_eq_some_iff.1 h
  unfold diffN
  rw [List.take_succ_eq_append_getElem h1, h2, List.map_append, List.sum_append]; simp
theorem empty_snoc (E : List Int) {Z : List Rec} {i : Nat} {r : Rec} (h : Z[i]? = some r) : emptyK E (Z.take (i + 1)) = emptyK E (Z.take i) ++ (if (C.pruneM r.vs E).isEmpty then [keyB r.c] else []) := by
  obtain ⟨h1, h2⟩ := List.getElem?_eq_some_iff.1 h
  unfold emptyK
  rw [List.take_succ_eq_append_getElem h1, h2, List.filter_append, List.map_append]
  congr 1
  by_cases hi : (C.pruneM r.vs E).isEmpty <;> simp [hi]
theorem setK_idx {α : Type} {key : α → Cel} {x : α} : ∀ {S : List α} {i : Nat} {y : α}, SortK key S → S[i]? = some y → key x = key y → setK key S x = S.set i x
  | [], i, y, _, h, _ => by simp at h
  | z :: r, 0, y, hs, h, he => by
    simp at h; subst h
    unfold setK
    rw [he, cC_self]; simp
  | z :: r, i + 1, y, hs, h, he => by
    have h' := List.pairwise_cons.1 hs
    have hy : r[i]? = some y := by simpa using h
    have hlt := h'.1 y (List.mem_of_getElem? hy)
    have := cC_anti (key z) (key y)
    unfold setK
    rw [he, if_neg (by omega), if_neg (by omega), setK_idx h'.2 hy he]; rfl
/-- All but those of whom nothing is left. -/
theorem units_filter (S : SL) : unitsS (S.filter fun x => !x.2.isEmpty) = unitsS S ∧ thereS (S.filter fun x => !x.2.isEmpty) = thereS S := by
  induction S with
  | nil => exact ⟨rfl, rfl⟩
  | cons x r ih =>
    unfold unitsS thereS at ih ⊢
    by_cases h : x.2.isEmpty
    · have hx : x.2 = [] := by simpa using h
      simp only [List.filter_cons, h, Bool.not_true, Bool.false_eq_true, if_false, List.map_cons, List.sum_cons]
      rw [hx, show unitsV [] = 0 from rfl, show aliveN [] = 0 from rfl]
      omega
    · simp only [List.filter_cons, h, Bool.not_false, if_true, List.map_cons, List.sum_cons]
      omega
theorem diff_le (E : List Int) : ∀ (Z : List Rec), (∀ r ∈ Z, VOk r.vs) → unitsS ((toS Z).map fun x => (x.1, C.pruneM x.2 E)) + diffN E Z = unitsS (toS Z) ∧ thereS ((toS Z).map fun x => (x.1, C.pruneM x.2 E)) = thereS (toS Z)
  | [], _ => ⟨rfl, rfl⟩
  | r :: Z, h => by
    have ih := diff_le E Z fun x hx => h x (by simp [hx])
    have h1 := prune_units (h r (by simp)) E
    have h2 := prune_alive (h r (by simp)) E
    unfold unitsS thereS diffN toS at ih ⊢
    simp only [List.map_cons, List.sum_cons]
    omega
theorem prune_sum (E : List Int) {Z : List Rec} (h : ∀ r ∈ Z, VOk r.vs) : unitsS (pruneS (toS Z) E) + diffN E Z = unitsS (toS Z) ∧ thereS (pruneS (toS Z) E) = thereS (toS Z) := by
  have h1 := units_filter ((toS Z).map fun x => (x.1, C.pruneM x.2 E))
  have h2 := diff_le E Z h
  unfold pruneS
  rw [h1.1, h1.2]; exact h2
section
variable {W : List Ver → Prop} {h h' : H} {n tn : Nat} {rs es : Sl} {T : Tb (Option Addr)} {Z : List Rec} {slots : Nat} {R : Nat → Prop} {u t : Int}
theorem not_sh {h : H} {m : Nat} {c : Array Value} {e : TypeId} (b : Blk h m c e) (he : ¬ ShE e) : ¬ ShTy h m := fun ⟨e', h1, c', h2⟩ => he (by
  have := b.symm.trans h2
  simp at this
  rw [this.2]; exact h1)
/-- A cell that is left out of the table. -/
theorem SZG.drop (z : SZG W h n tn rs es T Z slots R u t) {c : Cel} (hc : okC c = 0) {T' : Tb (Option Addr)} {rs' es' : Sl} (th : P.TH h' tn rs' es' T') (ok : TOk T') (stp : Stp h tn rs es h' rs' es') (hget : ∀ k, getM T' k = if kL k = kL (keyB c) then none else getM T k) (hrl : T'.row.length ≤ 4200000) (hR : ∀ b, h.size ≤ b → R b) :
    SZG W h' n tn rs' es' T' (Z.filter fun r => decide (cmpC r.c c ≠ 0)) slots R u t ∧ SOnly R h h' := by
  have hsub : (Z.filter fun r => decide (cmpC r.c c ≠ 0)).Sublist Z := List.filter_sublist
  have hmem : ∀ {r : Rec}, r ∈ (Z.filter fun r => decide (cmpC r.c c ≠ 0)) ↔ r ∈ Z ∧ cmpC r.c c ≠ 0 := fun {r} => by rw [List.mem_filter]; simp
  have hreg : ∀ b, FT tn rs' es' b → R b := fun b hb => by
    rcases stp.new b hb with e | e
    · rcases e with e | e | e
      · subst e; exact z.rt
      · exact z.rr b e
      · exact z.re b e
    · exact hR b e
  have hus : ∀ (Y : List Rec), unitsS (toS (Y.filter fun r => decide (cmpC r.c c ≠ 0))) ≤ unitsS (toS Y) := fun Y => by
    induction Y with
    | nil => exact Nat.le_refl _
    | cons x r ih =>
      unfold unitsS toS at ih ⊢
      rw [List.filter_cons]
      split
      · simp only [List.map_cons, List.sum_cons]; omega
      · simp only [List.map_cons, List.sum_cons]; omega
  refine ⟨{ sb := stp.only.block z.sb fun e => z.n_ft e rfl, th := th, ok := ok, ch := fun r hr => ?_, get := fun r hr => ?_, all := fun k v hk => ?_, srt := z.srt.sublist hsub, pd := z.pd.sublist hsub, bd := z.bd.sublist hsub, wf := fun r hr => z.wf r (hmem.1 hr).1, us := Nat.le_trans (hus Z) z.us, sl := z.sl, rl := hrl, rn := z.rn, rt := z.rt, rr := fun b hb => hreg b (.inr (.inl hb)), re := fun b hb => hreg b (.inr (.inr hb)), rp := fun r hr => z.rp r (hmem.1 hr).1 }, ?_⟩
  · have hr' := (hmem.1 hr).1
    exact (z.ch r hr').only stp.only (fun e => (z.ch_ft hr' e).1 rfl) fun b hb e => (z.ch_ft hr' e).2 hb
  · obtain ⟨h1, h2⟩ := hmem.1 hr
    rw [hget, if_neg]
    · exact z.get r h1
    · intro he
      rw [kL_keyB, kL_keyB] at he
      exact h2 (cC_zero.2 (key_inj (z.wf r h1).1 hc he))
  · rw [hget] at hk
    split at hk
    · cases hk
    · rename_i hne
      obtain ⟨r, hr, e⟩ := z.all k v hk
      refine ⟨r, hmem.2 ⟨hr, fun h0 => hne ?_⟩, e⟩
      rw [e, cC_zero.1 h0, kL_keyB]
  · exact stp.only.mono fun b _ e => by
      obtain ⟨ty, q1, q2⟩ := ft_ty z.th e
      refine ⟨?_, ty, ?_, q1⟩
      · rcases e with e | e | e
        · subst e; exact z.rt
        · exact z.rr b e
        · exact z.re b e
      · rcases q2 with rfl | rfl
        · exact .inr (.inl rfl)
        · exact .inr (.inr (.inl rfl))
end
def outZ (Cs : List Cel) (Z : List Rec) : List Rec := Z.filter fun r : Rec => decide (∀ c ∈ Cs, cmpC r.c c ≠ 0)
theorem out_nil (Z : List Rec) : outZ [] Z = Z := by
  unfold outZ; rw [List.filter_eq_self]; intro r _; simp
theorem out_cons (c : Cel) (Cs : List Cel) (Z : List Rec) : outZ (c :: Cs) Z = outZ Cs (Z.filter fun r : Rec => decide (cmpC r.c c ≠ 0)) := by
  unfold outZ
  rw [List.filter_filter]
  congr 1
  funext r
  simp
  rw [Bool.and_comm]
/-- The keys of what is left out, one behind the other. -/
theorem drop_loop {W : List Ver → Prop} {n tn : Nat} {slots : Nat} {R : Nat → Prop} {u t : Int} {ds : List Nat} {n4 : Nat} {o : Sl} {Cs : List Cel} {Q : Int → H → Prop} {hb : H} (hCs : ∀ c ∈ Cs, okC c = 0) (hlen : Cs.length < 1073741824) (hR : ∀ b, hb.size ≤ b → R b) :
    ∀ (d i : Nat) (h : H) (rs es : Sl) (T : Tb (Option Addr)) (Z : List Rec), i ≤ Cs.length → Cs.length - i < d → SZG W h n tn rs es T Z slots R u t → Owns h o tn_string 1 ((Cs.map keyB).flatMap cT) → hb.size ≤ h.size →
      (∀ h' rs' es' T', SZG W h' n tn rs' es' T' (outZ (Cs.drop i) Z) slots R u t → SOnly R h h' → F.shard_Shard_Prune.l1 Q 1 ds (some ⟨n, 0, none⟩) ⟨n4, 0, none⟩ o (Cs.length : Int) (Cs.length : Int) h') →
      F.shard_Shard_Prune.l1 Q d ds (some ⟨n, 0, none⟩) ⟨n4, 0, none⟩ o (Cs.length : Int) (i : Int) h := by
  intro d
  induction d with
  | zero => intro i h rs es T Z _ hd; omega
  | succ d ih =>
    intro i h rs es T Z hi hd z w hsz k
    by_cases hlt : i < Cs.length
    · unfold F.shard_Shard_Prune.l1
      refine ⟨fun _ => ?_, fun g => by have := of_decide_eq_false g; omega⟩
      obtain ⟨c, hc⟩ : ∃ c, Cs[i]? = some c := ⟨_, List.getElem?_eq_getElem hlt⟩
      have hcm := List.mem_of_getElem? hc
      have hk : (Cs.map keyB)[i]? = some (keyB c) := by rw [List.getElem?_map, hc]; rfl
      obtain ⟨p, p1, p2, p3⟩ := rd_at cT_len (by omega) w.reads hk
      have hl := own_len cT_len (by omega) w
      rw [List.length_map] at hl
      refine idxR_of (i := i) p1 (by omega) rfl ((ldS_iff (n := keyB c) p3.one).2 ?_)
      simp only [nn_some, add_lit, Nat.zero_add, Nat.add_zero]
      rw [ldP_iff z.cs3]
      obtain ⟨T', t1, t2, t3, t4, t5, t6, t7⟩ := drop_ok (z := P.nilA) z.ok (keyB c)
      refine P.Drop_spec z.th z.ok (key_small (hCs c hcm)) t1 fun h2 es2 th2 stp => ?_
      have hz := z.drop (hCs c hcm) th2 t2 stp t4 (by have := z.rl; omega) fun b hb' => hR b (by omega)
      rw [w64s (by omega)]
      have hw : Owns h2 o tn_string 1 ((Cs.map keyB).flatMap cT) := hz.2.owns w (by unfold ShE; decide)
      refine ih (i + 1) h2 rs es2 T' _ (by omega) (by omega) hz.1 hw (by have := hz.2.size; omega) fun h' rs' es' T'' z' so' => ?_
      refine k h' rs' es' T'' ?_ (hz.2.trans so')
      have he : outZ (Cs.drop i) Z = outZ (Cs.drop (i + 1)) (Z.filter fun r : Rec => decide (cmpC r.c c ≠ 0)) := by
        obtain ⟨q1, q2⟩ := List.getElem?_eq_some_iff.1 hc
        rw [List.drop_eq_getElem_cons q1, q2, out_cons]
      rw [he]; exact z'
    · have hi' : i = Cs.length := by omega
      subst hi'
      have hz : outZ (Cs.drop Cs.length) Z = Z := by rw [List.drop_length, out_nil]
      have := k h rs es T (by rw [hz]; exact z) (.refl _)
      unfold F.shard_Shard_Prune.l1 at this ⊢
      exact ⟨fun g => by have := of_decide_eq_true g; omega, fun g => this.2 g⟩
end Go.Proofs.Ytoccbnhahaoeiaa.V.S
namespace Go.Proofs.Ytoccbnhahaoeiaa.V.S
open Go Go.Proofs.Ytoccbnhahaoeiaa.V
set_option linter.unusedVariables false
set_option linter.unusedSimpArgs false
set_option maxRecDepth 20000
section
variable {W W' : List Ver → Prop} {h h' : H} {n tn : Nat} {rs es : Sl} {T : Tb (Option Addr)} {Z : List Rec} {slots : Nat} {R R' : Nat → Prop} {u t : Int}
theorem SZG.turn (z : SZG W h n tn rs es T Z slots R u t) (hw : ∀ r ∈ Z, W r.vs → W' r.vs) (hr : ∀ b, b < h.size → R b → R' b) : SZG W' h n tn rs es T Z slots R' u t := by
  obtain ⟨l1, l2, l3⟩ := z.f_lt
  exact { z with wf := fun r hr => ⟨(z.wf r hr).1, hw r hr (z.wf r hr).2⟩, rn := hr _ l1 z.rn, rt := hr _ (l2 _ (.inl rfl)) z.rt, rr := fun b hb => hr _ (l2 _ (.inr (.inl hb))) (z.rr b hb), re := fun b hb => hr _ (l2 _ (.inr (.inr hb))) (z.re b hb), rp := fun r hm => ⟨hr _ (l3 r hm).1 (z.rp r hm).1, fun x hx => hr _ ((l3 r hm).2 x hx) ((z.rp r hm).2 x hx)⟩ }
end
abbrev WP (vs : List Ver) : Prop := vs = [] ∨ VOk vs
def ToP (E : List Int) (Z Zi : List Rec) (i : Nat) : Prop := Zi.length = Z.length ∧ ∀ (j : Nat) (r : Rec), Z[j]? = some r → ∃ B, Zi[j]? = some ⟨r.c, if j < i then C.pruneM r.vs E else r.vs, r.p, B⟩
structure PI (h hL h' : H) (n n2 n4 n7 ka ma b tn : Nat) (rs es r : Sl) (T : Tb (Option Addr)) (L : List (ByteArray × Option Addr)) (held : Sl) (E : List Int) (Z : List Rec) (slots : Nat) (R : Nat → Prop) (u t : Int) (i : Nat) : Prop where
  so : SOnly R h h'
  b2 : Blk h' n2 #[held.enc] tn_Slint
  b4 : Blk h' n4 #[.int .i64 (diffN E (Z.take i) : Int)] tn_int
  b7 : ∃ o, Blk h' n7 #[o.enc] tn_Slstring ∧ Owns h' o tn_string 1 ((emptyK E (Z.take i)).flatMap cT) ∧ ∀ x, o.blk = some x → hL.size + 2 ≤ x
  sq : P.SeqH h' ka ma b r L
  dfr : h'[hL.size]? = some (.deferred (some []))
  sz : hL.size + 1 ≤ h'.size
  z : ∃ Zi, SZG WP h' n tn rs es T Zi slots (fun b => R b ∧ b ≠ hL.size + 1) u t ∧ ToP E Z Zi i
  lt : n2 < hL.size ∧ n4 < hL.size ∧ n7 < hL.size ∧ h.size ≤ n2 ∧ h.size ≤ n4 ∧ h.size ≤ n7 ∧ n2 ≠ n4 ∧ n2 ≠ n7 ∧ n4 ≠ n7 ∧ ∀ m, SQF ka ma b r m → m < hL.size ∧ m ≠ n4 ∧ m ≠ n7 ∧ h.size ≤ m
theorem int_ty : ¬ ShE tn_int := by unfold ShE; decide
theorem str_ty : ¬ ShE tn_string := by unfold ShE; decide
theorem slstr_ty : ¬ ShE tn_Slstring := by unfold ShE; decide
theorem units_take (Z : List Rec) (i : Nat) : unitsS (toS (Z.take i)) ≤ unitsS (toS Z) := by
  have : toS Z = toS (Z.take i) ++ toS (Z.drop i) := by unfold toS; rw [← List.map_append, List.take_append_drop]
  rw [this]
  unfold unitsS
  rw [List.map_append, List.sum_append]; omega
theorem Prune_spec {h : H} {n : Nat} {S : SL} {slots : Nat} {R : Nat → Prop} {held : Sl} {E : List Int} {Q : Int → H → Prop} (s : SH h n S slots R) (rd : Reads h held 1 (E.flatMap cI)) (hE : E.length < 1073741824)
    (hlt : E ≠ [] → ∀ b, held.blk = some b → b < h.size ∧ ¬ (R b ∧ ShTy h b)) (hR : ∀ b, h.size ≤ b → R b)
    (k : ∀ h', SH h' n (pruneS S E) slots R → SOnly R h h' → Q ((unitsS S : Int) - unitsS (pruneS S E)) h') : F.shard_Shard_Prune (some ⟨n, 0, none⟩) held h Q := by
  obtain ⟨tn, rs, es, T, Z, hZS, z⟩ := s
  have hvok : ∀ r ∈ Z, VOk r.vs := fun r hr => (z.wf r hr).2
  have hsum := prune_sum E hvok
  rw [hZS] at hsum
  unfold F.shard_Shard_Prune
  refine new_of fun n2 h1 hn2 b2 e1 s1 => new_of fun n4 h3 hn4 b4 e3 s3 => ?_
  refine stH_of b4 (by simp) fun h5 b5 o5 s5 => new_of fun n7 h6 hn7 b7 e6 s6 => ?_
  have b4' : Blk h5 n4 #[.int .i64 0] tn_int := b5
  have e06 : Ext h h6 := ((e1.trans e3).step o5 fun m hm hb => by omega).trans e6
  have x2 : Blk h6 n2 #[held.enc] tn_Slint := e6.block (o5.block (e3.block b2 fun f => f) (by omega)) fun f => f
  have x4 : Blk h6 n4 #[.int .i64 0] tn_int := e6.block b4' fun f => f
  have z6 := z.ext e06
  simp only [nn_some, add_lit, Nat.zero_add, Nat.add_zero]
  rw [ldP_iff z6.cs3]
  have hcnt := z.count
  have hzl := z.len
  have hus := z.us
  have hsl := z.sl
  obtain ⟨f1, f2, f3⟩ := z.f_lt
  refine P.All_spec z6.th z6.ok (by omega) fun hL ka ma b r sq eL hmine _ => ?_
  rw [all_eq z6] at sq
  have hLs := eL.size
  have e06s := e06.size
  have e0L := e06.trans eL
  -- the record's place
  have keepZ : ∀ {a c : H} {Zi : List Rec} {P : Nat → Prop}, SZG WP a n tn rs es T Zi slots (fun b => R b ∧ b ≠ hL.size + 1) (unitsS (toS Z) : Int) (thereS (toS Z) : Int) → Only P a c → (∀ b, P b → b = hL.size + 1 ∨ ¬ ShTy a b) → SZG WP c n tn rs es T Zi slots (fun b => R b ∧ b ≠ hL.size + 1) (unitsS (toS Z) : Int) (thereS (toS Z) : Int) := fun hz o hp => hz.keep o fun b hb ht hP => by
    rcases hp b hP with e | e
    · exact hb.2 e
    · exact e ht
  refine P.range_seq (I := fun i h' => PI h hL h' n n2 n4 n7 ka ma b tn rs es r T (keysZ Z) held E Z slots R (unitsS (toS Z) : Int) (thereS (toS Z) : Int) i) (E := fun j h' => False)
    (fun i h' h'' v o => ?_) (fun j h' h'' v o => v) (fun i h' v => v.sq) ?_ ?_ (fun h' v => ?_) (fun j h' v => v.elim)
  · obtain ⟨l2, l4, l7, g2, g4, g7, d24, d27, d47, lq⟩ := v.lt
    obtain ⟨ou, q1, q2, q3⟩ := v.b7
    obtain ⟨Zi, zi, tp⟩ := v.z
    exact ⟨Only.trans v.so o fun m hm e => by omega, o.block v.b2 (by omega), o.block v.b4 (by omega), ⟨ou, o.block q1 (by omega), q2.only o fun m hm e => by have := q3 m hm; omega, q3⟩, v.sq.only o fun m hm e => by have := (lq m hm).1; omega,
      o.block v.dfr (by omega), by have := o.size; have := v.sz; omega, ⟨Zi, keepZ zi o fun b e => .inl e, tp⟩, v.lt⟩
  · have ep0 : Ext hL (hL.push (.deferred (some []))) := .push _ _
    have eH := eL.trans ep0
    refine ⟨SOnly.of (e06.trans eH), eH.block x2 fun f => f, eH.block x4 fun f => f, ⟨_, eH.block b7 fun f => f, by simpa [emptyK] using Owns.nil _ tn_string 1, fun x hx => by simp [Sl.blk] at hx⟩, sq.only ep0 fun m hm f => f, by simp, by simp, ⟨Z, ?_, rfl, fun j r hj => ⟨r.B, ?_⟩⟩, ?_⟩
    · exact (z.turn (fun r hr hw => .inr hw) fun b hb hr => ⟨hr, by omega⟩).ext (e06.trans eH)
    · rw [if_neg (Nat.not_lt_zero j)]; exact hj
    · exact ⟨by omega, by omega, by omega, by omega, by omega, by omega, by omega, by omega, by omega, fun m hm => ⟨sq.lt m hm, by have := hmine m hm; omega, by have := hmine m hm; omega, by have := hmine m hm; omega⟩⟩
  · intro X i x h5 K J hX v hx hxi kK kJ
    unfold keysZ at hxi
    rw [List.getElem?_map] at hxi
    obtain ⟨q, hq, rfl⟩ : ∃ q, Z[i]? = some q ∧ x = (keyB q.c, some ⟨q.p, 0, none⟩) := by
      cases hy : Z[i]? with
      | none => rw [hy] at hxi; cases hxi
      | some q => rw [hy] at hxi; cases hxi; exact ⟨q, rfl, rfl⟩
    have hqz : q ∈ Z := List.mem_of_getElem? hq
    have lts := v.lt
    obtain ⟨l2, l4, l7, g2, g4, g7, d24, d27, d47, lq⟩ := v.lt
    obtain ⟨o, q1, q2, q3⟩ := v.b7
    obtain ⟨Zi, zi, tl, tp⟩ := v.z
    obtain ⟨B, hB⟩ := tp i q hq
    rw [if_neg (Nat.lt_irrefl i)] at hB
    have hBm := List.mem_of_getElem? hB
    have hqp := (f3 q hqz).1
    have hh5 : hL.size + 1 < h5.size := (Array.getElem?_eq_some_iff.1 hx).1
    have c4 : cellH h5 ⟨n4, 0, none⟩ = some (.int .i64 (diffN E (Z.take i) : Int)) := Blk.cell (i := 0) v.b4 rfl
    refine ldI_of c4 (ldL_of (Blk.cell (i := 0) v.b2 rfl) ?_)
    have rd5 : Reads h5 held 1 (E.flatMap cI) := rd.keep v.so fun hne bb hb hs => (hlt hne bb hb).2 hs
    have hv := hvok q hqz
    have so5 := v.so.size
    have hvl := z.vlen hqz
    have chq : C.Ch h5 q.p q.vs B := zi.ch ⟨q.c, q.vs, q.p, B⟩ hBm
    refine C.Prune_spec chq hv.rise (by omega) hE rd5 (fun hne bb hb => by have := (hlt hne bb hb).1; omega) fun h6 B' c6 o6 kin6 => ?_
    have c46 : cellH h6 ⟨n4, 0, none⟩ = some (.int .i64 (diffN E (Z.take i) : Int)) := o6.cell c4 (by simp only; omega)
    refine ⟨c46, ?_⟩
    have hpu := prune_units hv E
    have hple := C.prune_le q.vs E
    have hsn := diff_snoc E hq
    have hdle := (diff_le E (Z.take (i + 1)) fun r hr => hvok r (List.mem_of_mem_take hr)).1
    have hut := units_take Z (i + 1)
    have hw : IntKind.wrap .i64 ((diffN E (Z.take i) : Int) + ((q.vs.length : Int) - ((C.pruneM q.vs E).length : Int))) = (diffN E (Z.take (i + 1)) : Int) := by rw [w64 (by omega) (by omega)]; omega
    rw [hw]
    have hsetu : unitsS (toS (setK Rec.c Zi ⟨q.c, C.pruneM q.vs E, q.p, B'⟩)) ≤ slots := by
      rw [toS_set]
      show unitsS (setS (toS Zi) q.c (C.pruneM q.vs E)) ≤ slots
      have hs : SortS (toS Zi) := by unfold SortS SortK; rw [List.pairwise_map]; exact zi.srt
      have h1 := set_units hs q.c (C.pruneM q.vs E)
      have h2 : getS (toS Zi) q.c = some q.vs := by
        rw [SZG.getS zi q.c]
        have := getK_mem zi.srt hBm
        simp only at this
        rw [this]; rfl
      rw [h2] at h1
      simp only [Option.getD_some] at h1
      have := zi.us
      omega
    have hwp : WP (C.pruneM q.vs E) := by
      by_cases he : C.pruneM q.vs E = []
      · exact .inl he
      · exact .inr (prune_ok hv E he)
    obtain ⟨z6q, so6⟩ := zi.lay (r := ⟨q.c, q.vs, q.p, B⟩) hBm c6 (o6.mono fun _ _ e => .inl e) kin6 hwp hsetu fun bb hb => ⟨hR bb (by omega), by omega⟩
    have z6' : SZG WP h6 n tn rs es T (setK Rec.c Zi ⟨q.c, C.pruneM q.vs E, q.p, B'⟩) slots (fun b => R b ∧ b ≠ hL.size + 1) (unitsS (toS Z) : Int) (thereS (toS Z) : Int) := z6q
    rw [setK_idx (x := ⟨q.c, C.pruneM q.vs E, q.p, B'⟩) zi.srt hB rfl] at z6'
    have tp6 : ToP E Z (Zi.set i ⟨q.c, C.pruneM q.vs E, q.p, B'⟩) (i + 1) := ⟨by rw [List.length_set]; exact tl, fun j r hj => by
      by_cases hji : j = i
      · subst hji
        rw [hq] at hj; cases hj
        exact ⟨B', by rw [List.getElem?_set_self (by rw [tl]; exact (List.getElem?_eq_some_iff.1 hq).1), if_pos (by omega)]⟩
      · obtain ⟨B2, h2⟩ := tp j r hj
        refine ⟨B2, ?_⟩
        rw [List.getElem?_set_ne (fun e => hji e.symm), h2]
        by_cases hlt' : j < i
        · rw [if_pos hlt', if_pos (by omega)]
        · rw [if_neg hlt', if_neg (by omega)]⟩
    have b46 : Blk h6 n4 #[.int .i64 (diffN E (Z.take i) : Int)] tn_int := o6.block v.b4 (by omega)
    refine stH_of b46 (by simp) fun h7 b47 o7 s7 => ?_
    have z7 := keepZ z6' o7 fun bb e => .inr (by subst e; exact not_sh b46 int_ty)
    have no7 : ∀ m, m ≠ q.p → m ≠ n4 → ∀ y, h5[m]? = some y → h7[m]? = some y := fun m h1 h2 y hy => o7.block (o6.block hy h1) h2
    have so7 : SOnly R h h7 := by
      have a1 : SOnly R h5 h6 := so6.mono fun m hm e => ⟨e.1.1, e.2⟩
      exact Only.trans (v.so.trans a1) o7 fun m hm e => by omega
    have o57 : Only (fun m => m = q.p ∨ m = n4) h5 h7 := (o6.mono fun _ _ e => .inl e).trans o7 fun _ _ e => .inr e
    have q2' : Owns h7 o tn_string 1 ((emptyK E (Z.take i)).flatMap cT) := q2.only o57 fun m hm e => by have := q3 m hm; omega
    have sq7 : P.SeqH h7 ka ma b r (keysZ Z) := v.sq.only o57 fun m hm e => by
      have := lq m hm
      rcases e with e | e <;> omega
    have x7 : h7[hL.size + 1]? = some X := no7 _ (by omega) (by omega) _ hx
    have d7 : h7[hL.size]? = some (.deferred (some [])) := no7 _ (by omega) (by omega) _ v.dfr
    have x72 : Blk h7 n2 #[held.enc] tn_Slint := no7 _ (by omega) (by omega) _ v.b2
    have x77 : Blk h7 n7 #[o.enc] tn_Slstring := no7 _ (by omega) (by omega) _ q1
    have sz7 : h5.size ≤ h7.size := o57.size
    have hmem7 : (⟨q.c, C.pruneM q.vs E, q.p, B'⟩ : Rec) ∈ Zi.set i ⟨q.c, C.pruneM q.vs E, q.p, B'⟩ := List.mem_of_getElem? (List.getElem?_set_self (by rw [tl]; exact (List.getElem?_eq_some_iff.1 hq).1))
    have ch7 : C.Ch h7 q.p (C.pruneM q.vs E) B' := z7.ch ⟨q.c, C.pruneM q.vs E, q.p, B'⟩ hmem7
    refine C.Len_spec ch7 ⟨fun g => ?_, fun g => ?_⟩
    · have h0 : ((C.pruneM q.vs E).length : Int) = 0 := by simpa using g
      have hnil : C.pruneM q.vs E = [] := List.eq_nil_of_length_eq_zero (by omega)
      refine ldL_of (Blk.cell (i := 0) x77 rfl) (newL_of fun n14 h14 hn14 b14 e14 s14 => ?_)
      have hel : (emptyK E (Z.take i)).length ≤ 1048576 := by
        unfold emptyK
        have := List.length_filter_le (fun r : Rec => (C.pruneM r.vs E).isEmpty) (Z.take i)
        rw [List.length_map]
        rw [List.length_take] at this
        omega
      refine app_list (L := emptyK E (Z.take i)) (M := [keyB q.c]) cT_len (by omega) el_Slstring (q2'.ext e14) (blk_reads b14 rfl) (fun x => one1 rfl) (by simp only [List.length_singleton]; omega) fun r15 h15 w15 o15 n15 => ?_
      have x14 : Blk h14 n7 #[o.enc] tn_Slstring := e14.block x77 fun f => f
      have hob : o.blk ≠ some n7 := fun e => by have := q3 _ e; omega
      have x15 : Blk h15 n7 #[o.enc] tn_Slstring := o15.block x14 hob
      refine stH_of x15 (by simp) fun h16 b16 o16 s16 => ?_
      have r15n : ∀ y, r15.blk = some y → hL.size + 2 ≤ y := fun y hy => by
        rcases n15 with n15 | ⟨y', n15, n16⟩
        · exact q3 y (by rw [← n15]; exact hy)
        · rw [n15] at hy; cases hy
          have := e14.size; omega
      have o14 : Only (fun m => o.blk = some m ∨ m = n7) h14 h16 := (o15.mono fun _ _ e => .inl e).trans o16 fun _ _ e => .inr e
      have o716 : Only (fun m => o.blk = some m ∨ m = n7) h7 h16 := (e14.only (S := fun m => o.blk = some m ∨ m = n7)).trans o14 fun _ _ e => e
      have no : ∀ m, m ≤ hL.size + 1 → m ≠ n7 → ¬ (o.blk = some m ∨ m = n7) := fun m hm hne e => by
        rcases e with e | e
        · have := q3 m e; omega
        · exact hne e
      have so16 : SOnly R h h16 := Only.trans so7 o716 fun m hm e => by
        rcases e with e | e
        · have := q3 m e; omega
        · omega
      refine kK h16 ⟨so16, o716.block x72 (no _ (by omega) d27), o716.block b47 (no _ (by omega) d47), ⟨r15, b16, ?_, r15n⟩, sq7.only o716 fun m hm => no m (by have := lq m hm; omega) (lq m hm).2.2.1, o716.block d7 (no _ (by omega) (by omega)), by have := o716.size; omega, ⟨_, keepZ z7 o716 fun bb e => .inr ?_, tp6⟩, lts⟩ (o716.block x7 (no _ (Nat.le_refl _) (by omega)))
      · rw [empty_snoc E hq, if_pos (by rw [hnil]; rfl)]
        exact w15.only o16 fun m hm e => by have := r15n m hm; omega
      · rcases e with e | e
        · obtain ⟨c, hc⟩ := q2'.typ e
          exact not_sh hc str_ty
        · subst e; exact not_sh x77 slstr_ty
    · have hne : (C.pruneM q.vs E).isEmpty = false := by
        cases hp : C.pruneM q.vs E with
        | nil => rw [hp] at g; simp at g
        | cons a b => rfl
      refine kK h7 ⟨so7, x72, b47, ⟨o, x77, ?_, q3⟩, sq7, d7, by omega, ⟨_, z7, tp6⟩, lts⟩ x7
      rw [empty_snoc E hq, hne]
      simpa using q2'
  · obtain ⟨l2, l4, l7, g2, g4, g7, d24, d27, d47, lq⟩ := v.lt
    obtain ⟨o, q1, q2, q3⟩ := v.b7
    obtain ⟨Zn, zn, tl, tp⟩ := v.z
    rw [keysZ_len, List.take_length] at q2
    have b4 := v.b4
    rw [keysZ_len, List.take_length] at b4
    rw [keysZ_len] at tp
    have hek : emptyK E Z = ((Z.filter fun r => (C.pruneM r.vs E).isEmpty).map fun r => r.c).map keyB := by unfold emptyK; rw [List.map_map]; rfl
    rw [hek] at q2
    have hlo := own_len cT_len (by omega) q2
    rw [List.length_map] at hlo
    have so5 := v.so.size
    refine ldL_of (Blk.cell (i := 0) q1 rfl) ⟨((Z.filter fun r : Rec => (C.pruneM r.vs E).isEmpty).map fun r => r.c).length + 1, ?_⟩
    rw [hlo]
    have hfl := List.length_filter_le (fun r : Rec => (C.pruneM r.vs E).isEmpty) Z
    have zR := zn.turn (W' := WP) (R' := R) (fun r hr hw => hw) fun b hb hr => hr.1
    refine drop_loop (hb := h') (fun c hc => ?_) (by rw [List.length_map]; omega) (fun bb hb => hR bb (by omega)) _ 0 h' rs es T Zn (by omega) (by omega) zR q2 (Nat.le_refl _) fun h2 rs2 es2 T2 z2 so2 => ?_
    · obtain ⟨r', hr', rfl⟩ := List.mem_map.1 hc
      exact (z.wf r' (List.mem_filter.1 hr').1).1
    · rw [List.drop_zero] at z2
      unfold F.shard_Shard_Prune.l1
      refine ⟨fun g => by have := of_decide_eq_true g; omega, fun _ => ?_⟩
      simp only [nn_some, add_lit, Nat.zero_add, Nat.add_zero]
      have b42 : Blk h2 n4 #[.int .i64 (diffN E Z : Int)] tn_int := so2.block b4 fun hs => not_sh b4 int_ty hs.2
      rw [ldI_iff z2.cs0, ldI_iff (Blk.cell (i := 0) b42 rfl)]
      rw [hZS] at z2 ⊢
      rw [hZS] at hus
      rw [w64 (by omega) (by omega)]
      refine z2.st0 fun h3 z3 so3 => ?_
      have b43 : Blk h3 n4 #[.int .i64 (diffN E Z : Int)] tn_int := so3.block b42 fun hs => not_sh b42 int_ty hs.2
      rw [ldI_iff (Blk.cell (i := 0) b43 rfl)]
      have nd : ∀ {hh : H}, hh[hL.size]? = some (.deferred (some [])) → ¬ ShTy hh hL.size := fun hd ⟨e, _, c, h2⟩ => by
        have := hd.symm.trans h2
        simp at this
      have d2 := so2.block v.dfr fun hs => nd v.dfr hs.2
      have d3 := so3.block d2 fun hs => nd d2 hs.2
      refine shut1 d3 fun h9 o9 => ?_
      have z9 : SZG WP h9 n tn rs2 es2 T2 _ slots R _ _ := z3.keep o9 fun b hb ht e => by subst e; exact nd d3 ht
      have so9 : SOnly R h h9 := Only.trans ((v.so.trans so2).trans so3) o9 fun m hm e => by have := e0L.size; omega
      -- what is left
      have hidx : ∀ x ∈ Zn, ∃ q ∈ Z, x.c = q.c ∧ x.vs = C.pruneM q.vs E := fun x hx => by
        obtain ⟨j, hj⟩ := List.mem_iff_getElem?.1 hx
        have hjl := (List.getElem?_eq_some_iff.1 hj).1
        obtain ⟨q, hq⟩ : ∃ q, Z[j]? = some q := ⟨_, List.getElem?_eq_getElem (by omega)⟩
        obtain ⟨B, hB⟩ := tp j q hq
        rw [hj, if_pos (by omega)] at hB
        cases hB
        exact ⟨q, List.mem_of_getElem? hq, rfl, rfl⟩
      have htoS : toS Zn = (toS Z).map fun x => (x.1, C.pruneM x.2 E) := by
        apply List.ext_getElem?
        intro j
        unfold toS
        rw [List.map_map, List.getElem?_map, List.getElem?_map]
        cases hq : Z[j]? with
        | none =>
          have : Zn[j]? = none := by rw [List.getElem?_eq_none_iff] at hq ⊢; omega
          rw [this]; rfl
        | some q =>
          obtain ⟨B, hB⟩ := tp j q hq
          rw [if_pos (by have := (List.getElem?_eq_some_iff.1 hq).1; omega)] at hB
          rw [hB]; rfl
      have hout : outZ ((Z.filter fun r : Rec => (C.pruneM r.vs E).isEmpty).map fun r => r.c) Zn = Zn.filter fun r : Rec => !r.vs.isEmpty := by
        unfold outZ
        refine List.filter_congr fun x hx => ?_
        obtain ⟨q, hq, h1, h2⟩ := hidx x hx
        rw [h2]
        cases he : (C.pruneM q.vs E).isEmpty with
        | true =>
          have : ¬ ∀ c ∈ (Z.filter fun r : Rec => (C.pruneM r.vs E).isEmpty).map (fun r => r.c), cmpC x.c c ≠ 0 := fun hall => hall q.c (List.mem_map.2 ⟨q, List.mem_filter.2 ⟨hq, he⟩, rfl⟩) (by rw [h1]; exact cC_self _)
          rw [decide_eq_false this]; rfl
        | false =>
          have : ∀ c ∈ (Z.filter fun r : Rec => (C.pruneM r.vs E).isEmpty).map (fun r => r.c), cmpC x.c c ≠ 0 := fun c hc h0 => by
            obtain ⟨q', hq', rfl⟩ := List.mem_map.1 hc
            obtain ⟨m1, m2⟩ := List.mem_filter.1 hq'
            have hcc := (cC_zero.1 h0).symm.trans h1
            have g1 := getK_mem z.srt m1
            have g2 := getK_mem z.srt hq
            rw [hcc, g2] at g1
            cases g1
            rw [he] at m2; cases m2
          rw [decide_eq_true this]; rfl
      rw [hout] at z9
      have hS' : toS (Zn.filter fun r : Rec => !r.vs.isEmpty) = pruneS S E := by
        rw [← hZS]
        unfold pruneS
        rw [← htoS]
        unfold toS
        rw [List.filter_map]; rfl
      have zz : SZ h9 n tn rs2 es2 T2 _ slots R _ _ := z9.turn (W' := VOk) (R' := R) (fun x hx hw => by
        obtain ⟨m1, m2⟩ := List.mem_filter.1 hx
        obtain ⟨q, hq, h1, h2⟩ := hidx x m1
        rw [h2] at m2 ⊢
        exact prune_ok (hvok q hq) E fun e => by rw [e] at m2; cases m2) fun b hb hr => hr
      have hdiff : ((diffN E Z : Nat) : Int) = (unitsS S : Int) - unitsS (pruneS S E) := by omega
      rw [hdiff]
      refine k h9 ⟨tn, rs2, es2, T2, _, hS', ?_⟩ so9
      rw [hS', hsum.2]
      have : (unitsS S : Int) - (diffN E Z : Int) = unitsS (pruneS S E) := by omega
      rw [this] at zz
      exact zz
end Go.Proofs.Ytoccbnhahaoeiaa.V.S
namespace Go.Proofs.Ytoccbnhahaoeiaa.V.S
open Go Go.Proofs.Ytoccbnhahaoeiaa.V
set_option linter.unusedVariables false
set_option linter.unusedSimpArgs false
set_option maxRecDepth 20000
abbrev oneA (v : Int) : S_api_Agg := ⟨1, v, v, v⟩
theorem one_spec {h : H} {v : Int} {Q : S_api_Agg → H → Prop} (k : ∀ h', Ext h h' → Q (oneA v) h') : F.spatelaw7_one v h Q := by
  unfold F.spatelaw7_one
  refine new_of fun m h1 hm b1 e1 s1 => ?_
  have b1' : Blk h1 m zA.cells.toArray tn_api_Agg := b1
  exact C.st_agg b1' (d := oneA v) fun h2 b2 o2 s2 => ⟨_, b2.cells, k h2 (e1.step o2 fun x hx hb => by omega)⟩
theorem right_one (a b c : Int) : RightIs ⟨1, a, b, c⟩ (decide (b = a ∧ c = a)) := fun h Q k => by
  unfold F.agg_Right
  refine new_of fun m h1 hm b1 e1 s1 => ?_
  have c0 : cellH h1 ⟨m, 0, none⟩ = some (.int .i64 1) := Blk.cells b1 0 _ rfl
  have c1 : cellH h1 ⟨m, 1, none⟩ = some (.int .i64 a) := Blk.cells b1 1 _ rfl
  have c2 : cellH h1 ⟨m, 2, none⟩ = some (.int .i64 b) := Blk.cells b1 2 _ rfl
  have c3 : cellH h1 ⟨m, 3, none⟩ = some (.int .i64 c) := Blk.cells b1 3 _ rfl
  simp only [add_lit, Nat.zero_add, Nat.add_zero]
  rw [ldI_iff c0]
  refine ⟨fun g => by have := of_decide_eq_true g; omega, fun _ => ?_⟩
  rw [ldI_iff c0]
  refine ⟨fun _ => ?_, fun g => by simp at g⟩
  rw [ldI_iff c2, ldI_iff c1]
  have k := k h1 e1
  refine ⟨fun g => ?_, fun g => ?_⟩
  · have g : b = a := by simpa using g
    rw [ldI_iff c3, ldI_iff c1]
    have : decide (b = a ∧ c = a) = (c == a) := by
      by_cases h : c = a <;> simp [g, h]
    rw [this] at k; exact k
  · have g : ¬ b = a := by simpa using g
    have : decide (b = a ∧ c = a) = false := by simp [g]
    rw [this] at k; exact k
theorem right_one' (v : Int) : RightIs (oneA v) true := by
  have := right_one v v v
  simpa using this
theorem agg_eq {a b : S_api_Agg} : ((a.Count == b.Count) && ((a.Sum == b.Sum) && ((a.Min == b.Min) && ((a.Max == b.Max) && true)))) = true ↔ a = b := by
  obtain ⟨a1, a2, a3, a4⟩ := a
  obtain ⟨b1, b2, b3, b4⟩ := b
  simp [and_assoc]
abbrev cA : Cel := ⟨0, ⟨#[97]⟩, 0⟩
theorem head_spec {h : H} {Q : Bool → H → Prop} (k : ∀ h', Ext h h' → Q true h') : F.spatelaw7_head h Q := by
  unfold F.spatelaw7_head
  refine New_spec (R := fun b => h.size ≤ b) (fun g => by omega) (fun b hb => hb) fun _ _ h1 n sh e1 hn => ⟨fun g => by simp at g, fun _ => ?_⟩
  unfold F.spatelaw7_head.j2
  refine ⟨fun g => by simp at g, fun _ => ?_⟩
  unfold F.spatelaw7_head.j1
  refine new_of fun m h4 hm b4 e4 s4 => ?_
  have b4' : Blk h4 m zeroC.cells.toArray tn_api_Cell := b4
  refine st_cel b4' (d := cA) fun h6 b6 o6 s6 => ⟨cA, b6.cells, ?_⟩
  have e16 : Ext h1 h6 := e4.step o6 fun x hx hb => by omega
  refine one_spec fun h9 e9 => ⟨(Blk.cells b6).ext e9, ?_⟩
  have sh9 := (sh.ext e16).ext e9
  have e09 : Ext h h9 := (e1.trans e16).trans e9
  have hR : ∀ {hh : H}, Ext h hh → ∀ b, hh.size ≤ b → h.size ≤ b := fun e b hb => by have := e.size; omega
  have b9 : Blk h9 m cA.cells.toArray tn_api_Cell := e9.block b6 fun f => f
  have mty : ¬ ShE tn_api_Cell := by unfold ShE; decide
  have keep : ∀ {a b : H}, SOnly (fun x => h.size ≤ x) a b → Blk a m cA.cells.toArray tn_api_Cell → Blk b m cA.cells.toArray tn_api_Cell := fun o hb => o.block hb fun ⟨_, e, h1, c, h2⟩ => mty (by
    have := hb.symm.trans h2
    simp at this
    rw [this.2]; exact h1)
  refine Put_spec (x := ⟨cA, oneA 5⟩) sh9 (right_one' 5) (hR e09) (fun g => absurd (by decide) g) fun _ h12 sh12 o12 => ?_
  have e012 : Ext h h12 := o12.base e09 fun b hb => hb
  have b12 := keep o12 b9
  refine ⟨cA, b12.cells, one_spec fun h16 e16' => ⟨(Blk.cells b12).ext e16', ?_⟩⟩
  have e016 := e012.trans e16'
  refine Put_spec (x := ⟨cA, oneA 6⟩) (sh12.ext e16') (right_one' 6) (hR e016) (fun g => absurd (by decide) g) fun _ h19 sh19 o19 => ?_
  have e019 : Ext h h19 := o19.base e016 fun b hb => hb
  have b19 := keep o19 (e16'.block b12 fun f => f)
  refine ⟨fun _ => ⟨fun _ => ?_, fun g => by simp at g⟩, fun g => by simp at g⟩
  simp only [nn_some, add_lit, Nat.zero_add, Nat.add_zero]
  refine Units_spec sh19 ⟨fun _ => ?_, fun g => absurd (show ((unitsS (putS (putS [] 1 cA (oneA 5)) 2 cA (oneA 6)) : Int) == 3) = true from by decide) (by rw [g]; decide)⟩
  refine Cells_spec sh19 ⟨fun _ => ?_, fun g => absurd (show ((thereS (putS (putS [] 1 cA (oneA 5)) 2 cA (oneA 6)) : Int) == 1) = true from by decide) (by rw [g]; decide)⟩
  refine Most_spec sh19 fun h33 e33 => ⟨fun _ => ?_, fun g => absurd (show ((mostS (putS (putS [] 1 cA (oneA 5)) 2 cA (oneA 6)) : Int) == 2) = true from by decide) (by rw [g]; decide)⟩
  refine ⟨cA, (Blk.cells b19).ext e33, Get_spec (sh19.ext e33) fun h38 e38 => one_spec fun h40 e40 => ?_⟩
  have e3340 := e38.trans e40
  refine ⟨fun _ => ?_, fun g => absurd (agg_eq.2 (show atS (putS (putS [] 1 cA (oneA 5)) 2 cA (oneA 6)) cA 0 = oneA 6 from rfl)) (by rw [g]; decide)⟩
  refine ⟨cA, (Blk.cells b19).ext (e33.trans e3340), At_spec (sh19.ext (e33.trans e3340)) fun h45 e45 => one_spec fun h47 e47 => ?_⟩
  have hat : atS (putS (putS [] 1 cA (oneA 5)) 2 cA (oneA 6)) cA 1 = oneA 5 := rfl
  rw [agg_eq.2 hat]
  exact k h47 ((e019.trans e33).trans (e3340.trans (e45.trans e47)))
end Go.Proofs.Ytoccbnhahaoeiaa.V.S
namespace Go.Proofs.Ytoccbnhahaoeiaa.V.S
open Go Go.Proofs.Ytoccbnhahaoeiaa.V
set_option linter.unusedVariables false
set_option linter.unusedSimpArgs false
set_option maxRecDepth 20000
/-- A number brought to 0 .. m - 1. -/
theorem key_some {t : ByteArray} (h : 1 ≤ t.size) : t.data.toList ≠ [] := fun e => by
  have := size_data (s := t)
  rw [e] at this
  simp only [List.length_nil] at this
  omega
def withinM (a m : Int) : Int := if Int.tmod a m < 0 then Int.tmod a m + m else Int.tmod a m
theorem within_range {a m : Int} (h : 0 < m) : 0 ≤ withinM a m ∧ withinM a m < m := by
  have h1 := Int.tmod_lt_of_pos a h
  have h2 : -m < Int.tmod a m := by
    have := Int.tmod_lt_of_pos (-a) h
    rw [Int.neg_tmod] at this
    omega
  unfold withinM
  split <;> omega
theorem within_spec {a m : Int} {h : H} {Q : Int → H → Prop} (h0 : 0 < m) (h1 : m < 4611686018427387904) (k : Q (withinM a m) h) : F.spatelaw7_within a m h Q := by
  have hr := Int.tmod_lt_of_pos a h0
  have h2 : -m < Int.tmod a m := by
    have := Int.tmod_lt_of_pos (-a) h0
    rw [Int.neg_tmod] at this
    omega
  unfold F.spatelaw7_within F.spatelaw7_within.j1
  unfold withinM at k
  refine ⟨by omega, fun g => ?_, fun g => ?_⟩
  · have g := of_decide_eq_true g
    rw [if_pos g] at k
    rw [w64 (by omega) (by omega)]; exact k
  · have g := of_decide_eq_false g
    rw [if_neg g] at k; exact k
def fewKey (k : ByteArray) : ByteArray := match k.data.toList with
  | [] => ⟨#[107]⟩
  | b :: _ => ⟨#[UInt8.ofNat (97 + b.toNat % 4)]⟩
def fewC (c : Cel) : Cel := ⟨withinM c.View 2, fewKey c.Key, Int.tmod c.Start 3⟩
theorem few_spec {h : H} {c : Cel} {Q : S_api_Cell → H → Prop} (k : ∀ h', Ext h h' → Q (fewC c) h') : F.spatelaw7_few c h Q := by
  unfold F.spatelaw7_few
  refine new_of fun n h1 hn b1 e1 s1 => new_of fun n3 h3 hn3 b3 e3 s3 => ?_
  have b3' : Blk h3 n3 zeroC.cells.toArray tn_api_Cell := b3
  have c0 : ∀ {hh : H}, Ext h3 hh → cellH hh ⟨n, 0, none⟩ = some (.int .i64 c.View) := fun e => (e3.trans e).cell (Blk.cells b1 0 _ rfl) fun f => f
  have c1 : ∀ {hh : H}, Ext h3 hh → cellH hh ⟨n, 1, none⟩ = some (.string c.Key) := fun e => (e3.trans e).cell (Blk.cells b1 1 _ rfl) fun f => f
  have c2 : ∀ {hh : H}, Ext h3 hh → cellH hh ⟨n, 2, none⟩ = some (.int .i64 c.Start) := fun e => (e3.trans e).cell (Blk.cells b1 2 _ rfl) fun f => f
  have j1 : ∀ (key : ByteArray) (hh : H), Ext h3 hh → key = fewKey c.Key → F.spatelaw7_few.j1 Q ⟨n, 0, none⟩ ⟨n3, 0, none⟩ key hh := fun key hh e hk => by
    unfold F.spatelaw7_few.j1
    simp only [add_lit, Nat.zero_add, Nat.add_zero]
    refine ldI_of (c0 e) (ldI_of (c2 e) ⟨by omega, within_spec (by omega) (by omega) ⟨c2 e, ?_⟩⟩)
    have b3e : Blk hh n3 zeroC.cells.toArray tn_api_Cell := e.block b3' fun f => f
    refine st_cel b3e (d := ⟨withinM c.View 2, key, Int.tmod c.Start 3⟩) fun h5 b5 o5 s5 => ⟨_, b5.cells, ?_⟩
    rw [hk]
    exact k h5 (((e1.trans e3).trans e).step o5 fun x hx hb => by omega)
  simp only [add_lit, Nat.zero_add, Nat.add_zero]
  rw [ldS_iff (c1 (.refl _))]
  refine ⟨fun g => ldS_of (c1 (.refl _)) ?_, fun g => j1 _ h3 (.refl _) ?_⟩
  · have g := of_decide_eq_true g
    obtain ⟨b, r, hbr⟩ : ∃ b r, c.Key.data.toList = b :: r := by
      cases hl : c.Key.data.toList with
      | nil => exact absurd hl (key_some (by omega))
      | cons b r => exact ⟨b, r, rfl⟩
    refine idxS_of (i := 0) (b := b) (by rw [hbr]; rfl) rfl ⟨by omega, ?_⟩
    have hbt := b.toNat_lt
    have hb : IntKind.wrap .u8 (97 + Int.tmod ((b.toNat : Nat) : Int) 4) = (((UInt8.ofNat (97 + b.toNat % 4)).toNat : Nat) : Int) := by
      rw [wrap_u8, Int.tmod_eq_emod_of_nonneg (by omega)]
      simp
    rw [hb]
    refine newL_of fun n5 h5 hn5 b5 e5 s5 => ?_
    have rd : Reads h5 ⟨some ⟨n5, 0, none⟩, 1, 1⟩ 1 ([UInt8.ofNat (97 + b.toNat % 4)].flatMap cU) := blk_reads b5 rfl
    refine cvtT_of (l := [UInt8.ofNat (97 + b.toNat % 4)]) el_Sluint8.slice Try.underlying5 Try.underlying9 rd ?_
    exact j1 _ h5 e5 (by unfold fewKey; rw [hbr])
  · have g := of_decide_eq_false g
    unfold fewKey
    cases hl : c.Key.data.toList with
    | nil => rfl
    | cons b r => have e2 := size_data (s := c.Key); rw [hl] at e2; simp only [List.length_cons] at e2; omega
theorem rowAt {h : H} {s : Sl} {A : List Rw} (rd : Reads h s 7 (A.flatMap cW)) {i : Nat} {x : Rw} (hx : A[i]? = some x) {K : Addr → Prop} (k : ∀ a, Cells h a (cW x) → K a) : idxA s (i : Int) 7 K := by
  obtain ⟨p, p1, p2, p3⟩ := rd_at cW_len (by omega) rd hx
  have hl := rd_len cW_len (by omega) rd
  exact idxR_of (i := i) p1 (by have := (List.getElem?_eq_some_iff.1 hx).1; omega) rfl (k _ p3)
theorem row_eq {x y : Rw} : ((((x.Cell.View == y.Cell.View) && ((x.Cell.Key.toList == y.Cell.Key.toList) && ((x.Cell.Start == y.Cell.Start) && true)))) && ((((x.Agg.Count == y.Agg.Count) && ((x.Agg.Sum == y.Agg.Sum) && ((x.Agg.Min == y.Agg.Min) && ((x.Agg.Max == y.Agg.Max) && true))))) && true)) = true ↔ x = y := by
  obtain ⟨⟨a1, ⟨⟨a2⟩⟩, a3⟩, ⟨a4, a5, a6, a7⟩⟩ := x
  obtain ⟨⟨b1, ⟨⟨b2⟩⟩, b3⟩, ⟨b4, b5, b6, b7⟩⟩ := y
  simp [toList_data, and_assoc]
theorem tk_snoc {α : Type} {L : List α} {i : Nat} {x : α} (h : L[i]? = some x) : L.take (i + 1) = L.take i ++ [x] := by
  obtain ⟨h1, h2⟩ := List.getElem?_eq_some_iff.1 h
  rw [List.take_succ_eq_append_getElem h1, h2]
theorem SameRows_spec {h : H} {r s : Sl} {A C : List Rw} {Q : Bool → H → Prop} (ra : Reads h r 7 (A.flatMap cW)) (rc : Reads h s 7 (C.flatMap cW)) (hs : A.length < 4000000) (kt : A = C → Q true h) (kf : A ≠ C → Q false h) : F.spatelaw7_SameRows r s h Q := by
  have la := rd_len cW_len (by omega) ra
  have lc := rd_len cW_len (by omega) rc
  unfold F.spatelaw7_SameRows
  rw [la, lc]
  refine ⟨fun gg => kf fun e => by rw [e] at gg; simp at gg, fun gg => ⟨A.length + 1, ?_⟩⟩
  have hl : A.length = C.length := by simp at gg; omega
  have key : ∀ (d i : Nat), i ≤ A.length → A.length - i < d → A.take i = C.take i → F.spatelaw7_SameRows.l1 Q d r s (i : Int) h := by
    intro d
    induction d with
    | zero => intro i _ hm; omega
    | succ d ih =>
      intro i hi hm he
      unfold F.spatelaw7_SameRows.l1
      simp only [decide_eq_true_eq, decide_eq_false_iff_not]
      rw [la]
      refine ⟨fun gg => ?_, fun gg => ?_⟩
      · obtain ⟨x, hx⟩ : ∃ x, A[i]? = some x := ⟨_, List.getElem?_eq_getElem (by omega)⟩
        obtain ⟨y, hy⟩ : ∃ y, C[i]? = some y := ⟨_, List.getElem?_eq_getElem (by omega)⟩
        refine rowAt ra hx fun a ca => ⟨x, ca, rowAt rc hy fun a' ca' => ⟨y, ca', ?_⟩⟩
        have hrow := row_eq (x := x) (y := y)
        refine ⟨fun g2 => kf fun e => ?_, fun g2 => ?_⟩
        · have : x = y := by rw [e] at hx; rw [hx] at hy; exact Option.some.inj hy
          rw [hrow.2 this] at g2; cases g2
        · have hxy : x = y := hrow.1 (by simpa using g2)
          rw [w64s (by omega)]
          refine ih (i + 1) (by omega) (by omega) ?_
          rw [tk_snoc hx, tk_snoc hy, he, hxy]
      · have : i = A.length := by omega
        subst this
        rw [List.take_length] at he
        exact kt (by rw [he, hl, List.take_length])
  exact key _ 0 (by omega) (by omega) (by simp)
/-- What is there at an epoch. -/
abbrev loC : Cel := ⟨0, ⟨#[]⟩, 0⟩
abbrev hiC : Cel := ⟨9, ⟨#[]⟩, 0⟩
def allS (S : SL) (e : Int) : List Rw := (S.filter fun x => (atV x.2 e).2).map (rowS e)
theorem lo_le {c : Cel} (h : okC c = 0) : cmpC loC c ≤ 0 := by
  unfold okC at h
  split at h
  · cases h
  · rename_i h1
    split at h
    · cases h
    · rename_i h2
      have hk : c.Key.data.toList ≠ [] := key_some (by omega)
      unfold cmpC cmpI
      simp only
      by_cases hv : 0 < c.View
      · simp [hv]
      · have : c.View = 0 := by omega
        rw [this]
        simp only [Int.lt_irrefl, if_false, ne_eq, not_true_eq_false, gt_iff_lt]
        have hc : cmpM ⟨#[]⟩ c.Key = -1 := by
          unfold cmpM
          cases hl : c.Key.data.toList with
          | nil => exact absurd hl hk
          | cons a b => rfl
        rw [hc]; simp
theorem hi_lt {c : Cel} (h : okC c = 0) : cmpC c hiC < 0 := by
  unfold okC at h
  split at h
  · cases h
  · rename_i h1
    unfold cmpC cmpI
    simp only
    have : c.View < 9 := by omega
    simp [this]
theorem range_all {S : SL} (h : SOk S) (e : Int) : rangeS S e loC hiC = allS S e := by
  unfold rangeS allS
  congr 1
  refine List.filter_congr fun x hx => ?_
  have := (h.ok x hx).1
  unfold inS
  rw [decide_eq_true (lo_le this), decide_eq_true (hi_lt this)]; simp
theorem all_len {S : SL} (h : SOk S) {slots : Nat} (hu : unitsS S ≤ slots) (hs : slots ≤ 1048576) (e : Int) : (allS S e).length ≤ 1048576 := by
  have h1 := len_units h
  have h2 := List.length_filter_le (fun x : Cel × List Ver => (atV x.2 e).2) S
  unfold allS
  rw [List.length_map]; omega
theorem all_spec {h : H} {n : Nat} {S : SL} {slots : Nat} {R : Nat → Prop} {ep : Int} {Q : Sl → H → Prop} (s : SH h n S slots R)
    (k : ∀ r h', Owns h' r tn_api_Row 7 ((allS S ep).flatMap cW) → Mine h r → Ext h h' → Q r h') : F.spatelaw7_all (some ⟨n, 0, none⟩) ep h Q := by
  unfold F.spatelaw7_all
  refine Range_spec s fun r h' w m e => k r h' ?_ m e
  rw [range_all s.ok, List.take_of_length_le (by have := all_len s.ok s.us.1 s.us.2 ep; omega)] at w
  exact w
/-- A step, with the lists that it has. -/
structure St where
  x : S_spatelaw7_Step
  E : List Int
  C : List Cel
/-- The lists of a step are there to be read. -/
structure StOk (h : H) (y : St) : Prop where
  re : Reads h y.x.Held 1 (y.E.flatMap cI)
  be : y.E ≠ [] → ∀ b, y.x.Held.blk = some b → b < h.size
  oe : ∀ e ∈ y.E, -9223372036854775808 ≤ e ∧ e < 9223372036854775808
  rc : Reads h y.x.Cells 3 (y.C.flatMap S_api_Cell.cells)
  bc : y.C ≠ [] → ∀ b, y.x.Cells.blk = some b → b < h.size
  oc : ∀ c ∈ y.C, (-9223372036854775808 ≤ c.View ∧ c.View < 9223372036854775808) ∧ (-9223372036854775808 ≤ c.Start ∧ c.Start < 9223372036854775808) ∧ c.Key.size ≤ maxLen
  k64 : -9223372036854775808 ≤ y.x.Kind ∧ y.x.Kind < 9223372036854775808
  e64 : -9223372036854775808 ≤ y.x.Epoch ∧ y.x.Epoch < 9223372036854775808
  m64 : -9223372036854775808 ≤ y.x.Most ∧ y.x.Most < 9223372036854775808
  cel : (-9223372036854775808 ≤ y.x.Cell.View ∧ y.x.Cell.View < 9223372036854775808) ∧ (-9223372036854775808 ≤ y.x.Cell.Start ∧ y.x.Cell.Start < 9223372036854775808) ∧ y.x.Cell.Key.size ≤ maxLen
  agg : (-9223372036854775808 ≤ y.x.Agg.Count ∧ y.x.Agg.Count < 9223372036854775808) ∧ (-9223372036854775808 ≤ y.x.Agg.Sum ∧ y.x.Agg.Sum < 9223372036854775808) ∧ (-9223372036854775808 ≤ y.x.Agg.Min ∧ y.x.Agg.Min < 9223372036854775808) ∧ (-9223372036854775808 ≤ y.x.Agg.Max ∧ y.x.Agg.Max < 9223372036854775808)
  too : (-9223372036854775808 ≤ y.x.To.View ∧ y.x.To.View < 9223372036854775808) ∧ (-9223372036854775808 ≤ y.x.To.Start ∧ y.x.To.Start < 9223372036854775808) ∧ y.x.To.Key.size ≤ maxLen
def applyM (S : SL) (slots : Nat) (ep : Int) (y : St) : Int × SL :=
  if withinM y.x.Kind 4 = 0 then (killE S ep (fewC y.x.Cell), if killE S ep (fewC y.x.Cell) = 0 then killS S ep (fewC y.x.Cell) else S)
  else if withinM y.x.Kind 4 = 1 then (0, if y.E.length ≤ 20 then pruneS S y.E else S)
  else (putE S slots ep (fewC y.x.Cell) (oneA y.x.Agg.Sum) true, if putE S slots ep (fewC y.x.Cell) (oneA y.x.Agg.Sum) true = 0 then putS S ep (fewC y.x.Cell) (oneA y.x.Agg.Sum) else S)
theorem apply_spec {h : H} {n : Nat} {S : SL} {slots : Nat} {R : Nat → Prop} {ep : Int} {y : St} {Q : Int → H → Prop} (s : SH h n S slots R) (hR : ∀ b, h.size ≤ b → R b) (rd : Reads h y.x.Held 1 (y.E.flatMap cI)) (hb : y.E ≠ [] → ∀ b, y.x.Held.blk = some b → b < h.size ∧ ¬ R b)
    (k : ∀ h', SH h' n (applyM S slots ep y).2 slots R → SOnly R h h' → Q (applyM S slots ep y).1 h') : F.spatelaw7_apply (some ⟨n, 0, none⟩) ep y.x h Q := by
  unfold F.spatelaw7_apply
  refine new_of fun m h1 hm b1 e1 s1 => ?_
  have cs := Blk.cells b1
  have cc : Cells h1 ⟨m, 2, none⟩ y.x.Cell.cells := fun i v hv => by
    rw [add_lit]
    have hi : i < 3 := (List.getElem?_eq_some_iff.1 hv).1
    have := cs (2 + i) v (by
      match i, hi, hv with
      | 0, _, hv => exact hv
      | 1, _, hv => exact hv
      | 2, _, hv => exact hv)
    rwa [add_lit, Nat.zero_add] at this
  have k0 : cellH h1 ⟨m, 0, none⟩ = some (.int .i64 y.x.Kind) := cs 0 _ rfl
  have k6 : cellH h1 ⟨m, 6, none⟩ = some (.int .i64 y.x.Agg.Sum) := cs 6 _ rfl
  have k10 : cellH h1 ⟨m, 10, none⟩ = some y.x.Held.enc := cs 10 _ rfl
  simp only [add_lit, Nat.zero_add, Nat.add_zero]
  refine ⟨y.x.Cell, cc, few_spec fun h5 e5 => ?_⟩
  refine new_of fun m7 h7 hm7 b7 e7 s7 => ?_
  have b7' : Blk h7 m7 zeroC.cells.toArray tn_api_Cell := b7
  refine st_cel b7' (d := fewC y.x.Cell) fun h9 b9 o9 s9 => ?_
  have z5 := e5.size
  have e19 : Ext h1 h9 := (e5.trans e7).step o9 fun x hx hb => by omega
  have e09 := e1.trans e19
  refine ldI_of (e19.cell k0 fun f => f) (within_spec (by omega) (by omega) ?_)
  have sh := s.ext e09
  have hR9 : ∀ b, h9.size ≤ b → R b := fun b hb => hR b (by have := e09.size; omega)
  have so9 : SOnly R h h9 := SOnly.of e09
  have hwr := within_range (a := y.x.Kind) (m := 4) (by omega)
  unfold applyM at k
  refine ⟨fun g => ?_, fun g => ⟨fun g2 => ?_, fun g2 => ?_⟩⟩
  · have g : withinM y.x.Kind 4 = 0 := by simpa using g
    rw [if_pos g] at k
    refine ⟨_, b9.cells, Kill_spec sh hR9 (fun hne h' e' => ?_) fun h0 h' s' o' => ?_⟩
    · simp only [if_neg hne] at k
      exact k h' (sh.ext e') (so9.ext e')
    · rw [if_pos h0, h0] at k
      exact k h' s' (so9.trans o')
  · have g : withinM y.x.Kind 4 ≠ 0 := by simpa using g
    have g2 : withinM y.x.Kind 4 = 1 := by simpa using g2
    rw [if_neg g, if_pos g2] at k
    have kh := e19.cell k10 fun f => f
    have rd9 : Reads h9 y.x.Held 1 (y.E.flatMap cI) := rd.only e09 fun _ _ f => f
    have hl := rd_len cI_len (by omega) rd
    refine ldL_of kh ⟨fun g3 => ldL_of kh ?_, fun g3 => ?_⟩
    · have g3 := of_decide_eq_true g3
      rw [hl] at g3
      rw [if_pos (by omega)] at k
      exact Prune_spec sh rd9 (by omega) (fun hne b hbb => ⟨by have := (hb hne b hbb).1; have := e09.size; omega, fun hh => (hb hne b hbb).2 hh.1⟩) hR9 fun h' s' o' => k h' s' (so9.trans o')
    · have g3 := of_decide_eq_false g3
      rw [hl] at g3
      rw [if_neg (by omega)] at k
      exact k h9 sh so9
  · have g : withinM y.x.Kind 4 ≠ 0 := by simpa using g
    have g2 : withinM y.x.Kind 4 ≠ 1 := by simpa using g2
    rw [if_neg g, if_neg g2] at k
    refine ⟨_, b9.cells, ldI_of (e19.cell k6 fun f => f) (one_spec fun h31 e31 => ⟨(Blk.cells b9).ext e31, ?_⟩)⟩
    have sh31 := sh.ext e31
    refine Put_spec (x := ⟨fewC y.x.Cell, oneA y.x.Agg.Sum⟩) sh31 (right_one' _) (fun b hb => hR9 b (by have := e31.size; omega)) (fun hne h' e' => ?_) fun h0 h' s' o' => ?_
    · simp only [if_neg hne] at k
      exact k h' (sh31.ext e') (so9.ext (e31.trans e'))
    · rw [if_pos h0, h0] at k
      exact k h' s' ((so9.ext e31).trans o')
end Go.Proofs.Ytoccbnhahaoeiaa.V.S
namespace Go.Proofs.Ytoccbnhahaoeiaa.V.S
open Go Go.Proofs.Ytoccbnhahaoeiaa.V
set_option linter.unusedVariables false
set_option linter.unusedSimpArgs false
set_option maxRecDepth 20000
theorem SOnly.blk {R : Nat → Prop} {a b : H} {m : Nat} {cs : Array Value} {e : TypeId} (o : SOnly R a b) (hb : Blk a m cs e) (he : ¬ ShE e) : Blk b m cs e := o.block hb fun ⟨_, e', h1, c, h2⟩ => he (by
  have := hb.symm.trans h2
  simp at this
  rw [this.2]; exact h1)
end Go.Proofs.Ytoccbnhahaoeiaa.V.S
namespace Go.Proofs.Ytoccbnhahaoeiaa.V
open Go
set_option linter.unusedVariables false
set_option linter.unusedSimpArgs false
section
variable {T : Type} {P : Program} {enc : TypeId × Value → T} {w : World} {base : Nat} {spare : Nat → Bool} {held : Bool} {fuel : Nat}
theorem cells_of {a : Addr} {n : Nat} {cs : List Value} (h : w.cells? base a n = some cs) : cs.length = n ∧ ∀ j v, cs[j]? = some v → w.cell? (a.add j) = some v := by
  obtain ⟨h1, h2, h3⟩ := World.cells?_some h
  refine ⟨h2, fun j v hv => ?_⟩
  have hj : j < n := by rw [← h2]; exact (List.getElem?_eq_some_iff.1 hv).1
  rw [h3 j hj, hv]
/-- A slice that came in, each of whose things is asL G says. -/
theorem open_slice {t e : TypeId} {k : Nat} {v : Value} {x : DataW T × List MemPlace} (G : List Value → Prop) (ht : P.underlying t = some (.slice e)) (hk : P.cellsOf e = k) (hk0 : 0 < k) (h : DataW.trod enc P w base spare held fuel t [v] = some x)
    (hG : ∀ n cs y, DataW.trod enc P w base spare held n e cs = some y → cs.length = k → G cs) :
    ∃ s : Sl, v = s.enc ∧ s.len ≤ s.cap ∧ s.cap ≤ maxLen ∧ ∃ CS : List (List Value), CS.length = s.len ∧ (∀ c ∈ CS, c.length = k ∧ G c) ∧ Reads w.heap s k CS.flatten ∧ (CS ≠ [] → ∀ b, s.blk = some b → b < w.heap.size) := by
  rcases DataW.trod_slice ht h with ⟨h0, _⟩ | ⟨a, len, cap, elems, rest, n, _, h0, _, hb, hl, hm, hlen, hel, _, _⟩
  · simp at h0; subst h0
    exact ⟨⟨none, 0, 0⟩, rfl, Nat.le_refl _, Nat.zero_le _, [], rfl, (fun c hc => by cases hc), ⟨by simp, fun _ => ⟨rfl, rfl⟩, fun i v hv => by simp at hv⟩, fun h => absurd rfl h⟩
  · simp at h0; subst h0
    rw [hk] at hel
    have each : ∀ i, i < len → ∃ cs, w.cells? base (a.add (i * k)) k = some cs ∧ G cs := fun i hi => by
      have hx := hel i hi
      rw [List.getElem?_eq_getElem (by omega), Option.bind_eq_some_iff] at hx
      obtain ⟨cs, hc, ht'⟩ := hx
      exact ⟨cs, hc, hG _ _ _ ht' (cells_of hc).1⟩
    obtain ⟨CS, hCS, hall⟩ : ∃ CS : List (List Value), CS.length = len ∧ ∀ i c, CS[i]? = some c → w.cells? base (a.add (i * k)) k = some c ∧ G c := by
      clear hel h
      have : ∀ m, m ≤ len → ∃ CS : List (List Value), CS.length = m ∧ ∀ i c, CS[i]? = some c → w.cells? base (a.add (i * k)) k = some c ∧ G c := fun m => by
        induction m with
        | zero => intro _; exact ⟨[], rfl, fun i c hc => by simp at hc⟩
        | succ m ih =>
          intro hm2
          obtain ⟨CS, h1, h2⟩ := ih (by omega)
          obtain ⟨c, h3, h4⟩ := each m (by omega)
          refine ⟨CS ++ [c], by simp [h1], fun i d hd => ?_⟩
          by_cases hi : i < CS.length
          · rw [List.getElem?_append_left hi] at hd; exact h2 i d hd
          · rw [List.getElem?_append_right (by omega)] at hd
            have hi2 : i - CS.length = 0 := by
              have := (List.getElem?_eq_some_iff.1 hd).1
              simp at this; omega
            rw [hi2] at hd; simp at hd; subst hd
            have : i = m := by omega
            subst this; exact ⟨h3, h4⟩
      exact this len (Nat.le_refl _)
    have hlen' : ∀ c ∈ CS, c.length = k ∧ G c := fun c hc => by
      obtain ⟨i, hi⟩ := List.mem_iff_getElem?.1 hc
      exact ⟨(cells_of (hall i c hi).1).1, (hall i c hi).2⟩
    have hspot : 0 < len → a.spot = none ∧ a.block < w.heap.size := fun h0 => by
      obtain ⟨c, hc⟩ : ∃ c, CS[0]? = some c := ⟨_, List.getElem?_eq_getElem (by omega)⟩
      obtain ⟨h1, h2⟩ := cells_of (hall 0 c hc).1
      obtain ⟨v, hv⟩ : ∃ v, c[0]? = some v := ⟨_, List.getElem?_eq_getElem (by omega)⟩
      have hcell : cellH w.heap ((a.add (0 * k)).add 0) = some v := h2 0 v hv
      have e0 : ∀ p : Addr, p.add 0 = p := fun p => by unfold Addr.add; split <;> simp_all
      rw [Nat.zero_mul, e0, e0] at hcell
      unfold cellH at hcell
      split at hcell
      · rename_i hh
        refine ⟨?_, (Array.getElem?_eq_some_iff.1 hh).1⟩
        cases hs : a.spot with
        | none => rfl
        | some s => rw [hs] at hcell; simp at hcell
      · cases hcell
    refine ⟨⟨some a, len, cap⟩, rfl, hl, hm, CS, hCS, hlen', ⟨?_, (fun h => by cases h), fun i v hv => ?_⟩, fun hne b hb => ?_⟩
    · rw [← hCS]
      have : ∀ (L : List (List Value)), (∀ c ∈ L, c.length = k) → L.flatten.length = L.length * k := fun L => by
        induction L with
        | nil => intro _; simp
        | cons c r ih => intro hL; simp [hL c (by simp), ih fun c hc => hL c (List.mem_cons_of_mem _ hc), Nat.add_mul]; omega
      exact this CS fun c hc => (hlen' c hc).1
    · have : ∀ (L : List (List Value)) (m : Nat), (∀ c ∈ L, c.length = k) → (∀ i c, L[i]? = some c → ∀ j v, c[j]? = some v → w.cell? (a.add ((m + i) * k + j)) = some v) → ∀ i v, L.flatten[i]? = some v → w.cell? (a.add (m * k + i)) = some v := fun L => by
        induction L with
        | nil => intro m _ _ i v hv; simp at hv
        | cons c r ih =>
          intro m hL hc i v hv
          have hcl := hL c (by simp)
          rw [List.flatten_cons] at hv
          by_cases hi : i < c.length
          · rw [List.getElem?_append_left hi] at hv
            exact hc 0 c rfl i v hv
          · rw [List.getElem?_append_right (by omega)] at hv
            have := ih (m + 1) (fun c hc => hL c (List.mem_cons_of_mem _ hc)) (fun i d hd j v hj => by
              have := hc (i + 1) d (by simpa using hd) j v hj
              rwa [show m + (i + 1) = m + 1 + i from by omega] at this) _ v hv
            rwa [show (m + 1) * k + (i - c.length) = m * k + i from by rw [Nat.add_mul]; omega] at this
      have hlt : 0 < len := by
        rcases Nat.eq_zero_or_pos len with h0 | h0
        · have : CS = [] := List.eq_nil_of_length_eq_zero (by omega)
          subst this; simp at hv
        · exact h0
      obtain ⟨hsp, _⟩ := hspot hlt
      refine ⟨a, rfl, hsp, ?_⟩
      have := this CS 0 (fun c hc => (hlen' c hc).1) (fun i c hc j v hj => by
        have h1 := (cells_of (hall i c hc).1).2 j v hj
        obtain ⟨ab, ao, asp⟩ := a
        simp only at hsp; subst hsp
        rw [add_lit, add_lit] at h1
        rw [add_lit, Nat.zero_add, ← Nat.add_assoc]; exact h1) i v hv
      rw [Nat.zero_mul, Nat.zero_add] at this
      exact this
    · simp [Sl.blk] at hb
      subst hb
      have : 0 < len := by
        rw [← hCS]; exact List.length_pos_iff.2 hne
      exact (hspot this).2
end
end Go.Proofs.Ytoccbnhahaoeiaa.V
namespace Go.Proofs.Ytoccbnhahaoeiaa.V.S
open Go Go.Proofs.Ytoccbnhahaoeiaa.V
set_option linter.unusedVariables false
set_option linter.unusedSimpArgs false
abbrev W64 (n : Int) : Prop := -9223372036854775808 ≤ n ∧ n < 9223372036854775808
abbrev CelOk (c : Cel) : Prop := W64 c.View ∧ W64 c.Start ∧ c.Key.size ≤ maxLen
section
variable {T : Type} {enc : TypeId × Value → T} {w : World} {base : Nat} {spare : Nat → Bool} {held : Bool} {fuel : Nat}
theorem gen_open {α : Type} (f : α → List Value) (ok : α → Prop) {t e : TypeId} {k : Nat} {v : Value} {y : DataW T × List MemPlace} (hf : ∀ x, (f x).length = k) (ht : PP.underlying t = some (.slice e)) (hk : PP.cellsOf e = k) (hk0 : 0 < k) (h : DataW.trod enc PP w base spare held fuel t [v] = some y)
    (hG : ∀ n cs y, DataW.trod enc PP w base spare held n e cs = some y → cs.length = k → ∃ x, cs = f x ∧ ok x) :
    ∃ (s : Sl) (L : List α), v = s.enc ∧ Reads w.heap s k (L.flatMap f) ∧ s.len ≤ s.cap ∧ (L ≠ [] → ∀ b, s.blk = some b → b < w.heap.size) ∧ (∀ x ∈ L, ok x) ∧ L.length ≤ 9223372036854775807 := by
  obtain ⟨s, h1, h2, h3, CS, h4, h5, h6, h7⟩ := open_slice (fun cs => ∃ x : α, cs = f x ∧ ok x) ht hk hk0 h fun n cs y hy hl => hG n cs y hy hl
  have : ∀ (L : List (List Value)), (∀ c ∈ L, c.length = k ∧ ∃ x : α, c = f x ∧ ok x) → ∃ S : List α, L = S.map f ∧ ∀ x ∈ S, ok x := fun L => by
    induction L with
    | nil => intro _; exact ⟨[], rfl, fun n hn => by cases hn⟩
    | cons c r ih =>
      intro hL
      obtain ⟨E, h1, h2⟩ := ih fun c hc => hL c (List.mem_cons_of_mem _ hc)
      obtain ⟨_, n, rfl, hn⟩ := hL c (by simp)
      refine ⟨n :: E, by rw [h1]; rfl, fun m hm => ?_⟩
      rcases List.mem_cons.1 hm with e | e
      · subst e; exact hn
      · exact h2 m e
  obtain ⟨S, rfl, hS⟩ := this CS h5
  have hr : Reads w.heap s k (S.flatMap f) := by rw [List.flatMap_def]; exact h6
  refine ⟨s, S, h1, hr, h2, fun hn b hb => h7 (by simpa using hn) b hb, hS, ?_⟩
  have := rd_len hf hk0 hr
  simp only [maxLen] at h3; omega
theorem list4 {β : Type} : ∀ {l : List β}, l.length = 4 → ∃ a b c d, l = [a, b, c, d]
  | [a, b, c, d], _ => ⟨a, b, c, d, rfl⟩
theorem agg_open {cs : List Value} {y : DataW T × List MemPlace} (h : DataW.trod enc PP w base spare held fuel tn_api_Agg cs = some y) (hl : cs.length = 4) : ∃ x : S_api_Agg, cs = x.cells ∧ W64 x.Count ∧ W64 x.Sum ∧ W64 x.Min ∧ W64 x.Max := by
  obtain ⟨xs, n, _, _, _, hlen, hf⟩ := DataW.trod_struct ut_api_Agg h
  have hlen4 : xs.length = 4 := hlen
  have k2 : PP.cellsOf 2 = 1 := by kernel_rfl
  obtain ⟨c0, c1, c2, c3, rfl⟩ := list4 hl
  obtain ⟨y0, y1, y2, y3, rfl⟩ := list4 hlen4
  have f0 : DataW.trod enc PP w base spare held n 2 (([c0, c1, c2, c3].drop 0).take (PP.cellsOf 2)) = some y0 := hf 0 _ rfl
  have f1 : DataW.trod enc PP w base spare held n 2 (([c0, c1, c2, c3].drop 1).take (PP.cellsOf 2)) = some y1 := hf 1 _ rfl
  have f2 : DataW.trod enc PP w base spare held n 2 (([c0, c1, c2, c3].drop 2).take (PP.cellsOf 2)) = some y2 := hf 2 _ rfl
  have f3 : DataW.trod enc PP w base spare held n 2 (([c0, c1, c2, c3].drop 3).take (PP.cellsOf 2)) = some y3 := hf 3 _ rfl
  rw [k2] at f0 f1 f2 f3
  simp only [List.drop_zero, List.drop_succ_cons, List.take_succ_cons, List.take_zero] at f0 f1 f2 f3
  obtain ⟨m0, e0, _, w0⟩ := DataW.trod_int Try.underlying2 f0
  obtain ⟨m1, e1, _, w1⟩ := DataW.trod_int Try.underlying2 f1
  obtain ⟨m2, e2, _, w2⟩ := DataW.trod_int Try.underlying2 f2
  obtain ⟨m3, e3, _, w3⟩ := DataW.trod_int Try.underlying2 f3
  simp only [List.cons.injEq, and_true] at e0 e1 e2 e3
  subst e0; subst e1; subst e2; subst e3
  exact ⟨⟨m0, m1, m2, m3⟩, rfl, i64_of w0, i64_of w1, i64_of w2, i64_of w3⟩
theorem list3 {β : Type} : ∀ {l : List β}, l.length = 3 → ∃ a b c, l = [a, b, c]
  | [a, b, c], _ => ⟨a, b, c, rfl⟩
theorem cell_open {cs : List Value} {y : DataW T × List MemPlace} (h : DataW.trod enc PP w base spare held fuel tn_api_Cell cs = some y) (hl : cs.length = 3) :
    ∃ c : Cel, cs = c.cells ∧ CelOk c := by
  obtain ⟨xs, n, _, _, _, hlen, hf⟩ := DataW.trod_struct ut_api_Cell h
  have hlen3 : xs.length = 3 := hlen
  have k3 : PP.cellsOf 3 = 1 := by kernel_rfl
  have k9 : PP.cellsOf 9 = 1 := by kernel_rfl
  have k2 : PP.cellsOf 2 = 1 := by kernel_rfl
  obtain ⟨c0, c1, c2, rfl⟩ := list3 hl
  obtain ⟨y0, y1, y2, rfl⟩ := list3 hlen3
  have f0 : DataW.trod enc PP w base spare held n 3 (([c0, c1, c2].drop 0).take (PP.cellsOf 3)) = some y0 := hf 0 _ rfl
  have f1 : DataW.trod enc PP w base spare held n 9 (([c0, c1, c2].drop 1).take (PP.cellsOf 9)) = some y1 := hf 1 _ rfl
  have f2 : DataW.trod enc PP w base spare held n 2 (([c0, c1, c2].drop 2).take (PP.cellsOf 2)) = some y2 := hf 2 _ rfl
  rw [k3] at f0
  rw [k9] at f1
  rw [k2] at f2
  simp only [List.drop_zero, List.drop_succ_cons, List.take_succ_cons, List.take_zero] at f0 f1 f2
  obtain ⟨m0, e0, _, w0⟩ := DataW.trod_int Try.underlying3 f0
  obtain ⟨s1, e1, _, w1⟩ := DataW.trod_string Try.underlying9 f1
  obtain ⟨m2, e2, _, w2⟩ := DataW.trod_int Try.underlying2 f2
  simp only [List.cons.injEq, and_true] at e0 e1 e2
  subst e0; subst e1; subst e2
  exact ⟨⟨m0, s1, m2⟩, rfl, i64_of w0, i64_of w2, w1⟩
theorem ints_open {v : Value} {y : DataW T × List MemPlace} (h : DataW.trod enc PP w base spare held fuel tn_Slint [v] = some y) :
    ∃ (s : Sl) (L : List Int), v = s.enc ∧ Reads w.heap s 1 (L.flatMap cI) ∧ s.len ≤ s.cap ∧ (L ≠ [] → ∀ b, s.blk = some b → b < w.heap.size) ∧ (∀ x ∈ L, W64 x) ∧ L.length ≤ 9223372036854775807 :=
  gen_open cI W64 cI_len ut_Slint (show PP.cellsOf 3 = 1 from by kernel_rfl) (by omega) h fun n cs y hy _ => by
    obtain ⟨m, e1, _, e2⟩ := DataW.trod_int Try.underlying3 hy
    exact ⟨m, e1, i64_of e2⟩
theorem cells_open {v : Value} {y : DataW T × List MemPlace} (h : DataW.trod enc PP w base spare held fuel tn_Slapi_Cell [v] = some y) :
    ∃ (s : Sl) (L : List Cel), v = s.enc ∧ Reads w.heap s 3 (L.flatMap S_api_Cell.cells) ∧ s.len ≤ s.cap ∧ (L ≠ [] → ∀ b, s.blk = some b → b < w.heap.size) ∧ (∀ x ∈ L, CelOk x) ∧ L.length ≤ 9223372036854775807 :=
  gen_open S_api_Cell.cells CelOk (fun _ => rfl) ut_Slapi_Cell (show PP.cellsOf tn_api_Cell = 3 from by kernel_rfl) (by omega) h fun n cs y hy hl => cell_open hy hl
theorem list15 {β : Type} : ∀ {l : List β}, l.length = 15 → ∃ c0 c1 c2 c3 c4 c5 c6 c7 c8 c9 c10 c11 c12 c13 c14, l = [c0, c1, c2, c3, c4, c5, c6, c7, c8, c9, c10, c11, c12, c13, c14]
  | [c0, c1, c2, c3, c4, c5, c6, c7, c8, c9, c10, c11, c12, c13, c14], _ => ⟨c0, c1, c2, c3, c4, c5, c6, c7, c8, c9, c10, c11, c12, c13, c14, rfl⟩
theorem list8 {β : Type} : ∀ {l : List β}, l.length = 8 → ∃ a b c d e f g h, l = [a, b, c, d, e, f, g, h]
  | [a, b, c, d, e, f, g, h], _ => ⟨a, b, c, d, e, f, g, h, rfl⟩
theorem step_len (y : St) : y.x.cells.length = 15 := rfl
theorem step_open {cs : List Value} {y : DataW T × List MemPlace} (h : DataW.trod enc PP w base spare held fuel tn_spatelaw7_Step cs = some y) (hl : cs.length = 15) : ∃ x : St, cs = x.x.cells ∧ StOk w.heap x := by
  obtain ⟨xs, n, _, _, _, hlen, hf⟩ := DataW.trod_struct ut_spatelaw7_Step h
  have hlen8 : xs.length = 8 := hlen
  have k3 : PP.cellsOf 3 = 1 := by kernel_rfl
  have kc : PP.cellsOf tn_api_Cell = 3 := by kernel_rfl
  have ka : PP.cellsOf tn_api_Agg = 4 := by kernel_rfl
  have kl : PP.cellsOf tn_Slapi_Cell = 1 := by kernel_rfl
  have ki : PP.cellsOf tn_Slint = 1 := by kernel_rfl
  obtain ⟨c0, c1, c2, c3, c4, c5, c6, c7, c8, c9, c10, c11, c12, c13, c14, rfl⟩ := list15 hl
  obtain ⟨y0, y1, y2, y3, y4, y5, y6, y7, rfl⟩ := list8 hlen8
  have f0 : DataW.trod enc PP w base spare held n 3 (([c0, c1, c2, c3, c4, c5, c6, c7, c8, c9, c10, c11, c12, c13, c14].drop 0).take (PP.cellsOf 3)) = some y0 := hf 0 _ rfl
  rw [k3] at f0
  have f1 : DataW.trod enc PP w base spare held n 3 (([c0, c1, c2, c3, c4, c5, c6, c7, c8, c9, c10, c11, c12, c13, c14].drop 1).take (PP.cellsOf 3)) = some y1 := hf 1 _ rfl
  rw [k3] at f1
  have f2 : DataW.trod enc PP w base spare held n tn_api_Cell (([c0, c1, c2, c3, c4, c5, c6, c7, c8, c9, c10, c11, c12, c13, c14].drop 2).take (PP.cellsOf tn_api_Cell)) = some y2 := hf 2 _ rfl
  rw [kc] at f2
  have f3 : DataW.trod enc PP w base spare held n tn_api_Agg (([c0, c1, c2, c3, c4, c5, c6, c7, c8, c9, c10, c11, c12, c13, c14].drop 5).take (PP.cellsOf tn_api_Agg)) = some y3 := hf 3 _ rfl
  rw [ka] at f3
  have f4 : DataW.trod enc PP w base spare held n tn_Slapi_Cell (([c0, c1, c2, c3, c4, c5, c6, c7, c8, c9, c10, c11, c12, c13, c14].drop 9).take (PP.cellsOf tn_Slapi_Cell)) = some y4 := hf 4 _ rfl
  rw [kl] at f4
  have f5 : DataW.trod enc PP w base spare held n tn_Slint (([c0, c1, c2, c3, c4, c5, c6, c7, c8, c9, c10, c11, c12, c13, c14].drop 10).take (PP.cellsOf tn_Slint)) = some y5 := hf 5 _ rfl
  rw [ki] at f5
  have f6 : DataW.trod enc PP w base spare held n tn_api_Cell (([c0, c1, c2, c3, c4, c5, c6, c7, c8, c9, c10, c11, c12, c13, c14].drop 11).take (PP.cellsOf tn_api_Cell)) = some y6 := hf 6 _ rfl
  rw [kc] at f6
  have f7 : DataW.trod enc PP w base spare held n 3 (([c0, c1, c2, c3, c4, c5, c6, c7, c8, c9, c10, c11, c12, c13, c14].drop 14).take (PP.cellsOf 3)) = some y7 := hf 7 _ rfl
  rw [k3] at f7
  simp only [List.drop_zero, List.drop_succ_cons, List.take_succ_cons, List.take_zero] at f0 f1 f2 f3 f4 f5 f6 f7
  obtain ⟨m0, e0, _, w0⟩ := DataW.trod_int Try.underlying3 f0
  obtain ⟨m1, e1, _, w1⟩ := DataW.trod_int Try.underlying3 f1
  obtain ⟨x2, e2, w2⟩ := cell_open f2 rfl
  obtain ⟨x3, e3, w3⟩ := agg_open f3 rfl
  obtain ⟨s4, L4, e4, r4, _, b4, o4, _⟩ := cells_open f4
  obtain ⟨s5, L5, e5, r5, _, b5, o5, _⟩ := ints_open f5
  obtain ⟨x6, e6, w6⟩ := cell_open f6 rfl
  obtain ⟨m7, e7, _, w7⟩ := DataW.trod_int Try.underlying3 f7
  refine ⟨⟨⟨m0, m1, x2, x3, s4, s5, x6, m7⟩, L5, L4⟩, ?_, ⟨r5, b5, o5, r4, b4, o4, i64_of w0, i64_of w1, i64_of w7, w2, w3, w6⟩⟩
  have : [c0, c1, c2, c3, c4, c5, c6, c7, c8, c9, c10, c11, c12, c13, c14] = [c0] ++ [c1] ++ [c2, c3, c4] ++ [c5, c6, c7, c8] ++ [c9] ++ [c10] ++ [c11, c12, c13] ++ [c14] := rfl
  rw [this, e0, e1, e2, e3, e4, e5, e6, e7]; rfl
theorem steps_open {v : Value} {y : DataW T × List MemPlace} (h : DataW.trod enc PP w base spare held fuel tn_Slspatelaw7_Step [v] = some y) :
    ∃ (s : Sl) (L : List St), v = s.enc ∧ Reads w.heap s 15 (L.flatMap fun y => y.x.cells) ∧ s.len ≤ s.cap ∧ (L ≠ [] → ∀ b, s.blk = some b → b < w.heap.size) ∧ (∀ x ∈ L, StOk w.heap x) ∧ L.length ≤ 9223372036854775807 :=
  gen_open (fun y : St => y.x.cells) (StOk w.heap) step_len ut_Slspatelaw7_Step (show PP.cellsOf tn_spatelaw7_Step = 15 from by kernel_rfl) (by omega) h fun n cs y hy hl => step_open hy hl
end
end Go.Proofs.Ytoccbnhahaoeiaa.V.S
namespace Go.Proofs.Ytoccbnhahaoeiaa.V.S
open Go Go.Proofs.Ytoccbnhahaoeiaa.V
set_option linter.unusedVariables false
set_option linter.unusedSimpArgs false
set_option maxRecDepth 20000
def cellM (n : Nat) : Cel := ⟨0, ⟨#[UInt8.ofNat (97 + n / 160000 % 20), UInt8.ofNat (97 + n / 8000 % 20), UInt8.ofNat (97 + n / 400 % 20), UInt8.ofNat (97 + n / 20 % 20)]⟩, ((n % 20 : Nat) : Int)⟩
theorem u8lt {x y : Nat} (hx : x < 20) (hy : y < 20) : (UInt8.ofNat (97 + x) < UInt8.ofNat (97 + y)) ↔ x < y := by
  rw [UInt8.lt_iff_toNat_lt]
  simp
  omega
theorem cb_lt {x y : Nat} (hx : x < 20) (hy : y < 20) (h : x < y) (A B : List UInt8) : Lib.compareBytes (UInt8.ofNat (97 + x) :: A) (UInt8.ofNat (97 + y) :: B) = -1 := by
  simp only [Lib.compareBytes]
  rw [if_pos ((u8lt hx hy).2 h)]
theorem cb_eq {x y : Nat} (h : x = y) (A B : List UInt8) : Lib.compareBytes (UInt8.ofNat (97 + x) :: A) (UInt8.ofNat (97 + y) :: B) = Lib.compareBytes A B := by
  subst h
  simp only [Lib.compareBytes, u8_irr, if_false]
theorem cell_lt {a b : Nat} (h : a < b) (hb : b < 3200000) : cmpC (cellM a) (cellM b) = -1 := by
  rw [cC_lt]
  refine .inr ⟨rfl, ?_⟩
  show Lib.compareBytes [UInt8.ofNat (97 + a / 160000 % 20), UInt8.ofNat (97 + a / 8000 % 20), UInt8.ofNat (97 + a / 400 % 20), UInt8.ofNat (97 + a / 20 % 20)] [UInt8.ofNat (97 + b / 160000 % 20), UInt8.ofNat (97 + b / 8000 % 20), UInt8.ofNat (97 + b / 400 % 20), UInt8.ofNat (97 + b / 20 % 20)] = -1 ∨ ([UInt8.ofNat (97 + a / 160000 % 20), UInt8.ofNat (97 + a / 8000 % 20), UInt8.ofNat (97 + a / 400 % 20), UInt8.ofNat (97 + a / 20 % 20)] = [UInt8.ofNat (97 + b / 160000 % 20), UInt8.ofNat (97 + b / 8000 % 20), UInt8.ofNat (97 + b / 400 % 20), UInt8.ofNat (97 + b / 20 % 20)] ∧ ((a % 20 : Nat) : Int) < ((b % 20 : Nat) : Int))
  have ka := Nat.mod_lt (a / 160000) (show 20 > 0 by omega)
  by_cases e1 : a / 160000 % 20 = b / 160000 % 20
  · rw [cb_eq e1]
    by_cases e2 : a / 8000 % 20 = b / 8000 % 20
    · rw [cb_eq e2]
      by_cases e3 : a / 400 % 20 = b / 400 % 20
      · rw [cb_eq e3]
        by_cases e4 : a / 20 % 20 = b / 20 % 20
        · rw [e1, e2, e3, e4]; exact .inr ⟨rfl, by omega⟩
        · exact .inl (cb_lt (by omega) (by omega) (by omega) _ _)
      · exact .inl (cb_lt (by omega) (by omega) (by omega) _ _)
    · exact .inl (cb_lt (by omega) (by omega) (by omega) _ _)
  · exact .inl (cb_lt (by omega) (by omega) (by omega) _ _)
theorem getK_free {α : Type} {key : α → Cel} {c : Cel} {S : List α} (h : ∀ y ∈ S, key y ≠ c) : getK key S c = none := by
  unfold getK
  rw [List.find?_eq_none]
  intro y hy
  have := h y hy
  simp only [decide_eq_true_eq]
  exact fun e => this (cC_zero.1 e)
end Go.Proofs.Ytoccbnhahaoeiaa.V.S
namespace Go.Proofs.Ytoccbnhahaoeiaa.V.S
open Go Go.Proofs.Ytoccbnhahaoeiaa.V
set_option linter.unusedVariables false
set_option linter.unusedSimpArgs false
set_option maxRecDepth 20000
theorem step_at {h0 h : H} {x0 : Sl} {L : List St} {i : Nat} {y : St} {n : Nat} {S : SL} {slots : Nat} {R : Nat → Prop} {ep : Int} {Q : Int → H → Prop} (rd : Reads h0 x0 15 (L.flatMap fun y => y.x.cells)) (e : Ext h0 h) (hy : L[i]? = some y) (ok : StOk h0 y) (s : SH h n S slots R) (hR : ∀ b, h.size ≤ b → R b) (hR0 : ∀ b, b < h0.size → ¬ R b)
    (k : ∀ h', SH h' n (applyM S slots ep y).2 slots R → SOnly R h h' → Q (applyM S slots ep y).1 h') : idxA x0 (i : Int) 15 fun a => ld_S_spatelaw7_Step h a fun y => F.spatelaw7_apply (some ⟨n, 0, none⟩) ep y h Q := by
  obtain ⟨p, p1, p2, p3⟩ := rd_at (f := fun y : St => y.x.cells) step_len (by omega) (rd.ext e) hy
  have hl := rd_len (f := fun y : St => y.x.cells) step_len (by omega) rd
  refine idxR_of (i := i) p1 (by have := (List.getElem?_eq_some_iff.1 hy).1; omega) rfl ⟨y.x, p3, ?_⟩
  exact apply_spec s hR (ok.re.ext e) (fun hne b hb => ⟨by have := ok.be hne b hb; have := e.size; omega, hR0 b (ok.be hne b hb)⟩) k
end Go.Proofs.Ytoccbnhahaoeiaa.V.S
namespace Go.Proofs.Ytoccbnhahaoeiaa.V
open Go
set_option linter.unusedVariables false
set_option linter.unusedSimpArgs false
abbrev cS8 (s : Sl) : List Value := [s.enc]
theorem cS8_len (s : Sl) : (cS8 s).length = 1 := rfl
theorem own_typ {h h' : H} {s r : Sl} {e e' : TypeId} {k k' : Nat} {cs ds : List Value} (w : Owns h r e k cs) (o : Only (fun b => s.blk = some b) h h') (ws : Owns h s e' k' ds) (he : e ≠ e') : Owns h' r e k cs := w.only o fun y hy hb => by
  obtain ⟨_, ⟨q1, q2, q3⟩ | ⟨b', c', q1, q2, _⟩⟩ := w
  · simp [Sl.blk, q1] at hy
  · simp [Sl.blk, q1] at hy
    subst hy
    exact own_neG ws q2 (fun e => he e.symm) hb
/-- Lists that were told, each in memory of its own, newer than a heap. -/
structure LB {α : Type} (f : α → List Value) (kk : Nat) (e : TypeId) (base h : H) (Z : List (Sl × List α)) : Prop where
  own : ∀ p ∈ Z, Owns h p.1 e kk (p.2.flatMap f)
  ap : Z.Pairwise fun p q => ∀ b, p.1.blk = some b → q.1.blk ≠ some b
  mine : ∀ p ∈ Z, Mine base p.1
section
variable {α : Type} {f : α → List Value} {kk : Nat} {e : TypeId} {base h h' : H} {Z : List (Sl × List α)}
theorem LB.nil : LB f kk e base h [] := ⟨(fun p hp => by cases hp), List.Pairwise.nil, (fun p hp => by cases hp)⟩
theorem LB.ext (v : LB f kk e base h Z) (x : Ext h h') : LB f kk e base h' Z := ⟨fun p hp => (v.own p hp).ext x, v.ap, v.mine⟩
theorem LB.typ (v : LB f kk e base h Z) {s : Sl} {e' : TypeId} {k' : Nat} {ds : List Value} (o : Only (fun b => s.blk = some b) h h') (ws : Owns h s e' k' ds) (he : e ≠ e') : LB f kk e base h' Z := ⟨fun p hp => own_typ (v.own p hp) o ws he, v.ap, v.mine⟩
theorem LB.add (v : LB f kk e base h Z) (eb : Ext base h) (x : Ext h h') {s : Sl} {R : List α} (w : Owns h' s e kk (R.flatMap f)) (m : Mine h s) : LB f kk e base h' (Z ++ [(s, R)]) := by
  refine ⟨fun p hp => ?_, List.pairwise_append.2 ⟨v.ap, List.pairwise_singleton _ _, fun p hp q hq b hb hb2 => ?_⟩, fun p hp => ?_⟩
  · rcases List.mem_append.1 hp with hp | hp
    · exact (v.own p hp).ext x
    · obtain rfl := List.mem_singleton.1 hp; exact w
  · obtain rfl := List.mem_singleton.1 hq
    have h1 := (v.own p hp).blk_lt hb
    have h2 := m b hb2
    omega
  · rcases List.mem_append.1 hp with hp | hp
    · exact v.mine p hp
    · obtain rfl := List.mem_singleton.1 hp; exact m.older eb
end
end Go.Proofs.Ytoccbnhahaoeiaa.V
namespace Go.Proofs.Ytoccbnhahaoeiaa.V.S
open Go Go.Proofs.Ytoccbnhahaoeiaa.V
set_option linter.unusedVariables false
set_option linter.unusedSimpArgs false
set_option maxRecDepth 20000
theorem SH.turn {h : H} {n : Nat} {S : SL} {slots : Nat} {R R' : Nat → Prop} (s : SH h n S slots R) (hr : ∀ b, b < h.size → R b → R' b) : SH h n S slots R' := by
  obtain ⟨tn, rs, es, T, Z, hZ, z⟩ := s
  exact ⟨tn, rs, es, T, Z, hZ, z.turn (fun r hr h => h) hr⟩
theorem own_nsh {h : H} {t : Sl} {e : TypeId} {k : Nat} {cs : List Value} (w : Owns h t e k cs) (he : ¬ ShE e) {b : Nat} (hb : t.blk = some b) : ¬ ShTy h b := by
  obtain ⟨_, ⟨q1, _, _⟩ | ⟨b', c', q1, q2, _⟩⟩ := w
  · simp [Sl.blk, q1] at hb
  · simp [Sl.blk, q1] at hb
    subst hb
    exact not_sh q2 he
theorem slrow_sh : ¬ ShE tn_Slapi_Row := by unfold ShE; decide
theorem nb {b : Bool} (h : b = true) {P : Prop} : (!b) = true → P := fun g => by subst h; cases g
theorem LB.sonly {base h h' : H} {R : Nat → Prop} {Z : List (Sl × List Rw)} (v : LB cW 7 tn_api_Row base h Z) (o : SOnly R h h') : LB cW 7 tn_api_Row base h' Z := ⟨fun p hp => o.owns (v.own p hp) row_sh, v.ap, v.mine⟩
end Go.Proofs.Ytoccbnhahaoeiaa.V.S
namespace Go.Proofs.Ytoccbnhahaoeiaa.V
open Go
set_option linter.unusedVariables false
set_option linter.unusedSimpArgs false
/-- The slice is nil; or a part of a row of its own. -/
def Win (h : H) (s : Sl) (e : TypeId) (vs : List Value) : Prop :=
  vs.length = s.len ∧ ((s.ptr = none ∧ s.len = 0 ∧ s.cap = 0) ∨
    ∃ b c off, s.ptr = some ⟨b, off, none⟩ ∧ Blk h b c e ∧ off + s.cap ≤ c.size ∧ s.len ≤ s.cap ∧ s.cap ≤ maxLen ∧ ∀ (j : Nat) (v : Value), vs[j]? = some v → c[off + j]? = some v)
theorem Win.nil (h : H) (e : TypeId) : Win h ⟨none, 0, 0⟩ e [] := ⟨rfl, .inl ⟨rfl, rfl, rfl⟩⟩
theorem Win.only {S : Nat → Prop} {h h' : H} {s : Sl} {e : TypeId} {vs : List Value} (o : Win h s e vs) (k : Only S h h') (hn : ∀ b, s.blk = some b → ¬ S b) : Win h' s e vs := by
  obtain ⟨hl, h1 | ⟨b, c, off, h1, h2, h3⟩⟩ := o
  · exact ⟨hl, .inl h1⟩
  · exact ⟨hl, .inr ⟨b, c, off, h1, k.block h2 (hn b (by simp [Sl.blk, h1])), h3⟩⟩
theorem Win.ext {h h' : H} {s : Sl} {e : TypeId} {vs : List Value} (o : Win h s e vs) (k : Ext h h') : Win h' s e vs := o.only k fun _ _ f => f
theorem Win.blk_ty {h : H} {s : Sl} {e : TypeId} {vs : List Value} (o : Win h s e vs) {b : Nat} (hb : s.blk = some b) : ∃ c, Blk h b c e := by
  obtain ⟨hl, ⟨h1, _⟩ | ⟨b', c, off, h1, h2, h3⟩⟩ := o
  · simp [Sl.blk, h1] at hb
  · simp [Sl.blk, h1] at hb; subst hb; exact ⟨c, h2⟩
theorem Win.blk_lt {h : H} {s : Sl} {e : TypeId} {vs : List Value} (o : Win h s e vs) {b : Nat} (hb : s.blk = some b) : b < h.size := by
  obtain ⟨c, h2⟩ := o.blk_ty hb
  exact block_lt h2
theorem Win.reads {h : H} {s : Sl} {e : TypeId} {vs : List Value} (o : Win h s e vs) : Reads h s 1 vs := by
  obtain ⟨hl, ⟨h1, h2, h3⟩ | ⟨b, c, off, h1, h2, h3, h4, h5, h6⟩⟩ := o
  · refine ⟨by omega, fun _ => ⟨h2, h3⟩, fun i v hv => ?_⟩
    have : vs = [] := List.eq_nil_of_length_eq_zero (by omega)
    subst this; simp at hv
  · refine ⟨by omega, (fun h => by rw [h1] at h; cases h), fun i v hv => ⟨_, h1, rfl, ?_⟩⟩
    rw [add_lit]; exact h2.cell (h6 i v hv)
theorem Win.of {h : H} {s : Sl} {e : TypeId} {vs : List Value} (o : Owns h s e 1 vs) : Win h s e vs := by
  obtain ⟨hl, ⟨h1, h2, h3⟩ | ⟨b, c, h1, h2, h3, h4, h5, h6⟩⟩ := o
  · exact ⟨by omega, .inl ⟨h1, h2, h3⟩⟩
  · refine ⟨by omega, .inr ⟨b, c, 0, h1, h2, by omega, h4, h5, fun j v hv => ?_⟩⟩
    have hlt : j < vs.length := (List.getElem?_eq_some_iff.1 hv).1
    rw [← h6, List.getElem?_take_of_lt hlt] at hv
    rw [Nat.zero_add]; simpa using hv
/-- The first is cut off. -/
theorem Win.cut {h : H} {s : Sl} {e : TypeId} {v : Value} {vs : List Value} (o : Win h s e (v :: vs)) : Win h (slcut s 1 s.len 1) e vs := by
  obtain ⟨hl, ⟨h1, h2, h3⟩ | ⟨b, c, off, h1, h2, h3, h4, h5, h6⟩⟩ := o
  · simp at hl; omega
  · simp only [List.length_cons] at hl
    refine ⟨by simp only [slcut]; omega, .inr ?_⟩
    by_cases hc : s.cap = 1
    · have hv : vs = [] := List.eq_nil_of_length_eq_zero (by omega)
      subst hv
      refine ⟨b, c, off, by simp only [slcut]; rw [if_pos hc]; exact h1, h2, by simp only [slcut]; omega, by simp only [slcut]; omega, by simp only [slcut, maxLen] at *; omega, fun j v hv => by simp at hv⟩
    · refine ⟨b, c, off + 1, by simp only [slcut]; rw [if_neg hc, h1]; simp [add_lit], h2, by simp only [slcut]; omega, by simp only [slcut]; omega, by simp only [slcut, maxLen] at *; omega, fun j u hu => ?_⟩
      have := h6 (j + 1) u (by simpa using hu)
      rw [Nat.add_assoc, Nat.add_comm 1 j]; exact this
section
variable {P : Program} {h : H}
theorem win_push {t e ty : TypeId} {s : Sl} {bytes : Nat} {vs : List Value} {z v : Value} {K : Sl → H → Prop} (el : El P t e 1 bytes z) (hs : Win h s e vs) (ho : v.oneCell' = true) (hlim : (vs.length + 1 + (vs.length + 1) / 4 + 256) * bytes ≤ 140737488355328)
    (kk : ∀ r h1 h', Ext h h1 → Win h' r e (vs ++ [v]) → ((r.blk = s.blk ∧ Only (fun b => s.blk = some b) h1 h') ∨ (∃ b, r.blk = some b ∧ h1.size ≤ b ∧ Ext h1 h')) → K r h') :
    newL h #[v] e 1 fun s1 h1 => runL P (Builtin.append_ #[t, t] ty #[s.enc, s1.enc]) h1 K := by
  refine newL_of fun n1 h1 hn1 b1 e1 s1 => ?_
  have hs := hs.ext e1
  obtain ⟨hl, ⟨p1, p2, p3⟩ | ⟨b, c, off, p1, p2, p3, p4, p5, p6⟩⟩ := hs
  · have hv : vs = [] := List.eq_nil_of_length_eq_zero (by omega)
    subst hv
    obtain ⟨sp, sl, sc⟩ := s
    simp only at p1 p2 p3
    subst p1; subst p2; subst p3
    refine app_of2 (cs := []) (ys := [v]) el (Owns.nil _ _ _) (blk_reads b1 rfl) (fun u hu => by rw [List.mem_singleton.1 hu]; exact ho) (by simp only [List.length_nil, Nat.zero_add] at hlim ⊢; omega) fun r h' w' _ o' => kk r h1 h' e1 (Win.of w') ?_
    rcases o' with ⟨q1, q2, q3⟩ | ⟨b, q1, q2, q3⟩
    · exact .inl ⟨by simp [Sl.blk, q1], q3⟩
    · exact .inr ⟨b, by simp [Sl.blk, q1], q2, q3⟩
  · obtain ⟨i, hi, hz, hsz, hby⟩ := el.info
    have hpos := el.pos
    have hbp := el.bpos
    obtain ⟨sp, sl, sc⟩ := s
    simp only at p1 p3 p4 p5 hl
    subst p1
    have hb1 : sl + 1 ≤ (vs.length + 1 + (vs.length + 1) / 4 + 256) * bytes := Nat.le_trans (by omega) (Nat.le_mul_of_pos_right _ hbp)
    intro w hw
    subst hw
    have hx : ∀ j u, ([v] : List Value)[j]? = some u → w.cell? ((⟨n1, 0, none⟩ : Addr).add j) = some u := fun j u hu => by
      cases j with
      | zero => simp at hu; subst hu; rw [add_lit]; exact Blk.cell (h := w.heap) b1 rfl
      | succ j => simp at hu
    have h1' : ∀ u ∈ ([v] : List Value), u.oneCell' = true := fun u hu => by rw [List.mem_singleton.1 hu]; exact ho
    by_cases hfit : sl + 1 ≤ sc
    · obtain ⟨u, hu⟩ : ∃ u, c[off + sl]? = some u := ⟨_, Array.getElem?_eq_getElem (by omega)⟩
      have hr := run_append_room_cells (P := P) w t ty e i el.slice hi b off sl sc ⟨n1, 0, none⟩ 1 1 [v] (by rw [hsz]; rfl) hx h1' hfit (fun j hj => by
          obtain rfl : j = 0 := by simpa using hj
          have : cellH w.heap ⟨b, off + sl, none⟩ = some u := Blk.cell (h := w.heap) p2 hu
          rw [hsz, Nat.mul_one]
          show (cellH w.heap ⟨b, off + sl, none⟩).isSome = true
          rw [this]; rfl) (fun j hj => Blk.frozen (h := w.heap) p2)
      obtain ⟨a1, a2, a3⟩ := setHs_blk (h := w.heap) p2 (off + sl) [v] 0
      have hh : (w.setCells b (off + sl * i.size) [v]).heap = setHs w.heap ⟨b, off + sl, none⟩ [v] 0 := by
        rw [hsz, Nat.mul_one]; simp only [setHs, add_lit]; rfl
      rw [← hh] at a1 a2
      refine ⟨_, _, hr, ⟨rfl, rfl, rfl⟩, ⟨some ⟨b, off, none⟩, sl + 1, sc⟩, rfl, kk _ w.heap _ e1 ⟨by simp [hl], .inr ⟨b, _, off, rfl, a1, ?_, hfit, p5, fun j x hx => ?_⟩⟩ (.inl ⟨rfl, a2.mono fun n hn e => by simp [Sl.blk]; exact e.symm⟩)⟩
      · rw [writeA_size]; exact p3
      · rw [Nat.add_zero, writeA_get (by simp only [List.length_singleton]; omega)]
        simp only [List.length_singleton]
        by_cases hj : j < vs.length
        · rw [List.getElem?_append_left hj] at hx
          rw [if_pos (by omega)]; exact p6 j x hx
        · rw [List.getElem?_append_right (by omega)] at hx
          have hj0 : j - vs.length = 0 := by
            rcases Nat.eq_zero_or_pos (j - vs.length) with g | g
            · exact g
            · rw [List.getElem?_eq_none (by simp; omega)] at hx; cases hx
          rw [if_neg (by omega), if_pos (by omega), show off + j - (off + sl) = j - vs.length by omega]
          exact hx
    · have hold : ∀ j u, vs[j]? = some u → w.cell? ((⟨b, off, none⟩ : Addr).add j) = some u := fun j u hu => by rw [add_lit]; exact Blk.cell (h := w.heap) p2 (p6 j u hu)
      obtain ⟨v', w', hr, r2, r3⟩ := run_append_arg_grows (P := P) w t ty e i z 1 bytes el.slice hi hz hsz hby el.zero (by omega) ⟨b, off, none⟩ sl sc vs (by omega) hold ⟨n1, 0, none⟩ 1 1 [v] rfl hx (by omega) (by simp only [maxLen]; omega) (by rw [← hl]; exact Nat.le_trans (Nat.mul_le_mul_right _ (by omega)) hlim)
      obtain ⟨q1, ⟨q2, q0⟩ | ⟨g, cap, cur, q2, q9, q3, q4, q7, q5, q6⟩⟩ := r2
      · omega
      · subst q2
        refine ⟨_, _, hr, ⟨r3.os, r3.tape, r3.output⟩, ⟨some ⟨g, 0, none⟩, sl + 1, cap⟩, rfl, kk _ w.heap _ e1 (Win.of ⟨by simp [hl], .inr ⟨g, cur, rfl, q3, by simpa using q5, q4, q7, by rw [q1]; exact q6⟩⟩) (.inr ⟨g, rfl, q9, (heap_ext r3).mono fun n hn e => by cases e⟩)⟩
end
end Go.Proofs.Ytoccbnhahaoeiaa.V
namespace Go.Proofs.Ytoccbnhahaoeiaa.V.S
open Go Go.Proofs.Ytoccbnhahaoeiaa.V
set_option linter.unusedVariables false
set_option linter.unusedSimpArgs false
set_option maxRecDepth 20000
theorem all_set {e : Int} {c : Cel} {vs' : List Ver} : ∀ {S : SL}, SortS S → (∀ vs, getS S c = some vs → atV vs' e = atV vs e) → (getS S c = none → (atV vs' e).2 = false) → allS (setS S c vs') e = allS S e
  | [], _, _, h2 => by
    have h2 := h2 rfl
    show allS [(c, vs')] e = []
    unfold allS
    rw [List.filter_cons_of_neg (by simpa using h2)]; rfl
  | y :: r, hs, h1, h2 => by
    obtain ⟨q1, q2⟩ := List.pairwise_cons.1 hs
    show allS (setK (·.1) (y :: r) (c, vs')) e = _
    unfold setK
    split
    · rename_i g
      have hn : getS (y :: r) c = none := by
        unfold getS
        rw [getK_free fun z hz hzc => ?_]
        · rfl
        · rcases List.mem_cons.1 hz with hz | hz
          · subst hz
            have g' : cmpC c z.1 = -1 := g
            rw [hzc, cC_self] at g'; omega
          · have g' : cmpC c z.1 = -1 := cC_trans g (q1 z hz)
            rw [hzc, cC_self] at g'; omega
      have h2 := h2 hn
      unfold allS
      rw [List.filter_cons_of_neg (by simpa using h2)]
    · rename_i g
      split
      · rename_i g0
        have hyc : c = y.1 := cC_zero.1 g0
        have hg : getS (y :: r) c = some y.2 := by simp [getS, getK, hyc, cC_self]
        have h1 := h1 _ hg
        unfold allS
        rw [List.filter_cons, List.filter_cons]
        simp only [h1]
        split
        · rw [List.map_cons, List.map_cons]
          congr 1
          unfold rowS
          simp only [h1, hyc]
        · rfl
      · rename_i g0
        have hne : ¬ cmpC y.1 c = 0 := fun h => g0 (cC_zero.2 (cC_zero.1 h).symm)
        have hg : getS (y :: r) c = getS r c := by unfold getS getK; rw [List.find?_cons_of_neg (by simpa using hne)]
        rw [hg] at h1 h2
        have ih := all_set (S := r) q2 h1 h2
        have hsr : setK (fun x : Cel × List Ver => x.1) r (c, vs') = setS r c vs' := rfl
        rw [hsr]
        unfold allS at ih ⊢
        rw [List.filter_cons, List.filter_cons]
        split
        · rw [List.map_cons, List.map_cons, ih]
        · exact ih
theorem lay_at {vs : List Ver} {x : Ver} {e : Int} (he : e < x.epoch) : C.atM (C.layM vs x) e = C.atM vs e := by
  unfold C.atM
  have hx : ([x] : List Ver).filter (fun x => decide (x.epoch ≤ e)) = [] := by
    rw [List.filter_eq_nil_iff]; intro y hy; rw [List.mem_singleton.1 hy]; simp only [decide_eq_true_eq]; omega
  have : (C.layM vs x).filter (fun x => decide (x.epoch ≤ e)) = vs.filter (fun x => decide (x.epoch ≤ e)) := by
    unfold C.layM
    split
    · rename_i g
      rw [List.filter_append, hx, List.append_nil]
      have hv := List.dropLast_concat_getLast g.1
      have hl : ([vs.getLast g.1] : List Ver).filter (fun x => decide (x.epoch ≤ e)) = [] := by
        rw [List.filter_eq_nil_iff]; intro y hy; rw [List.mem_singleton.1 hy, ← lastE_get g.1, g.2]; simp only [decide_eq_true_eq]; omega
      conv => rhs; rw [← hv]
      rw [List.filter_append, hl, List.append_nil]
    · rw [List.filter_append, hx, List.append_nil]
  rw [this]
theorem atV_pos {vs : List Ver} {e : Int} (h : 1 ≤ e) : atV vs e = C.atM vs e := by unfold atV; rw [if_neg (by omega)]
theorem all_lay {S : SL} (hs : SortS S) {c : Cel} {x : Ver} {e : Int} (h1 : 1 ≤ e) (he : e < x.epoch) : allS (setS S c (C.layM ((getS S c).getD []) x)) e = allS S e := by
  refine all_set hs (fun vs hv => ?_) fun hn => ?_
  · rw [hv, Option.getD_some, atV_pos h1, atV_pos h1, lay_at he]
  · rw [hn, Option.getD_none, atV_pos h1, lay_at he]; rfl
theorem past_apply {S : SL} (hs : SortS S) {slots : Nat} {ep e : Int} {y : St} (hk : withinM y.x.Kind 4 ≠ 1) (h1 : 1 ≤ e) (he : e < ep) : allS (applyM S slots ep y).2 e = allS S e := by
  unfold applyM
  split
  · simp only
    split
    · exact all_lay hs h1 he
    · rfl
  · first | rw [if_neg hk] | skip
    simp only
    split
    · exact all_lay hs h1 he
    · rfl
theorem prune_cons (x : Cel × List Ver) (r : SL) (E : List Int) : pruneS (x :: r) E = (if C.pruneM x.2 E = [] then [] else [(x.1, C.pruneM x.2 E)]) ++ pruneS r E := by
  unfold pruneS
  rw [List.map_cons, List.filter_cons]
  by_cases h : C.pruneM x.2 E = []
  · simp [h]
  · simp [h]
theorem past_prune {E : List Int} {e : Int} (h1 : 1 ≤ e) (he : e ∈ E) : ∀ {S : SL}, (∀ x ∈ S, C.Rise x.2) → allS (pruneS S E) e = allS S e
  | [], _ => rfl
  | x :: r, h => by
    have ih := past_prune h1 he (S := r) fun y hy => h y (by simp [hy])
    have hp := C.prune_at (h x (by simp)) he
    rw [prune_cons]
    unfold allS at ih ⊢
    rw [List.filter_append, List.map_append, ih, List.filter_cons]
    by_cases g : C.pruneM x.2 E = []
    · rw [if_pos g]
      rw [g] at hp
      have : (atV x.2 e).2 = false := by rw [atV_pos h1, ← hp]; rfl
      rw [if_neg (by simpa using this)]; rfl
    · rw [if_neg g]
      have hv : atV (C.pruneM x.2 E) e = atV x.2 e := by rw [atV_pos h1, atV_pos h1, hp]
      rw [List.filter_cons]
      simp only [hv, List.filter_nil]
      split
      · unfold rowS
        simp [hv]
      · rfl
/-- No version is of a later epoch. -/
def EB (S : SL) (ep : Int) : Prop := ∀ x ∈ S, ∀ v ∈ x.2, v.epoch ≤ ep
theorem EB.mono {S : SL} {a b : Int} (h : EB S a) (hab : a ≤ b) : EB S b := fun x hx v hv => Int.le_trans (h x hx v hv) hab
theorem EB.lay {S : SL} {ep : Int} (h : EB S ep) (hs : SortS S) {c : Cel} {x : Ver} (hx : x.epoch ≤ ep) : EB (setS S c (C.layM ((getS S c).getD []) x)) ep := fun y hy v hv => by
  rcases (mem_set hs).1 hy with hy | hy
  · subst hy
    have hv' : v = x ∨ v ∈ (getS S c).getD [] := by
      unfold C.layM at hv
      split at hv
      · rcases List.mem_append.1 hv with hv | hv
        · exact .inr (List.dropLast_subset _ hv)
        · exact .inl (List.mem_singleton.1 hv)
      · rcases List.mem_append.1 hv with hv | hv
        · exact .inr hv
        · exact .inl (List.mem_singleton.1 hv)
    rcases hv' with hv' | hv'
    · subst hv'; exact hx
    · cases hg : getS S c with
      | none => rw [hg] at hv'; cases hv'
      | some vs =>
        rw [hg] at hv'
        unfold getS at hg
        obtain ⟨z, hz, rfl⟩ := Option.map_eq_some_iff.1 hg
        exact h z (getK_some hz).1 v hv'
  · exact h y hy.1 v hv
theorem EB.prune {S : SL} {ep : Int} (h : EB S ep) (E : List Int) : EB (pruneS S E) ep := fun y hy v hv => by
  unfold pruneS at hy
  obtain ⟨h1, _⟩ := List.mem_filter.1 hy
  obtain ⟨x, hx, rfl⟩ := List.mem_map.1 h1
  exact h x hx v ((C.prune_sub _ _).subset hv)
theorem EB.apply {S : SL} {ep : Int} (h : EB S ep) (hs : SortS S) {slots : Nat} {y : St} : EB (applyM S slots ep y).2 ep := by
  unfold applyM
  split
  · simp only
    split
    · exact h.lay hs (Int.le_refl _)
    · exact h
  · split
    · simp only
      split
      · exact h.prune _
      · exact h
    · simp only
      split
      · exact h.lay hs (Int.le_refl _)
      · exact h
theorem all_now {S : SL} (hok : SOk S) {ep : Int} (h : EB S ep) (h1 : 1 ≤ ep) : allS S ep = allS S 0 := by
  have : ∀ x ∈ S, atV x.2 ep = atV x.2 0 := fun x hx => by
    rw [atV_pos h1]
    unfold atV C.atM
    rw [if_pos rfl, List.filter_eq_self.2 fun v hv => by simpa using h x hx v hv]
    unfold alive C.newestM
    cases hl : x.2.getLast? with
    | none => rfl
    | some v =>
      simp only
      have hd := (hok.ok x hx).2.dead v (List.mem_of_getLast? hl)
      by_cases g : v.dead = true
      · rw [if_pos g, g, hd g]; rfl
      · rw [if_neg g]; simp only [Bool.not_eq_true] at g; rw [g]; rfl
  unfold allS
  have hf : S.filter (fun x => (atV x.2 ep).2) = S.filter (fun x => (atV x.2 0).2) := List.filter_congr fun x hx => by rw [this x hx]
  rw [hf]
  refine List.map_congr_left fun x hx => ?_
  unfold rowS
  rw [this x (List.mem_filter.1 hx).1]
end Go.Proofs.Ytoccbnhahaoeiaa.V.S
namespace Go.Proofs.Ytoccbnhahaoeiaa.V.S
open Go Go.Proofs.Ytoccbnhahaoeiaa.V
set_option linter.unusedVariables false
set_option linter.unusedSimpArgs false
set_option maxRecDepth 20000
theorem tab_at2 {hh : H} {s : Sl} {ss : List Sl} (w : Reads hh s 1 (ss.flatMap cS8)) {i : Nat} {x : Sl} (hs : ss[i]? = some x) {K : Addr → Sl → Prop} (k : ∀ a, cellH hh a = some x.enc → K a x) : idxA s (i : Int) 1 fun a => ldL hh a (K a) := by
  obtain ⟨q, r1, r2, r3⟩ := rd_at cS8_len (by omega) w hs
  have hl := rd_len cS8_len (by omega) w
  exact idxR_of (i := i) r1 (by have := (List.getElem?_eq_some_iff.1 hs).1; omega) rfl ((ldL_iff r3.one).2 (k _ r3.one))
end Go.Proofs.Ytoccbnhahaoeiaa.V.S
namespace Go.Proofs.Ytoccbnhahaoeiaa.V.S
open Go Go.Proofs.Ytoccbnhahaoeiaa.V
set_option linter.unusedVariables false
set_option linter.unusedSimpArgs false
set_option maxRecDepth 20000
theorem make0 {n : Nat} {h : H} {K : Sl → H → Prop} (hn : n ≤ 1000000)
    (k : ∀ b h', b = h.size → Owns h' ⟨some ⟨b, 0, none⟩, 0, n⟩ tn_int 1 [] → Ext h h' → K ⟨some ⟨b, 0, none⟩, 0, n⟩ h') : runL PP (Instr.makeSlice tn_Slint (.int .i64 0) (.int .i64 (n : Int))) h K := by
  obtain ⟨i, hi, hz, hsz, hby⟩ := el_Slint.info
  intro w hw
  subst hw
  have hr := run_make (P := PP) w tn_Slint 3 i (.int .i64 0) el_Slint.slice hi hz .i64 .i64 0 n (by omega) (by omega) (by rw [hby]; omega) (by omega)
  simp only [Int.toNat_natCast, Int.toNat_zero] at hr
  refine ⟨_, _, hr, ⟨rfl, rfl, rfl⟩, ⟨some ⟨w.heap.size, 0, none⟩, 0, n⟩, rfl, k _ _ rfl ⟨by simp, .inr ⟨_, _, rfl, Blk.new _ _ _, ?_, by simp, by simp [maxLen]; omega, by simp⟩⟩ (.push _ _)⟩
  rw [size_madeCells, hsz]
theorem LendInts_spec {h : H} {s : Sl} {L : List Int} {Q : Sl → H → Prop} (rd : Reads h s 1 (L.flatMap cI)) (hl : L.length ≤ 100000) (k : ∀ r h', Reads h' r 1 (L.flatMap cI) → (∀ b, r.blk = some b → b < h'.size ∧ ¬ ShTy h' b) → Ext h h' → Q r h') : F.spatelaw7_LendInts s h Q := by
  unfold F.spatelaw7_LendInts
  have hlen := rd_len cI_len (by omega) rd
  rw [hlen, show IntKind.wrap .i64 ((L.length : Int) + 3) = ((L.length + 3 : Nat) : Int) by rw [w64 (by omega) (by omega)]; omega]
  refine make0 (by omega) fun b h1 hb w1 e1 => ?_
  refine app_mine (h0 := h) (L := []) (M := L) e1 (fun x hx => by simp [Sl.blk] at hx; omega) cI_len (by omega) el_Slint w1 (rd.ext e1) (fun x => one1 rfl) (by simp only [List.length_nil]; omega) fun s4 h3 w4 e3 m4 _ _ => ?_
  refine push_mine (x := (-77 : Int)) e3 m4 cI_len (by omega) el_Slint w4 (fun x => one1 rfl) (by rw [List.length_append, List.length_nil]; omega) fun s8 h7 w8 e7 m8 _ _ => ?_
  have hl8 := own_len cI_len (by omega) w8
  simp only [List.nil_append, List.length_append, List.length_singleton] at hl8
  refine cutL_of (lo := 0) (hi := L.length) rfl rfl (Nat.zero_le _) (by have := w8.le_cap; omega) (k _ h7 ?_ (fun x hx => ?_) e7)
  · have := cut_reads (lo := 0) (hi := L.length) cI_len (by omega) w8.reads (Nat.zero_le _) (by simp) w8.le_cap
    simpa using this
  · rw [slcut_blk] at hx
    exact ⟨w8.blk_lt hx, own_nsh w8 int_sh hx⟩
theorem win_nsh {h : H} {t : Sl} {e : TypeId} {vs : List Value} (w : Win h t e vs) (he : ¬ ShE e) {b : Nat} (hb : t.blk = some b) : ¬ ShTy h b := by
  obtain ⟨c, hc⟩ := w.blk_ty hb
  exact not_sh hc he
theorem win_diff {h : H} {s r : Sl} {e e' : TypeId} {vs ws : List Value} (w : Win h r e vs) (ws : Win h s e' ws) (he : e ≠ e') {b : Nat} (hb : r.blk = some b) : s.blk ≠ some b := fun hs => by
  obtain ⟨c, hc⟩ := w.blk_ty hb
  obtain ⟨c', hc'⟩ := ws.blk_ty hs
  have := hc.symm.trans hc'
  simp at this
  exact he this.2
theorem win_own {h : H} {s r : Sl} {e e' : TypeId} {k : Nat} {vs ds : List Value} (w : Win h r e vs) (ws : Owns h s e' k ds) (he : e ≠ e') {b : Nat} (hb : s.blk = some b) : r.blk ≠ some b := fun hs => by
  obtain ⟨c, hc⟩ := w.blk_ty hs
  exact own_neG ws hc (fun h => he h.symm) hb
theorem win_sonly {R : Nat → Prop} {h h' : H} {t : Sl} {e : TypeId} {vs : List Value} (o : SOnly R h h') (w : Win h t e vs) (he : ¬ ShE e) : Win h' t e vs := w.only o fun b hb hh => win_nsh w he hb hh.2
structure PS (h hh : H) (nd : Nat) (S : SL) (slots : Nat) (ep : Int) (hd mp : Sl) (D : List Int) (Z : List (Sl × List Rw)) : Prop where
  sh : SH hh nd S slots (fun b => h.size ≤ b)
  e : Ext h hh
  wd : Win hh hd tn_int (D.flatMap cI)
  md : Mine h hd
  wm : Win hh mp tn_Slapi_Row ((Z.map (·.1)).flatMap cS8)
  mm : Mine h mp
  lb : LB cW 7 tn_api_Row h hh Z
  len : D.length = Z.length
  inv : ∀ (k : Nat) d p, D[k]? = some d → Z[k]? = some p → 1 ≤ d ∧ d < ep ∧ allS S d = p.2
  eb : EB S ep
  ep1 : 1 ≤ ep
theorem PS.ext {h hh h' : H} {nd : Nat} {S : SL} {slots : Nat} {ep : Int} {hd mp : Sl} {D : List Int} {Z : List (Sl × List Rw)} (p : PS h hh nd S slots ep hd mp D Z) (x : Ext hh h') : PS h h' nd S slots ep hd mp D Z :=
  ⟨p.sh.ext x, p.e.trans x, p.wd.ext x, p.md, p.wm.ext x, p.mm, p.lb.ext x, p.len, p.inv, p.eb, p.ep1⟩
/-- The shard is turned. -/
theorem PS.turn {h hh h' : H} {nd : Nat} {S S' : SL} {slots : Nat} {ep : Int} {hd mp : Sl} {D : List Int} {Z : List (Sl × List Rw)} (p : PS h hh nd S slots ep hd mp D Z) (sh' : SH h' nd S' slots (fun b => h.size ≤ b)) (o : SOnly (fun b => h.size ≤ b) hh h')
    (hinv : ∀ d, d ∈ D → 1 ≤ d → d < ep → allS S' d = allS S d) (heb : EB S' ep) : PS h h' nd S' slots ep hd mp D Z :=
  ⟨sh', o.base p.e fun b hb => hb, win_sonly o p.wd int_sh, p.md, win_sonly o p.wm slrow_sh, p.mm, LB.sonly p.lb o, p.len, fun k d q h1 h2 => by
    obtain ⟨a1, a2, a3⟩ := p.inv k d q h1 h2
    exact ⟨a1, a2, (hinv d (List.mem_of_getElem? h1) a1 a2).trans a3⟩, heb, p.ep1⟩
theorem ShardPast_spec {slots0 : Int} {l : Sl} {L : List St} {h : H} {Q : Bool → H → Prop} (rd : Reads h l 15 (L.flatMap fun y => y.x.cells)) (ok : ∀ y ∈ L, StOk h y) (hL : L.length ≤ 9223372036854775807) (k : ∀ h', Ext h h' → Q true h') : F.spatelaw7_ShardPast slots0 l h Q := by
  unfold F.spatelaw7_ShardPast
  have hl := rd_len (f := fun y : St => y.x.cells) step_len (by omega) rd
  refine within_spec (by omega) (by omega) ?_
  have r1 := within_range (a := slots0) (m := 60) (by omega)
  generalize withinM slots0 60 = sl at r1 ⊢
  rw [w64 (n := 2 + sl) (by omega) (by omega)]
  refine New_spec (R := fun b => h.size ≤ b) (fun g => by omega) (fun b hb => hb) fun _ _ h1 nd sh1 e1 hnd => ⟨fun g => by simp at g, fun _ => ?_⟩
  generalize (2 + sl).toNat = slots at sh1
  unfold F.spatelaw7_ShardPast.j10 F.spatelaw7_ShardPast.j1
  refine ⟨fun g => by simp at g, fun _ => ?_⟩
  have hR : ∀ {hh : H}, Ext h hh → ∀ b, hh.size ≤ b → h.size ≤ b := fun e b hb => by have := e.size; omega
  have steps : ∀ (d i : Nat) (S : SL) (ep : Int) (hd mp : Sl) (D : List Int) (Z : List (Sl × List Rw)) (hh : H), i ≤ L.length → L.length - i < d → PS h hh nd S slots ep hd mp D Z → D.length ≤ i → ep ≤ (i : Int) + 1 → i ≤ 80 → F.spatelaw7_ShardPast.l2 Q d l (some ⟨nd, 0, none⟩) ep hd mp (i : Int) hh := by
    intro d
    induction d with
    | zero => intro i _ _ _ _ _ _ _ _ hm; omega
    | succ d ih =>
      intro i S ep hd mp D Z hh hi hm ps hDi hepi hi80
      unfold F.spatelaw7_ShardPast.l2
      rw [hl]
      have done : ∀ (C1 : Sl → Option Addr → Int → Sl → Sl → Int → H → Prop) (x : Int), F.spatelaw7_ShardPast.j9 Q C1 l (some ⟨nd, 0, none⟩) ep hd mp x false hh := fun C1 x => by
        unfold F.spatelaw7_ShardPast.j9
        exact ⟨fun g => (by cases g), fun _ => head_spec fun h' e' => k h' (ps.e.trans e')⟩
      refine ⟨fun gg => ?_, fun _ => done _ _⟩
      have gg := of_decide_eq_true gg
      by_cases g80 : i < 80
      · rw [decide_eq_true (by omega)]
        have hm' : L.length - (i + 1) < d := by omega
        have hiL : i < L.length := by omega
        obtain ⟨y, hy⟩ : ∃ y, L[i]? = some y := ⟨_, List.getElem?_eq_getElem hiL⟩
        have yok := ok y (List.mem_of_getElem? hy)
        -- the step's own numbers
        have num : ∀ {hh' : H} (e : Ext h hh') {K : Addr → Prop}, (∀ a, Cells hh' a y.x.cells → K a) → idxA l (i : Int) 15 K := fun e K kk => by
          obtain ⟨p, p1, p2, p3⟩ := rd_at (f := fun y : St => y.x.cells) step_len (by omega) (rd.ext e) hy
          exact idxR_of (i := i) p1 (by omega) rfl (kk _ p3)
        have c0 : ∀ {hh' : H} {a : Addr}, Cells hh' a y.x.cells → cellH hh' (a.add 0) = some (.int .i64 y.x.Kind) := fun c => c 0 _ rfl
        have c1 : ∀ {hh' : H} {a : Addr}, Cells hh' a y.x.cells → cellH hh' (a.add 1) = some (.int .i64 y.x.Epoch) := fun c => c 1 _ rfl
        -- it is looked at
        have j6 : ∀ (S : SL) (ep : Int) (hd mp : Sl) (D : List Int) (Z : List (Sl × List Rw)) (hh : H), PS h hh nd S slots ep hd mp D Z → D.length ≤ i + 1 → ep ≤ (i : Int) + 2 → F.spatelaw7_ShardPast.j6 Q (F.spatelaw7_ShardPast.l2 Q d) l (some ⟨nd, 0, none⟩) ep hd mp (i : Int) hh := by
          intro S ep hd mp D Z hh ps hDi hepi
          have hep1 := ps.ep1
          have al : ∀ {hh : H} {S : SL}, SH hh nd S slots (fun b => h.size ≤ b) → ∀ e, (allS S e).length ≤ 1048576 := fun s e => all_len s.ok s.us.1 s.us.2 e
          have hdl := rd_len cI_len (by omega) ps.wd.reads
          have same : ∀ (hh' : H) (e : Int) (K : H → Prop), Ext hh hh' → 1 ≤ e → EB S e → (∀ h', Ext hh h' → K h') → F.spatelaw7_all (some ⟨nd, 0, none⟩) e hh' fun r23 h22 => F.spatelaw7_all (some ⟨nd, 0, none⟩) 0 h22 fun r25 h24 => F.spatelaw7_SameRows r23 r25 h24 fun r27 h26 => r27 = true ∧ K h26 := fun hh' e K ex h1 heb kk => by
            refine all_spec (ps.sh.ext ex) fun a h22 wa ma e22 => all_spec ((ps.sh.ext ex).ext e22) fun b h24 wb mb e24 => ?_
            have hal := al ps.sh e
            refine SameRows_spec (wa.ext e24).reads wb.reads (by omega) (fun _ => ⟨rfl, kk h24 ((ex.trans e22).trans e24)⟩) fun hne => absurd (all_now ps.sh.ok heb h1) hne
          have L7 : ∀ (d2 q : Nat) (h2 : H), q ≤ D.length → D.length - q < d2 → Ext hh h2 → F.spatelaw7_ShardPast.l7 Q (F.spatelaw7_ShardPast.l2 Q d) d2 l (some ⟨nd, 0, none⟩) ep hd mp (i : Int) (q : Int) h2 := by
            intro d2
            induction d2 with
            | zero => intro q _ _ hm; omega
            | succ d2 ih2 =>
              intro q h2 hq hm2 e2
              unfold F.spatelaw7_ShardPast.l7
              rw [hdl]
              refine ⟨fun g2 => ?_, fun g2 => ?_⟩
              · have g2 := of_decide_eq_true g2
                have hqD : q < D.length := by omega
                have hqZ : q < Z.length := by have := ps.len; omega
                obtain ⟨a1, a2, a3⟩ := ps.inv q D[q] Z[q] (List.getElem?_eq_getElem hqD) (List.getElem?_eq_getElem hqZ)
                obtain ⟨p, p1, p2, p3⟩ := rd_at (f := cI) cI_len (by omega) (ps.wd.reads.ext e2) (List.getElem?_eq_getElem hqD)
                refine idxR_of (i := q) p1 (by omega) rfl ((ldI_iff p3.one).2 ?_)
                have hz : (Z.map (·.1))[q]? = some Z[q].1 := by rw [List.getElem?_map, List.getElem?_eq_getElem hqZ]; rfl
                refine tab_at2 (ps.wm.reads.ext e2) hz fun a ca => all_spec (ps.sh.ext e2) fun r h15 wr mr e15 => ⟨e15.cell ca fun f => f, ?_⟩
                have wz := ((ps.lb.own _ (List.getElem_mem hqZ)).ext e2).ext e15
                have hal := al ps.sh D[q]
                refine SameRows_spec wr.reads wz.reads (by omega) (fun _ => ⟨fun g => (by cases g), fun _ => ?_⟩) fun hne => absurd a3 hne
                rw [w64s (by omega)]
                exact ih2 (q + 1) h15 (by omega) (by omega) (e2.trans e15)
              · have fin : ∀ h', Ext hh h' → F.spatelaw7_ShardPast.j4 Q (F.spatelaw7_ShardPast.l2 Q d) l (some ⟨nd, 0, none⟩) ep hd mp (i : Int) h' := fun h' e' => by
                  unfold F.spatelaw7_ShardPast.j4
                  rw [w64s (by omega)]
                  exact ih (i + 1) S ep hd mp D Z h' (by omega) hm' (ps.ext e') (by omega) (by omega) (by omega)
                refine all_spec (ps.sh.ext e2) fun a h22 wa ma e22 => all_spec ((ps.sh.ext e2).ext e22) fun b h24 wb mb e24 => ?_
                have hal := al ps.sh ep
                refine SameRows_spec (wa.ext e24).reads wb.reads (by omega) (fun _ => ⟨fun g => (by cases g), fun _ => ?_⟩) fun hne => absurd (all_now ps.sh.ok ps.eb ps.ep1) hne
                have e224 := (e2.trans e22).trans e24
                rw [w64 (n := ep + 5) (by omega) (by omega)]
                refine all_spec (ps.sh.ext e224) fun a2 h29 wa2 ma2 e29 => all_spec ((ps.sh.ext e224).ext e29) fun b2 h31 wb2 mb2 e31 => ?_
                have hal2 := al ps.sh (ep + 5)
                unfold F.spatelaw7_ShardPast.j8
                refine SameRows_spec (wa2.ext e31).reads wb2.reads (by omega) (fun _ => ⟨fun g => (by cases g), fun _ => fin h31 ((e224.trans e29).trans e31)⟩) fun hne => absurd (all_now ps.sh.ok (ps.eb.mono (by omega)) (by omega)) hne
          unfold F.spatelaw7_ShardPast.j6
          exact ⟨D.length + 1, L7 _ 0 hh (by omega) (by omega) (.refl _)⟩
        -- it is put, or killed
        have j5 : ∀ (S : SL) (ep : Int) (hd mp : Sl) (D : List Int) (Z : List (Sl × List Rw)) (hh : H), PS h hh nd S slots ep hd mp D Z → D.length ≤ i + 1 → ep ≤ (i : Int) + 2 → F.spatelaw7_ShardPast.j5 Q (F.spatelaw7_ShardPast.l2 Q d) l (some ⟨nd, 0, none⟩) ep hd mp (i : Int) hh := by
          intro S ep hd mp D Z hh ps hDi hepi
          unfold F.spatelaw7_ShardPast.j5
          refine num ps.e fun a ca => ldI_of (c0 ca) (within_spec (by omega) (by omega) ⟨fun g => ?_, fun _ => j6 S ep hd mp D Z hh ps hDi hepi⟩)
          have g : withinM y.x.Kind 4 ≠ 1 := by simpa using g
          refine step_at rd ps.e hy yok ps.sh (hR ps.e) (fun b hb => by show ¬ h.size ≤ b; omega) fun h' sh' o' => ?_
          exact j6 _ ep hd mp D Z h' (ps.turn sh' o' (fun x hx h1 h2 => past_apply ps.sh.ok.sort g h1 h2) (ps.eb.apply ps.sh.ok.sort)) hDi hepi
        unfold F.spatelaw7_ShardPast.j9 F.spatelaw7_ShardPast.j3
        refine ⟨fun _ => num ps.e fun a ca => ldI_of (c1 ca) (within_spec (by omega) (by omega) ?_), fun g => by cases g⟩
        have hep1 := ps.ep1
        have hdl := rd_len cI_len (by omega) ps.wd.reads
        have hzl : mp.len = Z.length := by have := rd_len cS8_len (by omega) ps.wm.reads; rw [List.length_map] at this; exact this
        refine ⟨fun _ => ?_, fun _ => ⟨fun _ => ?_, fun _ => ⟨fun _ => ⟨fun g3 => ?_, fun _ => j5 S ep hd mp D Z hh ps (by omega) (by omega)⟩, fun _ => j5 S ep hd mp D Z hh ps (by omega) (by omega)⟩⟩⟩
        · -- sealed, and held
          refine win_push (v := .int .i64 ep) (e := tn_int) el_Slint ps.wd rfl (by simp only [flat_len cI 1 cI_len, Nat.mul_one]; omega) fun hd' h56 h58 e56 wd' o58 => ?_
          have p56 := ps.ext e56
          have ff : ∀ x, hd'.blk = some x → hd.blk = some x ∨ h56.size ≤ x := fun x hx => by
            rcases o58 with ⟨q1, _⟩ | ⟨b, q1, q2, _⟩
            · exact .inl (by rw [← q1]; exact hx)
            · rw [q1] at hx; cases hx; exact .inr q2
          have o58' : Only (fun b => hd.blk = some b) h56 h58 := by
            rcases o58 with ⟨_, o⟩ | ⟨_, _, _, o⟩
            · exact o
            · exact o.only
          have sh58 : SH h58 nd S slots (fun b => h.size ≤ b) := p56.sh.keep o58' fun b hb ht hh => win_nsh p56.wd int_sh hh ht
          have wm58 := p56.wm.only o58' fun b hb hh => win_diff p56.wd p56.wm (by decide) hh hb
          have lb58 : LB cW 7 tn_api_Row h h58 Z := ⟨fun p hp => (p56.lb.own p hp).only o58' fun b hb hh => win_own p56.wd (p56.lb.own p hp) (by decide) hb hh, p56.lb.ap, p56.lb.mine⟩
          have e58 : Ext h h58 := p56.e.mine p56.md o58'
          have md58 : Mine h hd' := fun x hx => by
            rcases ff x hx with g | g
            · exact p56.md x g
            · have := p56.e.size; omega
          refine all_spec sh58 fun r h60 wr mr e60 => ?_
          refine win_push (v := r.enc) (e := tn_Slapi_Row) el_SlSlapi_Row (wm58.ext e60) rfl (by simp only [flat_len cS8 1 cS8_len, Nat.mul_one, List.length_map]; have := ps.len; omega) fun mp' h62 h64 e62 wm' o64 => ?_
          have e562 := e60.trans e62
          have wm62 := wm58.ext e562
          have gg2 : ∀ x, mp'.blk = some x → mp.blk = some x ∨ h62.size ≤ x := fun x hx => by
            rcases o64 with ⟨q1, _⟩ | ⟨b, q1, q2, _⟩
            · exact .inl (by rw [← q1]; exact hx)
            · rw [q1] at hx; cases hx; exact .inr q2
          have o64' : Only (fun b => mp.blk = some b) h62 h64 := by
            rcases o64 with ⟨_, o⟩ | ⟨_, _, _, o⟩
            · exact o
            · exact o.only
          have lb62 := (lb58.add e58 e60 wr mr).ext e62
          rw [w64 (n := ep + 1) (by omega) (by omega)]
          refine j5 S (ep + 1) hd' mp' (D ++ [ep]) (Z ++ [(r, allS S 0)]) h64 ?_ (by simp; omega) (by omega)
          refine ⟨(sh58.ext e562).keep o64' fun b hb ht hh => win_nsh wm62 slrow_sh hh ht, (e58.trans e562).mine ps.mm o64', ?_, md58, ?_, fun x hx => ?_, ⟨fun p hp => (lb62.own p hp).only o64' fun b hb hh => win_own wm62 (lb62.own p hp) (by decide) hb hh, lb62.ap, lb62.mine⟩, by simp [ps.len], fun q d p h1 h2 => ?_, ps.eb.mono (by omega), by omega⟩
          · have := (wd'.ext e562).only o64' fun b hb hh => win_diff wm62 (wd'.ext e562) (by decide) hh hb
            simpa using this
          · simpa using wm'
          · rcases gg2 x hx with g | g
            · exact ps.mm x g
            · have := (e58.trans e562).size; omega
          · have hlen := ps.len
            rcases Nat.lt_or_ge q D.length with hq | hq
            · rw [List.getElem?_append_left hq] at h1
              rw [List.getElem?_append_left (by omega)] at h2
              obtain ⟨a1, a2, a3⟩ := ps.inv q d p h1 h2
              exact ⟨a1, by omega, a3⟩
            · rw [List.getElem?_append_right hq] at h1
              rw [List.getElem?_append_right (by omega)] at h2
              have hq0 : q - D.length = 0 := by
                rcases Nat.eq_zero_or_pos (q - D.length) with g | g
                · exact g
                · rw [List.getElem?_eq_none (by simp; omega)] at h1; cases h1
              rw [hq0] at h1
              rw [← hlen, hq0] at h2
              cases h1; cases h2
              exact ⟨ps.ep1, by omega, all_now ps.sh.ok ps.eb ps.ep1⟩
        · -- pruned with what is held
          refine LendInts_spec ps.wd.reads (by omega) fun s h67 rs bs e67 => ?_
          have p67 := ps.ext e67
          refine Prune_spec p67.sh rs (by omega) (fun _ b hb => ⟨(bs b hb).1, fun hh => (bs b hb).2 hh.2⟩) (hR p67.e) fun h69 sh69 o69 => ?_
          exact j5 _ ep hd mp D Z h69 (p67.turn sh69 o69 (fun x hx h1 h2 => past_prune h1 hx fun z hz => ((ps.sh.ok).ok z hz).2.rise) (ps.eb.prune D)) (by omega) (by omega)
        · -- the eldest is let go
          have g3 := of_decide_eq_true g3
          have hlen := ps.len
          obtain ⟨d0, D', rfl⟩ : ∃ d0 D', D = d0 :: D' := by
            cases D with
            | nil => simp at hdl; omega
            | cons a b => exact ⟨a, b, rfl⟩
          obtain ⟨z0, Z', rfl⟩ : ∃ z0 Z', Z = z0 :: Z' := by
            cases Z with
            | nil => simp at hlen
            | cons a b => exact ⟨a, b, rfl⟩
          have cap1 : hd.len ≤ hd.cap := by
            obtain ⟨_, ⟨_, q2, q3⟩ | ⟨_, _, _, _, _, _, q4, _⟩⟩ := ps.wd
            · omega
            · exact q4
          have cap2 : mp.len ≤ mp.cap := by
            obtain ⟨_, ⟨_, q2, q3⟩ | ⟨_, _, _, _, _, _, q4, _⟩⟩ := ps.wm
            · omega
            · exact q4
          simp only [List.length_cons] at hdl hzl hlen hDi
          refine cutL_of (lo := 1) (hi := hd.len) rfl rfl (by omega) cap1 (cutL_of (lo := 1) (hi := mp.len) rfl rfl (by omega) cap2 ?_)
          refine j5 S ep _ _ D' Z' hh ?_ (by omega) (by omega)
          have wd1 : Win hh hd tn_int (.int .i64 d0 :: D'.flatMap cI) := by simpa using ps.wd
          have wm1 : Win hh mp tn_Slapi_Row (z0.1.enc :: (Z'.map (·.1)).flatMap cS8) := by simpa using ps.wm
          refine ⟨ps.sh, ps.e, wd1.cut, fun x hx => ps.md x (by rw [slcut_blk] at hx; exact hx), wm1.cut, fun x hx => ps.mm x (by rw [slcut_blk] at hx; exact hx), ⟨fun p hp => ps.lb.own p (by simp [hp]), (List.pairwise_cons.1 ps.lb.ap).2, fun p hp => ps.lb.mine p (by simp [hp])⟩, by omega, fun q d p h1 h2 => ps.inv (q + 1) d p (by simpa using h1) (by simpa using h2), ps.eb, ps.ep1⟩
      · rw [decide_eq_false (by omega)]
        exact done _ _
  exact ⟨L.length + 1, steps _ 0 [] 1 _ _ [] [] h1 (by omega) (by omega) ⟨sh1, e1, Win.nil _ _, Mine.nil _ _ _, Win.nil _ _, Mine.nil _ _ _, LB.nil, rfl, fun q d p h1 => by simp at h1, fun x hx => (by cases hx), by omega⟩ (by simp) (by omega) (by omega)⟩
end Go.Proofs.Ytoccbnhahaoeiaa.V.S
