/- Parts of the proof of ShardNames; no condition. -/
import Derived.Test.YtoccbnhahaoeiaaQShardNames2
namespace Go.Proofs.Ytoccbnhahaoeiaa.V.S
open Go Go.Proofs.Ytoccbnhahaoeiaa.V
set_option linter.unusedVariables false
set_option linter.unusedSimpArgs false
set_option maxRecDepth 20000
/-- What agg.Right tells of an aggregate. -/
def RightIs (a : S_api_Agg) (b : Bool) : Prop := ∀ (h : H) (Q : Bool → H → Prop), (∀ h', Ext h h' → Q b h') → F.agg_Right a h Q
def putE (S : SL) (slots : Nat) (e : Int) (c : Cel) (a : S_api_Agg) (rt : Bool) : Int :=
  if okC c ≠ 0 then okC c else if e < 1 ∨ e > 1099511627776 ∨ a.Count = 0 ∨ rt = false then 1 else if (C.newestM ((getS S c).getD [])).2.1 > e then 32 else if (unitsS S : Int) + needS S e c > slots then 31 else 0
def putS (S : SL) (e : Int) (c : Cel) (a : S_api_Agg) : SL := setS S c (C.layM ((getS S c).getD []) ⟨e, a, false⟩)
theorem getS_ne {S : SL} (h : SOk S) {c : Cel} : ∀ vs, getS S c = some vs → VOk vs := fun vs hg => by
  unfold getS at hg
  cases hx : getK (fun x : Cel × List Ver => x.1) S c with
  | none => rw [hx] at hg; cases hg
  | some x =>
    rw [hx] at hg; cases hg
    exact (h.ok x (getK_some hx).1).2
theorem put_units {S : SL} (h : SOk S) {e : Int} {c : Cel} {a : S_api_Agg} (hc : okC c = 0) (hn : ¬ (C.newestM ((getS S c).getD [])).2.1 > e) :
    (unitsS (putS S e c a) : Int) = unitsS S + needS S e c ∧ (thereS (putS S e c a) : Int) = thereS S + (1 - aliveN ((getS S c).getD [])) ∧ needS S e c = C.layN ((getS S c).getD []) ⟨e, a, false⟩ + (1 - aliveN ((getS S c).getD [])) := by
  have h1 := set_units h.sort c (C.layM ((getS S c).getD []) ⟨e, a, false⟩)
  have h2 := set_there h.sort c (C.layM ((getS S c).getD []) ⟨e, a, false⟩)
  have h3 := lay_units ((getS S c).getD []) ⟨e, a, false⟩
  have h4 := lay_alive ((getS S c).getD []) ⟨e, a, false⟩
  have h5 := units_eq ((getS S c).getD [])
  have h6 := need_lay (getS S c) e ⟨e, a, false⟩ rfl rfl hn fun vs hv => (getS_ne h vs hv).ne
  have h7 : needS S e c = needV (getS S c) e := by unfold needS; rw [if_neg (fun h => h hc)]
  simp only [Bool.false_eq_true, if_false] at h3 h4
  unfold putS
  rw [h7]
  refine ⟨by omega, by omega, by omega⟩
theorem mayM_ok {vs : List Ver} {e : Int} (h1 : 1 ≤ e) (h2 : e ≤ 1099511627776) : C.mayM vs e = if vs ≠ [] ∧ e < (C.newestM vs).2.1 then 32 else 0 := by
  unfold C.mayM
  rw [if_neg (by omega), lastE_newest]
section
variable {h : H} {n : Nat} {S : SL} {slots : Nat} {R : Nat → Prop}
theorem Put_spec {e : Int} {x : S_api_Row} {rt : Bool} {Q : Int → H → Prop} (s : SH h n S slots R) (hrt : RightIs x.Agg rt) (hR : ∀ b, h.size ≤ b → R b)
    (k0 : putE S slots e x.Cell x.Agg rt ≠ 0 → ∀ h', Ext h h' → Q (putE S slots e x.Cell x.Agg rt) h')
    (k1 : putE S slots e x.Cell x.Agg rt = 0 → ∀ h', SH h' n (putS S e x.Cell x.Agg) slots R → SOnly R h h' → Q 0 h') : F.shard_Shard_Put (some ⟨n, 0, none⟩) e x h Q := by
  have sok := s.ok
  obtain ⟨tn, rs, es, T, Z, hZ, z⟩ := s
  obtain ⟨c, a⟩ := x
  simp only at hrt k0 k1
  unfold F.shard_Shard_Put
  refine new_of fun m h1 hm b1 e1 s1 => ?_
  have rc : Cells h1 ⟨m, 0, none⟩ (c.cells ++ a.cells) := Blk.cells b1
  simp only [add_lit, Nat.zero_add, Nat.add_zero]
  have ra : ∀ {hh : H}, Ext h1 hh → Cells hh ⟨m, 3, none⟩ a.cells := fun ee => (cells_r rc : Cells h1 ⟨m, 0 + 3, none⟩ a.cells).ext ee
  have rcc : ∀ {hh : H}, Ext h1 hh → Cells hh ⟨m, 0, none⟩ c.cells := fun ee => (cells_l rc).ext ee
  refine ⟨c, rcc (.refl _), ?_⟩
  unfold putE at k0 k1
  refine key_spec (fun g h2 e2 => ⟨fun _ => ?_, fun g2 => absurd (by simpa using g2) g⟩) fun g h2 e2 => ⟨fun g2 => by simp at g2, fun _ => ?_⟩
  · rw [if_pos g] at k0; exact k0 g h2 (e1.trans e2)
  rw [if_neg (fun h => h g)] at k0 k1
  have e02 := e1.trans e2
  have a0 : ∀ {hh : H}, Ext h1 hh → cellH hh ⟨m, 3, none⟩ = some (.int .i64 a.Count) := fun ee => ra ee 0 _ rfl
  -- a bad argument
  have bad : ∀ {hh : H}, Ext h hh → (e < 1 ∨ e > 1099511627776 ∨ a.Count = 0 ∨ rt = false) → F.shard_Shard_Put.j4 Q (some ⟨n, 0, none⟩) e ⟨m, 0, none⟩ (keyB c) true hh := fun ee hb => by
    unfold F.shard_Shard_Put.j4
    refine ⟨fun _ => ?_, fun h => by cases h⟩
    rw [if_pos hb] at k0
    exact k0 (by decide) _ ee
  -- the last step: a chain that is there is written
  have j1 : ∀ h3, Ext h2 h3 → 1 ≤ e → e ≤ 1099511627776 → a.Count ≠ 0 → rt = true → F.shard_Shard_Put.j1 Q (some ⟨n, 0, none⟩) e ⟨m, 0, none⟩ (keyB c) h3 := by
    intro h3 e3 he1 he2 hac hrt1
    rw [if_neg (by rintro (h | h | h | h)
                   · omega
                   · omega
                   · exact hac h
                   · rw [hrt1] at h; cases h)] at k0 k1
    have e03 := e02.trans e3
    have z3 := z.ext e03
    unfold F.shard_Shard_Put.j1
    simp only [nn_some, add_lit, Nat.zero_add, Nat.add_zero]
    rw [ldP_iff z3.cs3]
    refine P.Get_spec z3.th z3.ok (key_small g) fun h4 e4 => ?_
    have e04 := e03.trans e4
    have e14 : Ext h1 h4 := (e2.trans e3).trans e4
    have z4 := z3.ext e4
    have hlk := z3.look g
    rw [hlk]
    -- room is asked for
    have j2 : ∀ (h5 : H) (l : Option Addr) (is th : Bool), Ext h4 h5 → ¬ (C.newestM ((getS S c).getD [])).2.1 > e → ((unitsS S : Int) + needS S e c ≤ slots → ∀ h6, Ext h5 h6 → ((!is) = true → F.chain_New_api_Agg h6 fun r60 h59 => ldP h59 ⟨n, 3, none⟩ fun y63 => F.table_Table_chain_Chain_api_Agg_Put y63 (keyB c) r60 h59 fun h65 => F.shard_Shard_Put.j3 Q (some ⟨n, 0, none⟩) e ⟨m, 0, none⟩ r60 th h65) ∧ ((!is) = false → F.shard_Shard_Put.j3 Q (some ⟨n, 0, none⟩) e ⟨m, 0, none⟩ l th h6)) →
        F.shard_Shard_Put.j2 Q (some ⟨n, 0, none⟩) e ⟨m, 0, none⟩ (keyB c) l is th h5 := by
      intro h5 l is th e5 hnw hgo
      have z5 := z4.ext e5
      unfold F.shard_Shard_Put.j2
      simp only [nn_some, add_lit, Nat.zero_add, Nat.add_zero]
      rw [ldI_iff z5.cs0]
      refine ⟨c, rcc (e14.trans e5), ldI_of z5.cs2 (need_spec z5 fun h6 e6 => ⟨(z5.ext e6).cs2, (z5.ext e6).cs0, ?_⟩)⟩
      rw [hZ]
      rw [if_neg hnw] at k0 k1
      have hus := z.us
      have hsl := z.sl
      rw [hZ] at hus
      have hnd : 0 ≤ needS S e c ∧ needS S e c ≤ 2 := by
        unfold needS needV
        split
        · omega
        · cases getS S c with
          | none => simp
          | some vs => simp only; split <;> (try split) <;> (try split) <;> omega
      rw [w64 (by omega) (by omega)]
      refine ⟨fun g2 => ?_, fun g2 => hgo (by have := of_decide_eq_false g2; omega) h6 e6⟩
      have g2 := of_decide_eq_true g2
      rw [if_pos g2] at k0
      exact k0 (by decide) h6 ((e04.trans e5).trans e6)
    have hgs : getS S c = (getK Rec.c Z c).map (·.vs) := by rw [← hZ]; exact z.getS c
    have hpu := fun (hn : ¬ (C.newestM ((getS S c).getD [])).2.1 > e) => put_units (a := a) sok g hn
    -- the numbers
    have nums : ∀ (h8 : H) (rs' es' : Sl) (T' : Tb (Option Addr)) (Z' : List Rec) (th : Bool), SZ h8 n tn rs' es' T' Z' slots R (unitsS S : Int) (thereS S : Int) → toS Z' = putS S e c a → SOnly R h h8 → ¬ (C.newestM ((getS S c).getD [])).2.1 > e → (unitsS S : Int) + needS S e c ≤ slots →
        (aliveN ((getS S c).getD []) = if th then 1 else 0) →
        (nn (some ⟨n, 0, none⟩) fun a36 => ldI .i64 h8 ((a36.add 0).add 0) fun y38 => nn (some ⟨n, 0, none⟩) fun a40 => stH h8 ((a40.add 0).add 0) [(.int .i64 (IntKind.wrap .i64 (y38 + C.layN ((getS S c).getD []) ⟨e, a, false⟩)))] fun h42 =>
          ((!th) = true → nn (some ⟨n, 0, none⟩) fun a44 => ldI .i64 h42 ((a44.add 0).add 0) fun y46 => nn (some ⟨n, 0, none⟩) fun a48 => stH h42 ((a48.add 0).add 0) [(.int .i64 (IntKind.wrap .i64 (y46 + 1)))] fun h50 => nn (some ⟨n, 0, none⟩) fun a51 => ldI .i64 h50 ((a51.add 0).add 1) fun y53 => nn (some ⟨n, 0, none⟩) fun a55 => stH h50 ((a55.add 0).add 1) [(.int .i64 (IntKind.wrap .i64 (y53 + 1)))] fun h57 => Q 0 h57) ∧ ((!th) = false → Q 0 h42)) := by
      intro h8 rs' es' T' Z' th z8 hZ' so hnw hroom hth
      obtain ⟨p1, p2, p3⟩ := hpu hnw
      have hsl := z.sl
      have htl : thereS S ≤ unitsS S := there_le
      have hus := z.us
      rw [hZ] at hus
      have hlr := layN_range ((getS S c).getD []) ⟨e, a, false⟩
      rw [if_neg hnw, if_neg (show ¬ (unitsS S : Int) + needS S e c > slots by omega)] at k1
      simp only [nn_some, add_lit, Nat.zero_add, Nat.add_zero]
      rw [ldI_iff z8.cs0, w64 (by omega) (by omega)]
      refine z8.st0 fun h9 z9 o9 => ?_
      have so9 := so.trans o9
      refine ⟨fun g3 => ?_, fun g3 => ?_⟩
      · have hth0 : th = false := by simpa using g3
        rw [hth0] at hth
        simp only [Bool.false_eq_true, if_false] at hth
        rw [ldI_iff z9.cs0, w64 (by omega) (by omega)]
        refine z9.st0 fun h10 z10 o10 => ?_
        rw [ldI_iff z10.cs1, w64 (by omega) (by omega)]
        refine z10.st1 fun h11 z11 o11 => ?_
        refine k1 rfl h11 ⟨tn, rs', es', T', Z', hZ', ?_⟩ ((so9.trans o10).trans o11)
        rw [hZ', p1, p2, p3, hth]
        have q1 : (unitsS S : Int) + C.layN ((getS S c).getD []) ⟨e, a, false⟩ + 1 = unitsS S + (C.layN ((getS S c).getD []) ⟨e, a, false⟩ + (1 - ((0 : Nat) : Int))) := by omega
        have q2 : (thereS S : Int) + 1 = thereS S + (1 - ((0 : Nat) : Int)) := by omega
        rw [← q1, ← q2]; exact z11
      · have hth1 : th = true := by simpa using g3
        rw [hth1] at hth
        simp only [if_true] at hth
        refine k1 rfl h9 ⟨tn, rs', es', T', Z', hZ', ?_⟩ so9
        rw [hZ', p1, p2, p3, hth]
        have q1 : (unitsS S : Int) + C.layN ((getS S c).getD []) ⟨e, a, false⟩ = unitsS S + (C.layN ((getS S c).getD []) ⟨e, a, false⟩ + (1 - ((1 : Nat) : Int))) := by omega
        have q2 : (thereS S : Int) = thereS S + (1 - ((1 : Nat) : Int)) := by omega
        rw [← q1, ← q2]; exact z9
    cases hg : getK Rec.c Z c with
    | none =>
      refine ⟨fun h => (by cases h), fun _ => ?_⟩
      have hgd : (getS S c).getD [] = [] := by rw [hgs, hg]; rfl
      have hnw : ¬ (C.newestM ((getS S c).getD [])).2.1 > e := by rw [hgd]; show ¬ (0 : Int) > e; omega
      refine j2 h4 _ _ _ (.refl _) hnw fun hroom h6 e6 => ⟨fun _ => ?_, fun h => by cases h⟩
      have z6 := z4.ext e6
      refine C.New_spec fun p h7 hp c7 e7 => ?_
      have z7 := z6.ext e7
      rw [ldP_iff z7.cs3]
      obtain ⟨T', t1, t2, t3, t4, t5, t6⟩ := put_ok (z := P.nilA) z7.ok (keyB c) (some ⟨p, 0, none⟩)
      have hcnt := z7.count
      have hzl := z7.len
      have hrl := z7.rl
      have hgn : getM T (keyB c) = none := by rw [z.look g, hg]; rfl
      rw [hgn] at t5
      simp only [Option.isSome_none, Bool.false_eq_true, if_false] at t5
      have hrl' : T'.row.length ≤ 4200000 := by
        rcases t6 with ⟨_, q1, q2, _⟩ | ⟨_, q2, _⟩
        · have q1 : 3 * T.row.length < 4 * (T.count + 1) := q1
          omega
        · omega
      refine P.Put_spec z7.th z7.ok (key_small g) t1 (by show _ ≤ 1099511627776; omega) (by show _ ≤ 1099511627776; omega) fun h8 rs' es' th8 stp => ?_
      unfold F.shard_Shard_Put.j3
      simp only [add_lit, Nat.zero_add, Nat.add_zero]
      have hp6 : p < h7.size := c7.lt
      have l7 := z7.f_lt
      have c8 : C.Ch h8 p [] none := c7.only stp.only (fun hb => by
        have := z6.th.lt p hb; omega) fun b hb => by cases hb
      have e17 : Ext h1 h7 := (e14.trans e6).trans e7
      have e07 := ((e04.trans e6).trans e7)
      have rb8 : Cells h8 ⟨m, 3, none⟩ a.cells := (ra e17).only stp.only fun hb => by
        have := z.th.lt m hb; omega
      refine ⟨a, rb8, ?_⟩
      refine C.Put_spec c8 (by simp) (fun h => absurd (by rw [mayM_ok he1 he2]; simp) h) fun _ h9 B' c9 o9 kin9 => ?_
      have hsetq : toS (setK Rec.c Z ⟨c, C.layM [] ⟨e, a, false⟩, p, B'⟩) = putS S e c a := by
        rw [toS_set, hZ]; unfold putS; rw [hgd]
      have vok : VOk (C.layM [] ⟨e, a, false⟩) := lay_ok (.inl rfl) (.inr rfl) (fun h => by cases h) he1 he2
      obtain ⟨p1, p2, p3⟩ := hpu hnw
      have hz := z.add (c := c) g hg (e07) (by have := ((e04.trans e6)).size; omega) hp6 th8 t2 stp t4 hrl' c9 o9 kin9 vok (by rw [hsetq]; omega) hR
      have := nums h9 rs' es' T' _ false (by rw [← hZ]; exact hz.1) hsetq hz.2 hnw hroom (by rw [hgd]; rfl)
      rw [hgd] at this
      exact this
    | some r =>
      refine ⟨fun _ => ?_, fun h => by cases h⟩
      obtain ⟨hr, hrc⟩ := getK_some hg
      have hgd : (getS S c).getD [] = r.vs := by rw [hgs, hg]; rfl
      have hv := (z.wf r hr).2
      refine C.Newest_spec (z4.ch r hr) (by have := z.vlen hr; omega) fun h5 e5 => ⟨fun g2 => ?_, fun g2 => ?_⟩
      · have g2 := of_decide_eq_true g2
        rw [hgd, if_pos g2] at k0
        exact k0 (by decide) h5 (e04.trans e5)
      have hnw : ¬ (C.newestM ((getS S c).getD [])).2.1 > e := by rw [hgd]; exact of_decide_eq_false g2
      refine j2 h5 _ _ _ e5 hnw fun hroom h6 e6 => ⟨fun h => (by cases h), fun _ => ?_⟩
      have e06 := (e04.trans e5).trans e6
      have z6 := z.ext e06
      unfold F.shard_Shard_Put.j3
      simp only [add_lit, Nat.zero_add, Nat.add_zero]
      refine ⟨a, ra ((e14.trans e5).trans e6), ?_⟩
      refine C.Put_spec (z6.ch r hr) (by have := z.vlen hr; omega) (fun h => absurd (by rw [mayM_ok he1 he2, if_neg (fun h2 => by rw [hgd] at hnw; omega)]) h) fun _ h9 B' c9 o9 kin9 => ?_
      have hsetq : toS (setK Rec.c Z ⟨r.c, C.layM r.vs ⟨e, a, false⟩, r.p, B'⟩) = putS S e c a := by
        rw [toS_set, hZ, hrc]; unfold putS; rw [hgd]
      have hn2 : C.lastE r.vs ≤ e := by rw [lastE_newest]; rw [hgd] at hnw; omega
      have vok : VOk (C.layM r.vs ⟨e, a, false⟩) := lay_ok (.inr hv) (.inl hn2) (fun h => by cases h) he1 he2
      obtain ⟨p1, p2, p3⟩ := hpu hnw
      have hz := z6.lay hr c9 o9 kin9 vok (by rw [hsetq]; omega) fun b hb => hR b (by have := e06.size; omega)
      have := nums h9 rs es T _ (alive r.vs) (by rw [← hZ]; exact hz.1) hsetq ((SOnly.of e06).trans hz.2) hnw hroom (by rw [hgd]; rfl)
      rw [hgd] at this
      exact this
  have e2r : Ext h1 h2 := e2
  refine ⟨fun g2 => bad e02 (.inl (of_decide_eq_true g2)), fun g2 => ⟨fun g3 => bad e02 (.inr (.inl (of_decide_eq_true g3))), fun g3 => ?_⟩⟩
  rw [ldI_iff (a0 e2)]
  refine ⟨fun g4 => bad e02 (.inr (.inr (.inl (by simpa using g4)))), fun g4 => ⟨a, ra e2, hrt h2 _ fun h3 e3 => ?_⟩⟩
  have g2 := of_decide_eq_false g2
  have g3 := of_decide_eq_false g3
  have g4 : a.Count ≠ 0 := by simpa using g4
  cases hrv : rt with
  | false => exact bad (e02.trans e3) (.inr (.inr (.inr hrv)))
  | true =>
    unfold F.shard_Shard_Put.j4
    exact ⟨fun h => (by cases h), fun _ => j1 h3 e3 (by omega) (by omega) g4 hrv⟩
end
end Go.Proofs.Ytoccbnhahaoeiaa.V.S
namespace Go.Proofs.Ytoccbnhahaoeiaa.V.S
open Go Go.Proofs.Ytoccbnhahaoeiaa.V
set_option linter.unusedVariables false
set_option linter.unusedSimpArgs false
set_option maxRecDepth 20000
abbrev Rw := S_api_Row
/-- The keys of a shard's table, with what lies under them. -/
def keysZ (Z : List Rec) : List (ByteArray × Option Addr) := Z.map fun r => (keyB r.c, some ⟨r.p, 0, none⟩)
theorem keysZ_len (Z : List Rec) : (keysZ Z).length = Z.length := List.length_map _
theorem cB_lt : ∀ (x y : List UInt8), Lib.compareBytes x y = -1 → x < y
  | [], [], h => by simp [Lib.compareBytes] at h
  | [], b :: y, _ => List.nil_lt_cons b y
  | a :: x, [], h => by simp [Lib.compareBytes] at h
  | a :: x, b :: y, h => by
    simp only [Lib.compareBytes] at h
    rcases u8_tri a b with g | g | g
    · exact List.cons_lt_cons_iff.2 (.inl g)
    · subst g
      simp only [u8_irr, if_false] at h
      exact List.cons_lt_cons_iff.2 (.inr ⟨rfl, cB_lt x y h⟩)
    · simp [g, u8_asym g] at h
theorem key_lt {a b : Cel} (ha : okC a = 0) (hb : okC b = 0) (h : cmpC a b = -1) : keyL a < keyL b :=
  cB_lt _ _ (by rw [key_cmp (ok_may ha) (ok_may hb) (ok_start ha) (ok_start hb)]; exact h)
section
variable {h h' : H} {n tn : Nat} {rs es : Sl} {T : Tb (Option Addr)} {Z : List Rec} {slots : Nat} {R : Nat → Prop} {u t : Int}
theorem tk_has (ok : TOk T) {k : ByteArray} {v : Option Addr} (hg : getM T k = some v) : ∃ p ∈ P.tkL (T.row ++ T.elder), p.1 = k := by
  have go : ∀ (W : List (Pl (Option Addr))), valOf W k = some v → ∃ p ∈ P.tkL W, p.1 = k := fun W hv => by
    obtain ⟨i, p, h1, h2, h3, h4⟩ := valOf_some hv
    exact ⟨(p.key, .pointer p.value), List.mem_map.2 ⟨p, List.mem_filter.2 ⟨List.mem_of_getElem? h1, by simp [h2]⟩, rfl⟩, kL_inj h3⟩
  unfold getM at hg
  rw [P.tkL_app]
  cases hv : valOf T.row k with
  | some w =>
    rw [hv] at hg; cases hg
    obtain ⟨p, h1, h2⟩ := go _ hv
    exact ⟨p, List.mem_append_left _ h1, h2⟩
  | none =>
    rw [hv] at hg
    obtain ⟨p, h1, h2⟩ := go _ hg
    exact ⟨p, List.mem_append_right _ h1, h2⟩
theorem all_eq (z : SZ h n tn rs es T Z slots R u t) : P.allL T = keysZ Z := by
  have hk : ∀ c : Cel, (keyB c).data.toList = keyL c := fun c => by simp [keyB]
  have hsort : (Z.map fun r => keyB r.c).Pairwise fun a b => a.data.toList < b.data.toList := by
    rw [List.pairwise_map]
    have := z.srt
    refine List.Pairwise.imp_of_mem ?_ this
    intro a b ha hb hab
    rw [hk, hk]
    exact key_lt (z.wf a ha).1 (z.wf b hb).1 hab
  have hn2 : (Z.map fun r => keyB r.c).Nodup := hsort.imp fun {a b} hab e => by subst e; exact List.lt_irrefl _ hab
  have hn1 := P.KU_of z.ok
  have hp : ((P.tkL (T.row ++ T.elder)).map (·.1)).Perm (Z.map fun r => keyB r.c) := (List.perm_ext_iff_of_nodup hn1 hn2).2 fun k => by
    constructor
    · intro hk'
      obtain ⟨⟨k2, v⟩, hm, rfl⟩ := List.mem_map.1 hk'
      obtain ⟨w, hw, _⟩ := P.tk_val z.ok hm
      obtain ⟨r, hr, e⟩ := z.all k2 w hw
      refine List.mem_map.2 ⟨r, hr, kL_inj ?_⟩
      rw [kL_keyB]; exact e.symm
    · intro hk'
      obtain ⟨r, hr, rfl⟩ := List.mem_map.1 hk'
      have hg := z.get r hr
      refine Classical.byContradiction fun hno => ?_
      have hlt := tk_has z.ok hg
      obtain ⟨p, hp1, hp2⟩ := hlt
      exact hno (List.mem_map.2 ⟨p, hp1, hp2⟩)
  unfold P.allL
  rw [sortT_perm hp, P.sortT_id hsort, List.map_map]
  refine List.map_congr_left fun r hr => ?_
  simp only [Function.comp, z.get r hr, Option.getD_some]
end
theorem st_cel {h : H} {n : Nat} {c d : Cel} {e : TypeId} {K : H → Prop} (b : Blk h n c.cells.toArray e) (k : ∀ h', Blk h' n d.cells.toArray e → Only (· = n) h h' → h'.size = h.size → K h') : stH h ⟨n, 0, none⟩ d.cells K := by
  refine stH_of b (Nat.le_refl 3) fun h' q1 q2 q3 => k h' ?_ q2 q3
  rw [writeA_all (by rfl)] at q1
  exact q1
theorem shut1 {d : Nat} {h : H} {K : H → Prop} (hd : h[d]? = some (.deferred (some []))) (k : ∀ h', Only (· = d) h h' → K h') : shuts [d] h K :=
  ⟨hd, k _ ⟨by simp [put], fun b hb hn => by simp only [put]; rw [Array.getElem?_setIfInBounds_ne (fun e => hn e.symm)]⟩⟩
section
variable {h hL h' h'' : H} {n2 n4 n6 n8 n10 n12 ka ma b : Nat} {r : Sl} {L : List (ByteArray × Option Addr)} {ep most : Int} {fr to : Cel} {rows : List Rw}
end
end Go.Proofs.Ytoccbnhahaoeiaa.V.S
namespace Go.Proofs.Ytoccbnhahaoeiaa.V.S
open Go Go.Proofs.Ytoccbnhahaoeiaa.V
set_option linter.unusedVariables false
set_option linter.unusedSimpArgs false
set_option maxRecDepth 20000
theorem max_of {k : IntKind} {ts : Array TypeId} {t : TypeId} {h : H} {a b : Int} {K : Int → H → Prop} (kk : K (if a < b then b else a) h) : runI PP (Builtin.max_ ts t #[.int k a, .int k b]) h k K := fun w hw =>
  ⟨_, w, rfl, .refl _, _, rfl, by rw [hw]; exact kk⟩
def maxL (L : List Nat) : Nat := L.foldl max 0
theorem w64s {n : Nat} (h : n < 9000000000000000000) : IntKind.wrap .i64 ((n : Int) + 1) = ((n + 1 : Nat) : Int) := by rw [w64 (by omega) (by omega)]; omega
abbrev cN (n : Nat) : List Value := [.int .i64 (n : Int)]
theorem cN_len (n : Nat) : (cN n).length = 1 := rfl
theorem Max_spec {h : H} {s : Sl} {L : List Nat} {Q : Int → H → Prop} (rd : Reads h s 1 (L.flatMap cN)) (hn : L ≠ []) (hl : L.length < 4611686018427387904) (k : Q (maxL L : Int) h) : F.slices_Max_Slint_int s h Q := by
  have hs := rd_len cN_len (by omega) rd
  have hpos := List.length_pos_iff.2 hn
  have at_ : ∀ {i : Nat} {x : Nat} {K : Int → Prop}, L[i]? = some x → K (x : Int) → idxA s (i : Int) 1 fun a => ldI .i64 h a K := fun {i x K} hx kk => by
    obtain ⟨p, p1, p2, p3⟩ := rd_at cN_len (by omega) rd hx
    exact idxR_of (i := i) p1 (by have := (List.getElem?_eq_some_iff.1 hx).1; omega) rfl ((ldI_iff (n := x) p3.one).2 kk)
  unfold F.slices_Max_Slint_int
  rw [hs]
  refine ⟨fun g => by have := of_decide_eq_true g; omega, fun _ => ?_⟩
  unfold F.slices_Max_Slint_int.j1
  obtain ⟨x0, hx0⟩ : ∃ x, L[0]? = some x := ⟨_, List.getElem?_eq_getElem hpos⟩
  refine at_ (i := 0) hx0 ⟨L.length + 1, ?_⟩
  have key : ∀ (d i m : Nat), i ≤ L.length → L.length - i < d → m = maxL (L.take i) → F.slices_Max_Slint_int.l2 Q d s (m : Int) (i : Int) h := by
    intro d
    induction d with
    | zero => intro i m _ hd; omega
    | succ d ih =>
      intro i m hi hd hm
      unfold F.slices_Max_Slint_int.l2
      rw [hs]
      refine ⟨fun g => ?_, fun g => ?_⟩
      · have g := of_decide_eq_true g
        obtain ⟨x, hx⟩ : ∃ x, L[i]? = some x := ⟨_, List.getElem?_eq_getElem (by omega)⟩
        refine at_ hx (max_of ?_)
        rw [w64s (by omega)]
        have hmx : (if (m : Int) < (x : Int) then (x : Int) else (m : Int)) = ((max m x : Nat) : Int) := by split <;> omega
        rw [hmx]
        refine ih (i + 1) (max m x) (by omega) (by omega) ?_
        obtain ⟨h1, h2⟩ := List.getElem?_eq_some_iff.1 hx
        rw [List.take_succ_eq_append_getElem h1, h2]
        unfold maxL at hm ⊢
        rw [List.foldl_append, ← hm]; rfl
      · have : i = L.length := by have := of_decide_eq_false g; omega
        rw [this, List.take_length] at hm
        rw [hm]; exact k
  refine key _ 1 x0 (by omega) (by omega) ?_
  cases L with
  | nil => exact absurd rfl hn
  | cons y r => simp at hx0; subst hx0; simp [maxL]
def lensZ (Z : List Rec) : List Nat := Z.map fun r => r.vs.length
theorem lensZ_len (Z : List Rec) : (lensZ Z).length = Z.length := List.length_map _
def mostS (S : SL) : Nat := maxL (S.map fun x => x.2.length)
structure MI (h hL h' : H) (n2 ka ma b : Nat) (r : Sl) (L : List (ByteArray × Option Addr)) (out : List Nat) : Prop where
  ext : Ext h h'
  sq : P.SeqH h' ka ma b r L
  dfr : h'[hL.size]? = some (.deferred (some []))
  out : ∃ o, Blk h' n2 #[o.enc] tn_Slint ∧ Owns h' o tn_int 1 (out.flatMap cN) ∧ ∀ x, o.blk = some x → hL.size + 2 ≤ x
  sz : hL.size + 1 ≤ h'.size
  lt : n2 < hL.size ∧ (∀ m, SQF ka ma b r m → m < hL.size ∧ m ≠ n2) ∧ h.size ≤ n2
theorem MI.only {h hL h' h'' : H} {n2 ka ma b : Nat} {r : Sl} {L : List (ByteArray × Option Addr)} {out : List Nat} {S : Nat → Prop} (v : MI h hL h' n2 ka ma b r L out) (o : Only S h' h'') (hS : ∀ m, S m → hL.size < m ∧ ∀ o : Sl, Blk h' n2 #[o.enc] tn_Slint → o.blk ≠ some m) : MI h hL h'' n2 ka ma b r L out := by
  obtain ⟨l2, lq, q⟩ := v.lt
  have no : ∀ m, m ≤ hL.size → ¬ S m := fun m hm h => by have := (hS m h).1; omega
  obtain ⟨ou, o1, o2, o3⟩ := v.out
  exact ⟨v.ext.step o fun m hm => no m (by omega), v.sq.only o fun m hm => no m (by have := (lq m hm).1; omega), o.block v.dfr (no _ (by omega)),
    ⟨ou, o.block o1 (no _ (by omega)), o2.only o fun m hm hs => (hS m hs).2 ou o1 hm, o3⟩, by have := o.size; have := v.sz; omega, v.lt⟩
theorem Most_spec {h : H} {n : Nat} {S : SL} {slots : Nat} {R : Nat → Prop} {Q : Int → H → Prop} (s : SH h n S slots R) (k : ∀ h', Ext h h' → Q (mostS S : Int) h') : F.shard_Shard_Most (some ⟨n, 0, none⟩) h Q := by
  obtain ⟨tn, rs, es, T, Z, rfl, z⟩ := s
  unfold F.shard_Shard_Most
  refine new_of fun n2 h1 hn2 b2 e1 s1 => ?_
  have z1 := z.ext e1
  simp only [nn_some, add_lit, Nat.zero_add, Nat.add_zero]
  rw [ldP_iff z1.cs3]
  have hcnt := z.count
  have hzl := z.len
  refine P.All_spec z1.th z1.ok (by omega) fun hL ka ma b r sq eL hmine _ => ?_
  rw [all_eq z1] at sq
  have hLs := eL.size
  have hmost : mostS (toS Z) = maxL (lensZ Z) := by unfold mostS toS lensZ; rw [List.map_map]; rfl
  refine P.range_seq (I := fun i h' => MI h hL h' n2 ka ma b r (keysZ Z) (lensZ (Z.take i))) (E := fun j h' => False)
    (fun i h' h'' v o => v.only o fun m hm => ⟨by omega, fun ou hou hb => ?_⟩) (fun j h' h'' v o => v) (fun i h' v => v.sq) ?_ ?_ (fun h' v => ?_) (fun j h' v => v.elim)
  · obtain ⟨o', o1, o2, o3⟩ := v.out
    have heq := o1.symm.trans hou
    have : o' = ou := enc_inj.1 (by simpa using heq)
    subst this
    have := o3 m hb; omega
  · have ep0 : Ext hL (hL.push (.deferred (some []))) := .push _ _
    refine ⟨(e1.trans eL).trans ep0, sq.only ep0 fun m hm f => f, by simp, ⟨_, ep0.block (eL.block b2 fun f => f) fun f => f, by simpa [lensZ] using Owns.nil _ tn_int 1, fun x hx => by simp [Sl.blk] at hx⟩, by simp, ?_⟩
    exact ⟨by omega, fun m hm => ⟨sq.lt m hm, by have := hmine m hm; omega⟩, by omega⟩
  · intro X i x h5 K J hX v hx hxi kK kJ
    unfold keysZ at hxi
    rw [List.getElem?_map] at hxi
    obtain ⟨q, hq, rfl⟩ : ∃ q, Z[i]? = some q ∧ x = (keyB q.c, some ⟨q.p, 0, none⟩) := by
      cases hy : Z[i]? with
      | none => rw [hy] at hxi; cases hxi
      | some q => rw [hy] at hxi; cases hxi; exact ⟨q, rfl, rfl⟩
    have hqz : q ∈ Z := List.mem_of_getElem? hq
    obtain ⟨o, o1, o2, o3⟩ := v.out
    have hlo := own_len cN_len (by omega) o2
    rw [lensZ_len, List.length_take] at hlo
    have zq := z.ext v.ext
    have c5 : cellH h5 ⟨n2, 0, none⟩ = some o.enc := Blk.cell (i := 0) o1 rfl
    refine ldL_of c5 (C.Len_spec (zq.ch q hqz) ⟨c5, ?_⟩)
    refine newL_of fun n14 h14 hn14 b14 e14 s14 => ⟨e14.cell c5 fun f => f, ?_⟩
    have hi : i < Z.length := (List.getElem?_eq_some_iff.1 hq).1
    refine app_list (L := lensZ (Z.take i)) (M := [q.vs.length]) cN_len (by omega) el_Slint (o2.ext e14) (blk_reads b14 rfl) (fun x => one1 rfl) (by simp only [List.length_singleton, lensZ_len, List.length_take]; omega) fun r15 h15 w15 o15 n15 => ?_
    have x14 : Blk h14 n2 #[o.enc] tn_Slint := e14.block o1 fun f => f
    obtain ⟨l2, lq, ld⟩ := v.lt
    have lts := v.lt
    have hob : o.blk ≠ some n2 := fun e => by have := o3 _ e; omega
    have x15 : Blk h15 n2 #[o.enc] tn_Slint := o15.block x14 hob
    have hh5 : hL.size + 1 < h5.size := (Array.getElem?_eq_some_iff.1 hx).1
    refine stH_of x15 (by simp) fun h16 b16 o16 s16 => ?_
    have r15n : ∀ y, r15.blk = some y → hL.size + 2 ≤ y := fun y hy => by
      rcases n15 with n15 | ⟨y', n15, n16⟩
      · exact o3 y (by rw [← n15]; exact hy)
      · rw [n15] at hy; cases hy
        have := e14.size; omega
    have v14 : MI h hL h14 n2 ka ma b r (keysZ Z) (lensZ (Z.take i)) := v.only e14 fun _ f => f.elim
    have no : ∀ m, m ≤ hL.size + 1 → ¬ (o.blk = some m) := fun m hm e => by have := o3 m e; omega
    have o14 : Only (fun m => o.blk = some m ∨ m = n2) h14 h16 := (o15.mono fun _ _ e => .inl e).trans o16 fun _ _ e => .inr e
    refine kK h16 ⟨v14.ext.step o14 fun m hm e => ?_, v14.sq.only o14 fun m hm e => ?_, o14.block v14.dfr fun e => ?_, ⟨r15, b16, ?_, r15n⟩, ?_, lts⟩ (o14.block (e14.block hx fun f => f) fun e => ?_)
    · rcases e with e | e
      · have := o3 m e; have := (e1.trans eL).size; omega
      · omega
    · rcases e with e | e
      · have := o3 m e; have := (lq m hm).1; omega
      · exact (lq m hm).2 e
    · rcases e with e | e
      · exact no _ (by omega) e
      · omega
    · have hsn : lensZ (Z.take (i + 1)) = lensZ (Z.take i) ++ [q.vs.length] := by
        unfold lensZ
        obtain ⟨h1, h2⟩ := List.getElem?_eq_some_iff.1 hq
        rw [List.take_succ_eq_append_getElem h1, h2, List.map_append]; rfl
      rw [hsn]
      exact w15.only o16 fun m hm e => by have := r15n m hm; omega
    · have := o14.size; have := v14.sz; omega
    · rcases e with e | e
      · exact no _ (Nat.le_refl _) e
      · omega
  · obtain ⟨o, o1, o2, o3⟩ := v.out
    rw [keysZ_len, List.take_length] at o2
    have hlo := own_len cN_len (by omega) o2
    rw [lensZ_len] at hlo
    have c5 : cellH h' ⟨n2, 0, none⟩ = some o.enc := Blk.cell (i := 0) o1 rfl
    have hle : h.size ≤ hL.size := (e1.trans eL).size
    refine ldL_of c5 ⟨fun g => ?_, fun g => ldL_of c5 ?_⟩
    · have hz : Z = [] := List.eq_nil_of_length_eq_zero (by have : (o.len : Int) = 0 := by simpa using g
                                                            omega)
      refine shut1 v.dfr fun h9 o9 => ?_
      have := k h9 (v.ext.step o9 fun m hm e => by omega)
      rw [hmost, hz] at this; exact this
    · have hz : Z ≠ [] := fun e => by rw [e] at hlo; simp [hlo] at g
      refine Max_spec o2.reads (by simpa [lensZ] using hz) (by rw [lensZ_len]; omega) (shut1 v.dfr fun h9 o9 => ?_)
      have := k h9 (v.ext.step o9 fun m hm e => by omega)
      rw [hmost] at this; exact this
end Go.Proofs.Ytoccbnhahaoeiaa.V.S
namespace Go.Proofs.Ytoccbnhahaoeiaa.V.S
open Go Go.Proofs.Ytoccbnhahaoeiaa.V
set_option linter.unusedVariables false
set_option linter.unusedSimpArgs false
set_option maxRecDepth 20000
abbrev oneA (v : Int) : S_api_Agg := ⟨1, v, v, v⟩
theorem one_spec {h : H} {v : Int} {Q : S_api_Agg → H → Prop} (k : ∀ h', Ext h h' → Q (oneA v) h') : F.spatelaw7_one v h Q := by
  unfold F.spatelaw7_one
  refine new_of fun m h1 hm b1 e1 s1 => ?_
  have b1' : Blk h1 m zA.cells.toArray tn_api_Agg := b1
  exact C.st_agg b1' (d := oneA v) fun h2 b2 o2 s2 => ⟨_, b2.cells, k h2 (e1.step o2 fun x hx hb => by omega)⟩
theorem right_one (a b c : Int) : RightIs ⟨1, a, b, c⟩ (decide (b = a ∧ c = a)) := fun h Q k => by
  unfold F.agg_Right
  refine new_of fun m h1 hm b1 e1 s1 => ?_
  have c0 : cellH h1 ⟨m, 0, none⟩ = some (.int .i64 1) := Blk.cells b1 0 _ rfl
  have c1 : cellH h1 ⟨m, 1, none⟩ = some (.int .i64 a) := Blk.cells b1 1 _ rfl
  have c2 : cellH h1 ⟨m, 2, none⟩ = some (.int .i64 b) := Blk.cells b1 2 _ rfl
  have c3 : cellH h1 ⟨m, 3, none⟩ = some (.int .i64 c) := Blk.cells b1 3 _ rfl
  simp only [add_lit, Nat.zero_add, Nat.add_zero]
  rw [ldI_iff c0]
  refine ⟨fun g => by have := of_decide_eq_true g; omega, fun _ => ?_⟩
  rw [ldI_iff c0]
  refine ⟨fun _ => ?_, fun g => by simp at g⟩
  rw [ldI_iff c2, ldI_iff c1]
  have k := k h1 e1
  refine ⟨fun g => ?_, fun g => ?_⟩
  · have g : b = a := by simpa using g
    rw [ldI_iff c3, ldI_iff c1]
    have : decide (b = a ∧ c = a) = (c == a) := by
      by_cases h : c = a <;> simp [g, h]
    rw [this] at k; exact k
  · have g : ¬ b = a := by simpa using g
    have : decide (b = a ∧ c = a) = false := by simp [g]
    rw [this] at k; exact k
theorem right_one' (v : Int) : RightIs (oneA v) true := by
  have := right_one v v v
  simpa using this
theorem agg_eq {a b : S_api_Agg} : ((a.Count == b.Count) && ((a.Sum == b.Sum) && ((a.Min == b.Min) && ((a.Max == b.Max) && true)))) = true ↔ a = b := by
  obtain ⟨a1, a2, a3, a4⟩ := a
  obtain ⟨b1, b2, b3, b4⟩ := b
  simp [and_assoc]
abbrev cA : Cel := ⟨0, ⟨#[97]⟩, 0⟩
theorem head_spec {h : H} {Q : Bool → H → Prop} (k : ∀ h', Ext h h' → Q true h') : F.spatelaw7_head h Q := by
  unfold F.spatelaw7_head
  refine New_spec (R := fun b => h.size ≤ b) (fun g => by omega) (fun b hb => hb) fun _ _ h1 n sh e1 hn => ⟨fun g => by simp at g, fun _ => ?_⟩
  unfold F.spatelaw7_head.j2
  refine ⟨fun g => by simp at g, fun _ => ?_⟩
  unfold F.spatelaw7_head.j1
  refine new_of fun m h4 hm b4 e4 s4 => ?_
  have b4' : Blk h4 m zeroC.cells.toArray tn_api_Cell := b4
  refine st_cel b4' (d := cA) fun h6 b6 o6 s6 => ⟨cA, b6.cells, ?_⟩
  have e16 : Ext h1 h6 := e4.step o6 fun x hx hb => by omega
  refine one_spec fun h9 e9 => ⟨(Blk.cells b6).ext e9, ?_⟩
  have sh9 := (sh.ext e16).ext e9
  have e09 : Ext h h9 := (e1.trans e16).trans e9
  have hR : ∀ {hh : H}, Ext h hh → ∀ b, hh.size ≤ b → h.size ≤ b := fun e b hb => by have := e.size; omega
  have b9 : Blk h9 m cA.cells.toArray tn_api_Cell := e9.block b6 fun f => f
  have mty : ¬ ShE tn_api_Cell := by unfold ShE; decide
  have keep : ∀ {a b : H}, SOnly (fun x => h.size ≤ x) a b → Blk a m cA.cells.toArray tn_api_Cell → Blk b m cA.cells.toArray tn_api_Cell := fun o hb => o.block hb fun ⟨_, e, h1, c, h2⟩ => mty (by
    have := hb.symm.trans h2
    simp at this
    rw [this.2]; exact h1)
  refine Put_spec (x := ⟨cA, oneA 5⟩) sh9 (right_one' 5) (hR e09) (fun g => absurd (by decide) g) fun _ h12 sh12 o12 => ?_
  have e012 : Ext h h12 := o12.base e09 fun b hb => hb
  have b12 := keep o12 b9
  refine ⟨cA, b12.cells, one_spec fun h16 e16' => ⟨(Blk.cells b12).ext e16', ?_⟩⟩
  have e016 := e012.trans e16'
  refine Put_spec (x := ⟨cA, oneA 6⟩) (sh12.ext e16') (right_one' 6) (hR e016) (fun g => absurd (by decide) g) fun _ h19 sh19 o19 => ?_
  have e019 : Ext h h19 := o19.base e016 fun b hb => hb
  have b19 := keep o19 (e16'.block b12 fun f => f)
  refine ⟨fun _ => ⟨fun _ => ?_, fun g => by simp at g⟩, fun g => by simp at g⟩
  simp only [nn_some, add_lit, Nat.zero_add, Nat.add_zero]
  refine Units_spec sh19 ⟨fun _ => ?_, fun g => absurd (show ((unitsS (putS (putS [] 1 cA (oneA 5)) 2 cA (oneA 6)) : Int) == 3) = true from by decide) (by rw [g]; decide)⟩
  refine Cells_spec sh19 ⟨fun _ => ?_, fun g => absurd (show ((thereS (putS (putS [] 1 cA (oneA 5)) 2 cA (oneA 6)) : Int) == 1) = true from by decide) (by rw [g]; decide)⟩
  refine Most_spec sh19 fun h33 e33 => ⟨fun _ => ?_, fun g => absurd (show ((mostS (putS (putS [] 1 cA (oneA 5)) 2 cA (oneA 6)) : Int) == 2) = true from by decide) (by rw [g]; decide)⟩
  refine ⟨cA, (Blk.cells b19).ext e33, Get_spec (sh19.ext e33) fun h38 e38 => one_spec fun h40 e40 => ?_⟩
  have e3340 := e38.trans e40
  refine ⟨fun _ => ?_, fun g => absurd (agg_eq.2 (show atS (putS (putS [] 1 cA (oneA 5)) 2 cA (oneA 6)) cA 0 = oneA 6 from rfl)) (by rw [g]; decide)⟩
  refine ⟨cA, (Blk.cells b19).ext (e33.trans e3340), At_spec (sh19.ext (e33.trans e3340)) fun h45 e45 => one_spec fun h47 e47 => ?_⟩
  have hat : atS (putS (putS [] 1 cA (oneA 5)) 2 cA (oneA 6)) cA 1 = oneA 5 := rfl
  rw [agg_eq.2 hat]
  exact k h47 ((e019.trans e33).trans (e3340.trans (e45.trans e47)))
theorem ShardNames_spec {h : H} {Q : Bool → H → Prop} (k : ∀ h', Ext h h' → Q true h') : F.spatelaw7_ShardNames h Q := by
  unfold F.spatelaw7_ShardNames
  exact head_spec k
end Go.Proofs.Ytoccbnhahaoeiaa.V.S
