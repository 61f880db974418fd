/- The law TableKeeps, first part: the book beside the table; each step; no condition. -/
import Derived.Test.YtkedkajdiclmjaaKu
import Derived.Test.YtkedkajdiclmjaaTw
import Derived.Test.YtkedkajdiclmjaaVu
import Derived.Test.YtkedkajdiclmjaaTp
namespace Go.Proofs.Ytkedkajdiclmjaa.V.K
open Go Go.Proofs.Ytkedkajdiclmjaa.V
set_option linter.unusedVariables false
set_option linter.unusedSimpArgs false

theorem getK_put {M : List (ByteArray × Value)} {k k' : ByteArray} {v : Value} : getK (putK M k v) k' = if k' = k then some v else getK M k' := by
  unfold putK
  rcases getK_pos (M := M) (k := k) with ⟨h1, h2⟩ | ⟨i, p, h1, hp, hpk, h2⟩
  · rw [h1]
    simp only
    unfold getK at h2 ⊢
    rw [List.find?_append]
    by_cases e : k' = k
    · subst e
      rw [if_pos rfl]
      rw [Option.map_eq_none_iff] at h2
      rw [h2]
      simp [ba_self]
    · rw [if_neg e]
      simp [ba_ne e]
  · subst hpk
    rw [h1]
    simp only
    have hlt := (List.getElem?_eq_some_iff.1 hp).1
    clear h2
    induction M generalizing i with
    | nil => simp at hlt
    | cons q M ih =>
      rw [List.findIdx?_cons] at h1
      by_cases hq : p.1 = q.1
      · rw [hq, ba_self] at h1
        simp at h1
        subst h1
        simp only [List.set_cons_zero]
        unfold getK
        rw [List.find?_cons, List.find?_cons]
        by_cases e : k' = p.1
        · subst e; rw [if_pos rfl, ba_self]; rfl
        · rw [if_neg e, ba_ne e, ba_ne (fun h => e (h.trans hq.symm))]
      · rw [ba_ne hq] at h1
        simp only [Bool.false_eq_true, if_false] at h1
        cases hj : M.findIdx? fun x => p.1 == x.1 with
        | none => rw [hj] at h1; cases h1
        | some j =>
          rw [hj] at h1
          simp at h1
          subst h1
          simp only [List.set_cons_succ]
          unfold getK
          rw [List.find?_cons, List.find?_cons]
          by_cases e : k' = q.1
          · subst e
            rw [ba_self, if_neg (fun h => hq h.symm)]
          · rw [ba_ne e]
            have := ih (i := j) (by simpa using hp) hj (by simp at hlt; omega)
            unfold getK at this
            exact this
theorem putK_len {M : List (ByteArray × Value)} {k : ByteArray} {v : Value} : (putK M k v).length = M.length + (if (getK M k).isSome then 0 else 1) := by
  unfold putK
  rcases getK_pos (M := M) (k := k) with ⟨h1, h2⟩ | ⟨i, p, h1, hp, hpk, h2⟩
  · rw [h1, h2]; simp
  · rw [h1, h2]; simp
theorem getK_none {M : List (ByteArray × Value)} {k : ByteArray} (h : k ∉ M.map (·.1)) : getK M k = none := by
  unfold getK
  rw [Option.map_eq_none_iff, List.find?_eq_none]
  intro p hp
  rw [ba_ne (fun e => h (List.mem_map.2 ⟨p, hp, e.symm⟩))]
  simp
theorem getK_del {M : List (ByteArray × Value)} {k k' : ByteArray} (hn : (M.map (·.1)).Nodup) : getK (delK M k) k' = if k' = k then none else getK M k' := by
  unfold delK
  rcases getK_pos (M := M) (k := k) with ⟨h1, h2⟩ | ⟨i, p, h1, hp, hpk, h2⟩
  · rw [h1]
    simp only
    by_cases e : k' = k
    · rw [if_pos e, e, h2]
    · rw [if_neg e]
  · subst hpk
    rw [h1]
    simp only
    clear h2
    induction M generalizing i with
    | nil => simp at hp
    | cons q M ih =>
      rw [List.map_cons, List.nodup_cons] at hn
      rw [List.findIdx?_cons] at h1
      by_cases hq : p.1 = q.1
      · rw [hq, ba_self] at h1
        simp at h1
        subst h1
        simp only [List.eraseIdx_cons_zero]
        by_cases e : k' = p.1
        · subst e; rw [if_pos rfl]; exact getK_none (by rw [hq]; exact hn.1)
        · rw [if_neg e]
          conv => rhs; unfold getK; rw [List.find?_cons, ba_ne (fun h => e (h.trans hq.symm))]
          rfl
      · rw [ba_ne hq] at h1
        simp only [Bool.false_eq_true, if_false] at h1
        cases hj : M.findIdx? fun x => p.1 == x.1 with
        | none => rw [hj] at h1; cases h1
        | some j =>
          rw [hj] at h1
          simp at h1
          subst h1
          simp only [List.eraseIdx_cons_succ]
          unfold getK
          rw [List.find?_cons, List.find?_cons]
          by_cases e : k' = q.1
          · subst e
            rw [ba_self, if_neg (fun h => hq h.symm)]
          · rw [ba_ne e]
            have := ih hn.2 (i := j) (by simpa using hp) hj
            unfold getK at this
            exact this
theorem delK_len {M : List (ByteArray × Value)} {k : ByteArray} : (delK M k).length = M.length - (if (getK M k).isSome then 1 else 0) := by
  unfold delK
  rcases getK_pos (M := M) (k := k) with ⟨h1, h2⟩ | ⟨i, p, h1, hp, hpk, h2⟩
  · rw [h1, h2]; simp
  · rw [h1, h2]
    have := (List.getElem?_eq_some_iff.1 hp).1
    simp [List.length_eraseIdx, this]
/-- The book says what the table has. -/
structure BR (h : H) (T : Tb Sl) (M : List (ByteArray × Value)) : Prop where
  len : M.length = T.count
  has : ∀ k s, getM T k = some s → ∃ n v i, s = ⟨some ⟨n, 0, none⟩, 2, 2⟩ ∧ Blk h n #[.int .i64 v, .int .i64 i] 3 ∧ getK M k = some (.int .i64 v)
  non : ∀ k, getM T k = none → getK M k = none
theorem BR.some_iff {h : H} {T : Tb Sl} {M : List (ByteArray × Value)} (b : BR h T M) (k : ByteArray) : (getK M k).isSome = (getM T k).isSome := by
  cases hg : getM T k with
  | none => rw [b.non k hg]; rfl
  | some s => obtain ⟨_, _, _, _, _, e⟩ := b.has k s hg; rw [e]; rfl
theorem BR.only {S : Nat → Prop} {h h' : H} {T : Tb Sl} {M : List (ByteArray × Value)} (b : BR h T M) (o : Only S h h') (hn : ∀ n, WB h n 3 → ¬ S n) : BR h' T M :=
  ⟨b.len, fun k s hs => by
    obtain ⟨n, v, i, h1, h2, h3⟩ := b.has k s hs
    exact ⟨n, v, i, h1, o.block h2 (hn n ⟨_, h2⟩), h3⟩, b.non⟩
theorem BR.ext {h h' : H} {T : Tb Sl} {M : List (ByteArray × Value)} (b : BR h T M) (o : Ext h h') : BR h' T M := b.only o fun _ _ f => f
theorem TH.no3 {h : H} {n : Nat} {rs es : Sl} {T : Tb Sl} (t : TH h n rs es T) : ∀ m, WB h m 3 → ¬ FT n rs es m := fun m hm hf => by
  rcases hf with rfl | hf | hf
  · exact hm.ne ⟨_, t.tb⟩ (by decide) rfl
  · exact hm.ne (t.row.typ hf) (by decide) rfl
  · exact hm.ne (t.el.typ hf) (by decide) rfl
theorem TH.noM {h : H} {n b : Nat} {rs es : Sl} {T : Tb Sl} {M : List (ByteArray × Value)} (t : TH h n rs es T) (m : MapH h b M) : ¬ FT n rs es b := fun hf => by
  obtain ⟨e, c, hb, _⟩ := m
  have : ∃ ty, WB h b ty := by
    rcases hf with rfl | hf | hf
    · exact ⟨_, _, t.tb⟩
    · exact ⟨_, t.row.typ hf⟩
    · exact ⟨_, t.el.typ hf⟩
  obtain ⟨ty, c', hc⟩ := this
  unfold Blk at hc
  rw [hb] at hc; cases hc
/-- What holds all the while. -/
structure KP (h0 h : H) (n b : Nat) (rs es : Sl) (T : Tb Sl) (M : List (ByteArray × Value)) : Prop where
  kp : Kept h0 h n rs es
  t : TH h n rs es T
  ok : TOk T
  el : EL T
  mp : MapH h b M
  br : BR h T M
  hb : h0.size ≤ b
section
variable {h0 : H} {n b : Nat} {Q : Bool → H → Prop}
theorem KP.ext {h h' : H} {rs es : Sl} {T : Tb Sl} {M : List (ByteArray × Value)} (p : KP h0 h n b rs es T M) (e : Ext h h') : KP h0 h' n b rs es T M :=
  ⟨p.kp.add e, p.t.ext e, p.ok, p.el, p.mp.only e (fun f => f), p.br.ext e, p.hb⟩
theorem bd_put {T T' : Tb Sl} (t : TOk T) {N : Nat} (b : T.count ≤ N ∧ T.row.length ≤ 8 + 4 * N) {key : ByteArray} {v : Sl} (hp : putM nilS T key v = some T') : T'.count ≤ N + 1 ∧ T'.row.length ≤ 8 + 4 * (N + 1) := by
  obtain ⟨T1, p1, p2, p3, p4, p5, p6⟩ := put_ok (z := nilS) t key v
  rw [hp] at p1; cases p1
  have := t.load
  refine ⟨by split at p5 <;> omega, ?_⟩
  rcases p6 with ⟨_, a, c, _⟩ | ⟨_, c, _⟩
  · have h3 : 3 * T.row.length < 4 * (T.count + 1) := a
    omega
  · omega
variable {x0 : Sl} {C1 : Sl → Option Addr → Value → Int → H → Prop}
theorem keeps_j4 {h : H} {rs es : Sl} {T : Tb Sl} {M : List (ByteArray × Value)} {i : Nat} (p : KP h0 h n b rs es T M) (hi : i < 4000) (k : C1 x0 (some ⟨n, 0, none⟩) (.map (some b)) ((i + 1 : Nat) : Int) h) : F.spatelaw6_TableKeeps.j4 Q C1 x0 (some ⟨n, 0, none⟩) (.map (some b)) (i : Int) h := by
  unfold F.spatelaw6_TableKeeps.j4
  refine Len_spec p.t ?_
  refine lenM_of (kt := 9) (et := 3) Try.underlying50 p.mp ⟨(M.length : Int), rfl, ?_⟩
  rw [p.br.len]
  simp only [bne_self_eq_false]
  refine ⟨fun g => (by cases g), fun _ => ?_⟩
  refine Len_spec p.t (Slots_spec p.t ?_)
  have hb := p.t.bc
  have hr := p.t.br
  have hl := p.ok.load
  simp only [BIG] at hb hr
  rw [w64 (by omega) (by omega), w64 (by omega) (by omega)]
  unfold F.spatelaw6_TableKeeps.j5
  rw [decide_eq_false (by omega)]
  refine ⟨fun g => (by cases g), fun _ => ?_⟩
  unfold F.spatelaw6_TableKeeps.j3
  rw [w64 (by omega) (by omega), show (i : Int) + 1 = ((i + 1 : Nat) : Int) from by omega]
  exact k
theorem keeps_step {h : H} {rs es : Sl} {T : Tb Sl} {M : List (ByteArray × Value)} {i : Nat} {S : List Step} {x : Step} (p : KP h0 h n b rs es T M) (hi : i < 4000) (bd : T.count ≤ i ∧ T.row.length ≤ 8 + 4 * i) (r0 : Reads h0 x0 3 (S.flatMap (·.cells))) (hx : S[i]? = some x) (hok : StepOk x)
    (k : ∀ h' rs' es' T' M', KP h0 h' n b rs' es' T' M' → (T'.count ≤ i + 1 ∧ T'.row.length ≤ 8 + 4 * (i + 1)) → C1 x0 (some ⟨n, 0, none⟩) (.map (some b)) ((i + 1 : Nat) : Int) h') :
    F.spatelaw6_TableKeeps.j2 Q C1 x0 (some ⟨n, 0, none⟩) (.map (some b)) (i : Int) h := by
  unfold F.spatelaw6_TableKeeps.j2
  refine step_at p.kp.ext r0 hx ?_
  refine new_of fun a h1 ha b1 e1 _ => ?_
  refine stH_of b1 (by simp [S_spatelaw6_Step.cells]) fun h2 b2 e2 _ => ?_
  rw [writeA_all (by simp [S_spatelaw6_Step.cells])] at b2
  have x2 : Ext h h2 := e1.step e2 fun j hj e => by omega
  have p2 := p.ext x2
  simp only [add_lit, Nat.zero_add]
  have c0 : ∀ {h' : H}, Blk h' a x.cells.toArray 46 → cellH h' ⟨a, 0, none⟩ = some (.int .i64 x.Kind) := fun hb => hb.cell rfl
  have c1 : ∀ {h' : H}, Blk h' a x.cells.toArray 46 → cellH h' ⟨a, 1, none⟩ = some (.int .i64 x.N) := fun hb => hb.cell rfl
  have c2 : ∀ {h' : H}, Blk h' a x.cells.toArray 46 → cellH h' ⟨a, 2, none⟩ = some (.string x.Key) := fun hb => hb.cell rfl
  rw [ldS_iff (c2 b2)]
  refine lookM_of (kt := 9) (et := 3) (z := .int .i64 0) Try.underlying50 Try.underlying9 Try.zeroValue3 p2.mp ?_
  have hval : ∃ v : Int, (getK M x.Key).getD (.int .i64 0) = .int .i64 v ∧ ∀ s, getM T x.Key = some s → ∃ m j, s = ⟨some ⟨m, 0, none⟩, 2, 2⟩ ∧ Blk h2 m #[.int .i64 v, .int .i64 j] 3 := by
    cases hg : getM T x.Key with
    | none => exact ⟨0, by rw [p2.br.non _ hg]; rfl, fun s hs => by cases hs⟩
    | some s =>
      obtain ⟨m, v, j, g1, g2, g3⟩ := p2.br.has _ s hg
      exact ⟨v, by rw [g3]; rfl, fun s' hs' => by cases hs'; exact ⟨m, j, g1, g2⟩⟩
  obtain ⟨v, hv1, hv2⟩ := hval
  refine ⟨v, (getM T x.Key).isSome, by rw [if_pos rfl, hv1, p2.br.some_iff], ?_⟩
  refine Slots_spec p2.t (Left_spec p2.t ?_)
  rw [ldI_iff (c0 b2)]
  simp only [beq_iff_eq, beq_eq_false_iff_ne]
  have notF : ∀ {h' : H} {rs es : Sl} {T : Tb Sl}, Blk h' a x.cells.toArray 46 → TH h' n rs es T → ¬ FT n rs es a := fun hb t hf => by
    rcases hf with hf | hf | hf
    · exact (show WB _ a 46 from ⟨_, hb⟩).ne ⟨_, t.tb⟩ (by decide) hf
    · exact (show WB _ a 46 from ⟨_, hb⟩).ne (t.row.typ hf) (by decide) rfl
    · exact (show WB _ a 46 from ⟨_, hb⟩).ne (t.el.typ hf) (by decide) rfl
  have hbr := p2.t.br
  have hbe := p2.t.be
  simp only [BIG] at hbr hbe
  have hleft : leftT T ≤ 1099511627776 := by unfold leftT; omega
  refine ⟨fun g => ?_, fun g => ⟨fun g => ?_, fun g => ⟨fun g => ?_, fun g => ⟨fun g => ?_, fun g => ?_⟩⟩⟩⟩
  · -- Put
    rw [ldS_iff (c2 b2), ldI_iff (c1 b2)]
    refine newL_of fun m h3 hm b3 e3 _ => ?_
    have p3 := p2.ext e3
    have b23 : Blk h3 a x.cells.toArray 46 := e3.block b2 (fun f => f)
    obtain ⟨T', q1, q2, q3, q4, q5, q6⟩ := put_ok (z := nilS) p3.ok x.Key ⟨some ⟨m, 0, none⟩, 2, 2⟩
    have bd' := bd_put p3.ok bd q1
    refine Put_spec p3.t p3.ok hok.2.2 q1 (by simp only [BIG]; omega) (by simp only [BIG]; omega) fun h4 rs4 es4 t4 s4 => ?_
    have b24 : Blk h4 a x.cells.toArray 46 := s4.only.block b23 (notF b23 p3.t)
    rw [ldS_iff (c2 b24), ldI_iff (c1 b24)]
    have mp4 := p3.mp.only s4.only (p3.t.noM p3.mp)
    refine updM_of (kt := 9) (et := 3) Try.underlying50 Try.underlying9 mp4 fun h5 mp5 e5 _ => ?_
    have kp4 := p3.kp.step s4
    have nb : ∀ j, FT n rs4 es4 j → ¬ j = b := fun j hj e => t4.noM mp4 (e ▸ hj)
    have t5 : TH h5 n rs4 es4 T' := t4.only e5 nb
    have hbm : Blk h4 m #[.int .i64 x.N, .int .i64 (i : Int)] 3 := s4.only.block b3 (p3.t.no3 m ⟨_, b3⟩)
    have br4 : ∀ k s, getM T' k = some s → ∃ n' v' i', s = ⟨some ⟨n', 0, none⟩, 2, 2⟩ ∧ Blk h4 n' #[.int .i64 v', .int .i64 i'] 3 ∧ getK (putK M x.Key (.int .i64 x.N)) k = some (.int .i64 v') := fun k s hs => by
      rw [q4] at hs
      rw [getK_put]
      by_cases hk : kL k = kL x.Key
      · rw [if_pos hk] at hs
        cases hs
        rw [if_pos (kL_inj hk)]
        exact ⟨m, x.N, (i : Int), rfl, hbm, rfl⟩
      · rw [if_neg hk] at hs
        rw [if_neg (fun e => hk (by rw [e]))]
        obtain ⟨n', v', i', g1, g2, g3⟩ := p3.br.has k s hs
        exact ⟨n', v', i', g1, s4.only.block g2 (p3.t.no3 n' ⟨_, g2⟩), g3⟩
    have nbm : ∀ n', WB h4 n' 3 → ¬ n' = b := fun n' ⟨c, hc⟩ e => by
      obtain ⟨es', cl, hb', _⟩ := mp4
      subst e
      unfold Blk at hc
      rw [hb'] at hc; cases hc
    have p5 : KP h0 h5 n b rs4 es4 T' (putK M x.Key (.int .i64 x.N)) := ⟨⟨kp4.ext.step e5 fun j hj e => by have := p.hb; omega, kp4.mine⟩, t5, q2, p3.el.put q1, mp5, ⟨by
        rw [putK_len, p3.br.some_iff, p3.br.len, q5], fun k s hs => by
        obtain ⟨n', v', i', g1, g2, g3⟩ := br4 k s hs
        exact ⟨n', v', i', g1, e5.block g2 (nbm n' ⟨_, g2⟩), g3⟩, fun k hk => by
        rw [q4] at hk
        rw [getK_put]
        by_cases hkk : kL k = kL x.Key
        · rw [if_pos hkk] at hk; cases hk
        · rw [if_neg hkk] at hk
          rw [if_neg (fun e => hkk (by rw [e]))]
          exact p3.br.non k hk⟩, p.hb⟩
    have fin : F.spatelaw6_TableKeeps.j6 Q C1 x0 (some ⟨n, 0, none⟩) (.map (some b)) (i : Int) false h5 := by
      unfold F.spatelaw6_TableKeeps.j6
      exact ⟨fun g => (by cases g), fun _ => keeps_j4 p5 hi (k h5 _ _ _ _ p5 bd')⟩
    refine Slots_spec t5 ?_
    simp only [bne_iff_ne, ne_eq, bne_eq_false_iff_eq]
    refine ⟨fun g2 => ?_, fun _ => fin⟩
    rcases q6 with ⟨a1, a2, a3, a4, a5⟩ | ⟨_, a3, _⟩
    · rw [a1]
      refine ⟨fun g => (by cases g), fun _ => ?_⟩
      simp only [gt_iff_lt, decide_eq_true_eq, decide_eq_false_iff_not]
      refine ⟨fun g => by omega, fun _ => ?_⟩
      refine Left_spec t5 ?_
      rw [a4]
      refine ⟨fun g => absurd rfl g, fun _ => ?_⟩
      refine Slots_spec t5 ?_
      rw [a3, w64 (by omega) (by omega), show ((2 * T.row.length : Nat) : Int) = 2 * (T.row.length : Int) from by omega]
      simp only [bne_self_eq_false]
      exact fin
    · exact absurd (by rw [a3]) g2
  · -- Drop
    rw [ldS_iff (c2 b2)]
    obtain ⟨T', q1, q2, q3, q4, q5, q6, q7⟩ := drop_ok (z := nilS) p2.ok x.Key
    refine Drop_spec p2.t p2.ok hok.2.2 q1 fun h4 es4 t4 s4 => ?_
    have b24 : Blk h4 a x.cells.toArray 46 := s4.only.block b2 (notF b2 p2.t)
    have mp4 := p2.mp.only s4.only (p2.t.noM p2.mp)
    have kp4 := p2.kp.step s4
    have hkn : (M.map (·.1)).Nodup := by obtain ⟨_, _, _, r⟩ := p2.mp; exact r.keys
    have fin : F.spatelaw6_TableKeeps.j8 Q C1 x0 (some ⟨n, 0, none⟩) (.map (some b)) (i : Int) ⟨a, 0, none⟩ false h4 := by
      unfold F.spatelaw6_TableKeeps.j8
      refine ⟨fun g => (by cases g), fun _ => ?_⟩
      unfold F.spatelaw6_TableKeeps.j7
      simp only [add_lit, Nat.zero_add]
      rw [ldS_iff (c2 b24)]
      refine delM_of (et := 3) Try.underlying50 Try.underlying9 mp4 fun h5 mp5 e5 _ => ⟨rfl, ?_⟩
      have nb : ∀ j, FT n rs es4 j → ¬ j = b := fun j hj e => t4.noM mp4 (e ▸ hj)
      have nbm : ∀ n', WB h4 n' 3 → ¬ n' = b := fun n' ⟨c, hc⟩ e => by
        obtain ⟨es', cl, hb', _⟩ := mp4
        subst e
        unfold Blk at hc
        rw [hb'] at hc; cases hc
      have p5 : KP h0 h5 n b rs es4 T' (delK M x.Key) := ⟨⟨kp4.ext.step e5 fun j hj e => by have := p.hb; omega, kp4.mine⟩, t4.only e5 nb, q2, p2.el.drop q1, mp5, ⟨by
          rw [delK_len, p2.br.some_iff, p2.br.len, q5], fun k s hs => by
          rw [q4] at hs
          rw [getK_del hkn]
          by_cases hk : kL k = kL x.Key
          · rw [if_pos hk] at hs; cases hs
          · rw [if_neg hk] at hs
            rw [if_neg (fun e => hk (by rw [e]))]
            obtain ⟨n', v', i', g1, g2, g3⟩ := p2.br.has k s hs
            have g4 := s4.only.block g2 (p2.t.no3 n' ⟨_, g2⟩)
            exact ⟨n', v', i', g1, e5.block g4 (nbm n' ⟨_, g4⟩), g3⟩, fun k hk => by
          rw [q4] at hk
          rw [getK_del hkn]
          by_cases hkk : kL k = kL x.Key
          · rw [if_pos (kL_inj hkk)]
          · rw [if_neg hkk] at hk
            rw [if_neg (fun e => hkk (by rw [e]))]
            exact p2.br.non k hk⟩, p.hb⟩
      exact keeps_j4 p5 hi (k h5 _ _ _ _ p5 ⟨by omega, by omega⟩)
    simp only [beq_self_eq_true, Bool.not_true]
    refine ⟨fun g => (by cases g), fun _ => ?_⟩
    cases hg : getM T x.Key with
    | none => exact ⟨fun g => (by cases g), fun _ => ⟨fun _ => fin, fun g => by cases g⟩⟩
    | some s =>
      obtain ⟨m, j, g1, g2⟩ := hv2 s hg
      subst g1
      refine ⟨fun _ => ?_, fun g => by cases g⟩
      have g4 : Blk h4 m #[.int .i64 v, .int .i64 j] 3 := s4.only.block g2 (p2.t.no3 m ⟨_, g2⟩)
      refine idxA_of (b := m) (i := 0) rfl (by simp) rfl ?_
      rw [ldI_iff (g4.cell (i := 0) rfl), ldS_iff (c2 b24)]
      refine lookM_of (kt := 9) (et := 3) (z := .int .i64 0) Try.underlying50 Try.underlying9 Try.zeroValue3 mp4 ⟨v, by rw [if_neg (by simp), hv1], g4.cell (i := 0) rfl, ?_⟩
      simp only [bne_self_eq_false]
      exact ⟨fun g => (by cases g), fun _ => ⟨fun g => (by cases g), fun _ => fin⟩⟩
  · -- Move
    rw [ldI_iff (c1 b2)]
    obtain ⟨T', q1, q2, q3, q4, q5, q6, q7⟩ := move_ok (z := nilS) p2.ok x.N
    refine Move_spec p2.t q1 hok.2.1.2 fun h4 es4 t4 s4 => ?_
    have p4 : KP h0 h4 n b rs es4 T' M := ⟨p2.kp.step s4, t4, q2, p2.el.move q1, p2.mp.only s4.only (p2.t.noM p2.mp), ⟨by rw [q6]; exact p2.br.len, fun k s hs => by
        rw [q7] at hs
        obtain ⟨n', v', i', g1, g2, g3⟩ := p2.br.has k s hs
        exact ⟨n', v', i', g1, s4.only.block g2 (p2.t.no3 n' ⟨_, g2⟩), g3⟩, fun k hk => p2.br.non k (by rw [← q7]; exact hk)⟩, p.hb⟩
    refine Left_spec t4 ?_
    simp only [bne_self_eq_false]
    refine ⟨fun g => (by cases g), fun _ => ?_⟩
    simp only [gt_iff_lt, decide_eq_true_eq, decide_eq_false_iff_not]
    refine ⟨fun g => by omega, fun _ => ?_⟩
    unfold F.spatelaw6_TableKeeps.j9
    rw [decide_eq_false (by omega)]
    exact ⟨fun g => (by cases g), fun _ => keeps_j4 p4 hi (k h4 _ _ _ _ p4 ⟨by omega, by omega⟩)⟩
  · -- Get
    rw [ldS_iff (c2 b2)]
    refine Get_spec p2.t p2.ok hok.2.2 fun h4 e4 => ?_
    have p4 := p2.ext e4
    have b24 : Blk h4 a x.cells.toArray 46 := e4.block b2 (fun f => f)
    have fin : F.spatelaw6_TableKeeps.j10 Q C1 x0 (some ⟨n, 0, none⟩) (.map (some b)) (i : Int) false h4 := by
      unfold F.spatelaw6_TableKeeps.j10
      exact ⟨fun g => (by cases g), fun _ => keeps_j4 p4 hi (k h4 _ _ _ _ p4 ⟨by omega, by omega⟩)⟩
    simp only [beq_self_eq_true, Bool.not_true]
    refine ⟨fun g => (by cases g), fun _ => ?_⟩
    cases hg : getM T x.Key with
    | none => exact ⟨fun g => (by cases g), fun _ => ⟨fun _ => fin, fun g => by cases g⟩⟩
    | some s =>
      obtain ⟨m, j, g1, g2⟩ := hv2 s hg
      subst g1
      refine ⟨fun _ => ?_, fun g => by cases g⟩
      have g4 : Blk h4 m #[.int .i64 v, .int .i64 j] 3 := e4.block g2 (fun f => f)
      refine idxA_of (b := m) (i := 0) rfl (by simp) rfl ?_
      rw [ldI_iff (g4.cell (i := 0) rfl), ldS_iff (c2 b24)]
      refine lookM_of (kt := 9) (et := 3) (z := .int .i64 0) Try.underlying50 Try.underlying9 Try.zeroValue3 p4.mp ⟨v, by rw [if_neg (by simp), hv1], g4.cell (i := 0) rfl, ?_⟩
      simp only [bne_self_eq_false]
      exact ⟨fun g => (by cases g), fun _ => ⟨fun g => (by cases g), fun _ => fin⟩⟩
  · exact keeps_j4 p2 hi (k h2 _ _ _ _ p2 ⟨by omega, by omega⟩)
end
end Go.Proofs.Ytkedkajdiclmjaa.V.K
