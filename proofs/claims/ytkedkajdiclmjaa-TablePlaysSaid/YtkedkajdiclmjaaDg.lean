/- The document's table: Put computes what the lists' own function says; no condition. -/
import Derived.Test.YtkedkajdiclmjaaDf
namespace Go.Proofs.Ytkedkajdiclmjaa.V.D
open Go Go.Proofs.Ytkedkajdiclmjaa.V
set_option linter.unusedVariables false
set_option linter.unusedSimpArgs false

theorem move1_shape {T T' : Tb Int} (h : move1 0 T = some T') : T'.moved = T.moved + 1 ∧ T'.elder.length = T.elder.length := by
  unfold move1 at h
  cases hp : T.elder[T.moved]? with
  | none => rw [hp] at h; cases h
  | some p =>
    rw [hp] at h
    simp only at h
    split at h
    · cases hf : findM T.row p.key with
      | none => rw [hf] at h; cases h
      | some r => rw [hf] at h; cases h; exact ⟨rfl, by simp⟩
    · cases h; exact ⟨rfl, rfl⟩
/-- Moving by more than what is left is moving all. -/
theorem moveN_past : ∀ (a b : Nat) (T : Tb Int), leftT T ≤ a → leftT T ≤ b → moveN 0 a T = moveN 0 b T
  | 0, 0, T, _, _ => rfl
  | 0, b + 1, T, h1, _ => by
    unfold leftT at h1
    conv => rhs; unfold moveN
    rw [if_neg (by omega)]; rfl
  | a + 1, 0, T, _, h2 => by
    unfold leftT at h2
    conv => lhs; unfold moveN
    rw [if_neg (by omega)]; rfl
  | a + 1, b + 1, T, h1, h2 => by
    unfold moveN
    by_cases hl : T.moved < T.elder.length
    · rw [if_pos hl, if_pos hl]
      cases hm : move1 0 T with
      | none => rfl
      | some T' =>
        obtain ⟨g1, g2⟩ := move1_shape hm
        unfold leftT at h1 h2
        exact moveN_past a b T' (by unfold leftT; omega) (by unfold leftT; omega)
    · rw [if_neg hl, if_neg hl]
theorem moveM_past {T : Tb Int} {a b : Int} (ha : (leftT T : Int) ≤ a) (hb : (leftT T : Int) ≤ b) : moveM 0 T a = moveM 0 T b := by
  unfold moveM
  rw [moveN_past a.toNat b.toNat T (by omega) (by omega)]
theorem set4 {cs : List Value} {o : Nat} {a b c v : Value} (ha : cs[o]? = some a) (hb : cs[o + 1]? = some b) (hc : cs[o + 2]? = some c) : cs.take (o + 3) ++ [v] ++ cs.drop (o + 3 + [v].length) = cs.take o ++ [a, b, c, v] ++ cs.drop (o + [a, b, c, v].length) := by
  rw [List.take_add_one (i := o + 2), List.take_add_one (i := o + 1), List.take_add_one (i := o), ha, hb, hc]
  simp
section
variable {h : H} {n : Nat} {rs es : Sl} {T : Tb Int} {key : ByteArray}
/-- A place's value is written. -/
theorem st_val {f : List (Pl Int)} {s : Sl} {i b : Nat} {p : Pl Int} {v : Int} {K : H → Prop} (ow : Owns h s 114 4 (f.flatMap cD)) (hp : s.ptr = some ⟨b, 0, none⟩) (hi : f[i]? = some p)
    (k : ∀ h', Owns h' s 114 4 ((newP f i v).flatMap cD) → Only (fun b => s.blk = some b) h h' → K h') : stH h ⟨b, i * 4 + 3, none⟩ [.int .i64 v] K := by
  have hl := (List.getElem?_eq_some_iff.1 hi).1
  refine own_set ow hp (by rw [flat_len cD 4 cD_len]; simp; omega) fun h1 o1 e1 _ => k h1 ?_ e1
  have ha := flat_get cD 4 cD_len f i p hi 0 (by omega)
  have hb := flat_get cD 4 cD_len f i p hi 1 (by omega)
  have hc := flat_get cD 4 cD_len f i p hi 2 (by omega)
  rw [set4 (v := .int .i64 v) ha hb hc] at o1
  rw [newP_eq hi, flat_set cD 4 cD_len f i ⟨p.is_, p.key, v⟩ hl]
  exact o1
theorem lay_spec {v : Int} {T' : Tb Int} {Q : H → Prop} (t : TD h n rs es T) (hk : SmallK key) (hl : layP T key v = some T') (hc : T'.count ≤ BIG) (k : ∀ h', TD h' n rs es T' → Stp h n rs es h' rs es → Q h') : F.spateref6_Table_Put.j2 Q (some ⟨n, 0, none⟩) key v h := by
  unfold F.spateref6_Table_Put.j2
  unfold layP at hl
  simp only [nn_some, add_lit, Nat.zero_add]
  rw [ldL_iff t.c0]
  cases hf : findM T.row key with
  | none => rw [hf] at hl; cases hl
  | some r =>
    rw [hf] at hl
    cases hl
    refine find_spec t.pos t.row.reads t.br hk hf ?_
    rw [ldL_iff t.c0]
    have hr := find_lt t.pos hf
    obtain ⟨br, u1, _⟩ := t.row_at (List.getElem?_eq_getElem hr)
    refine idxA_of u1 (by rw [t.rlen]; exact hr) rfl ?_
    refine t.set_row (p := ⟨1, key, v⟩) u1 hr hk fun h2 t2 s2 => ?_
    rw [ldI_iff t2.c3]
    have hb : T.count + 1 ≤ BIG := hc
    simp only [BIG] at hb
    refine t2.st_count (m := T.count + 1) (by show IntKind.wrap .i64 ((T.count : Int) + 1) = _; rw [w64 (by omega) (by omega)]; omega) hc fun h3 t3 s3 => ?_
    exact k h3 t3 (s2.trans s3)
theorem Put_spec {v : Int} {T' : Tb Int} {Q : H → Prop} (t : TD h n rs es T) (ok : TOk T) (hk : SmallK key) (hp : putM 0 T key v = some T') (hb : T'.row.length ≤ BIG) (hc : T'.count ≤ BIG)
    (k : ∀ h' rs' es', TD h' n rs' es' T' → Stp h n rs es h' rs' es' → Q h') : F.spateref6_Table_Put (some ⟨n, 0, none⟩) key v h Q := by
  unfold F.spateref6_Table_Put
  obtain ⟨T1, m1, ok1, m3, m4, m5, m6, m7⟩ := move_ok (z := (0 : Int)) ok 4
  unfold putM at hp
  rw [m1] at hp
  simp only at hp
  unfold putM' at hp
  have w := where_ok ok1 key
  refine Move_spec t m1 (by omega) fun h2 es1 t2 s1 => ?_
  unfold F.spateref6_Table_Put.j3
  simp only [nn_some, add_lit, Nat.zero_add]
  refine Place_spec t2 ok1 hk (fun i hh => ?_) (fun i hh hn => ?_) (fun hn hne => ?_)
  · refine ⟨fun _ => ⟨fun h => (by cases h), fun _ => ⟨fun _ => ?_, fun h => (by cases h)⟩⟩, fun h => by cases h⟩
    have hw : whereM T1 key = some (some (false, i)) := by
      unfold whereM; rw [ok1.row.hit hh]
    rw [hw] at hp
    simp only at hp
    cases hp
    obtain ⟨p, g1, g2, g3⟩ := id hh
    rw [ldL_iff t2.c0]
    obtain ⟨b2, hb2, _⟩ := t2.row_at g1
    refine idxA_of hb2 (by rw [t2.rlen]; exact hh.lt) rfl ?_
    refine st_val t2.row hb2 g1 fun h3 o3 e3 => ?_
    exact k h3 _ _ ⟨e3.block t2.tb fun hb => t2.nr _ hb rfl, o3, t2.el.only e3 fun b' hb hb' => t2.ne b' hb' hb, t2.ne, newP_kb t2.kr, t2.ke, by
      intro hnil
      have := congrArg List.length hnil
      rw [newP_len] at this
      exact t2.pos (List.eq_nil_of_length_eq_zero this), by rw [newP_len]; exact t2.br, t2.be, t2.bc, t2.bm⟩ (s1.trans ⟨e3.mono fun b' _ hb => .inr (.inl hb), fun b' hb => .inl hb⟩)
  · refine ⟨fun _ => ⟨fun _ => ?_, fun h => (by cases h)⟩, fun h => by cases h⟩
    have hw : whereM T1 key = some (some (true, i)) := by
      rcases w with ⟨j, w, wh⟩ | ⟨j, w, wh, _⟩ | ⟨w, _, wn⟩
      · exact absurd wh (hn j)
      · obtain ⟨p, a1, a2, a3⟩ := hh
        obtain ⟨q, b1, b2, b3⟩ := wh
        rw [w, ok1.elder.uniq i j p q a1 b1 a2 b2 (a3.trans b3.symm)]
      · exact absurd hh (wn i)
    rw [hw] at hp
    simp only at hp
    cases hp
    obtain ⟨p, g1, g2, g3⟩ := id hh
    rw [ldL_iff t2.c1]
    obtain ⟨b2, hb2, _⟩ := t2.el_at g1
    refine idxA_of hb2 (by rw [t2.elen]; exact hh.lt) rfl ?_
    refine st_val t2.el hb2 g1 fun h3 o3 e3 => ?_
    exact k h3 _ _ ⟨e3.block t2.tb fun hb => t2.nel _ hb rfl, t2.row.only e3 fun b' hb hb' => t2.ne b' hb hb', o3, t2.ne, t2.kr, newP_kb t2.ke, t2.pos, t2.br, by rw [newP_len]; exact t2.be, t2.bc, by rw [newP_len]; exact t2.bm⟩ (s1.trans ⟨e3.mono fun b' _ hb => .inr (.inr hb), fun b' hb => .inl hb⟩)
  · refine ⟨fun h => (by cases h), fun _ => ⟨fun h => (by cases h), fun _ => ⟨fun h => (by cases h), fun _ => ?_⟩⟩⟩
    have hw : whereM T1 key = some none := by
      rcases w with ⟨j, w, wh⟩ | ⟨j, w, wh, _⟩ | ⟨w, _, _⟩
      · exact absurd wh (hn j)
      · exact absurd wh (hne j)
      · exact w
    rw [hw] at hp
    simp only at hp
    unfold F.spateref6_Table_Put.j1
    simp only [nn_some, add_lit, Nat.zero_add]
    rw [ldI_iff t2.c3, ldL_iff t2.c0, t2.rlen]
    have hbc := t2.bc
    have hbr := t2.br
    simp only [BIG] at hbc hbr
    rw [w64 (n := (T1.count : Int) + 1) (by omega) (by omega), w64 (by omega) (by omega), w64 (by omega) (by omega)]
    simp only [decide_eq_true_eq, decide_eq_false_iff_not]
    by_cases hgr : 4 * (T1.count + 1) > 3 * T1.row.length
    · rw [if_pos hgr] at hp
      refine ⟨fun _ => ?_, fun g => absurd (by omega) g⟩
      refine Left_spec t2 ?_
      obtain ⟨T2, n1, ok2, n3, n4, n5, n6, n7⟩ := move_ok (z := (0 : Int)) ok1 (T1.elder.length : Int)
      rw [n1] at hp
      simp only at hp
      have hbe := t2.be
      simp only [BIG] at hbe
      have n1' : moveM 0 T1 ((leftT T1 : Nat) : Int) = some T2 := by
        rw [← n1]
        exact moveM_past (by omega) (by unfold leftT; omega)
      refine Move_spec t2 n1' (by unfold leftT; omega) fun h3 es3 t3 s3 => ?_
      rw [ldL_iff t3.c0]
      have hlen2 : T'.row.length = 2 * T2.row.length := by
        unfold layP at hp
        cases hf : findM (growT 0 T2).row key with
        | none => rw [hf] at hp; cases hp
        | some r => rw [hf] at hp; cases hp; simp [growT]
      have hb2 : 2 * T2.row.length ≤ BIG := by omega
      simp only [BIG] at hb2
      have hr3 := fun b' hb => t3.lt b' (.inr (.inl hb))
      have hn3 := t3.lt n (.inl rfl)
      refine t3.stn (by omega) fun h5 b5 e5 p5 q5 => ?_
      refine stH_of b5 (by simp) fun h6 b6 e6 _ => ?_
      have p6 := p5.only e6 fun b' hb' hn' => t3.nr b' hb' hn'
      rw [ldL_iff (b6.cell (i := 1) rfl)]
      rw [t3.rlen, w64 (by omega) (by omega), show 2 * (T2.row.length : Int) = ((2 * T2.row.length : Nat) : Int) from by omega]
      refine make_of (n := 2 * T2.row.length) elD (by omega) (by simp only [maxLen]; omega) fun b h4 hb4 o4 e4 => ?_
      rw [made_rows] at o4
      have b4 := e4.block b6 (fun f => f)
      have z5 := e5.size
      have z6 := e6.size
      have z4 := e4.size
      refine stH_of b4 (by rw [writeA_size]; simp) fun h7 b7 e7 _ => ?_
      have o7 := o4.only e7 fun b' hb' hn' => by
        simp [Sl.blk] at hb'
        omega
      have p7 := (p6.ext e4).only e7 fun b' hb' hn' => t3.nr b' hb' hn'
      have t7 : TD h7 n ⟨some ⟨b, 0, none⟩, 2 * T2.row.length, 2 * T2.row.length⟩ rs (growT 0 T2) :=
        ⟨b7, o7, p7, fun b' hb' hb2 => by
          have := hr3 b' hb2
          simp [Sl.blk] at hb'
          omega, KB.repl _, t3.kr, by
          have := t3.pos
          intro hnil
          have h0 := congrArg List.length hnil
          have hl0 : T2.row.length ≠ 0 := fun e => this (List.eq_nil_of_length_eq_zero e)
          simp only [growT, List.length_replicate, List.length_nil] at h0
          omega, by simp [growT]; omega, t3.br, t3.bc, by simp [growT]⟩
      have s7 : Stp h3 n rs es3 h7 ⟨some ⟨b, 0, none⟩, 2 * T2.row.length, 2 * T2.row.length⟩ rs :=
        ⟨(((e5.mono (S' := FT n rs es3) fun b' _ hb => .inl hb).trans (e6.mono fun b' _ hb => .inl hb) fun _ _ hb => hb).trans e4.only fun _ _ hb => hb).trans (e7.mono fun b' _ hb => .inl hb) fun _ _ hb => hb, fun b' hb' => by
          rcases hb' with h1 | h1 | h1
          · exact .inl (.inl h1)
          · simp [Sl.blk] at h1; exact .inr (by omega)
          · exact .inl (.inr (.inl h1))⟩
      exact lay_spec t7 hk hp hc fun h8 t8 s8 => k h8 _ _ t8 (((s1.trans s3).trans s7).trans s8)
    · rw [if_neg hgr] at hp
      refine ⟨fun g => absurd g (by omega), fun _ => ?_⟩
      exact lay_spec t2 hk hp hc fun h3 t3 s3 => k h3 _ _ t3 (s1.trans s3)
end
end Go.Proofs.Ytkedkajdiclmjaa.V.D
