/- The document's table in the heap: Left and Move compute what the lists' own functions say; no condition. -/
import Derived.Test.YtkedkajdiclmjaaDd
namespace Go.Proofs.Ytkedkajdiclmjaa.V.D
open Go Go.Proofs.Ytkedkajdiclmjaa.V
set_option linter.unusedVariables false
set_option linter.unusedSimpArgs false

theorem Blk.cellsL {h : H} {n : Nat} {cs : List Value} {e : TypeId} (k : Blk h n cs.toArray e) : Cells h ⟨n, 0, none⟩ cs := fun j v hv => by rw [add_lit, Nat.zero_add]; exact k.cell (by simpa using hv)
structure TD (h : H) (n : Nat) (rs es : Sl) (T : Tb Int) : Prop where
  tb : Blk h n #[rs.enc, es.enc, .int .i64 (T.moved : Int), .int .i64 (T.count : Int)] 104
  row : Owns h rs 114 4 (T.row.flatMap cD)
  el : Owns h es 114 4 (T.elder.flatMap cD)
  ne : ∀ b, rs.blk = some b → es.blk ≠ some b
  kr : KB T.row
  ke : KB T.elder
  pos : T.row ≠ []
  br : T.row.length ≤ BIG
  be : T.elder.length ≤ BIG
  bc : T.count ≤ BIG
  bm : T.moved ≤ T.elder.length
section
variable {h h' : H} {n : Nat} {rs es : Sl} {T : Tb Int}
theorem TD.c0 (t : TD h n rs es T) : cellH h ⟨n, 0, none⟩ = some rs.enc := t.tb.cell rfl
theorem TD.c1 (t : TD h n rs es T) : cellH h ⟨n, 1, none⟩ = some es.enc := t.tb.cell rfl
theorem TD.c2 (t : TD h n rs es T) : cellH h ⟨n, 2, none⟩ = some (.int .i64 (T.moved : Int)) := t.tb.cell rfl
theorem TD.c3 (t : TD h n rs es T) : cellH h ⟨n, 3, none⟩ = some (.int .i64 (T.count : Int)) := t.tb.cell rfl
theorem TD.nr (t : TD h n rs es T) : ∀ b, rs.blk = some b → b ≠ n := fun b hb => (t.row.typ hb).ne ⟨_, t.tb⟩ (by decide)
theorem TD.nel (t : TD h n rs es T) : ∀ b, es.blk = some b → b ≠ n := fun b hb => (t.el.typ hb).ne ⟨_, t.tb⟩ (by decide)
theorem TD.rlen (t : TD h n rs es T) : rs.len = T.row.length := own_len cD_len (by omega) t.row
theorem TD.elen (t : TD h n rs es T) : es.len = T.elder.length := own_len cD_len (by omega) t.el
theorem TD.lt (t : TD h n rs es T) : ∀ b, FT n rs es b → b < h.size := fun b hb => by
  rcases hb with rfl | hb | hb
  · exact block_lt t.tb
  · exact t.row.blk_lt hb
  · exact t.el.blk_lt hb
theorem TD.only (t : TD h n rs es T) {S : Nat → Prop} (o : Only S h h') (hn : ∀ b, FT n rs es b → ¬ S b) : TD h' n rs es T :=
  ⟨o.block t.tb (hn n (.inl rfl)), t.row.only o fun b hb => hn b (.inr (.inl hb)), t.el.only o fun b hb => hn b (.inr (.inr hb)), t.ne, t.kr, t.ke, t.pos, t.br, t.be, t.bc, t.bm⟩
theorem TD.ext (t : TD h n rs es T) (e : Ext h h') : TD h' n rs es T := t.only e fun _ _ f => f
/-- A place of the row is written. -/
theorem TD.set_row (t : TD h n rs es T) {i b : Nat} {p : Pl Int} {K : H → Prop} (hp : rs.ptr = some ⟨b, 0, none⟩) (hi : i < T.row.length) (hk : SmallK p.key)
    (k : ∀ h', TD h' n rs es { T with row := T.row.set i p } → Stp h n rs es h' rs es → K h') : stH h ⟨b, i * 4, none⟩ (cD p) K :=
  own_setAt cD_len t.row hp hi fun h1 o1 e1 _ => k h1 ⟨e1.block t.tb fun hb => t.nr _ hb rfl, o1, t.el.only e1 fun b' hb hb' => t.ne b' hb' hb, t.ne, t.kr.set hk, t.ke, by
    have := t.pos; intro hnil; exact this (by simpa using hnil), by simpa using t.br, t.be, t.bc, t.bm⟩ ⟨e1.mono fun b' _ hb => .inr (.inl hb), fun b' hb => .inl hb⟩
theorem TD.set_el (t : TD h n rs es T) {i b : Nat} {p : Pl Int} {K : H → Prop} (hp : es.ptr = some ⟨b, 0, none⟩) (hi : i < T.elder.length) (hk : SmallK p.key)
    (k : ∀ h', TD h' n rs es { T with elder := T.elder.set i p } → Stp h n rs es h' rs es → K h') : stH h ⟨b, i * 4, none⟩ (cD p) K :=
  own_setAt cD_len t.el hp hi fun h1 o1 e1 _ => k h1 ⟨e1.block t.tb fun hb => t.nel _ hb rfl, t.row.only e1 fun b' hb hb' => t.ne b' hb hb', o1, t.ne, t.kr, t.ke.set hk, t.pos, t.br, by simpa using t.be, t.bc, by simpa using t.bm⟩ ⟨e1.mono fun b' _ hb => .inr (.inr hb), fun b' hb => .inl hb⟩
theorem TD.row_at (t : TD h n rs es T) {i : Nat} {p : Pl Int} (hp : T.row[i]? = some p) : ∃ b, rs.ptr = some ⟨b, 0, none⟩ ∧ Cells h ⟨b, i * 4, none⟩ (cD p) := own_at cD_len (by omega) t.row hp
theorem TD.el_at (t : TD h n rs es T) {i : Nat} {p : Pl Int} (hp : T.elder[i]? = some p) : ∃ b, es.ptr = some ⟨b, 0, none⟩ ∧ Cells h ⟨b, i * 4, none⟩ (cD p) := own_at cD_len (by omega) t.el hp
/-- A cell of the table's own block is written. -/
theorem TD.stn (t : TD h n rs es T) {j : Nat} {v : Value} {K : H → Prop} (hj : j < 4)
    (k : ∀ h', Blk h' n ((#[rs.enc, es.enc, .int .i64 (T.moved : Int), .int .i64 (T.count : Int)] : Array Value).setIfInBounds j v) 104 → Only (· = n) h h' → Owns h' rs 114 4 (T.row.flatMap cD) → Owns h' es 114 4 (T.elder.flatMap cD) → K h') : stH h ⟨n, j, none⟩ [v] K :=
  stH_of t.tb (by show j + 1 ≤ 4; omega) fun h1 b1 e1 _ => k h1 b1 e1 (t.row.only e1 fun b hb hn => t.nr b hb hn) (t.el.only e1 fun b hb hn => t.nel b hb hn)
theorem TD.st_moved (t : TD h n rs es T) {m : Nat} {x : Int} {K : H → Prop} (hx : x = (m : Int)) (hm : m ≤ T.elder.length) (k : ∀ h', TD h' n rs es { T with moved := m } → Stp h n rs es h' rs es → K h') : stH h ⟨n, 2, none⟩ [.int .i64 x] K := by
  subst hx
  exact t.stn (by omega) fun h1 b1 e1 o1 o2 => k h1 ⟨b1, o1, o2, t.ne, t.kr, t.ke, t.pos, t.br, t.be, t.bc, hm⟩ ⟨e1.mono fun b _ hb => .inl hb, fun b hb => .inl hb⟩
theorem TD.st_count (t : TD h n rs es T) {m : Nat} {x : Int} {K : H → Prop} (hx : x = (m : Int)) (hm : m ≤ BIG) (k : ∀ h', TD h' n rs es { T with count := m } → Stp h n rs es h' rs es → K h') : stH h ⟨n, 3, none⟩ [.int .i64 x] K := by
  subst hx
  exact t.stn (by omega) fun h1 b1 e1 o1 o2 => k h1 ⟨b1, o1, o2, t.ne, t.kr, t.ke, t.pos, t.br, t.be, hm, t.bm⟩ ⟨e1.mono fun b _ hb => .inl hb, fun b hb => .inl hb⟩
theorem Left_spec (t : TD h n rs es T) {Q : Int → H → Prop} (k : Q ((leftT T : Nat) : Int) h) : F.spateref6_Table_Left (some ⟨n, 0, none⟩) h Q := by
  unfold F.spateref6_Table_Left
  simp only [nn_some, add_lit, Nat.zero_add]
  rw [ldL_iff t.c1, ldI_iff t.c2, t.elen]
  have := t.bm
  have := t.be
  simp only [BIG] at this
  rw [w64 (by omega) (by omega)]
  rw [show ((leftT T : Nat) : Int) = (T.elder.length : Int) - (T.moved : Int) from by unfold leftT; omega] at k
  exact k
end
theorem Move_loop {n : Nat} {Q : Int → H → Prop} : ∀ (m : Nat) (h : H) (rs es : Sl) (T T1 : Tb Int) (x1 x5 : Int), TD h n rs es T → moveN 0 (x1 - x5).toNat T = some T1 → x1 < 9223372036854775808 → 0 ≤ x5 → (x1 - x5).toNat < m →
    (∀ h' es', TD h' n rs es' (finT T1) → Stp h n rs es h' rs es' → Q ((leftT (finT T1) : Nat) : Int) h') → F.spateref6_Table_Move.l1 Q m (some ⟨n, 0, none⟩) x1 x5 h
  | 0, h, rs, es, T, T1, x1, x5, t, hm, hx, h5, hf, k => by omega
  | m + 1, h, rs, es, T, T1, x1, x5, t, hm, hx, h5, hf, k => by
    unfold F.spateref6_Table_Move.l1
    simp only [nn_some, add_lit, Nat.zero_add]
    rw [ldI_iff t.c2, ldL_iff t.c1, t.elen]
    have hbe := t.be
    simp only [BIG] at hbe
    have stop : ∀ C1, T1 = T → F.spateref6_Table_Move.j5 Q C1 (some ⟨n, 0, none⟩) x1 x5 false h := fun C1 e => by
      subst e
      unfold F.spateref6_Table_Move.j5
      refine ⟨(fun h => by cases h), fun _ => ?_⟩
      simp only [nn_some, add_lit, Nat.zero_add]
      rw [ldI_iff t.c2, ldL_iff t.c1, t.elen]
      simp only [beq_iff_eq, beq_eq_false_iff_ne]
      unfold F.spateref6_Table_Move.j6
      refine ⟨fun g => ?_, fun g => ?_⟩
      · refine t.stn (by omega) fun h1 b1 e1 o1 o2 => ?_
        have hfin : finT T1 = ⟨T1.row, [], 0, T1.count⟩ := by unfold finT; rw [if_pos (by omega)]
        refine stH_of b1 (by simp) fun h2 b2 e2 _ => ?_
        have t2 : TD h2 n rs ⟨none, 0, 0⟩ (finT T1) := by
          rw [hfin]
          exact ⟨b2, o1.only e2 fun b hb hn => t.nr b hb hn, Owns.nil _ _ _, fun b hb => by simp [Sl.blk], t.kr, fun i p hi => by simp at hi, t.pos, t.br, by simp, t.bc, by simp⟩
        have s2 : Stp h n rs es h2 rs ⟨none, 0, 0⟩ := ⟨(e1.mono fun b _ hb => .inl hb).trans (e2.mono fun b _ hb => .inl hb) fun _ _ hb => hb, fun b hb => by
          rcases hb with hb | hb | hb
          · exact .inl (.inl hb)
          · exact .inl (.inr (.inl hb))
          · simp [Sl.blk] at hb⟩
        exact Left_spec t2 (k h2 _ t2 s2)
      · have hfin : finT T1 = T1 := by unfold finT; rw [if_neg (by omega)]
        have t2 : TD h n rs es (finT T1) := by rw [hfin]; exact t
        exact Left_spec t2 (k h _ t2 (.refl _ _ _ _))
    by_cases hx0 : x5 < x1
    · refine ⟨fun _ => ?_, fun g => by simp at g; omega⟩
      obtain ⟨c, hc⟩ : ∃ c, (x1 - x5).toNat = c + 1 := ⟨(x1 - x5).toNat - 1, by omega⟩
      rw [hc] at hm
      unfold moveN at hm
      by_cases hlt : T.moved < T.elder.length
      · rw [if_pos hlt] at hm
        rw [show decide ((T.moved : Int) < (T.elder.length : Int)) = true from by simpa using hlt]
        unfold F.spateref6_Table_Move.j5
        refine ⟨fun _ => ?_, fun h => by cases h⟩
        unfold F.spateref6_Table_Move.j2
        simp only [nn_some, add_lit, Nat.zero_add]
        obtain ⟨p, hp⟩ : ∃ p, T.elder[T.moved]? = some p := ⟨_, List.getElem?_eq_getElem hlt⟩
        obtain ⟨be, q1, q2⟩ := t.el_at hp
        have step : ∀ (h1 : H) (T2 : Tb Int), TD h1 n rs es T2 → Stp h n rs es h1 rs es → T2.moved = T.moved → T2.elder.length = T.elder.length → moveN 0 c { T2 with moved := T2.moved + 1 } = some T1 → F.spateref6_Table_Move.j4 Q (F.spateref6_Table_Move.l1 Q m) (some ⟨n, 0, none⟩) x1 x5 h1 := fun h1 T2 t2 s2 em el hm2 => by
          unfold F.spateref6_Table_Move.j4
          simp only [nn_some, add_lit, Nat.zero_add]
          rw [ldI_iff t2.c2]
          refine t2.st_moved (m := T2.moved + 1) (by rw [w64 (by omega) (by omega)]; omega) (by omega) fun h2 t3 s3 => ?_
          unfold F.spateref6_Table_Move.j3
          rw [w64 (by omega) (by omega)]
          refine Move_loop m h2 rs es _ T1 x1 (x5 + 1) t3 ?_ hx (by omega) (by omega) fun h' es' t4 s4 => k h' es' t4 ((s2.trans s3).trans s4)
          rw [show (x1 - (x5 + 1)).toNat = c from by omega]
          exact hm2
        rw [ldL_iff t.c1, ldI_iff t.c2]
        refine idxA_of q1 (by rw [t.elen]; exact hlt) rfl ?_
        refine ⟨⟨(p.is_ == 1), (p.is_ != 0 && p.is_ != 1), p.key, p.value⟩, q2, ?_⟩
        refine new_of fun c0 h1 e1n b1 e1 _ => ?_
        have t1 := t.ext e1
        refine ⟨q2.ext e1, t1.c2, t1.c1, ?_⟩
        refine stH_of b1 (by simp [S_spateref6_Place.cells]) fun h2 b2 e2 _ => ?_
        rw [writeA_all (by simp [S_spateref6_Place.cells])] at b2
        have e12 : Ext h h2 := e1.step e2 fun j hj e => by omega
        have t2 := t.ext e12
        simp only [add_lit, Nat.zero_add]
        rw [ldB_iff (b2.cell (i := 0) rfl)]
        simp only [beq_iff_eq, beq_eq_false_iff_ne]
        unfold move1 at hm
        rw [hp] at hm
        simp only at hm
        by_cases h1' : p.is_ = 1
        · rw [if_pos h1'] at hm
          refine ⟨fun _ => ?_, fun g => absurd h1' g⟩
          cases hfr : findM T.row p.key with
          | none => rw [hfr] at hm; cases hm
          | some r =>
            rw [hfr] at hm
            simp only at hm
            rw [ldL_iff t2.c0, ldS_iff (b2.cell (i := 2) rfl)]
            refine find_spec t.pos t2.row.reads t.br (t.ke _ p hp) hfr ?_
            rw [ldL_iff t2.c0]
            refine ⟨⟨(p.is_ == 1), (p.is_ != 0 && p.is_ != 1), p.key, p.value⟩, Blk.cellsL b2, ?_⟩
            have hr := find_lt t.pos hfr
            obtain ⟨br, u1, _⟩ := t2.row_at (List.getElem?_eq_getElem hr)
            refine idxA_of u1 (by rw [t.rlen]; exact hr) rfl ?_
            refine t2.set_row u1 hr (t.ke _ p hp) fun h3 t3 s3 => ?_
            rw [ldL_iff t3.c1, ldI_iff t3.c2]
            refine idxA_of q1 (by rw [t.elen]; exact hlt) rfl ?_
            refine t3.set_el (p := goneP 0) (i := T.moved) q1 hlt (by show (0 : Nat) ≤ _; decide) fun h4 t4 s4 => ?_
            exact step h4 _ t4 ((Stp.of_ext e12).trans (s3.trans s4)) rfl (by simp) hm
        · rw [if_neg h1'] at hm
          refine ⟨fun g => absurd g h1', fun _ => ?_⟩
          exact step h2 T t2 (.of_ext e12) rfl rfl hm
      · rw [if_neg hlt] at hm
        rw [show decide ((T.moved : Int) < (T.elder.length : Int)) = false from by simpa using hlt]
        exact stop _ (Option.some.inj hm).symm
    · refine ⟨fun g => by simp at g; omega, fun _ => stop _ ?_⟩
      rw [show (x1 - x5).toNat = 0 from by omega] at hm
      exact (Option.some.inj hm).symm
theorem Move_spec {h : H} {n : Nat} {rs es : Sl} {T T' : Tb Int} {x : Int} {Q : Int → H → Prop} (t : TD h n rs es T) (hm : moveM 0 T x = some T') (hx : x < 9223372036854775808)
    (k : ∀ h' es', TD h' n rs es' T' → Stp h n rs es h' rs es' → Q ((leftT T' : Nat) : Int) h') : F.spateref6_Table_Move (some ⟨n, 0, none⟩) x h Q := by
  unfold moveM at hm
  cases h1 : moveN 0 x.toNat T with
  | none => rw [h1] at hm; cases hm
  | some T1 =>
    rw [h1] at hm
    cases hm
    exact ⟨x.toNat + 1, Move_loop _ h rs es T T1 x 0 t (by simpa using h1) hx (by omega) (by simp) k⟩
end Go.Proofs.Ytkedkajdiclmjaa.V.D
