/- Drop of the table of whole numbers; no condition. -/
import Derived.Test.YtkedkajdiclmjaaTc
import Derived.Test.YtkedkajdiclmjaaTf
namespace Go.Proofs.Ytkedkajdiclmjaa.V
open Go
set_option linter.unusedVariables false
set_option linter.unusedSimpArgs false

theorem tmod_dist {n a k : Nat} (ha : a < n) (hk : k < n) (hn : n ≤ BIG) : Int.tmod (IntKind.wrap .i64 (IntKind.wrap .i64 ((k : Int) - (a : Int)) + (n : Int))) (n : Int) = ((dist n a k : Nat) : Int) := by
  simp only [BIG] at hn
  rw [w64 (n := (k : Int) - (a : Int)) (by omega) (by omega), w64 (by omega) (by omega), show (k : Int) - (a : Int) + (n : Int) = ((k + n - a : Nat) : Int) from by omega, ← Int.ofNat_tmod]
  congr 1
  unfold dist
  split
  · rw [show k + n - a = k - a + n from by omega, Nat.add_mod_right, Nat.mod_eq_of_lt (by omega)]
  · rw [Nat.mod_eq_of_lt (by omega)]
theorem next_tmod {n k : Nat} (hk : k < n) (hn : n ≤ BIG) : Int.tmod (IntKind.wrap .i64 ((k : Int) + 1)) (n : Int) = (((k + 1) % n : Nat) : Int) := by
  simp only [BIG] at hn
  rw [w64 (by omega) (by omega), show (k : Int) + 1 = ((k + 1 : Nat) : Int) from by omega, ← Int.ofNat_tmod]
theorem shift_spec {n : Nat} {rs es : Sl} {x4 : Int} {Q : Int → Bool → H → Prop} : ∀ (f : Nat) (h : H) (T : Tb Int) (a k : Nat) (R : List (Pl Int)), TH h n rs es T → shiftM 0 f T.row a k = some R → a < T.row.length → k < T.row.length →
    (∀ h', TH h' n rs es { T with row := R } → Stp h n rs es h' rs es → Q x4 true h') → F.table_Table_int_Drop.l1 Q f (some ⟨n, 0, none⟩) x4 (a : Int) (T.row.length : Int) (k : Int) h
  | 0, h, T, a, k, R, t, hs, ha, hk, kk => by cases hs
  | f + 1, h, T, a, k, R, t, hs, ha, hk, kk => by
    unfold F.table_Table_int_Drop.l1
    unfold shiftM at hs
    obtain ⟨p, hp⟩ : ∃ p, T.row[k]? = some p := ⟨_, List.getElem?_eq_getElem hk⟩
    rw [hp] at hs
    simp only at hs
    simp only [nn_some, add_lit, Nat.zero_add]
    have hbr := t.br
    rw [ldL_iff t.c0]
    obtain ⟨b, q1, q2⟩ := t.row_at hp
    have c0 := q2 0 _ rfl
    have c1 := q2 1 _ rfl
    refine idxA_of q1 (by rw [t.rlen]; exact hk) rfl ?_
    rw [ldI_iff c0]
    simp only [bne_iff_ne, ne_eq, bne_eq_false_iff_eq]
    by_cases h0 : p.is_ = 0
    · rw [if_pos h0] at hs
      cases hs
      refine ⟨fun g => absurd (by omega) g, fun _ => ?_⟩
      rw [ldL_iff t.c0]
      refine idxA_of q1 (by rw [t.rlen]; exact ha) rfl ?_
      exact t.set_row (p := emptP 0) q1 ha (by show (0 : Nat) ≤ _; decide) fun h1 t1 s1 => kk h1 t1 s1
    · rw [if_neg h0] at hs
      refine ⟨fun _ => ?_, fun g => absurd g (by omega)⟩
      rw [ldL_iff t.c0, ldL_iff t.c0]
      refine idxA_of q1 (by rw [t.rlen]; exact hk) rfl ?_
      rw [ldS_iff c1]
      refine home_spec (R := T.row) t.rlen (by omega) hbr (t.kr k p hp) fun h1 e1 => ?_
      have hh := home_lt (R := T.row) (key := p.key) (by omega)
      have t1 := t.ext e1
      refine ⟨by omega, by omega, ?_⟩
      rw [tmod_dist hh hk hbr, tmod_dist ha hk hbr]
      simp only [decide_eq_true_eq, decide_eq_false_iff_not]
      by_cases hd : dist T.row.length (homeM T.row p.key) k ≥ dist T.row.length a k
      · rw [if_pos hd] at hs
        refine ⟨fun _ => ?_, fun g => absurd (by omega) g⟩
        rw [ldL_iff t1.c0, ldL_iff t1.c0]
        refine idxA_of q1 (by rw [t.rlen]; exact hk) rfl ?_
        have q3 : Cells h1 ⟨b, k * 3, none⟩ (cP p) := q2.ext e1
        refine ⟨⟨(p.is_ : Int), p.key, p.value⟩, q3, ?_⟩
        refine idxA_of q1 (by rw [t.rlen]; exact ha) rfl ?_
        refine t1.set_row (p := p) q1 ha (t.kr k p hp) fun h2 t2 s2 => ?_
        unfold F.table_Table_int_Drop.j2
        refine ⟨by omega, ?_⟩
        rw [next_tmod hk hbr]
        have := shift_spec f h2 _ k ((k + 1) % T.row.length) R t2 hs (by simpa using hk) (by simpa using ring_lt (h := k) (k := 1) (n := T.row.length) (by omega)) fun h' t' s' => kk h' t' ((Stp.of_ext e1).trans (s2.trans s'))
        simp only [List.length_set] at this
        exact this
      · rw [if_neg hd] at hs
        refine ⟨fun g => absurd g (by omega), fun _ => ?_⟩
        unfold F.table_Table_int_Drop.j2
        refine ⟨by omega, ?_⟩
        rw [next_tmod hk hbr]
        exact shift_spec f h1 T a ((k + 1) % T.row.length) R t1 hs ha (ring_lt (h := k) (k := 1) (by omega)) fun h' t' s' => kk h' t' ((Stp.of_ext e1).trans s')
theorem Drop_spec {h : H} {n : Nat} {rs es : Sl} {T T' : Tb Int} {key : ByteArray} {r : Int × Bool} {Q : Int → Bool → H → Prop} (t : TH h n rs es T) (ok : TOk T) (hk : SmallK key) (hd : dropM 0 T key = some (T', r))
    (k : ∀ h' es', TH h' n rs es' T' → Stp h n rs es h' rs es' → Q r.1 r.2 h') : F.table_Table_int_Drop (some ⟨n, 0, none⟩) key h Q := by
  unfold F.table_Table_int_Drop
  obtain ⟨T1, m1, ok1, m3, m4, m5, m6, m7⟩ := move_ok (z := (0 : Int)) ok 4
  unfold dropM at hd
  rw [m1] at hd
  simp only at hd
  refine Move_spec t m1 (by omega) fun h1 es1 t1 s1 => ?_
  simp only [nn_some, add_lit, Nat.zero_add]
  rw [ldL_iff t1.c1]
  cases hf : findM T1.elder key with
  | none => rw [hf] at hd; cases hd
  | some w =>
    rw [hf] at hd
    obtain ⟨i, b⟩ := w
    refine find_spec t1.el.reads t1.be hk hf fun h2 e2 => ?_
    have t2 := t1.ext e2
    have hbc := t1.bc
    have hcnt := ok1.cnt
    simp only [BIG] at hbc
    cases b with
    | true =>
      refine ⟨fun _ => ?_, fun h => by cases h⟩
      simp only at hd
      cases hp : T1.elder[i]? with
      | none => rw [hp] at hd; cases hd
      | some p =>
        rw [hp] at hd
        simp only at hd
        cases hd
        have hi := (List.getElem?_eq_some_iff.1 hp).1
        have h1p : p.is_ = 1 := by
          rcases hit_or T1.elder key with ⟨j, hj⟩ | hn
          · rw [ok1.elder.hit hj] at hf
            cases hf
            obtain ⟨q, g1, g2, _⟩ := hj
            rw [hp] at g1; cases g1; exact g2
          · by_cases he : T1.elder = []
            · rw [he] at hp; simp at hp
            · obtain ⟨j, g1, _, _⟩ := find_miss hn (ok1.eroom he)
              rw [g1] at hf; cases hf
        have hc1 := ok1.cnt_elder hp h1p
        rw [ldL_iff t2.c1]
        obtain ⟨b, q1, q2⟩ := t2.el_at hp
        refine idxA_of q1 (by rw [t1.elen]; exact hi) rfl ?_
        have c2 := q2 2 _ rfl
        rw [ldI_iff c2, ldL_iff t2.c1]
        refine idxA_of q1 (by rw [t1.elen]; exact hi) rfl ?_
        refine t2.set_el (p := goneP 0) q1 hi (by show (0 : Nat) ≤ _; decide) fun h3 t3 s3 => ?_
        rw [ldI_iff t3.c3]
        refine t3.st_count (m := T1.count - 1) (by show IntKind.wrap .i64 ((T1.count : Int) - 1) = _; rw [w64 (by omega) (by omega)]; omega) (by simp only [BIG]; omega) fun h4 t4 s4 => ?_
        exact k h4 _ t4 ((s1.ext e2).trans (s3.trans s4))
    | false =>
      refine ⟨fun h => (by cases h), fun _ => ?_⟩
      simp only at hd
      rw [ldL_iff t2.c0]
      cases hg : findM T1.row key with
      | none => rw [hg] at hd; cases hd
      | some w =>
        rw [hg] at hd
        obtain ⟨i, b⟩ := w
        refine find_spec t2.row.reads t2.br hk hg fun h3 e3 => ?_
        have t3 := t2.ext e3
        cases b with
        | false =>
          simp only at hd
          cases hd
          exact ⟨fun _ => k h3 _ t3 ((s1.ext e2).ext e3), fun h => by cases h⟩
        | true =>
          refine ⟨fun h => (by cases h), fun _ => ?_⟩
          simp only at hd
          cases hp : T1.row[i]? with
          | none => rw [hp] at hd; cases hd
          | some p =>
            rw [hp] at hd
            simp only at hd
            cases hR : shiftM 0 (T1.row.length + 1) T1.row i ((i + 1) % T1.row.length) with
            | none => rw [hR] at hd; cases hd
            | some R =>
              rw [hR] at hd
              simp only at hd
              cases hd
              have hi := (List.getElem?_eq_some_iff.1 hp).1
              have h1p : p.is_ = 1 := by
                rcases hit_or T1.row key with ⟨j, hj⟩ | hn
                · rw [ok1.row.hit hj] at hg
                  cases hg
                  obtain ⟨q, g1, g2, _⟩ := hj
                  rw [hp] at g1; cases g1; exact g2
                · obtain ⟨j, g1, _, _⟩ := find_miss hn (ok1.room ok1.cnt_row)
                  rw [g1] at hg; cases hg
              have hc1 : 1 ≤ cntT T1.row := by
                unfold cntT
                exact List.countP_pos_iff.2 ⟨p, List.mem_of_getElem? hp, by simpa using h1p⟩
              rw [ldL_iff t3.c0]
              obtain ⟨b, q1, q2⟩ := t3.row_at hp
              refine idxA_of q1 (by rw [t1.rlen]; exact hi) rfl ?_
              have c2 := q2 2 _ rfl
              rw [ldI_iff c2, ldI_iff t3.c3]
              refine t3.st_count (m := T1.count - 1) (by show IntKind.wrap .i64 ((T1.count : Int) - 1) = _; rw [w64 (by omega) (by omega)]; omega) (by simp only [BIG]; omega) fun h4 t4 s4 => ?_
              rw [ldL_iff t4.c0, t4.rlen]
              have hbr := t1.br
              refine ⟨by show ((T1.row.length : Nat) : Int) ≠ 0; omega, T1.row.length + 1, ?_⟩
              have hnx := next_tmod hi hbr
              show F.table_Table_int_Drop.l1 Q (T1.row.length + 1) (some ⟨n, 0, none⟩) p.value (i : Int) (T1.row.length : Int) (Int.tmod (IntKind.wrap .i64 ((i : Int) + 1)) (T1.row.length : Int)) h4
              rw [hnx]
              exact shift_spec _ h4 { T1 with count := T1.count - 1 } i _ R t4 hR hi (ring_lt (h := i) (k := 1) (by omega)) fun h5 t5 s5 => k h5 _ t5 (((s1.ext e2).ext e3).trans (s4.trans s5))
end Go.Proofs.Ytkedkajdiclmjaa.V
