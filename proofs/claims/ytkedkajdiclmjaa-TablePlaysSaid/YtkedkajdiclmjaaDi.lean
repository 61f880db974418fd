/- The document's table: Drop, whole; no condition. -/
import Derived.Test.YtkedkajdiclmjaaDh
namespace Go.Proofs.Ytkedkajdiclmjaa.V.D
open Go Go.Proofs.Ytkedkajdiclmjaa.V
set_option linter.unusedVariables false
set_option linter.unusedSimpArgs false

theorem find_none {T : Tb Int} (ok : TOk T) {key : ByteArray} (hn : ∀ j, ¬ Hit T.elder key j) : ∃ i, findM T.elder key = some (i, false) := by
  by_cases he : T.elder = []
  · rw [he]; exact ⟨0, rfl⟩
  · obtain ⟨j, g1, _, _⟩ := find_miss hn (ok.eroom he)
    exact ⟨j, g1⟩
theorem Drop_spec {h : H} {n : Nat} {rs es : Sl} {T T' : Tb Int} {key : ByteArray} {r : Int × Bool} {Q : Int → Bool → H → Prop} (t : TD h n rs es T) (ok : TOk T) (hk : SmallK key) (hd : dropM 0 T key = some (T', r))
    (k : ∀ h' es', TD h' n rs es' T' → Stp h n rs es h' rs es' → Q r.1 r.2 h') : F.spateref6_Table_Drop (some ⟨n, 0, none⟩) key h Q := by
  unfold F.spateref6_Table_Drop
  obtain ⟨T1, m1, ok1, m3, m4, m5, m6, m7⟩ := move_ok (z := (0 : Int)) ok 4
  unfold dropM at hd
  rw [m1] at hd
  simp only at hd
  refine Move_spec t m1 (by omega) fun h1 es1 t1 s1 => ?_
  simp only [nn_some, add_lit, Nat.zero_add]
  have hbc := t1.bc
  have hcnt := ok1.cnt
  simp only [BIG] at hbc
  refine Place_spec t1 ok1 hk (fun i hh => ?_) (fun i hh hn => ?_) (fun hn hne => ?_)
  · -- in the row
    refine ⟨fun h => (by cases h), fun _ => ?_⟩
    have hne : ∀ j, ¬ Hit T1.elder key j := fun j hj => by
      obtain ⟨p, a1, a2, a3⟩ := hh
      obtain ⟨q, b1, b2, b3⟩ := hj
      exact ok1.apart i j p q a1 b1 a2 b2 (a3.trans b3.symm)
    obtain ⟨i0, hf⟩ := find_none ok1 hne
    rw [hf, ok1.row.hit hh] at hd
    simp only at hd
    obtain ⟨p, g1, g2, g3⟩ := id hh
    rw [g1] at hd
    simp only at hd
    cases hR : shiftM 0 (T1.row.length + 1) T1.row i ((i + 1) % T1.row.length) with
    | none => rw [hR] at hd; cases hd
    | some R =>
      rw [hR] at hd
      simp only at hd
      cases hd
      have hi := hh.lt
      have hc1 : 1 ≤ cntT T1.row := by
        unfold cntT
        exact List.countP_pos_iff.2 ⟨p, List.mem_of_getElem? g1, by simpa using g2⟩
      rw [ldI_iff t1.c3]
      refine t1.st_count (m := T1.count - 1) (by show IntKind.wrap .i64 ((T1.count : Int) - 1) = _; rw [w64 (by omega) (by omega)]; omega) (by simp only [BIG]; omega) fun h4 t4 s4 => ?_
      refine ⟨fun h => (by cases h), fun _ => ?_⟩
      rw [ldL_iff t4.c0]
      obtain ⟨b, q1, q2⟩ := t4.row_at g1
      refine idxA_of q1 (by rw [t4.rlen]; exact hi) rfl ?_
      rw [ldI_iff (q2 3 _ rfl), ldL_iff t4.c0]
      refine idxA_of q1 (by rw [t4.rlen]; exact hi) rfl ?_
      refine t4.set_row (p := emptP 0) q1 hi (by show (0 : Nat) ≤ _; decide) fun h5 t5 s5 => ?_
      rw [ldL_iff t5.c0, t5.rlen]
      have hbr := t1.br
      have hl5 : (({ T1 with count := T1.count - 1, row := T1.row.set i (emptP 0) } : Tb Int)).row.length = T1.row.length := by simp
      simp only [List.length_set]
      refine ⟨by omega, T1.row.length + 1, ?_⟩
      rw [next_tmod hi hbr]
      obtain ⟨e, he⟩ := ok1.room ok1.cnt_row
      have hie : i ≠ e := fun hh => by
        obtain ⟨q, b1, b2⟩ := he
        rw [← hh, g1] at b1; cases b1; omega
      obtain ⟨nd1, nd2⟩ := next_dist hi hi he.lt hie (by unfold dist; split <;> split <;> omega)
      exact shift_spec _ h5 _ i _ e T1.row R t5 rfl ok1.row01 hR hi (Nat.mod_lt _ (by omega)) he hie (nd2 hie) nd1 fun h6 t6 s6 => k h6 _ t6 (s1.trans (s4.trans (s5.trans s6)))
  · -- in the elder
    refine ⟨fun h => (by cases h), fun _ => ?_⟩
    rw [ok1.elder.hit hh] at hd
    simp only at hd
    obtain ⟨p, g1, g2, g3⟩ := id hh
    rw [g1] at hd
    simp only at hd
    cases hd
    have hi := hh.lt
    have hc1 := ok1.cnt_elder g1 g2
    rw [ldI_iff t1.c3]
    refine t1.st_count (m := T1.count - 1) (by show IntKind.wrap .i64 ((T1.count : Int) - 1) = _; rw [w64 (by omega) (by omega)]; omega) (by simp only [BIG]; omega) fun h4 t4 s4 => ?_
    refine ⟨fun _ => ?_, fun h => (by cases h)⟩
    rw [ldL_iff t4.c1]
    obtain ⟨b, q1, q2⟩ := t4.el_at g1
    refine idxA_of q1 (by rw [t4.elen]; exact hi) rfl ?_
    rw [ldI_iff (q2 3 _ rfl), ldL_iff t4.c1]
    refine idxA_of q1 (by rw [t4.elen]; exact hi) rfl ?_
    refine t4.set_el (p := goneP 0) q1 hi (by show (0 : Nat) ≤ _; decide) fun h5 t5 s5 => ?_
    exact k h5 _ t5 (s1.trans (s4.trans s5))
  · refine ⟨fun _ => ?_, fun h => by cases h⟩
    obtain ⟨i0, hf⟩ := find_none ok1 hne
    obtain ⟨j0, hg, _, _⟩ := find_miss hn (ok1.room ok1.cnt_row)
    rw [hf, hg] at hd
    simp only at hd
    cases hd
    exact k h1 _ t1 s1
end Go.Proofs.Ytkedkajdiclmjaa.V.D
