/- The document's table: home and find compute what the lists' own functions say; no condition. -/
import Derived.Test.YtkedkajdiclmjaaTg
namespace Go.Proofs.Ytkedkajdiclmjaa.V.D
open Go Go.Proofs.Ytkedkajdiclmjaa.V
set_option linter.unusedVariables false
set_option linter.unusedSimpArgs false

/-- A place as the document's table holds it: Taken, Gone, Key, Value. -/
abbrev cD (p : Pl Int) : List Value := [.bool (p.is_ == 1), .bool (p.is_ != 0 && p.is_ != 1), .string p.key, .int .i64 p.value]
theorem cD_len (p : Pl Int) : (cD p).length = 4 := rfl
theorem home_spec {h : H} {s : Sl} {R : List (Pl Int)} {key : ByteArray} {Q : Int → H → Prop} (hs : s.len = R.length) (h0 : 0 < R.length) (hb : R.length ≤ BIG) (hk : SmallK key) (k : Q ((homeM R key : Nat) : Int) h) : F.spateref6_home s key h Q := by
  unfold F.spateref6_home
  refine refHash_spec hk ?_
  have hw : IntKind.wrap .u64 (s.len : Int) = ((R.length : Nat) : Int) := by rw [wrap_u64, hs]; simp only [BIG] at hb; omega
  rw [hw]
  refine ⟨by omega, ?_⟩
  rw [← Int.ofNat_tmod]
  have hl := home_lt (R := R) (key := key) h0
  unfold homeM at hl
  rw [w64 (by omega) (by simp only [BIG] at hb; omega)]
  exact k
theorem probe_loop {h : H} {s : Sl} {R : List (Pl Int)} {key : ByteArray} {Q : Int → Bool → H → Prop} (rd : Reads h s 4 (R.flatMap cD)) (hb : R.length ≤ BIG) :
    ∀ (f i : Nat) (r : Nat × Bool), probe R key f i = some r → Q ((r.1 : Nat) : Int) r.2 h → F.spateref6_find.l1 Q f s key (i : Int) h
  | 0, i, r, hp, k => by cases hp
  | f + 1, i, r, hp, k => by
    unfold probe at hp
    unfold F.spateref6_find.l1
    have hlen := rd_len cD_len (by omega) rd
    cases hpi : R[i]? with
    | none => rw [hpi] at hp; cases hp
    | some p =>
      have hi := (List.getElem?_eq_some_iff.1 hpi).1
      rw [hpi] at hp
      simp only at hp
      obtain ⟨a, q1, q2, q3⟩ := rd_at cD_len (by omega) rd hpi
      have c0 := q3 0 _ rfl
      have c1 := q3 1 _ rfl
      have c2 := q3 2 _ rfl
      have next : ∀ (x : Bool), ¬ (x = true) → p.is_ ≠ 0 → ¬ (p.is_ = 1 ∧ kL p.key = kL key) → F.spateref6_find.j4 Q (F.spateref6_find.l1 Q f) s key (i : Int) x h := fun x hx h0 hn => by
        rw [if_neg h0, if_neg hn] at hp
        unfold F.spateref6_find.j4
        refine ⟨fun g => absurd g hx, fun _ => ?_⟩
        unfold F.spateref6_find.j3
        simp only [BIG] at hb
        refine ⟨by omega, ?_⟩
        rw [w64 (by omega) (by omega), hlen, show (i : Int) + 1 = ((i + 1 : Nat) : Int) from by omega, ← Int.ofNat_tmod]
        exact probe_loop rd hb f _ r hp k
      refine idxR_of q1 (by omega) rfl ?_
      rw [ldB_iff c0]
      simp only [beq_iff_eq, beq_eq_false_iff_ne]
      have go : p.is_ ≠ 0 → F.spateref6_find.j5 Q (F.spateref6_find.l1 Q f) s key (i : Int) true h := fun h0 => by
        unfold F.spateref6_find.j5
        refine ⟨fun _ => ?_, fun g => by cases g⟩
        unfold F.spateref6_find.j2
        refine idxR_of q1 (by omega) rfl ?_
        rw [ldB_iff c0]
        simp only [beq_iff_eq, beq_eq_false_iff_ne]
        refine ⟨fun g => ?_, fun g => next _ (by simp) h0 fun h => g h.1⟩
        refine idxR_of q1 (by omega) rfl ?_
        rw [ldS_iff c2, toList_data, toList_data]
        by_cases hk : kL p.key = kL key
        · rw [if_neg h0, if_pos ⟨g, hk⟩] at hp
          cases hp
          rw [show (p.key.data.toList == key.data.toList) = true from by simpa using hk]
          unfold F.spateref6_find.j4
          exact ⟨fun _ => k, fun h => by cases h⟩
        · rw [show (p.key.data.toList == key.data.toList) = false from by simpa using hk]
          exact next _ (by simp) h0 fun h => hk h.2
      refine ⟨fun g => go (by omega), fun g => ?_⟩
      refine idxR_of q1 (by omega) rfl ?_
      rw [ldB_iff c1]
      by_cases h0 : p.is_ = 0
      · rw [if_pos h0] at hp
        cases hp
        rw [show (p.is_ != 0 && p.is_ != 1) = false from by simp [h0]]
        unfold F.spateref6_find.j5
        exact ⟨fun g => (by cases g), fun _ => k⟩
      · rw [show (p.is_ != 0 && p.is_ != 1) = true from by simp [h0, g]]
        exact go h0
theorem find_spec {h : H} {s : Sl} {R : List (Pl Int)} {key : ByteArray} {Q : Int → Bool → H → Prop} {r : Nat × Bool} (h0 : R ≠ []) (rd : Reads h s 4 (R.flatMap cD)) (hb : R.length ≤ BIG) (hk : SmallK key) (hf : findM R key = some r) (k : Q ((r.1 : Nat) : Int) r.2 h) : F.spateref6_find s key h Q := by
  unfold F.spateref6_find
  unfold findM at hf
  have hlen := rd_len cD_len (by omega) rd
  have hp : 0 < R.length := List.length_pos_iff.2 h0
  rw [if_neg (by omega)] at hf
  refine home_spec (R := R) hlen hp hb hk ?_
  exact ⟨R.length + 1, probe_loop rd hb _ _ r hf k⟩
end Go.Proofs.Ytkedkajdiclmjaa.V.D
