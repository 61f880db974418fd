/- Turned by a program of this session (tabturn.py) out of XTd: the table of slices of whole numbers; no condition. -/
import Derived.Test.YtkedkajdiclmjaaTf
import Derived.Test.YtkedkajdiclmjaaTh
import Derived.Test.YtkedkajdiclmjaaTm
namespace Go.Proofs.Ytkedkajdiclmjaa.V.K
open Go Go.Proofs.Ytkedkajdiclmjaa.V
set_option linter.unusedVariables false
set_option linter.unusedSimpArgs false
abbrev nilS : Sl := ⟨none, 0, 0⟩


abbrev cP (p : Pl Sl) : List Value := [.int .u8 (p.is_ : Int), .string p.key, p.value.enc]
theorem cP_len (p : Pl Sl) : (cP p).length = 3 := rfl
theorem home_spec {h : H} {s : Sl} {α : Type} {R : List (Pl α)} {key : ByteArray} {Q : Int → H → Prop} (hs : s.len = R.length) (h0 : 0 < R.length) (hb : R.length ≤ BIG) (hk : SmallK key) (k : ∀ h', Ext h h' → Q ((homeM R key : Nat) : Int) h') : F.table_home_Slint s key h Q := by
  unfold F.table_home_Slint
  refine Hash_spec hk fun h1 e1 => ?_
  have hw : IntKind.wrap .u64 (s.len : Int) = ((R.length : Nat) : Int) := by rw [wrap_u64, hs]; simp only [BIG] at hb; omega
  rw [hw]
  refine ⟨by omega, ?_⟩
  rw [← Int.ofNat_tmod]
  have hl := home_lt (R := R) (key := key) h0
  unfold homeM at hl
  rw [w64 (by omega) (by simp only [BIG] at hb; omega)]
  exact k h1 e1
theorem probe_loop {h : H} {s : Sl} {R : List (Pl Sl)} {key : ByteArray} {Q : Int → Bool → H → Prop} (rd : Reads h s 3 (R.flatMap cP)) (hb : R.length ≤ BIG) :
    ∀ (f i : Nat) (r : Nat × Bool), probe R key f i = some r → Q ((r.1 : Nat) : Int) r.2 h → F.table_find_Slint.l1 Q f s key (i : Int) h
  | 0, i, r, hp, k => by cases hp
  | f + 1, i, r, hp, k => by
    unfold probe at hp
    unfold F.table_find_Slint.l1
    have hlen := rd_len cP_len (by omega) rd
    cases hpi : R[i]? with
    | none => rw [hpi] at hp; cases hp
    | some p =>
      have hi := (List.getElem?_eq_some_iff.1 hpi).1
      rw [hpi] at hp
      simp only at hp
      obtain ⟨a, q1, q2, q3⟩ := rd_at cP_len (by omega) rd hpi
      have c0 := q3 0 _ rfl
      have c1 := q3 1 _ rfl
      refine idxR_of q1 (by omega) rfl ?_
      rw [ldI_iff c0]
      simp only [bne_iff_ne, ne_eq, bne_eq_false_iff_eq, beq_iff_eq, beq_eq_false_iff_ne]
      by_cases h0 : p.is_ = 0
      · rw [if_pos h0] at hp
        cases hp
        exact ⟨fun g => absurd (by omega) g, fun _ => k⟩
      · rw [if_neg h0] at hp
        refine ⟨fun _ => ?_, fun g => absurd g (by omega)⟩
        refine idxR_of q1 (by omega) rfl ?_
        rw [ldI_iff c0]
        have next : ∀ (x : Bool), ¬ (x = true) → ¬ (p.is_ = 1 ∧ kL p.key = kL key) → F.table_find_Slint.j3 Q (F.table_find_Slint.l1 Q f) s key (i : Int) x h := fun x hx hn => by
          rw [if_neg hn] at hp
          unfold F.table_find_Slint.j3
          refine ⟨fun g => absurd g hx, fun _ => ?_⟩
          unfold F.table_find_Slint.j2
          simp only [BIG] at hb
          refine ⟨by omega, ?_⟩
          rw [w64 (by omega) (by omega), hlen, show (i : Int) + 1 = ((i + 1 : Nat) : Int) from by omega, ← Int.ofNat_tmod]
          exact probe_loop rd hb f _ r hp k
        refine ⟨fun g => ?_, fun g => ?_⟩
        · refine idxR_of q1 (by omega) rfl ?_
          rw [ldS_iff c1, toList_data, toList_data]
          by_cases hk : kL p.key = kL key
          · rw [if_pos ⟨by omega, hk⟩] at hp
            cases hp
            rw [show (p.key.data.toList == key.data.toList) = true from by simpa using hk]
            exact ⟨fun _ => k, fun h => by cases h⟩
          · rw [show (p.key.data.toList == key.data.toList) = false from by simpa using hk]
            exact next _ (by simp) fun h => hk h.2
        · exact next _ (by simp) fun h => g (by omega)
theorem find_spec {h : H} {s : Sl} {R : List (Pl Sl)} {key : ByteArray} {Q : Int → Bool → H → Prop} {r : Nat × Bool} (rd : Reads h s 3 (R.flatMap cP)) (hb : R.length ≤ BIG) (hk : SmallK key) (hf : findM R key = some r) (k : ∀ h', Ext h h' → Q ((r.1 : Nat) : Int) r.2 h') : F.table_find_Slint s key h Q := by
  unfold F.table_find_Slint
  unfold findM at hf
  have hlen := rd_len cP_len (by omega) rd
  simp only [beq_iff_eq, beq_eq_false_iff_ne]
  by_cases h0 : R.length = 0
  · rw [if_pos h0] at hf
    cases hf
    exact ⟨fun _ => k h (.refl _), fun g => absurd (by omega) g⟩
  · rw [if_neg h0] at hf
    refine ⟨fun g => absurd g (by omega), fun _ => ?_⟩
    refine home_spec (R := R) hlen (by omega) hb hk fun h1 e1 => ?_
    exact ⟨R.length + 1, probe_loop (rd.ext e1) hb _ _ r hf (k h1 e1)⟩
end Go.Proofs.Ytkedkajdiclmjaa.V.K
