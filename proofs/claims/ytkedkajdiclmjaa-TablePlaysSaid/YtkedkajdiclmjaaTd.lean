/- Hash, home and find of the table of whole numbers compute what the lists' own functions say; no condition. -/
import Derived.Test.YtkedkajdiclmjaaTb
import Derived.Test.YtkedkajdiclmjaaGl
import Derived.Test.YtkedkajdiclmjaaVl
namespace Go.Proofs.Ytkedkajdiclmjaa.V
open Go
set_option linter.unusedVariables false
set_option linter.unusedSimpArgs false

theorem wrap_u64 (n : Int) : IntKind.wrap .u64 n = n % 18446744073709551616 := by
  simp only [IntKind.wrap, IntKind.bits, IntKind.signed, Bool.false_and, Bool.false_eq_true, if_false]; rfl
def hstep (h : Nat) (c : UInt8) : Nat := ((h ^^^ c.toNat) * 1099511628211) % 18446744073709551616
theorem hash_step {x : Nat} (c : UInt8) (hx : x < 18446744073709551616) : IntKind.wrap .u64 ((bitsOf .xor .u64 (x : Int) (IntKind.wrap .u64 (c.toNat : Int))) * 1099511628211) = ((hstep x c : Nat) : Int) := by
  have hb : c.toNat < 256 := c.toNat_lt
  have e2 : IntKind.wrap .u64 (c.toNat : Int) = ((c.toNat : Nat) : Int) := by rw [wrap_u64]; omega
  rw [e2]
  simp only [bitsOf]
  rw [BitVec.ofInt_natCast, BitVec.ofInt_natCast, BitVec.toNat_xor, BitVec.toNat_ofNat, BitVec.toNat_ofNat, wrap_u64, wrap_u64]
  have e3 : x % 2 ^ (IntKind.bits .u64) = x := Nat.mod_eq_of_lt (by simpa [IntKind.bits] using hx)
  have e4 : c.toNat % 2 ^ (IntKind.bits .u64) = c.toNat := Nat.mod_eq_of_lt (by simp [IntKind.bits]; omega)
  rw [e3, e4]
  have hlt : x ^^^ c.toNat < 2 ^ 64 := Nat.xor_lt_two_pow (by omega) (by omega)
  unfold hstep
  generalize x ^^^ c.toNat = y at *
  omega
theorem hstep_lt (h : Nat) (c : UInt8) : hstep h c < 18446744073709551616 := Nat.mod_lt _ (by omega)
theorem fold_lt : ∀ (l : List UInt8) (x : Nat), x < 18446744073709551616 → l.foldl hstep x < 18446744073709551616
  | [], x, h => h
  | c :: l, x, h => fold_lt l _ (hstep_lt x c)
theorem hashL_eq (l : List UInt8) : hashL l = l.foldl hstep 14695981039346656037 := rfl
theorem hashM_lt (k : ByteArray) : hashM k < 18446744073709551616 := fold_lt _ _ (by omega)
theorem hash_loop {h : H} {s : Sl} {l : List UInt8} {z : Nat} {Q : Int → H → Prop} (rd : Reads h s 1 (l.flatMap cU)) (hl : l.length ≤ 9223372036854775807) (k : Q (z : Int) h) :
    ∀ (m i : Nat) (x : Nat), i ≤ l.length → l.length - i < m → x < 18446744073709551616 → (l.drop i).foldl hstep x = z → F.table_Hash.l1 Q m (x : Int) s (s.len : Int) (i : Int) h
  | 0, i, x, h1, h2, _, _ => by omega
  | m + 1, i, x, h1, h2, hlt, hx => by
    unfold F.table_Hash.l1
    have hlen := rd_len cU_len (by omega) rd
    rw [hlen]
    simp only [decide_eq_true_eq, decide_eq_false_iff_not]
    refine ⟨fun g => ?_, fun g => ?_⟩
    · obtain ⟨c, hc⟩ : ∃ c, l[i]? = some c := ⟨_, List.getElem?_eq_getElem (by omega)⟩
      obtain ⟨p, q1, q2, q3⟩ := rd_at cU_len (by omega) rd hc
      refine idxR_of q1 (by omega) rfl ?_
      rw [ldI_iff (by have := q3.one; rwa [Nat.mul_one] at this ⊢), hash_step c hlt, w64 (by omega) (by omega)]
      have := hash_loop rd hl k m (i + 1) (hstep x c) (by omega) (by omega) (hstep_lt x c) (by
        rw [← hx, List.drop_eq_getElem_cons (show i < l.length by omega), List.foldl_cons]
        have : l[i] = c := by have := (List.getElem?_eq_some_iff.1 hc).2; exact this
        rw [this])
      rw [hlen] at this
      exact this
    · have : i = l.length := by omega
      subst this
      rw [List.drop_length] at hx
      cases hx
      exact k
theorem Hash_spec {h : H} {key : ByteArray} {Q : Int → H → Prop} (hk : key.size ≤ 9223372036854775807) (k : ∀ h', Ext h h' → Q ((hashM key : Nat) : Int) h') : F.table_Hash key h Q := by
  unfold F.table_Hash
  refine cvtL_of Try.underlying9 Try.underlying70 Try.underlying5 fun r h' rd hc e _ => ?_
  refine ⟨key.data.toList.length + 1, ?_⟩
  have := hash_loop (Q := Q) (z := hashM key) rd (by rw [← size_data]; exact hk) (k h' e) (key.data.toList.length + 1) 0 14695981039346656037 (by omega) (by omega) (by omega) (by rw [List.drop_zero]; unfold hashM; rw [hashL_eq])
  exact this
abbrev SmallK (k : ByteArray) : Prop := k.size ≤ 9223372036854775807
abbrev cP (p : Pl Int) : List Value := [.int .u8 (p.is_ : Int), .string p.key, .int .i64 p.value]
theorem cP_len (p : Pl Int) : (cP p).length = 3 := rfl
abbrev BIG : Nat := 1099511627776
theorem home_spec {h : H} {s : Sl} {α : Type} {R : List (Pl α)} {key : ByteArray} {Q : Int → H → Prop} (hs : s.len = R.length) (h0 : 0 < R.length) (hb : R.length ≤ BIG) (hk : SmallK key) (k : ∀ h', Ext h h' → Q ((homeM R key : Nat) : Int) h') : F.table_home_int s key h Q := by
  unfold F.table_home_int
  refine Hash_spec hk fun h1 e1 => ?_
  have hw : IntKind.wrap .u64 (s.len : Int) = ((R.length : Nat) : Int) := by rw [wrap_u64, hs]; simp only [BIG] at hb; omega
  rw [hw]
  refine ⟨by omega, ?_⟩
  rw [← Int.ofNat_tmod]
  have hl := home_lt (R := R) (key := key) h0
  unfold homeM at hl
  rw [w64 (by omega) (by simp only [BIG] at hb; omega)]
  exact k h1 e1
theorem probe_lt {α : Type} {R : List (Pl α)} {key : ByteArray} : ∀ (f i : Nat) (r : Nat × Bool), probe R key f i = some r → r.1 < R.length
  | 0, i, r, h => by cases h
  | f + 1, i, r, h => by
    unfold probe at h
    cases hp : R[i]? with
    | none => rw [hp] at h; cases h
    | some p =>
      have hi := (List.getElem?_eq_some_iff.1 hp).1
      rw [hp] at h
      simp only at h
      split at h
      · cases h; exact hi
      · split at h
        · cases h; exact hi
        · exact probe_lt f _ r h
theorem find_lt {α : Type} {R : List (Pl α)} {key : ByteArray} {r : Nat × Bool} (h0 : R ≠ []) (h : findM R key = some r) : r.1 < R.length := by
  unfold findM at h
  rw [if_neg (fun e => h0 (List.eq_nil_of_length_eq_zero e))] at h
  exact probe_lt _ _ _ h
theorem probe_loop {h : H} {s : Sl} {R : List (Pl Int)} {key : ByteArray} {Q : Int → Bool → H → Prop} (rd : Reads h s 3 (R.flatMap cP)) (hb : R.length ≤ BIG) :
    ∀ (f i : Nat) (r : Nat × Bool), probe R key f i = some r → Q ((r.1 : Nat) : Int) r.2 h → F.table_find_int.l1 Q f s key (i : Int) h
  | 0, i, r, hp, k => by cases hp
  | f + 1, i, r, hp, k => by
    unfold probe at hp
    unfold F.table_find_int.l1
    have hlen := rd_len cP_len (by omega) rd
    cases hpi : R[i]? with
    | none => rw [hpi] at hp; cases hp
    | some p =>
      have hi := (List.getElem?_eq_some_iff.1 hpi).1
      rw [hpi] at hp
      simp only at hp
      obtain ⟨a, q1, q2, q3⟩ := rd_at cP_len (by omega) rd hpi
      have c0 := q3 0 _ rfl
      have c1 := q3 1 _ rfl
      refine idxR_of q1 (by omega) rfl ?_
      rw [ldI_iff c0]
      simp only [bne_iff_ne, ne_eq, bne_eq_false_iff_eq, beq_iff_eq, beq_eq_false_iff_ne]
      by_cases h0 : p.is_ = 0
      · rw [if_pos h0] at hp
        cases hp
        exact ⟨fun g => absurd (by omega) g, fun _ => k⟩
      · rw [if_neg h0] at hp
        refine ⟨fun _ => ?_, fun g => absurd g (by omega)⟩
        refine idxR_of q1 (by omega) rfl ?_
        rw [ldI_iff c0]
        have next : ∀ (x : Bool), ¬ (x = true) → ¬ (p.is_ = 1 ∧ kL p.key = kL key) → F.table_find_int.j3 Q (F.table_find_int.l1 Q f) s key (i : Int) x h := fun x hx hn => by
          rw [if_neg hn] at hp
          unfold F.table_find_int.j3
          refine ⟨fun g => absurd g hx, fun _ => ?_⟩
          unfold F.table_find_int.j2
          simp only [BIG] at hb
          refine ⟨by omega, ?_⟩
          rw [w64 (by omega) (by omega), hlen, show (i : Int) + 1 = ((i + 1 : Nat) : Int) from by omega, ← Int.ofNat_tmod]
          exact probe_loop rd hb f _ r hp k
        refine ⟨fun g => ?_, fun g => ?_⟩
        · refine idxR_of q1 (by omega) rfl ?_
          rw [ldS_iff c1, toList_data, toList_data]
          by_cases hk : kL p.key = kL key
          · rw [if_pos ⟨by omega, hk⟩] at hp
            cases hp
            rw [show (p.key.data.toList == key.data.toList) = true from by simpa using hk]
            exact ⟨fun _ => k, fun h => by cases h⟩
          · rw [show (p.key.data.toList == key.data.toList) = false from by simpa using hk]
            exact next _ (by simp) fun h => hk h.2
        · exact next _ (by simp) fun h => g (by omega)
theorem find_spec {h : H} {s : Sl} {R : List (Pl Int)} {key : ByteArray} {Q : Int → Bool → H → Prop} {r : Nat × Bool} (rd : Reads h s 3 (R.flatMap cP)) (hb : R.length ≤ BIG) (hk : SmallK key) (hf : findM R key = some r) (k : ∀ h', Ext h h' → Q ((r.1 : Nat) : Int) r.2 h') : F.table_find_int s key h Q := by
  unfold F.table_find_int
  unfold findM at hf
  have hlen := rd_len cP_len (by omega) rd
  simp only [beq_iff_eq, beq_eq_false_iff_ne]
  by_cases h0 : R.length = 0
  · rw [if_pos h0] at hf
    cases hf
    exact ⟨fun _ => k h (.refl _), fun g => absurd (by omega) g⟩
  · rw [if_neg h0] at hf
    refine ⟨fun g => absurd g (by omega), fun _ => ?_⟩
    refine home_spec (R := R) hlen (by omega) hb hk fun h1 e1 => ?_
    exact ⟨R.length + 1, probe_loop (rd.ext e1) hb _ _ r hf (k h1 e1)⟩
end Go.Proofs.Ytkedkajdiclmjaa.V
