/- Ranges over a table's sequence; no condition. -/
import Derived.Test.YtkedkajdiclmjaaTl
namespace Go.Proofs.Ytkedkajdiclmjaa.V
open Go
set_option linter.unusedVariables false
set_option linter.unusedSimpArgs false

abbrev seqV (ka ma : Nat) : Value := .func (.func 52) #[] #[.pointer (some ⟨ka, 0, none⟩), .pointer (some ⟨ma, 0, none⟩)]
/-- What a table's iterator does, called with a loop's yield. -/
theorem seq_core {h1 : H} {ka ma b l : Nat} {r : Sl} {L : List (ByteArray × Int)} {js : List Code} {R : LoopState → Option Code → Obj} {BB : Nat → ByteArray → Int → H → (H → Prop) → (Nat → H → Prop) → Prop} {Kn : H → Prop} {Kj : Nat → H → Prop} (I : Nat → H → Prop) (E : Nat → H → Prop) (hR : ∀ s p, ∃ r, R s p = .loop r)
    (hst : ∀ i h' h'', I i h' → Only (· = l) h' h'' → I i h'') (hstE : ∀ j h' h'', E j h' → Only (· = l) h' h'' → E j h'') (hown : ∀ i h', I i h' → SeqH h' ka ma b r L)
    (hB : ∀ (X : Obj) (i : Nat) (x : ByteArray × Int) (h5 : H) (K : H → Prop) (J : Nat → H → Prop), (∃ r, X = .loop r) → I i h5 → h5[l]? = some X → L[i]? = some x → (∀ h2, I (i + 1) h2 → h2[l]? = some X → K h2) → (∀ j h2, E j h2 → h2[l]? = some X → J j h2) → BB l x.1 x.2 h5 K J)
    (hn : ∀ h', I L.length h' → Kn h') (hj : ∀ j h', E j h' → ∃ c, js[j]? = some c ∧ Kj j h')
    (hy : yields PP R l js (fun bg l args h' K J => ∃ (k : ByteArray), ∃ (v : Int), args = [.string k, .int .i64 v] ∧ bg h' fun h5 => BB l k v h5 K J)) (h0 : I 0 h1) (hr : h1[l]? = some (R .ready none)) :
    F.table_Table_int_All_1 (.func (.yield l) #[] #[]) ⟨ka, 0, none⟩ ⟨ma, 0, none⟩ h1 (rngEnd R l js Kn Kj) := by
  unfold F.table_Table_int_All_1
  have s0 := hown 0 h1 h0
  rw [ldL_iff (s0.kb.cell (i := 0) rfl)]
  have hlen := s0.len
  have hrl := own_len cT_len (by omega) s0.ko
  rw [List.length_map] at hrl
  refine ⟨L.length + 1, ?_⟩
  rw [hrl]
  have key : ∀ (m i : Nat) (h' : H), i ≤ L.length → L.length - i < m → I i h' → h'[l]? = some (R .ready none) → F.table_Table_int_All_1.l1 (rngEnd R l js Kn Kj) m (.func (.yield l) #[] #[]) ⟨ma, 0, none⟩ r (L.length : Int) (i : Int) h' := by
    intro m
    induction m with
    | zero => intro i h' _ hm; omega
    | succ m ih =>
      intro i h' hi hm hI hrd
      unfold F.table_Table_int_All_1.l1
      simp only [decide_eq_true_eq, decide_eq_false_iff_not]
      refine ⟨fun g => ?_, fun g => ?_⟩
      · obtain ⟨x, hx⟩ : ∃ x, L[i]? = some x := ⟨_, List.getElem?_eq_getElem (by omega)⟩
        have si := hown i h' hI
        obtain ⟨M, m1, m2⟩ := si.mp
        obtain ⟨bb, a1, a2⟩ := own_at cT_len (by omega) si.ko (i := i) (x := x.1) (by rw [List.getElem?_map, hx]; rfl)
        refine idxA_of (i := i) a1 (by omega) rfl ?_
        rw [ldS_iff (by have := a2.one; rwa [Nat.mul_one] at this ⊢), ldV_iff (si.mb.cell (i := 0) rfl)]
        refine lookM_of (kt := 9) (et := 3) (z := .int .i64 0) Try.underlying50 Try.underlying9 Try.zeroValue3 m1 ?_
        rw [m2 x (List.mem_of_getElem? hx)]
        refine ⟨x.2, rfl, ?_⟩
        refine hy h' _ _ hrd ⟨x.1, x.2, rfl, hrd, ?_⟩
        refine hB (R .busy none) i x _ _ _ (hR _ _) (hst i h' _ hI (put_only h' l _)) (put_at hrd) hx (fun h4 hI4 hb4 => ⟨hb4, true, rfl, (fun h => by cases h), fun _ => ?_⟩) (fun j h4 hE hb4 => ?_)
        · rw [show IntKind.wrap .i64 ((i : Int) + 1) = ((i + 1 : Nat) : Int) from by rw [w64 (by omega) (by omega)]; omega]
          exact ih (i + 1) _ (by omega) (by omega) (hst (i + 1) h4 _ hI4 (put_only h4 l _)) (put_at hb4)
        · obtain ⟨c, hc, _⟩ := hj j h4 hE
          refine ⟨c, hc, hb4, false, rfl, fun _ => ?_, fun h => by cases h⟩
          have hE2 := hstE j h4 _ hE (put_only h4 l (R .done (some c)))
          have hp := put_at (o := R .done (some c)) hb4
          obtain ⟨c', hc', hk⟩ := hj j _ (hstE j _ _ hE2 (put_only _ l (R .exhausted (some c))))
          exact .inr ⟨j, c, hc, hp, hk⟩
      · have : i = L.length := by omega
        subst this
        exact .inl ⟨hrd, hn _ (hst _ h' _ hI (put_only h' l _))⟩
  exact key _ 0 h1 (by omega) (by omega) h0 hr
/-- A range over a table's sequence, outermost: h.size + 1 is the record's place, h.size that of the block for deferred calls. -/
theorem range_seq {h : H} {ka ma b : Nat} {r : Sl} {L : List (ByteArray × Int)} {js : List Code} {BB : Nat → ByteArray → Int → H → (H → Prop) → (Nat → H → Prop) → Prop} {Kn : H → Prop} {Kj : Nat → H → Prop} (I : Nat → H → Prop) (E : Nat → H → Prop)
    (hst : ∀ i h' h'', I i h' → Only (· = h.size + 1) h' h'' → I i h'') (hstE : ∀ j h' h'', E j h' → Only (· = h.size + 1) h' h'' → E j h'') (hown : ∀ i h', I i h' → SeqH h' ka ma b r L)
    (h0 : I 0 (h.push (.deferred (some []))))
    (hB : ∀ (X : Obj) (i : Nat) (x : ByteArray × Int) (h5 : H) (K : H → Prop) (J : Nat → H → Prop), (∃ r, X = .loop r) → I i h5 → h5[h.size + 1]? = some X → L[i]? = some x → (∀ h2, I (i + 1) h2 → h2[h.size + 1]? = some X → K h2) → (∀ j h2, E j h2 → h2[h.size + 1]? = some X → J j h2) → BB (h.size + 1) x.1 x.2 h5 K J)
    (hn : ∀ h', I L.length h' → Kn h') (hj : ∀ j h', E j h' → ∃ c, js[j]? = some c ∧ Kj j h') :
    rng PP (seqV ka ma) h js (fun bg l args h' K J => ∃ (k : ByteArray), ∃ (v : Int), args = [.string k, .int .i64 v] ∧ bg h' fun h5 => BB l k v h5 K J) Kn Kj := fun R hR hy => by
  refine ⟨52, #[], #[.pointer (some ⟨ka, 0, none⟩), .pointer (some ⟨ma, 0, none⟩)], rfl, fun a w => Try.call52 a w, ?_⟩
  have := F.table_Table_int_All_1_ok (seq_core I E hR hst hstE hown hB hn hj hy (h1 := (h.push (.deferred (some []))).push (R .ready none)) (hst 0 _ _ h0 (.push _ _)) (by rw [Array.getElem?_push, if_pos (by simp)]))
  exact this.mono fun r h' ⟨_, q⟩ => q
/-- .. within a round of another loop, whose record lies at l0. -/
theorem range_seqN {h : H} {l0 ka ma b : Nat} {r : Sl} {L : List (ByteArray × Int)} {js : List Code} {BB : Nat → ByteArray → Int → H → (H → Prop) → (Nat → H → Prop) → Prop} {Kn : H → Prop} {Kj : Nat → H → Prop} (hl0 : ∃ r, h[l0]? = some (.loop r)) (I : Nat → H → Prop) (E : Nat → H → Prop)
    (hst : ∀ i h' h'', I i h' → Only (· = h.size) h' h'' → I i h'') (hstE : ∀ j h' h'', E j h' → Only (· = h.size) h' h'' → E j h'') (hown : ∀ i h', I i h' → SeqH h' ka ma b r L)
    (h0 : I 0 h)
    (hB : ∀ (X : Obj) (i : Nat) (x : ByteArray × Int) (h5 : H) (K : H → Prop) (J : Nat → H → Prop), (∃ r, X = .loop r) → I i h5 → h5[h.size]? = some X → L[i]? = some x → (∀ h2, I (i + 1) h2 → h2[h.size]? = some X → K h2) → (∀ j h2, E j h2 → h2[h.size]? = some X → J j h2) → BB h.size x.1 x.2 h5 K J)
    (hn : ∀ h', I L.length h' → Kn h') (hj : ∀ j h', E j h' → ∃ c, js[j]? = some c ∧ Kj j h') :
    rngN PP l0 (seqV ka ma) h js (fun bg l args h' K J => ∃ (k : ByteArray), ∃ (v : Int), args = [.string k, .int .i64 v] ∧ bg h' fun h5 => BB l k v h5 K J) Kn Kj := ⟨hl0, fun R hR hy => by
  refine ⟨52, #[], #[.pointer (some ⟨ka, 0, none⟩), .pointer (some ⟨ma, 0, none⟩)], rfl, fun a w => Try.call52 a w, ?_⟩
  have := F.table_Table_int_All_1_ok (seq_core I E hR hst hstE hown hB hn hj hy (h1 := h.push (R .ready none)) (hst 0 _ _ h0 (.push _ _)) (by rw [Array.getElem?_push, if_pos rfl]))
  exact this.mono fun r h' ⟨_, q⟩ => q⟩
end Go.Proofs.Ytkedkajdiclmjaa.V
