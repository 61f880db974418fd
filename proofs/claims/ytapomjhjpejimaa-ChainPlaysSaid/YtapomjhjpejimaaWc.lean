/- Chains of wide values, continued: Twin, All, ranging over a sequence; no condition. -/
import Derived.Test.YtapomjhjpejimaaWb
import Derived.Test.YtapomjhjpejimaaCs
namespace Go.Proofs.Ytapomjhjpejimaa.V
open Go
set_option linter.unusedVariables false
set_option linter.unusedSimpArgs false

theorem CloneW_spec {h : H} {s : Sl} {L : List Ver} {Q : Sl → H → Prop} (rd : Reads h s 4 (L.flatMap wc)) (hL : L.length < 1073741824)
    (k : ∀ r h', Owns h' r 103 4 (L.flatMap wc) → Ext h h' → (∀ b, r.blk = some b → h.size ≤ b) → Q r h') : F.slices_Clone_Slchain_version_spatelaw5_Wide_chain_version_spatelaw5_Wide s h Q := by
  have hl := rd_len wc_len (by omega) rd
  unfold F.slices_Clone_Slchain_version_spatelaw5_Wide_chain_version_spatelaw5_Wide
  refine ⟨fun g => ?_, fun g => ?_⟩
  · have h0 := (rd.2.1 (by simpa using g)).1
    have : L = [] := List.eq_nil_of_length_eq_zero (by omega)
    subst this
    exact k _ h (Owns.nil _ _ _) (.refl _) fun b hb => by simp [Sl.blk] at hb
  · refine newL_of fun n h1 e1 e2 e3 e4 => ?_
    refine app_of (ys := L.flatMap wc) elW (blk_owns e2 rfl (Nat.zero_le _)) (rd.only e3 fun _ _ f => f) (fun v hv => by
      obtain ⟨x, _, hx⟩ := List.mem_flatMap.1 hv
      exact ones_wc x v hx) (by simp only; omega) fun r h2 r1 r2 r3 r4 => ?_
    refine k r h2 (by simpa using r1) (e3.step r3 fun m hm e => by simp [Sl.blk] at e; omega) fun b hb => ?_
    rcases r4 with r4 | ⟨b', r4, r5⟩
    · rw [r4] at hb; simp [Sl.blk] at hb; omega
    · rw [r4] at hb; cases hb; omega
theorem AllW_spec {h : H} {p : Nat} {L : List Ver} {B : Option Nat} {Q : Value → H → Prop} (c : CW h p L B) (hL : L.length < 1073741824)
    (k : ∀ a r h', Blk h' a #[r.enc] 84 → Owns h' r 103 4 (L.flatMap wc) → h.size ≤ a → (∀ b, r.blk = some b → h.size ≤ b ∧ b ≠ a) → Ext h h' → Q (.func (.func 69) #[] #[.pointer (some ⟨a, 0, none⟩)]) h') : F.chain_Chain_spatelaw5_Wide_All (some ⟨p, 0, none⟩) h Q := by
  obtain ⟨s, hb, ho, hB, hne⟩ := c
  have hc0 : cellH h ⟨p, 0, none⟩ = some s.enc := hb.cell rfl
  simp only [F.chain_Chain_spatelaw5_Wide_All, nn_some, add_lit, Nat.add_zero, ldL_iff hc0]
  refine CloneW_spec ho.reads hL fun r h1 r1 r2 r3 => ?_
  refine new_of fun n h2 e1 e2 e3 e4 => ?_
  refine stH_of e2 (by simp) fun h3 f1 f2 f3 => ?_
  rw [writeA_all (by simp)] at f1
  have hs := r2.size
  have ho2 := r1.only e3 fun _ _ f => f
  have hne2 : ∀ b, r.blk = some b → b ≠ n := fun b hb e => by have := r1.blk_lt hb; omega
  exact k n r h3 f1 (ho2.only f2 hne2) (by omega) (fun b hb => ⟨r3 b hb, hne2 b hb⟩) ((r2.trans e3).step f2 fun m hm e => by omega)
theorem TwinW_spec {h : H} {p : Nat} {L : List Ver} {B : Option Nat} {Q : Option Addr → H → Prop} (c : CW h p L B) (hL : L.length < 1073741824) (k : ∀ q h' B', h.size ≤ q → CW h' q L B' → Ext h h' → (∀ b, B' = some b → h.size ≤ b) → Q (some ⟨q, 0, none⟩) h') : F.chain_Chain_spatelaw5_Wide_Twin (some ⟨p, 0, none⟩) h Q := by
  obtain ⟨s, hb, ho, hB, hne⟩ := c
  have hc0 : cellH h ⟨p, 0, none⟩ = some s.enc := hb.cell rfl
  simp only [F.chain_Chain_spatelaw5_Wide_Twin, nn_some, add_lit, Nat.add_zero, ldL_iff hc0]
  refine CloneW_spec ho.reads hL fun r h1 r1 r2 r3 => ?_
  refine new_of fun n h2 e1 e2 e3 e4 => ?_
  have hs := r2.size
  have hne2 : r.blk ≠ some n := fun e => by have := r1.blk_lt e; omega
  exact k n h2 r.blk (by omega) ⟨r, e2, r1.ext e3, rfl, hne2⟩ (r2.trans e3) r3
theorem allW_core {h1 : H} {a l : Nat} {r : Sl} {L : List Ver} {js : List Code} {R : LoopState → Option Code → Obj} {BB : Nat → Int → Bool → H → (H → Prop) → (Nat → H → Prop) → Prop} {Kn : H → Prop} {Kj : Nat → H → Prop} (I : Nat → H → Prop) (E : Nat → H → Prop) (hL : L.length < 1073741824)
    (hst : ∀ i h' h'', I i h' → Only (· = l) h' h'' → I i h'') (hstE : ∀ j h' h'', E j h' → Only (· = l) h' h'' → E j h'') (hown : ∀ i h', I i h' → Blk h' a #[r.enc] 84 ∧ Owns h' r 103 4 (L.flatMap wc))
    (hB : ∀ (X : Obj) (i : Nat) (x : Ver) (h5 : H) (K : H → Prop) (J : Nat → H → Prop), I i h5 → h5[l]? = some X → L[i]? = some x → (∀ h2, I (i + 1) h2 → h2[l]? = some X → K h2) → (∀ j h2, E j h2 → h2[l]? = some X → J j h2) → BB l x.epoch (!x.dead) h5 K J)
    (hn : ∀ h', I L.length h' → Kn h') (hj : ∀ j h', E j h' → ∃ c, js[j]? = some c ∧ Kj j h')
    (hy : yields PP R l js (fun bg l args h' K J => ∃ (e : Int), ∃ (is : Bool), args = [.int .i64 e, .bool is] ∧ bg h' fun h5 => BB l e is h5 K J)) (h0 : I 0 h1) (hr : h1[l]? = some (R .ready none)) :
    F.chain_Chain_spatelaw5_Wide_All_1 (.func (.yield l) #[] #[]) ⟨a, 0, none⟩ h1 (rngEnd R l js Kn Kj) := by
  unfold F.chain_Chain_spatelaw5_Wide_All_1
  obtain ⟨b0, o0⟩ := hown 0 h1 h0
  rw [ldL_iff (b0.cell (i := 0) rfl)]
  have hrl := own_len wc_len (by omega) o0
  refine ⟨L.length + 1, ?_⟩
  rw [hrl]
  have key : ∀ (m i : Nat) (h' : H), i ≤ L.length → L.length - i < m → I i h' → h'[l]? = some (R .ready none) → F.chain_Chain_spatelaw5_Wide_All_1.l1 (rngEnd R l js Kn Kj) m (.func (.yield l) #[] #[]) r (L.length : Int) (i : Int) h' := by
    intro m
    induction m with
    | zero => intro i h' _ hm; omega
    | succ m ih =>
      intro i h' hi hm hI hrd
      unfold F.chain_Chain_spatelaw5_Wide_All_1.l1
      simp only [decide_eq_true_eq, decide_eq_false_iff_not]
      refine ⟨fun g => ?_, fun g => ?_⟩
      · obtain ⟨x, hx⟩ : ∃ x, L[i]? = some x := ⟨_, List.getElem?_eq_getElem (by omega)⟩
        obtain ⟨bi, oi⟩ := hown i h' hI
        obtain ⟨bb, a1, a2⟩ := own_at wc_len (by omega) oi hx
        refine idxA_of (i := i) a1 (by omega) rfl ⟨verW x, a2, ?_⟩
        refine new_of fun n h2 e1 e2 e3 e4 => ?_
        refine stH_of e2 (by simp [S_chain_version_spatelaw5_Wide.cells, S_spatelaw5_Wide.cells]) fun h3 f1 f2 f3 => ?_
        rw [writeA_all (by simp [S_chain_version_spatelaw5_Wide.cells, S_spatelaw5_Wide.cells])] at f1
        have x3 : Ext h' h3 := e3.step f2 fun m hm e => by omega
        simp only [add_lit, Nat.zero_add, Nat.add_zero]
        rw [ldI_iff (f1.cell (i := 0) (v := .int .i64 x.epoch) rfl), ldB_iff (f1.cell (i := 3) (v := .bool x.dead) rfl)]
        have hI3 : I i h3 := hst i h' h3 hI x3.only
        have hr3 : h3[l]? = some (R .ready none) := x3.block hrd (fun f => f)
        refine hy h3 _ _ hr3 ⟨x.epoch, !x.dead, rfl, hr3, ?_⟩
        refine hB (R .busy none) i x _ _ _ (hst i h3 _ hI3 (put_only h3 l _)) (put_at hr3) hx (fun h4 hI4 hb4 => ⟨hb4, true, rfl, (fun h => by cases h), fun _ => ?_⟩) (fun j h4 hE hb4 => ?_)
        · rw [show IntKind.wrap .i64 ((i : Int) + 1) = ((i + 1 : Nat) : Int) from by rw [w64 (by omega) (by omega)]; omega]
          exact ih (i + 1) _ (by omega) (by omega) (hst (i + 1) h4 _ hI4 (put_only h4 l _)) (put_at hb4)
        · obtain ⟨c, hc, _⟩ := hj j h4 hE
          refine ⟨c, hc, hb4, false, rfl, fun _ => ?_, fun h => by cases h⟩
          have hE2 := hstE j h4 _ hE (put_only h4 l (R .done (some c)))
          have hp := put_at (o := R .done (some c)) hb4
          obtain ⟨c', hc', hk⟩ := hj j _ (hstE j _ _ hE2 (put_only _ l (R .exhausted (some c))))
          exact .inr ⟨j, c, hc, hp, hk⟩
      · have : i = L.length := by omega
        subst this
        exact .inl ⟨hrd, hn _ (hst _ h' _ hI (put_only h' l _))⟩
  exact key _ 0 h1 (by omega) (by omega) h0 hr
theorem rangeW_all {h : H} {a : Nat} {r : Sl} {L : List Ver} {js : List Code} {BB : Nat → Int → Bool → H → (H → Prop) → (Nat → H → Prop) → Prop} {Kn : H → Prop} {Kj : Nat → H → Prop} (I : Nat → H → Prop) (E : Nat → H → Prop) (hL : L.length < 1073741824)
    (hst : ∀ i h' h'', I i h' → Only (· = h.size + 1) h' h'' → I i h'') (hstE : ∀ j h' h'', E j h' → Only (· = h.size + 1) h' h'' → E j h'') (hown : ∀ i h', I i h' → Blk h' a #[r.enc] 84 ∧ Owns h' r 103 4 (L.flatMap wc))
    (h0 : I 0 (h.push (.deferred (some []))))
    (hB : ∀ (X : Obj) (i : Nat) (x : Ver) (h5 : H) (K : H → Prop) (J : Nat → H → Prop), I i h5 → h5[h.size + 1]? = some X → L[i]? = some x → (∀ h2, I (i + 1) h2 → h2[h.size + 1]? = some X → K h2) → (∀ j h2, E j h2 → h2[h.size + 1]? = some X → J j h2) → BB (h.size + 1) x.epoch (!x.dead) h5 K J)
    (hn : ∀ h', I L.length h' → Kn h') (hj : ∀ j h', E j h' → ∃ c, js[j]? = some c ∧ Kj j h') :
    rng PP (.func (.func 69) #[] #[.pointer (some ⟨a, 0, none⟩)]) h js (fun bg l args h' K J => ∃ (e : Int), ∃ (is : Bool), args = [.int .i64 e, .bool is] ∧ bg h' fun h5 => BB l e is h5 K J) Kn Kj := fun R hR hy => by
  refine ⟨69, #[], #[.pointer (some ⟨a, 0, none⟩)], rfl, fun a w => Try.call69 a w, ?_⟩
  have := F.chain_Chain_spatelaw5_Wide_All_1_ok (allW_core I E hL hst hstE hown hB hn hj hy (h1 := (h.push (.deferred (some []))).push (R .ready none)) (hst 0 _ _ h0 (.push _ _)) (by rw [Array.getElem?_push, if_pos (by simp)]))
  exact this.mono fun r h' ⟨_, q⟩ => q
end Go.Proofs.Ytapomjhjpejimaa.V
