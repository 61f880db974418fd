/- Ranging over a chain's sequence; no condition. -/
import Derived.Test.YtapomjhjpejimaaCf
import Derived.Test.YtapomjhjpejimaaVm
namespace Go.Proofs.Ytapomjhjpejimaa.V
open Go
set_option linter.unusedVariables false
set_option linter.unusedSimpArgs false

theorem put_only (h : H) (l : Nat) (o : Obj) : Only (· = l) h (put h l o) := ⟨by simp [put], fun n hn hne => by
  have : ¬ l = n := fun e => hne e.symm
  simp [put, Array.getElem?_setIfInBounds_ne this]⟩
theorem put_at {h : H} {l : Nat} {o x : Obj} (hx : h[l]? = some x) : (put h l o)[l]? = some o := by
  have := (Array.getElem?_eq_some_iff.1 hx).1
  simp [put, this]
/-- What the iterator of a chain does, called with a loop's yield. -/
theorem all_core {h1 : H} {a l : Nat} {r : Sl} {L : List Ver} {js : List Code} {R : LoopState → Option Code → Obj} {BB : Nat → Int → Bool → H → (H → Prop) → (Nat → H → Prop) → Prop} {Kn : H → Prop} {Kj : Nat → H → Prop} (I : Nat → H → Prop) (E : Nat → H → Prop) (hL : L.length < 1073741824)
    (hst : ∀ i h' h'', I i h' → Only (· = l) h' h'' → I i h'') (hstE : ∀ j h' h'', E j h' → Only (· = l) h' h'' → E j h'') (hown : ∀ i h', I i h' → Blk h' a #[r.enc] 72 ∧ Owns h' r 76 3 (L.flatMap (·.cells)))
    (hB : ∀ (X : Obj) (i : Nat) (x : Ver) (h5 : H) (K : H → Prop) (J : Nat → H → Prop), I i h5 → h5[l]? = some X → L[i]? = some x → (∀ h2, I (i + 1) h2 → h2[l]? = some X → K h2) → (∀ j h2, E j h2 → h2[l]? = some X → J j h2) → BB l x.epoch (!x.dead) h5 K J)
    (hn : ∀ h', I L.length h' → Kn h') (hj : ∀ j h', E j h' → ∃ c, js[j]? = some c ∧ Kj j h')
    (hy : yields PP R l js (fun bg l args h' K J => ∃ (e : Int), ∃ (is : Bool), args = [.int .i64 e, .bool is] ∧ bg h' fun h5 => BB l e is h5 K J)) (h0 : I 0 h1) (hr : h1[l]? = some (R .ready none)) :
    F.chain_Chain_int_All_1 (.func (.yield l) #[] #[]) ⟨a, 0, none⟩ h1 (rngEnd R l js Kn Kj) := by
  unfold F.chain_Chain_int_All_1
  obtain ⟨b0, o0⟩ := hown 0 h1 h0
  rw [ldL_iff (b0.cell (i := 0) rfl)]
  have hrl := own_len ver_len (by omega) o0
  refine ⟨L.length + 1, ?_⟩
  rw [hrl]
  have key : ∀ (m i : Nat) (h' : H), i ≤ L.length → L.length - i < m → I i h' → h'[l]? = some (R .ready none) → F.chain_Chain_int_All_1.l1 (rngEnd R l js Kn Kj) m (.func (.yield l) #[] #[]) r (L.length : Int) (i : Int) h' := by
    intro m
    induction m with
    | zero => intro i h' _ hm; omega
    | succ m ih =>
      intro i h' hi hm hI hrd
      unfold F.chain_Chain_int_All_1.l1
      simp only [decide_eq_true_eq, decide_eq_false_iff_not]
      refine ⟨fun g => ?_, fun g => ?_⟩
      · obtain ⟨x, hx⟩ : ∃ x, L[i]? = some x := ⟨_, List.getElem?_eq_getElem (by omega)⟩
        obtain ⟨bi, oi⟩ := hown i h' hI
        obtain ⟨bb, a1, a2⟩ := own_at ver_len (by omega) oi hx
        refine idxA_of (i := i) a1 (by omega) rfl ⟨x, a2, ?_⟩
        refine new_of fun n h2 e1 e2 e3 e4 => ?_
        refine stH_of e2 (by simp [S_chain_version_int.cells]) fun h3 f1 f2 f3 => ?_
        rw [writeA_all (by simp [S_chain_version_int.cells])] at f1
        have x3 : Ext h' h3 := e3.step f2 fun m hm e => by omega
        simp only [add_lit, Nat.zero_add, Nat.add_zero]
        rw [ldI_iff (f1.cell (i := 0) (v := .int .i64 x.epoch) rfl), ldB_iff (f1.cell (i := 2) (v := .bool x.dead) rfl)]
        have hI3 : I i h3 := hst i h' h3 hI x3.only
        have hr3 : h3[l]? = some (R .ready none) := x3.block hrd (fun f => f)
        refine hy h3 _ _ hr3 ⟨x.epoch, !x.dead, rfl, hr3, ?_⟩
        refine hB (R .busy none) i x _ _ _ (hst i h3 _ hI3 (put_only h3 l _)) (put_at hr3) hx (fun h4 hI4 hb4 => ⟨hb4, true, rfl, (fun h => by cases h), fun _ => ?_⟩) (fun j h4 hE hb4 => ?_)
        · rw [show IntKind.wrap .i64 ((i : Int) + 1) = ((i + 1 : Nat) : Int) from by rw [w64 (by omega) (by omega)]; omega]
          exact ih (i + 1) _ (by omega) (by omega) (hst (i + 1) h4 _ hI4 (put_only h4 l _)) (put_at hb4)
        · obtain ⟨c, hc, _⟩ := hj j h4 hE
          refine ⟨c, hc, hb4, false, rfl, fun _ => ?_, fun h => by cases h⟩
          have hE2 := hstE j h4 _ hE (put_only h4 l (R .done (some c)))
          have hp := put_at (o := R .done (some c)) hb4
          obtain ⟨c', hc', hk⟩ := hj j _ (hstE j _ _ hE2 (put_only _ l (R .exhausted (some c))))
          exact .inr ⟨j, c, hc, hp, hk⟩
      · have : i = L.length := by omega
        subst this
        exact .inl ⟨hrd, hn _ (hst _ h' _ hI (put_only h' l _))⟩
  exact key _ 0 h1 (by omega) (by omega) h0 hr
/-- A range over a chain's sequence, outermost: l is the record's place, D that of the block for deferred calls. -/
theorem range_all {h : H} {a : Nat} {r : Sl} {L : List Ver} {js : List Code} {BB : Nat → Int → Bool → H → (H → Prop) → (Nat → H → Prop) → Prop} {Kn : H → Prop} {Kj : Nat → H → Prop} (I : Nat → H → Prop) (E : Nat → H → Prop) (hL : L.length < 1073741824)
    (hst : ∀ i h' h'', I i h' → Only (· = h.size + 1) h' h'' → I i h'') (hstE : ∀ j h' h'', E j h' → Only (· = h.size + 1) h' h'' → E j h'') (hown : ∀ i h', I i h' → Blk h' a #[r.enc] 72 ∧ Owns h' r 76 3 (L.flatMap (·.cells)))
    (h0 : I 0 (h.push (.deferred (some []))))
    (hB : ∀ (X : Obj) (i : Nat) (x : Ver) (h5 : H) (K : H → Prop) (J : Nat → H → Prop), I i h5 → h5[h.size + 1]? = some X → L[i]? = some x → (∀ h2, I (i + 1) h2 → h2[h.size + 1]? = some X → K h2) → (∀ j h2, E j h2 → h2[h.size + 1]? = some X → J j h2) → BB (h.size + 1) x.epoch (!x.dead) h5 K J)
    (hn : ∀ h', I L.length h' → Kn h') (hj : ∀ j h', E j h' → ∃ c, js[j]? = some c ∧ Kj j h') :
    rng PP (.func (.func 43) #[] #[.pointer (some ⟨a, 0, none⟩)]) h js (fun bg l args h' K J => ∃ (e : Int), ∃ (is : Bool), args = [.int .i64 e, .bool is] ∧ bg h' fun h5 => BB l e is h5 K J) Kn Kj := fun R hR hy => by
  refine ⟨43, #[], #[.pointer (some ⟨a, 0, none⟩)], rfl, fun a w => Try.call43 a w, ?_⟩
  have := F.chain_Chain_int_All_1_ok (all_core I E hL hst hstE hown hB hn hj hy (h1 := (h.push (.deferred (some []))).push (R .ready none)) (hst 0 _ _ h0 (.push _ _)) (by rw [Array.getElem?_push, if_pos (by simp)]))
  exact this.mono fun r h' ⟨_, q⟩ => q
/-- .. within a round of another loop, whose record lies at l0. -/
theorem range_allN {h : H} {l0 a : Nat} {r : Sl} {L : List Ver} {js : List Code} {BB : Nat → Int → Bool → H → (H → Prop) → (Nat → H → Prop) → Prop} {Kn : H → Prop} {Kj : Nat → H → Prop} (hl0 : ∃ r, h[l0]? = some (.loop r)) (I : Nat → H → Prop) (E : Nat → H → Prop) (hL : L.length < 1073741824)
    (hst : ∀ i h' h'', I i h' → Only (· = h.size) h' h'' → I i h'') (hstE : ∀ j h' h'', E j h' → Only (· = h.size) h' h'' → E j h'') (hown : ∀ i h', I i h' → Blk h' a #[r.enc] 72 ∧ Owns h' r 76 3 (L.flatMap (·.cells)))
    (h0 : I 0 h)
    (hB : ∀ (X : Obj) (i : Nat) (x : Ver) (h5 : H) (K : H → Prop) (J : Nat → H → Prop), I i h5 → h5[h.size]? = some X → L[i]? = some x → (∀ h2, I (i + 1) h2 → h2[h.size]? = some X → K h2) → (∀ j h2, E j h2 → h2[h.size]? = some X → J j h2) → BB h.size x.epoch (!x.dead) h5 K J)
    (hn : ∀ h', I L.length h' → Kn h') (hj : ∀ j h', E j h' → ∃ c, js[j]? = some c ∧ Kj j h') :
    rngN PP l0 (.func (.func 43) #[] #[.pointer (some ⟨a, 0, none⟩)]) h js (fun bg l args h' K J => ∃ (e : Int), ∃ (is : Bool), args = [.int .i64 e, .bool is] ∧ bg h' fun h5 => BB l e is h5 K J) Kn Kj := ⟨hl0, fun R hR hy => by
  refine ⟨43, #[], #[.pointer (some ⟨a, 0, none⟩)], rfl, fun a w => Try.call43 a w, ?_⟩
  have := F.chain_Chain_int_All_1_ok (all_core I E hL hst hstE hown hB hn hj hy (h1 := h.push (R .ready none)) (hst 0 _ _ h0 (.push _ _)) (by rw [Array.getElem?_push, if_pos rfl]))
  exact this.mono fun r h' ⟨_, q⟩ => q⟩
theorem elI : El PP 24 3 1 8 (.int .i64 0) := ⟨Try.underlying24, ⟨Try.t3, by kernel_rfl, by kernel_rfl, by kernel_rfl, by kernel_rfl⟩, rfl, by omega, by omega⟩
/-! ### told, epochs -/
def codV (x : Ver) : Int := if x.dead then IntKind.wrap .i64 (2 * x.epoch) else IntKind.wrap .i64 (IntKind.wrap .i64 (2 * x.epoch) + 1)
theorem coded_spec {x : Ver} {h : H} {Q : Int → H → Prop} (k : Q (codV x) h) : F.spatelaw5_coded x.epoch (!x.dead) h Q := by
  unfold F.spatelaw5_coded
  unfold codV at k
  cases hd : x.dead with
  | true => rw [hd] at k; exact ⟨(fun h => by cases h), fun _ => k⟩
  | false => rw [hd] at k; exact ⟨fun _ => k, fun h => by cases h⟩
structure TellI (h0 h3 : H) (n2 a : Nat) (r : Sl) (L : List Ver) (M : List Int) (h' : H) : Prop where
  ext : Ext h0 h'
  box : Blk h' a #[r.enc] 72
  row : Owns h' r 76 3 (L.flatMap (·.cells))
  def_ : h'[h3.size]? = some (.deferred (some []))
  out : ∃ s : Sl, Blk h' n2 #[s.enc] 24 ∧ Owns h' s 3 1 (M.flatMap cI) ∧ ∀ b, s.blk = some b → h3.size + 2 ≤ b
  size : h3.size < h'.size
theorem TellI.put {h0 h3 h' h'' : H} {n2 a : Nat} {r : Sl} {L : List Ver} {M : List Int} (t : TellI h0 h3 n2 a r L M h') (o : Only (· = h3.size + 1) h' h'') (e0 : h0.size ≤ h3.size) (hn2 : n2 < h3.size) (ha : a < h3.size) (hr : ∀ b, r.blk = some b → b < h3.size) : TellI h0 h3 n2 a r L M h'' := by
  obtain ⟨s, s1, s2, s3⟩ := t.out
  exact ⟨t.ext.step o fun n hn e => by omega, o.block t.box (by omega), t.row.only o fun b hb e => by have := hr b hb; omega, o.block t.def_ (by omega), ⟨s, o.block s1 (by omega), s2.only o fun b hb e => by have := s3 b hb; omega, s3⟩, by have := t.size; have := o.size; omega⟩
/-- One more number is told. -/
theorem TellI.more {h0 h3 h' : H} {n2 a : Nat} {r : Sl} {L : List Ver} {M : List Int} {x : Int} {X : Obj} {K : H → Prop} (t : TellI h0 h3 n2 a r L M h') (hX : h'[h3.size + 1]? = some X) (e0 : h0.size ≤ n2) (hn2 : n2 < h3.size) (ha : a < h3.size) (hna : n2 ≠ a) (hr : ∀ b, r.blk = some b → b < h3.size ∧ b ≠ n2) (hM : M.length < 10000000000)
    (k : ∀ h2, TellI h0 h3 n2 a r L (M ++ [x]) h2 → h2[h3.size + 1]? = some X → K h2) {y9 : Sl} (hy : cellH h' ⟨n2, 0, none⟩ = some y9.enc) :
    newL h' #[.int .i64 x] 3 1 fun s15 h14 => cellH h14 ⟨n2, 0, none⟩ = some y9.enc ∧ runL PP (Builtin.append_ #[24, 24] 24 #[y9.enc, s15.enc]) h14 fun s18 h17 => stH h17 ⟨n2, 0, none⟩ [s18.enc] fun h19 => K h19 := by
  obtain ⟨s, s1, s2, s3⟩ := t.out
  have : s = y9 := by
    have := s1.cell (i := 0) rfl
    rw [this] at hy; exact enc_inj.1 (by simpa using hy)
  subst this
  have hsz := t.size
  have hXlt := (Array.getElem?_eq_some_iff.1 hX).1
  refine newL_of fun n h1 e1 e2 e3 e4 => ⟨e3.cell hy (fun f => f), ?_⟩
  refine app_list (f := cI) (M := [x]) cI_len (by omega) elI (s2.ext e3) (blk_reads (size := 1) (m := 1) (show Blk h1 n (([x] : List Int).flatMap cI).toArray 3 from e2) rfl) (fun x => one1 rfl) (by simp; omega) fun r2 h2 q1 q2 q3 => ?_
  have o2 : Only (fun b => s.blk = some b) h' h2 := (e3.only (S := fun b => s.blk = some b)).trans q2 fun _ _ e => e
  have b2 : Blk h2 n2 #[s.enc] 24 := o2.block s1 fun e => by have := s3 n2 e; omega
  have hr2 : ∀ b, r2.blk = some b → h3.size + 2 ≤ b := fun b hb => by
    rcases q3 with q3 | ⟨b', q3, q4⟩
    · exact s3 b (by rw [← q3]; exact hb)
    · rw [q3] at hb; cases hb; omega
  refine stH_of b2 (by simp) fun h4 u1 u2 u3 => ?_
  rw [writeA_all (by simp)] at u1
  have o4 : Only (fun b => s.blk = some b ∨ b = n2) h' h4 := (o2.mono fun _ _ e => .inl e).trans u2 fun _ _ e => .inr e
  have hsz4 := o4.size
  refine k h4 ⟨t.ext.step o4 fun m hm e => ?_, o4.block t.box fun e => ?_, t.row.only o4 fun b hb e => ?_, o4.block t.def_ fun e => ?_, ⟨r2, u1, q1.only u2 fun b hb e => by have := hr2 b hb; omega, hr2⟩, by omega⟩ (o4.block hX fun e => ?_)
  · rcases e with e | e
    · have := s3 m e; omega
    · omega
  · rcases e with e | e
    · have := s3 a e; omega
    · omega
  · have := hr b hb
    rcases e with e | e
    · have := s3 b e; omega
    · omega
  · rcases e with e | e
    · have := s3 _ e; omega
    · omega
  · rcases e with e | e
    · have := s3 _ e; omega
    · omega
theorem told_spec {h : H} {p : Nat} {L : List Ver} {B : Option Nat} {Q : Sl → H → Prop} (c : Ch h p L B) (hL : L.length < 1073741824) (k : ∀ r h', Owns h' r 3 1 ((L.map codV).flatMap cI) → Ext h h' → Mine h r → Q r h') : F.spatelaw5_told (some ⟨p, 0, none⟩) h Q := by
  unfold F.spatelaw5_told
  refine new_of fun n2 h1 e1 e2 e3 e4 => ?_
  refine All_spec (c.ext e3) hL fun a r h3 a1 a2 a3 a4 x3 => ⟨.inr (.inl ⟨_, _, _, rfl⟩), (fun h => by cases h), fun _ => ?_⟩
  have hsa : a < h3.size := block_lt a1
  have hsr : ∀ b, r.blk = some b → b < h3.size := fun b hb => a2.blk_lt hb
  have hs1 := e3.size
  have hs3 := x3.size
  have b2 : Blk h3 n2 #[(⟨none, 0, 0⟩ : Sl).enc] 24 := x3.block e2 (fun f => f)
  refine range_all (fun i h' => TellI h h3 n2 a r L ((L.take i).map codV) h') (fun _ _ => False) hL (fun i h' h'' t o => t.put o (by omega) (by omega) hsa hsr) (fun _ _ _ f _ => f) (fun i h' t => ⟨t.box, t.row⟩)
    ⟨(e3.trans x3).trans (.push _ _), Only.block (.push (S := fun _ => False) _ _) a1 (fun f => f), a2.ext (.push _ _), by simp, ⟨⟨none, 0, 0⟩, Only.block (.push (S := fun _ => False) _ _) b2 (fun f => f), Owns.nil _ _ _, fun b hb => by simp [Sl.blk] at hb⟩, by simp⟩ ?_ ?_ (fun _ _ f => f.elim)
  · intro X i x h5 K J t hX hx kK kJ
    obtain ⟨s, s1, s2, s3⟩ := t.out
    have hc := s1.cell (i := 0) rfl
    rw [ldL_iff (n := s) hc]
    refine coded_spec ⟨hc, ?_⟩
    have htk : (L.take (i + 1)).map codV = (L.take i).map codV ++ [codV x] := by rw [List.take_add_one, hx]; simp
    exact t.more hX (by omega) (by omega) hsa (by omega) (fun b hb => ⟨hsr b hb, by have := (a4 b hb).1; omega⟩) (by simp; omega) (fun h2 t2 => kK h2 (by rw [htk]; exact t2)) hc
  · intro h' t
    rw [List.take_length] at t
    obtain ⟨s, s1, s2, s3⟩ := t.out
    rw [ldL_iff (n := s) (s1.cell (i := 0) rfl)]
    refine ⟨t.def_, ?_⟩
    have o := put_only h' h3.size (.deferred none)
    exact k s _ (s2.only o fun b hb e => by have := s3 b hb; omega) (t.ext.step o fun n hn e => by omega) fun b hb => by have := s3 b hb; omega
end Go.Proofs.Ytapomjhjpejimaa.V
