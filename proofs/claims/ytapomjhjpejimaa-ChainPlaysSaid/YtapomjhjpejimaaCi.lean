/- Two chains side by side, turned alike; the law ChainBook answers true; no condition. -/
import Derived.Test.YtapomjhjpejimaaCh
import Derived.Test.YtapomjhjpejimaaVo
namespace Go.Proofs.Ytapomjhjpejimaa.V
open Go
set_option linter.unusedVariables false
set_option linter.unusedSimpArgs false

/-! ### What Put and Kill do to the list -/
def putM (L : List Ver) (e v : Int) : List Ver := if mayM L e = 0 then layM L ⟨e, v, false⟩ else L
def killM (L : List Ver) (e : Int) : List Ver := if mayM L e = 0 ∧ (newestM L).2.2 = true then layM L ⟨e, 0, true⟩ else L
theorem lay_len (L : List Ver) (x : Ver) : (layM L x).length ≤ L.length + 1 := by
  unfold layM
  split
  · simp <;> omega
  · simp
theorem rise_lay {L : List Ver} (hr : Rise L) {x : Ver} (hm : mayM L x.epoch = 0) : Rise (layM L x) := by
  by_cases hL : L = []
  · subst hL; simp [layM]
  · have hd : L = L.dropLast ++ [L.getLast hL] := (List.dropLast_concat_getLast hL).symm
    have hle : lastE L = (L.getLast hL).epoch := by unfold lastE; rw [List.getLast?_eq_some_getLast hL]
    have hge : lastE L ≤ x.epoch := by
      unfold mayM at hm
      split at hm
      · omega
      · split at hm
        · omega
        · rename_i h; exact Int.not_lt.1 fun h' => h ⟨hL, h'⟩
    have hdl : ∀ y ∈ L.dropLast, y.epoch < lastE L := fun y hy => by
      rw [hd] at hr
      have := (List.pairwise_append.1 hr).2.2 y hy (L.getLast hL) (by simp)
      rw [hle]; exact this
    have hdr : Rise L.dropLast := by rw [hd] at hr; exact (List.pairwise_append.1 hr).1
    unfold layM
    split
    · rename_i h
      refine List.pairwise_append.2 ⟨hdr, by simp, fun y hy z hz => ?_⟩
      simp at hz; subst hz
      have := hdl y hy; omega
    · rename_i h
      have hlt : lastE L < x.epoch := by
        rcases Int.lt_or_eq_of_le hge with h' | h'
        · exact h'
        · exact absurd ⟨hL, h'⟩ h
      refine List.pairwise_append.2 ⟨hr, by simp, fun y hy z hz => ?_⟩
      simp at hz; subst hz
      rw [hd] at hy
      rcases List.mem_append.1 hy with h1 | h1
      · have := hdl y h1; omega
      · simp at h1; subst h1; omega
theorem rise_put {L : List Ver} (hr : Rise L) (e v : Int) : Rise (putM L e v) := by
  unfold putM; split
  · rename_i h; exact rise_lay hr h
  · exact hr
theorem rise_kill {L : List Ver} (hr : Rise L) (e : Int) : Rise (killM L e) := by
  unfold killM; split
  · rename_i h; exact rise_lay hr h.1
  · exact hr
theorem put_len (L : List Ver) (e v : Int) : (putM L e v).length ≤ L.length + 1 := by
  unfold putM; split
  · exact lay_len _ _
  · omega
theorem kill_len (L : List Ver) (e : Int) : (killM L e).length ≤ L.length + 1 := by
  unfold killM; split
  · exact lay_len _ _
  · omega
theorem rise_prune {L : List Ver} (hr : Rise L) (E : List Int) : Rise (pruneM L E) := rise_sub hr (prune_sub L E)

/-! ### Two chains -/
structure Pair (h0 h : H) (p q : Nat) (L M : List Ver) (B C : Option Nat) : Prop where
  l : Ch h p L B
  r : Ch h q M C
  ne : p ≠ q
  nb : B ≠ some q
  nc : C ≠ some p
  dis : ∀ b, B = some b → C ≠ some b
  ext : Ext h0 h
  hp : h0.size ≤ p
  hq : h0.size ≤ q
  hb : ∀ b, B = some b → h0.size ≤ b
  hc : ∀ b, C = some b → h0.size ≤ b
abbrev Two (h0 h : H) (p q : Nat) (L M : List Ver) : Prop := ∃ B C, Pair h0 h p q L M B C
theorem Pair.swap {h0 h : H} {p q : Nat} {L M : List Ver} {B C : Option Nat} (t : Pair h0 h p q L M B C) : Pair h0 h q p M L C B := ⟨t.r, t.l, t.ne.symm, t.nc, t.nb, fun b hb e => t.dis b e hb, t.ext, t.hq, t.hp, t.hc, t.hb⟩
theorem Pair.ext' {h0 h h' : H} {p q : Nat} {L M : List Ver} {B C : Option Nat} (t : Pair h0 h p q L M B C) (e : Ext h h') : Pair h0 h' p q L M B C := ⟨t.l.ext e, t.r.ext e, t.ne, t.nb, t.nc, t.dis, t.ext.trans e, t.hp, t.hq, t.hb, t.hc⟩
/-- What is not the chains' own is turned. -/
theorem Pair.only {S : Nat → Prop} {h0 h h' : H} {p q : Nat} {L M : List Ver} {B C : Option Nat} (t : Pair h0 h p q L M B C) (e : Only S h h') (h1 : ¬ S p) (h2 : ¬ S q) (h3 : ∀ b, B = some b → ¬ S b) (h4 : ∀ b, C = some b → ¬ S b) (h5 : ∀ n, n < h0.size → ¬ S n) : Pair h0 h' p q L M B C :=
  ⟨t.l.only e h1 h3, t.r.only e h2 h4, t.ne, t.nb, t.nc, t.dis, t.ext.step e h5, t.hp, t.hq, t.hb, t.hc⟩
theorem Pair.turn {h0 h h' : H} {p q : Nat} {L L' M : List Ver} {B B' C : Option Nat} (t : Pair h0 h p q L M B C) (q1 : Ch h' p L' B') (q2 : Only (FP p B) h h') (q3 : Kin h.size B B') : Pair h0 h' p q L' M B' C := by
  have hq := t.r.lt
  have hcl := t.r.ltB
  refine ⟨q1, t.r.only q2 (fun e => ?_) (fun b hb e => ?_), t.ne, fun e => ?_, t.nc, fun b hb e => ?_, t.ext.step q2 fun n hn e => ?_, t.hp, t.hq, fun b hb => ?_, t.hc⟩
  · rcases e with e | e
    · exact t.ne e.symm
    · exact t.nb e
  · rcases e with e | e
    · exact t.nc (by rw [hb, e])
    · exact t.dis b e hb
  · rcases q3 with q3 | q3 | ⟨b', q3, q4⟩
    · exact t.nb (by rw [← q3, e])
    · rw [q3] at e; cases e
    · rw [q3] at e; cases e; omega
  · rcases q3 with q3 | q3 | ⟨b', q3, q4⟩
    · exact t.dis b (by rw [← q3]; exact hb) e
    · rw [q3] at hb; cases hb
    · rw [q3] at hb; cases hb; have := hcl _ e; omega
  · rcases e with e | e
    · have := t.hp; omega
    · have := t.hb n e; omega
  · rcases q3 with q3 | q3 | ⟨b', q3, q4⟩
    · exact t.hb b (by rw [← q3]; exact hb)
    · rw [q3] at hb; cases hb
    · rw [q3] at hb; cases hb; have := t.ext.size; omega
theorem Pair.put {h0 h : H} {p q : Nat} {L M : List Ver} {B C : Option Nat} {e v : Int} {Q : Int → Int → H → Prop} (t : Pair h0 h p q L M B C) (hL : L.length < 1073741824) (k : ∀ n g h', (∃ B', Pair h0 h' p q (putM L e v) M B' C) → Only (FP p B) h h' → Q n g h') : F.chain_Chain_int_Put (some ⟨p, 0, none⟩) e v h Q := by
  unfold putM at k
  refine Put_spec t.l (by omega) (fun g => ?_) fun g h' B' q1 q2 q3 => ?_
  · simp only [if_neg g] at k; exact k _ _ h ⟨B, t⟩ (.refl _)
  · simp only [if_pos g] at k; exact k _ _ h' ⟨B', t.turn q1 q2 q3⟩ q2
theorem Pair.kill {h0 h : H} {p q : Nat} {L M : List Ver} {B C : Option Nat} {e : Int} {Q : Int → Int → H → Prop} (t : Pair h0 h p q L M B C) (hL : L.length < 1073741824) (k : ∀ n g h', (∃ B', Pair h0 h' p q (killM L e) M B' C) → Only (FP p B) h h' → Q n g h') : F.chain_Chain_int_Kill (some ⟨p, 0, none⟩) e h Q := by
  unfold killM at k
  refine Kill_spec t.l (by omega) (fun g => ?_) (fun g g2 h' x => ?_) fun g g2 h' B' q1 q2 q3 => ?_
  · simp only [if_neg (fun hh : mayM L e = 0 ∧ _ => g hh.1)] at k; exact k _ _ h ⟨B, t⟩ (.refl _)
  · simp only [if_neg (fun hh : mayM L e = 0 ∧ (newestM L).2.2 = true => by rw [g2] at hh; cases hh.2)] at k; exact k _ _ h' ⟨B, t.ext' x⟩ x.only
  · simp only [if_pos (⟨g, g2⟩ : mayM L e = 0 ∧ (newestM L).2.2 = true)] at k; exact k _ _ h' ⟨B', t.turn q1 q2 q3⟩ q2
theorem Pair.prune {h0 h : H} {p q : Nat} {L M : List Ver} {B C : Option Nat} {held : Sl} {E : List Int} {Q : Int → H → Prop} (t : Pair h0 h p q L M B C) (hr : Rise L) (hL : L.length < 1073741824) (hE : E.length < 1073741824) (rd : Reads h held 1 (E.flatMap cI)) (hlt : E ≠ [] → ∀ b, held.blk = some b → b < h.size)
    (k : ∀ h', (∃ B', Pair h0 h' p q (pruneM L E) M B' C) → Only (· = p) h h' → Q ((L.length : Int) - ((pruneM L E).length : Int)) h') : F.chain_Chain_int_Prune (some ⟨p, 0, none⟩) held h Q :=
  Prune_spec t.l hr hL hE rd hlt fun h' B' q1 q2 q3 => k h' ⟨B', t.turn q1 (q2.mono fun n _ e => .inl e) q3⟩ q2

/-! ### The law ChainBook -/
theorem even_loop {h : H} {s t : Sl} {A : List Int} {Q : Bool → H → Prop} (ls : Reads h s 1 (A.flatMap cI)) (lt : Reads h t 1 (A.flatMap cI)) (hA : A.length ≤ 10000000) (k : Q true h) : ∀ (m i : Nat), i ≤ A.length → A.length - i < m → F.spatelaw5_even.l1 Q m s t (i : Int) h
  | 0, i, _, hm => by omega
  | m + 1, i, hi, hm => by
    unfold F.spatelaw5_even.l1
    have h1 := rd_len cI_len (by omega) ls
    have h2 := rd_len cI_len (by omega) lt
    rw [h1]
    simp only [decide_eq_true_eq, decide_eq_false_iff_not]
    refine ⟨fun g => ?_, fun g => k⟩
    obtain ⟨x, hx⟩ : ∃ x, A[i]? = some x := ⟨_, List.getElem?_eq_getElem (by omega)⟩
    obtain ⟨p, a1, a2, a3⟩ := rd_at cI_len (by omega) ls hx
    refine idxR_of (i := i) a1 (by omega) rfl ?_
    rw [ldI_iff a3.one]
    obtain ⟨p, b1, b2, b3⟩ := rd_at cI_len (by omega) lt hx
    refine idxR_of (i := i) b1 (by omega) rfl ?_
    rw [ldI_iff b3.one, bne_iff_ne, bne_eq_false_iff_eq]
    refine ⟨fun g => absurd rfl g, fun _ => ?_⟩
    rw [show IntKind.wrap .i64 ((i : Int) + 1) = ((i + 1 : Nat) : Int) from by rw [w64 (by omega) (by omega)]; omega]
    exact even_loop ls lt hA k m (i + 1) (by omega) (by omega)
theorem even_spec {h : H} {s t : Sl} {A : List Int} {Q : Bool → H → Prop} (ls : Reads h s 1 (A.flatMap cI)) (lt : Reads h t 1 (A.flatMap cI)) (hA : A.length ≤ 10000000) (k : Q true h) : F.spatelaw5_even s t h Q := by
  unfold F.spatelaw5_even
  rw [rd_len cI_len (by omega) ls, rd_len cI_len (by omega) lt, bne_iff_ne, bne_eq_false_iff_eq]
  exact ⟨fun g => absurd rfl g, fun _ => ⟨A.length + 1, even_loop ls lt hA k _ 0 (by omega) (by omega)⟩⟩
end Go.Proofs.Ytapomjhjpejimaa.V
