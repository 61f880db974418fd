/- One step, and a chain behind a script: what they do to the list of versions; no condition. -/
import Derived.Test.YtapomjhjpejimaaCk
namespace Go.Proofs.Ytapomjhjpejimaa.V
open Go
set_option linter.unusedVariables false
set_option linter.unusedSimpArgs false

def withinM (n m : Int) : Int := if Int.tmod n m < 0 then Int.tmod n m + m else Int.tmod n m
theorem within_eq {n m : Int} {h : H} {Q : Int → H → Prop} (h0 : 0 < m) (h1 : m < 4294967296) (k : 0 ≤ withinM n m → withinM n m < m → Q (withinM n m) h) : F.spatelaw5_within n m h Q := by
  unfold F.spatelaw5_within F.spatelaw5_within.j1
  unfold withinM at k
  have ha : Int.tmod n m < m := Int.tmod_lt_of_pos n h0
  have hb : -m < Int.tmod n m := by
    have := Int.lt_tmod_of_pos n h0
    omega
  simp only [decide_eq_true_eq, decide_eq_false_iff_not]
  refine ⟨by omega, fun g => ?_, fun g => ?_⟩
  · rw [w64 (by omega) (by omega)]
    rw [if_pos g] at k
    exact k (by omega) (by omega)
  · rw [if_neg g] at k
    exact k (by omega) (by omega)
theorem held_spec {h : H} {s : Sl} {E : List Int} {Q : Sl → H → Prop} (rd : Reads h s 1 (E.flatMap cI)) (hc : s.len ≤ s.cap) (k : ∀ r, Reads h r 1 ((E.take 200).flatMap cI) → r.len ≤ r.cap → r.blk = s.blk → Q r h) : F.spatelaw5_held s h Q := by
  unfold F.spatelaw5_held
  have hl := rd_len cI_len (by omega) rd
  rw [hl]
  simp only [decide_eq_true_eq, decide_eq_false_iff_not]
  refine ⟨fun g => ?_, fun g => ?_⟩
  · refine cutL_of (lo := 0) (hi := 200) rfl rfl (by omega) (by omega) ?_
    have := cut_reads cI_len (by omega) rd (lo := 0) (hi := 200) (by omega) (by omega) hc
    exact k _ (by simpa using this) (by simp only [slcut]; omega) slcut_blk
  · exact k s (by rw [List.take_of_length_le (by omega)]; exact rd) hc rfl
/-- The epoch that a step names, near the newest. -/
def nearM (L : List Ver) (a : Int) : Int := IntKind.wrap .i64 (IntKind.wrap .i64 ((newestM L).2.1 + withinM a 9) - 1)
def doM (L : List Ver) (x : Step) (E : List Int) : List Ver :=
  if x.Kind = 1 then putM L x.A x.B else if x.Kind = 2 then killM L x.A else if x.Kind = 7 then putM L (nearM L x.A) x.B else if x.Kind = 8 then killM L (nearM L x.A) else if x.Kind = 4 then pruneM L (E.take 200) else L
theorem rise_do {L : List Ver} (hr : Rise L) (x : Step) (E : List Int) : Rise (doM L x E) := by
  unfold doM
  repeat' split
  · exact rise_put hr _ _
  · exact rise_kill hr _
  · exact rise_put hr _ _
  · exact rise_kill hr _
  · exact rise_prune hr _
  · exact hr
theorem do_len (L : List Ver) (x : Step) (E : List Int) : (doM L x E).length ≤ L.length + 1 := by
  unfold doM
  repeat' split
  · exact put_len _ _ _
  · exact kill_len _ _
  · exact put_len _ _ _
  · exact kill_len _ _
  · have := prune_le L (E.take 200); omega
  · omega
theorem put_ch {h : H} {p : Nat} {L : List Ver} {B : Option Nat} {e v : Int} {Q : Int → Int → H → Prop} (c : Ch h p L B) (hL : L.length < 4294967296) (k : ∀ n g h' B', Ch h' p (putM L e v) B' → Only (FP p B) h h' → Kin h.size B B' → Q n g h') : F.chain_Chain_int_Put (some ⟨p, 0, none⟩) e v h Q := by
  unfold putM at k
  refine Put_spec c hL (fun g => ?_) fun g h' B' q1 q2 q3 => ?_
  · simp only [if_neg g] at k; exact k _ _ h B c (.refl _) (.inl rfl)
  · simp only [if_pos g] at k; exact k _ _ h' B' q1 q2 q3
theorem kill_ch {h : H} {p : Nat} {L : List Ver} {B : Option Nat} {e : Int} {Q : Int → Int → H → Prop} (c : Ch h p L B) (hL : L.length < 4294967296) (k : ∀ n g h' B', Ch h' p (killM L e) B' → Only (FP p B) h h' → Kin h.size B B' → Q n g h') : F.chain_Chain_int_Kill (some ⟨p, 0, none⟩) e h Q := by
  unfold killM at k
  refine Kill_spec c hL (fun g => ?_) (fun g g2 h' x => ?_) fun g g2 h' B' q1 q2 q3 => ?_
  · simp only [if_neg (fun hh : mayM L e = 0 ∧ _ => g hh.1)] at k; exact k _ _ h B c (.refl _) (.inl rfl)
  · simp only [if_neg (fun hh : mayM L e = 0 ∧ (newestM L).2.2 = true => by rw [g2] at hh; cases hh.2)] at k; exact k _ _ h' B (c.ext x) x.only (.inl rfl)
  · simp only [if_pos (⟨g, g2⟩ : mayM L e = 0 ∧ (newestM L).2.2 = true)] at k; exact k _ _ h' B' q1 q2 q3
theorem Kin.le {n m : Nat} {B B' : Option Nat} (k : Kin m B B') (h : n ≤ m) : Kin n B B' := by
  rcases k with k | k | ⟨b, k, g⟩
  · exact .inl k
  · exact .inr (.inl k)
  · exact .inr (.inr ⟨b, k, by omega⟩)
theorem do_spec {h : H} {p : Nat} {L : List Ver} {B : Option Nat} {x : Step} {E : List Int} {Q : H → Prop} (c : Ch h p L B) (hr : Rise L) (hL : L.length < 1073741000) (rd : Reads h x.L 1 (E.flatMap cI)) (hcap : x.L.len ≤ x.L.cap) (hEb : E ≠ [] → ∀ b, x.L.blk = some b → b < h.size)
    (k : ∀ h' B', Ch h' p (doM L x E) B' → Only (FP p B) h h' → Kin h.size B B' → Q h') : F.spatelaw5_do (some ⟨p, 0, none⟩) x h Q := by
  unfold F.spatelaw5_do
  refine new_of fun n h1 e1 e2 e3 e4 => ?_
  refine Newest_spec (c.ext e3) (by omega) fun h3 f3 => ?_
  have x3 := e3.trans f3
  have bl : Blk h3 n x.cells.toArray 50 := f3.block e2 (fun f => f)
  have c3 := c.ext x3
  have hs := x3.size
  have k' : ∀ h' B', Ch h' p (doM L x E) B' → Only (FP p B) h3 h' → Kin h3.size B B' → Q h' := fun h' B' q1 q2 q3 => k h' B' q1 ((x3.only (S := FP p B)).trans q2 fun _ _ e => e) (q3.le hs)
  clear k
  simp only [add_lit, Nat.zero_add, ldI_iff (bl.cell (i := 0) (v := .int .i64 x.Kind) rfl), ldI_iff (bl.cell (i := 1) (v := .int .i64 x.A) rfl), ldI_iff (bl.cell (i := 2) (v := .int .i64 x.B) rfl), ldL_iff (bl.cell (i := 3) (v := x.L.enc) rfl), beq_iff_eq, beq_eq_false_iff_ne]
  unfold doM at k'
  refine ⟨fun g => ?_, fun g => ⟨fun g2 => ?_, fun g2 => ⟨fun g3 => ?_, fun g3 => ⟨fun g4 => ?_, fun g4 => ⟨fun g5 => ?_, fun g5 => ?_⟩⟩⟩⟩⟩
  · simp only [if_pos g] at k'
    exact put_ch c3 (by omega) fun _ _ h' B' q1 q2 q3 => k' h' B' q1 q2 q3
  · simp only [if_neg g, if_pos g2] at k'
    exact kill_ch c3 (by omega) fun _ _ h' B' q1 q2 q3 => k' h' B' q1 q2 q3
  · simp only [if_neg g, if_neg g2, if_pos g3] at k'
    refine within_eq (by omega) (by omega) fun _ _ => ⟨bl.cell (i := 2) rfl, ?_⟩
    exact put_ch c3 (by omega) fun _ _ h' B' q1 q2 q3 => k' h' B' q1 q2 q3
  · simp only [if_neg g, if_neg g2, if_neg g3, if_pos g4] at k'
    refine within_eq (by omega) (by omega) fun _ _ => ?_
    exact kill_ch c3 (by omega) fun _ _ h' B' q1 q2 q3 => k' h' B' q1 q2 q3
  · simp only [if_neg g, if_neg g2, if_neg g3, if_neg g4, if_pos g5] at k'
    refine held_spec (rd.ext x3) hcap fun r r1 r2 r3 => ?_
    have hne : E.take 200 ≠ [] → E ≠ [] := fun h e => h (by rw [e]; rfl)
    exact Prune_spec c3 hr (by omega) (by simp; omega) r1 (fun hn b hb => by have := hEb (hne hn) b (by rw [← r3]; exact hb); omega) fun h' B' q1 q2 q3 => k' h' B' q1 (q2.mono fun _ _ e => .inl e) q3
  · simp only [if_neg g, if_neg g2, if_neg g3, if_neg g4, if_neg g5] at k'
    exact k' h3 B c3 (.refl _) (.inl rfl)
end Go.Proofs.Ytapomjhjpejimaa.V
