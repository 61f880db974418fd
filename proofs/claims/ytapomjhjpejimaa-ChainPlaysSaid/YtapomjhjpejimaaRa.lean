/- The document's chain: the same list of versions; its writes, and what is told of it; no condition. -/
import Derived.Test.YtapomjhjpejimaaCp
namespace Go.Proofs.Ytapomjhjpejimaa.V
open Go
set_option linter.unusedVariables false
set_option linter.unusedSimpArgs false

abbrev VerR := S_spateref5_Version
def verR (x : Ver) : VerR := ⟨x.epoch, x.value, !x.dead⟩
def rc (x : Ver) : List Value := (verR x).cells
theorem rc_len (x : Ver) : (rc x).length = 3 := rfl
theorem ones_rc (x : Ver) : ∀ v ∈ rc x, v.oneCell' = true := ones_S_spateref5_Version (verR x)
theorem elR : El PP 62 89 3 24 (.agg #[.int .i64 0, .int .i64 0, .bool false]) := ⟨Try.underlying62, ⟨Try.t89, by kernel_rfl, by kernel_rfl, by kernel_rfl, by kernel_rfl⟩, rfl, by omega, by omega⟩
theorem cells_blkR {h : H} {n : Nat} {c : List Value} {e : TypeId} (b : Blk h n c.toArray e) : Cells h ⟨n, 0, none⟩ c := fun j v hv => by rw [add_lit, Nat.zero_add]; exact b.cell (by simpa using hv)
def CR (h : H) (p : Nat) (L : List Ver) (B : Option Nat) : Prop :=
  ∃ s : Sl, Blk h p #[s.enc] 64 ∧ Owns h s 89 3 (L.flatMap rc) ∧ s.blk = B ∧ B ≠ some p
theorem CR.len {h : H} {s : Sl} {L : List Ver} (o : Owns h s 89 3 (L.flatMap rc)) : s.len = L.length := own_len rc_len (by omega) o
theorem CR.at {h : H} {s : Sl} {L : List Ver} (o : Owns h s 89 3 (L.flatMap rc)) {i : Nat} {x : Ver} (hx : L[i]? = some x) :
    ∃ b, s.ptr = some ⟨b, 0, none⟩ ∧ cellH h ⟨b, i * 3, none⟩ = some (.int .i64 x.epoch) ∧ cellH h ⟨b, i * 3 + 1, none⟩ = some (.int .i64 x.value) ∧ cellH h ⟨b, i * 3 + 2, none⟩ = some (.bool (!x.dead)) ∧ Cells h ⟨b, i * 3, none⟩ (verR x).cells := by
  obtain ⟨b, h1, h2⟩ := own_at rc_len (by omega) o hx
  have e : ∀ j v, (rc x)[j]? = some v → cellH h ⟨b, i * 3 + j, none⟩ = some v := fun j v hv => by have := h2 j v hv; rwa [add_lit] at this
  exact ⟨b, h1, e 0 _ rfl, e 1 _ rfl, e 2 _ rfl, h2⟩
theorem CR.only {S : Nat → Prop} {h h' : H} {p : Nat} {L : List Ver} {B : Option Nat} (c : CR h p L B) (o : Only S h h') (hp : ¬ S p) (hB : ∀ b, B = some b → ¬ S b) : CR h' p L B := by
  obtain ⟨s, h1, h2, h3, h4⟩ := c
  exact ⟨s, o.block h1 hp, h2.only o (by rw [h3]; exact hB), h3, h4⟩
theorem CR.ext {h h' : H} {p : Nat} {L : List Ver} {B : Option Nat} (c : CR h p L B) (o : Ext h h') : CR h' p L B := c.only o (fun f => f) fun _ _ f => f
theorem CR.lt {h : H} {p : Nat} {L : List Ver} {B : Option Nat} (c : CR h p L B) : p < h.size := by obtain ⟨s, h1, _⟩ := c; exact block_lt h1
theorem CR.ltB {h : H} {p : Nat} {L : List Ver} {B : Option Nat} (c : CR h p L B) : ∀ b, B = some b → b < h.size := fun b hb => by
  obtain ⟨s, h1, h2, h3, _⟩ := c; exact h2.blk_lt (by rw [h3]; exact hb)
def lastR (L : List Ver) : VerR := match L.getLast? with | some x => verR x | none => ⟨0, 0, false⟩
theorem lastR_some {L : List Ver} (hn : L ≠ []) : lastR L = verR (L.getLast hn) := by unfold lastR; rw [List.getLast?_eq_some_getLast hn]
theorem newestR_spec {h : H} {p : Nat} {L : List Ver} {B : Option Nat} {Q : VerR → H → Prop} (c : CR h p L B) (hL : L.length < 4294967296) (k : ∀ h', Ext h h' → Q (lastR L) h') : F.spateref5_Chain_newest (some ⟨p, 0, none⟩) h Q := by
  unfold F.spateref5_Chain_newest
  refine new_of fun n h1 e1 e2 e3 e4 => ?_
  obtain ⟨s, hb, ho, hB, hne⟩ := c.ext e3
  have hl := CR.len ho
  have hc0 : cellH h1 ⟨p, 0, none⟩ = some s.enc := hb.cell rfl
  simp only [nn_some, add_lit, Nat.add_zero, ldL_iff hc0, hl]
  by_cases hn : L = []
  · subst hn
    refine ⟨fun _ => ?_, fun g => by simp at g⟩
    refine stH_of e2 (by simp [S_spateref5_Version.cells]) fun h2 f1 f2 f3 => ?_
    rw [writeA_all (by simp [S_spateref5_Version.cells])] at f1
    exact ⟨_, cells_blkR f1, k h2 (e3.step f2 fun m hm e => by omega)⟩
  · have hpos : 0 < L.length := List.length_pos_iff.2 hn
    refine ⟨fun g => by rw [beq_iff_eq] at g; omega, fun _ => ?_⟩
    obtain ⟨b, a1, a2, a3, a4, a5⟩ := CR.at ho (last_get hn)
    refine idxA_of (i := L.length - 1) a1 (by omega) (by rw [w64 (by omega) (by omega)]; omega) ?_
    refine ⟨verR (L.getLast hn), a5, ?_⟩
    refine stH_of e2 (by simp [S_spateref5_Version.cells]) fun h2 f1 f2 f3 => ?_
    rw [writeA_all (by simp [S_spateref5_Version.cells])] at f1
    refine ⟨_, cells_blkR f1, ?_⟩
    have := k h2 (e3.step f2 fun m hm e => by omega)
    rwa [lastR_some hn] at this
theorem wrongR_spec {h : H} {p : Nat} {L : List Ver} {B : Option Nat} {e : Int} {Q : Int → H → Prop} (c : CR h p L B) (hL : L.length < 4294967296) (k : ∀ h', Ext h h' → Q (mayM L e) h') : F.spateref5_Chain_wrong (some ⟨p, 0, none⟩) e h Q := by
  unfold F.spateref5_Chain_wrong F.spateref5_Chain_wrong.j2 F.spateref5_Chain_wrong.j1
  unfold mayM at k
  simp only [decide_eq_true_eq, decide_eq_false_iff_not]
  have main : ¬ (e < 1 ∨ e > 1099511627776) → F.spateref5_Chain_newest (some ⟨p, 0, none⟩) h fun r2 h1 => (e < r2.Epoch → Q 32 h1) ∧ (¬ e < r2.Epoch → Q 0 h1) := fun g => by
    rw [if_neg g] at k
    refine newestR_spec c hL fun h1 e1 => ?_
    have k := k h1 e1
    by_cases hn : L = []
    · subst hn
      simp only [ne_eq, not_true_eq_false, false_and, if_false] at k
      exact ⟨fun g2 => by simp [lastR] at g2; omega, fun _ => k⟩
    · rw [lastR_some hn]
      have hle : lastE L = (L.getLast hn).epoch := by unfold lastE; rw [List.getLast?_eq_some_getLast hn]
      refine ⟨fun g2 => ?_, fun g2 => ?_⟩
      · rw [if_pos ⟨hn, by rw [hle]; exact g2⟩] at k; exact k
      · rw [if_neg (fun hh => g2 (by rw [hle] at hh; exact hh.2))] at k; exact k
  refine ⟨fun g => ⟨fun _ => ?_, fun h => by cases h⟩, fun g => ⟨fun g2 => ?_, fun g2 => main (by omega)⟩⟩
  · have := k h (.refl _); rwa [if_pos (.inl g)] at this
  · have := k h (.refl _); rwa [if_pos (.inr g2)] at this
theorem layR_spec {h : H} {p : Nat} {L : List Ver} {B : Option Nat} {x : Ver} {Q : Int → H → Prop} (c : CR h p L B) (hL : L.length < 4294967296) (hx1 : 1 ≤ x.epoch)
    (k : ∀ h' B', CR h' p (layM L x) B' → Only (FP p B) h h' → Kin h.size B B' → Q (layN L x) h') : F.spateref5_Chain_lay (some ⟨p, 0, none⟩) (verR x) h Q := by
  have hp := c.lt
  unfold F.spateref5_Chain_lay
  refine new_of fun n h1 e1 e2 e3 e4 => ?_
  have hx0 : cellH h1 ⟨n, 0, none⟩ = some (.int .i64 x.epoch) := e2.cell rfl
  rw [add_lit, Nat.add_zero, ldI_iff hx0]
  refine newestR_spec (c.ext e3) hL fun h5 e5 => ⟨e5.cell hx0 (fun f => f), ?_⟩
  have x5 : Ext h h5 := e3.trans e5
  have hs5 := e5.size
  obtain ⟨s, hb, ho, hB, hne⟩ := c.ext x5
  have hl := CR.len ho
  have hc0 : cellH h5 ⟨p, 0, none⟩ = some s.enc := hb.cell rfl
  have hxc : Cells h5 ⟨n, 0, none⟩ (verR x).cells := (cells_blkR e2).ext e5
  have hlast : (lastR L).Epoch = x.epoch ↔ L ≠ [] ∧ lastE L = x.epoch := by
    by_cases hn : L = []
    · subst hn; simp [lastR]; omega
    · rw [lastR_some hn]
      have hle : lastE L = (L.getLast hn).epoch := by unfold lastE; rw [List.getLast?_eq_some_getLast hn]
      rw [hle]; exact ⟨fun h => ⟨hn, h⟩, fun h => h.2⟩
  simp only [nn_some, add_lit, Nat.add_zero, ldL_iff hc0, hl, beq_iff_eq, beq_eq_false_iff_ne]
  refine ⟨fun g => ?_, fun g => ?_⟩
  · have hyes := hlast.1 g
    have hpos : 0 < L.length := List.length_pos_iff.2 hyes.1
    obtain ⟨b, a1, a2, a3, a4, a5⟩ := CR.at ho (last_get hyes.1)
    refine ⟨verR x, hxc, ?_⟩
    refine idxA_of (i := L.length - 1) a1 (by omega) (by rw [w64 (by omega) (by omega)]; omega) ?_
    have hfl := flat_len rc 3 rc_len L
    refine own_set ho a1 (by rw [hfl]; show _ + (rc x).length ≤ _; rw [rc_len]; omega) fun h4 g1 g2 g3 => ?_
    have hm : layM L x = L.dropLast ++ [x] := if_pos hyes
    have hn : layN L x = 0 := if_pos hyes
    rw [← hn]
    refine k h4 B ⟨s, g2.block hb (by rw [hB]; exact hne), ?_, hB, hne⟩ ((x5.only (S := FP p B)).trans g2 fun m _ e => .inr (by rw [← hB]; exact e)) (.inl rfl)
    rw [hm, List.flatMap_append]
    have e1 : (L.flatMap rc).take ((L.length - 1) * 3) = L.dropLast.flatMap rc := by
      have hd : L = L.dropLast ++ [L.getLast hyes.1] := (List.dropLast_concat_getLast hyes.1).symm
      have hdl := flat_len rc 3 rc_len L.dropLast
      rw [List.length_dropLast] at hdl
      conv => lhs; rw [hd, List.flatMap_append]
      rw [show ((L.dropLast ++ [L.getLast hyes.1]).length - 1) = L.length - 1 from by simp]
      rw [← hdl, List.take_left]
    have e2 : (L.flatMap rc).drop ((L.length - 1) * 3 + (verR x).cells.length) = [] := by
      apply List.drop_eq_nil_of_le
      rw [hfl]; show _ ≤ _ + (rc x).length; rw [rc_len]; omega
    rw [e1, e2] at g1
    simpa [rc] using g1
  · have hno : ¬ (L ≠ [] ∧ lastE L = x.epoch) := fun hh => g (hlast.2 hh)
    refine ⟨verR x, hxc, ?_⟩
    refine newL_of fun n2 h2 f1 f2 f3 f4 => ?_
    refine ⟨f3.cell hc0 (fun f => f), ?_⟩
    refine app_of (ys := (verR x).cells) elR (ho.only f3 (fun _ _ f => f)) (blk_reads (by simpa using f2) rfl) (ones_rc x) (by simp only; omega) fun r h3 r1 r2 r3 r4 => ?_
    have hb3 : Blk h3 p #[s.enc] 64 := r3.block (f3.block hb (fun f => f)) (by rw [hB]; exact hne)
    refine stH_of hb3 (by simp) fun h4 g1 g2 g3 => ?_
    have hr1 : r.blk ≠ some p := by
      rcases r4 with r4 | ⟨b, r4, r5⟩
      · rw [r4, hB]; exact hne
      · rw [r4]; intro e; cases e; omega
    have hm : layM L x = L ++ [x] := if_neg hno
    have hn : layN L x = 1 := if_neg hno
    rw [← hn]
    refine k h4 r.blk ⟨r, g1, ?_, rfl, hr1⟩ ?_ ?_
    · rw [hm, List.flatMap_append]
      exact (by simpa [rc] using r1 : Owns h3 r 89 3 (L.flatMap rc ++ rc x)).only g2 (fun b hb e => hr1 (by rw [hb, e])) |> (by simpa using ·)
    · refine (((x5.only (S := FP p B)).ext f3).trans r3 fun m _ e => .inr (by rw [← hB]; exact e)).trans g2 fun m _ e => .inl e
    · rcases r4 with r4 | ⟨b, r4, r5⟩
      · exact .inl (by rw [r4, hB])
      · exact .inr (.inr ⟨b, r4, by omega⟩)
theorem may_pos {L : List Ver} {e : Int} (h : mayM L e = 0) : 1 ≤ e := by
  unfold mayM at h
  split at h <;> omega
theorem PutR_spec {h : H} {p : Nat} {L : List Ver} {B : Option Nat} {e v : Int} {Q : Int → Int → H → Prop} (c : CR h p L B) (hL : L.length < 4294967296)
    (k0 : mayM L e ≠ 0 → ∀ h', Ext h h' → Q 0 (mayM L e) h')
    (k1 : mayM L e = 0 → ∀ h' B', CR h' p (layM L ⟨e, v, false⟩) B' → Only (FP p B) h h' → Kin h.size B B' → Q (layN L ⟨e, v, false⟩) 0 h') : F.spateref5_Chain_Put (some ⟨p, 0, none⟩) e v h Q := by
  unfold F.spateref5_Chain_Put
  refine wrongR_spec c hL fun h1 e1 => ⟨fun g => k0 (by simpa using g) h1 e1, fun g => ?_⟩
  have g0 : mayM L e = 0 := by simpa using g
  exact layR_spec (x := ⟨e, v, false⟩) (c.ext e1) hL (may_pos g0) fun h' B' q1 q2 q3 => k1 g0 h' B' q1 ((e1.only (S := FP p B)).trans q2 fun m _ e => e) (q3.le e1.size)
theorem lastR_new (L : List Ver) : ((lastR L).V_, (lastR L).Epoch, (lastR L).Is) = newestM L := by unfold lastR newestM; cases L.getLast? <;> rfl
theorem KillR_spec {h : H} {p : Nat} {L : List Ver} {B : Option Nat} {e : Int} {Q : Int → Int → H → Prop} (c : CR h p L B) (hL : L.length < 4294967296)
    (k0 : mayM L e ≠ 0 → ∀ h', Ext h h' → Q 0 (mayM L e) h')
    (k2 : mayM L e = 0 → (newestM L).2.2 = false → ∀ h', Ext h h' → Q 0 44 h')
    (k1 : mayM L e = 0 → (newestM L).2.2 = true → ∀ h' B', CR h' p (layM L ⟨e, 0, true⟩) B' → Only (FP p B) h h' → Kin h.size B B' → Q (layN L ⟨e, 0, true⟩) 0 h') : F.spateref5_Chain_Kill (some ⟨p, 0, none⟩) e h Q := by
  unfold F.spateref5_Chain_Kill
  refine wrongR_spec c hL fun h1 e1 => ⟨fun g => k0 (by simpa using g) h1 e1, fun g => ?_⟩
  have g0 : mayM L e = 0 := by simpa using g
  have hl := lastR_new L
  have hI : (lastR L).Is = (newestM L).2.2 := by rw [← hl]
  refine newestR_spec (c.ext e1) hL fun h4 e4 => ?_
  rw [hI]
  have x4 := e1.trans e4
  refine ⟨fun g2 => k2 g0 (by simpa using g2) h4 x4, fun g2 => ?_⟩
  exact layR_spec (x := ⟨e, 0, true⟩) (c.ext x4) hL (may_pos g0) fun h' B' q1 q2 q3 => k1 g0 (by simpa using g2) h' B' q1 ((x4.only (S := FP p B)).trans q2 fun m _ e => e) (q3.le x4.size)
theorem NewestR_spec {h : H} {p : Nat} {L : List Ver} {B : Option Nat} {Q : Int → Int → Bool → H → Prop} (c : CR h p L B) (hL : L.length < 4294967296) (k : ∀ h', Ext h h' → Q (newestM L).1 (newestM L).2.1 (newestM L).2.2 h') : F.spateref5_Chain_Newest (some ⟨p, 0, none⟩) h Q := by
  unfold F.spateref5_Chain_Newest
  refine newestR_spec c hL fun h1 e1 => ?_
  refine new_of fun n h2 f1 f2 f3 f4 => ?_
  refine stH_of f2 (by simp [S_spateref5_Version.cells]) fun h3 g1 g2 g3 => ?_
  rw [writeA_all (by simp [S_spateref5_Version.cells])] at g1
  simp only [add_lit, Nat.zero_add, Nat.add_zero]
  rw [ldI_iff (g1.cell (i := 1) (v := .int .i64 (lastR L).V_) rfl), ldI_iff (g1.cell (i := 0) (v := .int .i64 (lastR L).Epoch) rfl), ldB_iff (g1.cell (i := 2) (v := .bool (lastR L).Is) rfl)]
  have := k h3 ((e1.trans f3).step g2 fun m hm e => by have := e1.size; omega)
  rw [← lastR_new L] at this
  exact this
theorem cnt_lt {L : List Ver} (hr : Rise L) {e : Int} {i : Nat} {x : Ver} (hx : L[i]? = some x) : x.epoch ≤ e ↔ i < cntM L e := by
  have hf := rise_filter hr e
  constructor
  · intro he
    have hi := (List.getElem?_eq_some_iff.1 hx).1
    have hall : (L.take (i + 1)).countP (fun x => decide (x.epoch ≤ e)) = (L.take (i + 1)).length := by
      rw [List.countP_eq_length]
      intro y hy
      obtain ⟨j, hj, rfl⟩ := List.mem_iff_getElem.1 hy
      rw [List.length_take] at hj
      rw [List.getElem_take]
      by_cases hji : j = i
      · subst hji
        obtain ⟨_, h⟩ := List.getElem?_eq_some_iff.1 hx
        rw [h]; simpa using he
      · have := hr.lt (show j < i by omega) (List.getElem?_eq_getElem (by omega)) hx
        simp; omega
    have hle : (L.take (i + 1)).countP (fun x => decide (x.epoch ≤ e)) ≤ cntM L e := List.Sublist.countP_le (List.take_sublist _ _)
    rw [hall, List.length_take] at hle
    omega
  · intro hi
    have hm : x ∈ L.take (cntM L e) := by
      have : (L.take (cntM L e))[i]? = some x := by rw [List.getElem?_take_of_lt hi]; exact hx
      exact List.mem_of_getElem? this
    rw [← hf, List.mem_filter] at hm
    simpa using hm.2
theorem atR_loop {h : H} {p : Nat} {L : List Ver} {B : Option Nat} {e : Int} {Q : Int → H → Prop} (c : CR h p L B) (hr : Rise L) (hL : L.length < 1073741824) (k : Q ((cntM L e : Int) - 1) h) :
    ∀ (m i : Nat), i ≤ L.length → L.length - i < m → F.spateref5_Chain_at.l1 Q m (some ⟨p, 0, none⟩) e (((min i (cntM L e) : Nat) : Int) - 1) (i : Int) h
  | 0, i, hi, hm => by omega
  | m + 1, i, hi, hm => by
    unfold F.spateref5_Chain_at.l1 F.spateref5_Chain_at.j2
    obtain ⟨s, hb, ho, hB, hne⟩ := id c
    have hl := CR.len ho
    have hc0 : cellH h ⟨p, 0, none⟩ = some s.enc := hb.cell rfl
    have hcl : cntM L e ≤ L.length := List.countP_le_length
    simp only [nn_some, add_lit, Nat.add_zero, ldL_iff hc0, hl, decide_eq_true_eq, decide_eq_false_iff_not]
    refine ⟨fun g => ?_, fun g => ?_⟩
    · obtain ⟨x, hx⟩ : ∃ x, L[i]? = some x := ⟨_, List.getElem?_eq_getElem (by omega)⟩
      obtain ⟨b, a1, a2, a3, a4, a5⟩ := CR.at ho hx
      refine idxA_of (i := i) a1 (by omega) rfl ?_
      simp only [add_lit, Nat.add_zero]
      rw [ldI_iff a2]
      have hiff := cnt_lt hr (e := e) hx
      have ih := atR_loop c hr hL k m (i + 1) (by omega) (by omega)
      rw [wrap_succ (by omega)]
      refine ⟨fun g2 => ?_, fun g2 => ?_⟩
      · have := hiff.1 g2
        rw [show (((min (i + 1) (cntM L e) : Nat) : Int) - 1) = (i : Int) from by omega] at ih
        exact ih
      · have : ¬ i < cntM L e := fun hh => g2 (hiff.2 hh)
        rw [show (((min (i + 1) (cntM L e) : Nat) : Int) - 1) = ((min i (cntM L e) : Nat) : Int) - 1 from by omega] at ih
        exact ih
    · rw [show ((min i (cntM L e) : Nat) : Int) = (cntM L e : Int) from by omega]
      exact k
theorem atR_spec {h : H} {p : Nat} {L : List Ver} {B : Option Nat} {e : Int} {Q : Int → H → Prop} (c : CR h p L B) (hr : Rise L) (hL : L.length < 1073741824) (k : Q ((cntM L e : Int) - 1) h) : F.spateref5_Chain_at (some ⟨p, 0, none⟩) e h Q :=
  ⟨L.length + 1, by have := atR_loop c hr hL k (L.length + 1) 0 (by omega) (by omega); simpa using this⟩
theorem AtR_spec {h : H} {p : Nat} {L : List Ver} {B : Option Nat} {e : Int} {Q : Int → Bool → H → Prop} (c : CR h p L B) (hr : Rise L) (hL : L.length < 1073741824)
    (k : Q (atM L e).1 (atM L e).2 h) : F.spateref5_Chain_At (some ⟨p, 0, none⟩) e h Q := by
  unfold F.spateref5_Chain_At
  refine atR_spec c hr hL ?_
  unfold atM at k
  rw [at_last hr e] at k
  obtain ⟨s, hb, ho, hB, hne⟩ := id c
  have hl := CR.len ho
  have hc0 : cellH h ⟨p, 0, none⟩ = some s.enc := hb.cell rfl
  have hcl : cntM L e ≤ L.length := List.countP_le_length
  simp only [F.spateref5_Chain_At.j1, F.spateref5_Chain_At.j2, nn_some, add_lit, Nat.add_zero, ldL_iff hc0, decide_eq_true_eq, decide_eq_false_iff_not]
  refine ⟨fun g => ?_, fun g => ?_⟩
  · rw [if_pos (by omega)] at k; exact ⟨fun _ => k, fun h => by cases h⟩
  · rw [if_neg (by omega)] at k
    obtain ⟨x, hx⟩ : ∃ x, L[cntM L e - 1]? = some x := ⟨_, List.getElem?_eq_getElem (by omega)⟩
    rw [hx] at k
    obtain ⟨b, a1, a2, a3, a4, a5⟩ := CR.at ho hx
    refine idxA_of (i := cntM L e - 1) a1 (by omega) (by omega) ?_
    simp only [add_lit, Nat.add_zero]
    rw [ldB_iff a4]
    cases hd : x.dead with
    | true => simp only [hd] at k; exact ⟨fun _ => k, fun h => by cases h⟩
    | false =>
      simp only [hd] at k
      refine ⟨(fun h => by cases h), fun _ => ?_⟩
      refine idxA_of (i := cntM L e - 1) a1 (by omega) (by omega) ?_
      rw [add_lit, ldI_iff a3]; exact k
end Go.Proofs.Ytapomjhjpejimaa.V
