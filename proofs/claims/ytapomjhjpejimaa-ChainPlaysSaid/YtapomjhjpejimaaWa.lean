/- Chains of the law's wide values: the same list of versions, laid in four cells each; their writes, and what is told of them; no condition. -/
import Derived.Test.YtapomjhjpejimaaCp
namespace Go.Proofs.Ytapomjhjpejimaa.V
open Go
set_option linter.unusedVariables false
set_option linter.unusedSimpArgs false

abbrev Wd := S_spatelaw5_Wide
abbrev VerW := S_chain_version_spatelaw5_Wide
def byteI (n : Int) : UInt8 := UInt8.ofNat (IntKind.wrap .u8 n).toNat
def wide0 : Wd := ⟨0, ⟨#[]⟩⟩
def wideV (n : Int) : Wd := ⟨n, ⟨#[byteI n, byteI (Int.fdiv n 256)]⟩⟩
def verW (x : Ver) : VerW := ⟨x.epoch, if x.dead then wide0 else wideV x.value, x.dead⟩
def wc (x : Ver) : List Value := (verW x).cells
theorem wc_len (x : Ver) : (wc x).length = 4 := rfl
theorem ones_wc (x : Ver) : ∀ v ∈ wc x, v.oneCell' = true := ones_S_chain_version_spatelaw5_Wide (verW x)
theorem elW : El PP 84 103 4 40 (.agg #[.int .i64 0, .int .i64 0, .string ⟨#[]⟩, .bool false]) := ⟨Try.underlying84, ⟨Try.t103, by kernel_rfl, by kernel_rfl, by kernel_rfl, by kernel_rfl⟩, rfl, by omega, by omega⟩
/-- A chain of wide values. -/
def CW (h : H) (p : Nat) (L : List Ver) (B : Option Nat) : Prop :=
  ∃ s : Sl, Blk h p #[s.enc] 86 ∧ Owns h s 103 4 (L.flatMap wc) ∧ s.blk = B ∧ B ≠ some p
theorem CW.len {h : H} {s : Sl} {L : List Ver} (o : Owns h s 103 4 (L.flatMap wc)) : s.len = L.length := own_len wc_len (by omega) o
theorem CW.at {h : H} {s : Sl} {L : List Ver} (o : Owns h s 103 4 (L.flatMap wc)) {i : Nat} {x : Ver} (hx : L[i]? = some x) :
    ∃ b, s.ptr = some ⟨b, 0, none⟩ ∧ cellH h ⟨b, i * 4, none⟩ = some (.int .i64 x.epoch) ∧ Cells h ⟨b, i * 4 + 1, none⟩ (verW x).value.cells ∧ cellH h ⟨b, i * 4 + 3, none⟩ = some (.bool x.dead) ∧ Cells h ⟨b, i * 4, none⟩ (verW x).cells := by
  obtain ⟨b, h1, h2⟩ := own_at wc_len (by omega) o hx
  have e : ∀ j v, (wc x)[j]? = some v → cellH h ⟨b, i * 4 + j, none⟩ = some v := fun j v hv => by have := h2 j v hv; rwa [add_lit] at this
  refine ⟨b, h1, e 0 _ rfl, fun j v hv => ?_, e 3 _ rfl, h2⟩
  rw [add_lit]
  match j, hv with
  | 0, hv => simp [S_spatelaw5_Wide.cells] at hv; subst hv; exact e 1 _ rfl
  | 1, hv => simp [S_spatelaw5_Wide.cells] at hv; subst hv; exact e 2 _ rfl
  | j + 2, hv => simp [S_spatelaw5_Wide.cells] at hv
theorem CW.only {S : Nat → Prop} {h h' : H} {p : Nat} {L : List Ver} {B : Option Nat} (c : CW h p L B) (o : Only S h h') (hp : ¬ S p) (hB : ∀ b, B = some b → ¬ S b) : CW h' p L B := by
  obtain ⟨s, h1, h2, h3, h4⟩ := c
  exact ⟨s, o.block h1 hp, h2.only o (by rw [h3]; exact hB), h3, h4⟩
theorem CW.ext {h h' : H} {p : Nat} {L : List Ver} {B : Option Nat} (c : CW h p L B) (o : Ext h h') : CW h' p L B := c.only o (fun f => f) fun _ _ f => f
theorem CW.lt {h : H} {p : Nat} {L : List Ver} {B : Option Nat} (c : CW h p L B) : p < h.size := by obtain ⟨s, h1, _⟩ := c; exact block_lt h1
theorem CW.ltB {h : H} {p : Nat} {L : List Ver} {B : Option Nat} (c : CW h p L B) : ∀ b, B = some b → b < h.size := fun b hb => by
  obtain ⟨s, h1, h2, h3, _⟩ := c; exact h2.blk_lt (by rw [h3]; exact hb)
theorem NewW_spec {h : H} {Q : Option Addr → H → Prop} (k : ∀ p h', p = h.size → CW h' p [] none → Ext h h' → Q (some ⟨p, 0, none⟩) h') : F.chain_New_spatelaw5_Wide h Q := by
  unfold F.chain_New_spatelaw5_Wide
  refine new_of fun n h' e1 e2 e3 e4 => k n h' e1 ⟨⟨none, 0, 0⟩, e2, Owns.nil _ _ _, rfl, by simp⟩ e3
theorem mayW_spec {h : H} {p : Nat} {L : List Ver} {B : Option Nat} {e : Int} {Q : Int → H → Prop} (c : CW h p L B) (hL : L.length < 4294967296) (k : Q (mayM L e) h) : F.chain_Chain_spatelaw5_Wide_may (some ⟨p, 0, none⟩) e h Q := by
  obtain ⟨s, hb, ho, hB, hne⟩ := c
  have hl := CW.len ho
  have hc0 : cellH h ⟨p, 0, none⟩ = some s.enc := hb.cell rfl
  unfold mayM at k
  simp only [F.chain_Chain_spatelaw5_Wide_may, F.chain_Chain_spatelaw5_Wide_may.j1, F.chain_Chain_spatelaw5_Wide_may.j2, nn_some, add_lit, Nat.add_zero, ldL_iff hc0, decide_eq_true_eq, decide_eq_false_iff_not, hl]
  refine ⟨fun g => ⟨fun _ => by rw [if_pos (.inl g)] at k; exact k, fun h => by cases h⟩, fun g => ⟨fun g2 => by rw [if_pos (.inr g2)] at k; exact k, fun g2 => ?_⟩⟩
  rw [if_neg (by omega)] at k
  by_cases hn : L = []
  · subst hn
    simp at k ⊢
    exact k
  · have hpos : 0 < L.length := List.length_pos_iff.2 hn
    obtain ⟨b, h1, h2, _⟩ := CW.at ho (last_get hn)
    refine ⟨fun _ => ?_, fun h => by omega⟩
    refine idxA_of (i := L.length - 1) h1 (by omega) (by rw [w64 (by omega) (by omega)]; omega) ?_
    simp only [add_lit, Nat.add_zero]
    rw [ldI_iff h2]
    have hle : lastE L = (L.getLast hn).epoch := by unfold lastE; rw [List.getLast?_eq_some_getLast hn]
    rw [← hle]
    by_cases hlt : e < lastE L
    · rw [if_pos ⟨hn, hlt⟩] at k; exact ⟨fun _ => k, fun h => absurd hlt h⟩
    · rw [if_neg (fun h => hlt h.2)] at k; exact ⟨fun h => absurd h hlt, fun _ => k⟩
theorem layW_spec {h : H} {p : Nat} {L : List Ver} {B : Option Nat} {x : Ver} {Q : Int → H → Prop} (c : CW h p L B) (hL : L.length < 4294967296)
    (k : ∀ h' B', CW h' p (layM L x) B' → Only (FP p B) h h' → Kin h.size B B' → Q (layN L x) h') : F.chain_Chain_spatelaw5_Wide_lay (some ⟨p, 0, none⟩) (verW x) h Q := by
  have hp := c.lt
  unfold F.chain_Chain_spatelaw5_Wide_lay
  refine new_of fun n h1 e1 e2 e3 e4 => ?_
  have c1 := c.ext e3
  obtain ⟨s, hb, ho, hB, hne⟩ := c1
  have hl := CW.len ho
  have hc0 : cellH h1 ⟨p, 0, none⟩ = some s.enc := hb.cell rfl
  have hx0 : cellH h1 ⟨n, 0, none⟩ = some (.int .i64 x.epoch) := e2.cell rfl
  have hxc : Cells h1 ⟨n, 0, none⟩ (verW x).cells := fun j v hv => by rw [add_lit, Nat.zero_add]; exact e2.cell (by simpa using hv)
  -- the new version is appended
  have happ : ¬ (L ≠ [] ∧ lastE L = x.epoch) → F.chain_Chain_spatelaw5_Wide_lay.j1 Q (some ⟨p, 0, none⟩) ⟨n, 0, none⟩ h1 := fun hno => by
    unfold F.chain_Chain_spatelaw5_Wide_lay.j1
    simp only [nn_some, add_lit, Nat.add_zero]
    rw [ldL_iff hc0]
    refine ⟨verW x, hxc, ?_⟩
    refine newL_of fun n2 h2 f1 f2 f3 f4 => ?_
    refine ⟨f3.cell hc0 (fun f => f), ?_⟩
    refine app_of (ys := (verW x).cells) elW (ho.only f3 (fun _ _ f => f)) (blk_reads (by simpa using f2) rfl) (ones_wc x) (by simp only; omega) fun r h3 r1 r2 r3 r4 => ?_
    have hb3 : Blk h3 p #[s.enc] 86 := r3.block (f3.block hb (fun f => f)) (by rw [hB]; exact hne)
    refine stH_of hb3 (by simp) fun h4 g1 g2 g3 => ?_
    have hr1 : r.blk ≠ some p := by
      rcases r4 with r4 | ⟨b, r4, r5⟩
      · rw [r4, hB]; exact hne
      · rw [r4]; intro e; cases e; omega
    have hm : layM L x = L ++ [x] := if_neg hno
    have hn : layN L x = 1 := if_neg hno
    rw [← hn]
    refine k h4 r.blk ⟨r, g1, ?_, rfl, hr1⟩ ?_ ?_
    · rw [hm, List.flatMap_append]
      exact (by simpa [wc] using r1 : Owns h3 r 103 4 (L.flatMap wc ++ wc x)).only g2 (fun b hb e => hr1 (by rw [hb, e])) |> (by simpa using ·)
    · refine (((e3.only (S := FP p B)).ext f3).trans r3 fun m _ e => .inr (by rw [← hB]; exact e)).trans g2 fun m _ e => .inl e
    · rcases r4 with r4 | ⟨b, r4, r5⟩
      · exact .inl (by rw [r4, hB])
      · exact .inr (.inr ⟨b, r4, by omega⟩)
  -- the newest version is written anew
  have hset : L ≠ [] ∧ lastE L = x.epoch → F.chain_Chain_spatelaw5_Wide_lay.j2 Q (some ⟨p, 0, none⟩) ⟨n, 0, none⟩ (L.length : Int) true h1 := fun hyes => by
    have hpos : 0 < L.length := List.length_pos_iff.2 hyes.1
    obtain ⟨b, a1, a2, a3, a4, a5⟩ := CW.at ho (last_get hyes.1)
    refine ⟨fun _ => ?_, fun h => by cases h⟩
    simp only [nn_some, add_lit, Nat.add_zero]
    rw [ldL_iff hc0]
    refine ⟨verW x, hxc, ?_⟩
    refine idxA_of (i := L.length - 1) a1 (by omega) (by rw [w64 (by omega) (by omega)]; omega) ?_
    have hfl := flat_len wc 4 wc_len L
    refine own_set ho a1 (by rw [hfl]; show _ + (wc x).length ≤ _; rw [wc_len]; omega) fun h4 g1 g2 g3 => ?_
    have hm : layM L x = L.dropLast ++ [x] := if_pos hyes
    have hn : layN L x = 0 := if_pos hyes
    rw [← hn]
    refine k h4 B ⟨s, g2.block hb (by rw [hB]; exact hne), ?_, hB, hne⟩ ((e3.only (S := FP p B)).trans g2 fun m _ e => .inr (by rw [← hB]; exact e)) (.inl rfl)
    rw [hm, List.flatMap_append]
    have e1 : (L.flatMap wc).take ((L.length - 1) * 4) = L.dropLast.flatMap wc := by
      have hd : L = L.dropLast ++ [L.getLast hyes.1] := (List.dropLast_concat_getLast hyes.1).symm
      have hdl := flat_len wc 4 wc_len L.dropLast
      rw [List.length_dropLast] at hdl
      conv => lhs; rw [hd, List.flatMap_append]
      rw [show ((L.dropLast ++ [L.getLast hyes.1]).length - 1) = L.length - 1 from by simp]
      rw [← hdl, List.take_left]
    have e2 : (L.flatMap wc).drop ((L.length - 1) * 4 + (verW x).cells.length) = [] := by
      apply List.drop_eq_nil_of_le
      rw [hfl]; show _ ≤ _ + (wc x).length; rw [wc_len]; omega
    rw [e1, e2] at g1
    simpa [wc] using g1
  simp only [nn_some, add_lit, Nat.add_zero, ldL_iff hc0, hl]
  by_cases hn : L = []
  · refine ⟨fun g => ?_, fun g => ⟨(fun h => by cases h), fun _ => happ fun h => h.1 hn⟩⟩
    rw [decide_eq_true_iff] at g; subst hn; simp at g
  · have hpos : 0 < L.length := List.length_pos_iff.2 hn
    refine ⟨fun g => ?_, fun g => by rw [decide_eq_false_iff_not] at g; omega⟩
    obtain ⟨b, a1, a2, a3, a4, a5⟩ := CW.at ho (last_get hn)
    refine idxA_of (i := L.length - 1) a1 (by omega) (by rw [w64 (by omega) (by omega)]; omega) ?_
    simp only [add_lit, Nat.add_zero]
    rw [ldI_iff a2, ldI_iff hx0]
    have hle : lastE L = (L.getLast hn).epoch := by unfold lastE; rw [List.getLast?_eq_some_getLast hn]
    rw [← hle]
    by_cases he : lastE L = x.epoch
    · rw [show (lastE L == x.epoch) = true from by simp [he]]
      exact hset ⟨hn, he⟩
    · rw [show (lastE L == x.epoch) = false from by simp [he]]
      exact ⟨fun h => (by cases h), fun _ => happ fun h => he h.2⟩
theorem PutW_spec {h : H} {p : Nat} {L : List Ver} {B : Option Nat} {e v : Int} {Q : Int → Int → H → Prop} (c : CW h p L B) (hL : L.length < 4294967296)
    (k0 : mayM L e ≠ 0 → ∀ h', Ext h h' → Q 0 (mayM L e) h')
    (k1 : mayM L e = 0 → ∀ h' B', CW h' p (layM L ⟨e, v, false⟩) B' → Only (FP p B) h h' → Kin h.size B B' → Q (layN L ⟨e, v, false⟩) 0 h') : F.chain_Chain_spatelaw5_Wide_Put (some ⟨p, 0, none⟩) e (wideV v) h Q := by
  unfold F.chain_Chain_spatelaw5_Wide_Put
  refine new_of fun n h1 e1 e2 e3 e4 => ?_
  have hs := e3.size
  refine mayW_spec (c.ext e3) hL ⟨fun g => k0 (by simpa using g) h1 e3, fun g => ⟨wideV v, fun j v hv => by rw [add_lit, Nat.zero_add]; exact e2.cell (by simpa using hv), ?_⟩⟩
  refine layW_spec (x := ⟨e, v, false⟩) (c.ext e3) hL fun h' B' q1 q2 q3 => k1 (by simpa using g) h' B' q1 ((e3.only (S := FP p B)).trans q2 fun m _ e => e) (q3.le hs)
theorem LenW_spec {h : H} {p : Nat} {L : List Ver} {B : Option Nat} {Q : Int → H → Prop} (c : CW h p L B) (k : Q (L.length : Int) h) : F.chain_Chain_spatelaw5_Wide_Len (some ⟨p, 0, none⟩) h Q := by
  obtain ⟨s, hb, ho, hB, hne⟩ := c
  have hl := CW.len ho
  have hc0 : cellH h ⟨p, 0, none⟩ = some s.enc := hb.cell rfl
  simp only [F.chain_Chain_spatelaw5_Wide_Len, nn_some, add_lit, Nat.add_zero, ldL_iff hc0, hl]
  exact k
/-- What Newest tells of wide values. -/
def newW (L : List Ver) : Wd := match L.getLast? with | some x => (verW x).value | none => wide0
theorem cells_blk {h : H} {n : Nat} {c : List Value} {e : TypeId} (b : Blk h n c.toArray e) : Cells h ⟨n, 0, none⟩ c := fun j v hv => by rw [add_lit, Nat.zero_add]; exact b.cell (by simpa using hv)
theorem wcell_len (x : Wd) : x.cells.length = 2 := rfl
theorem NewestW_spec {h : H} {p : Nat} {L : List Ver} {B : Option Nat} {Q : Wd → Int → Bool → H → Prop} (c : CW h p L B) (hL : L.length < 4294967296)
    (k : ∀ h', Ext h h' → Q (newW L) (newestM L).2.1 (newestM L).2.2 h') : F.chain_Chain_spatelaw5_Wide_Newest (some ⟨p, 0, none⟩) h Q := by
  unfold F.chain_Chain_spatelaw5_Wide_Newest
  refine new_of fun n h1 e1 e2 e3 e4 => ?_
  obtain ⟨s, hb, ho, hB, hne⟩ := c.ext e3
  have hl := CW.len ho
  have hc0 : cellH h1 ⟨p, 0, none⟩ = some s.enc := hb.cell rfl
  simp only [nn_some, add_lit, Nat.add_zero, ldL_iff hc0, hl]
  have e2' : Blk h1 n (wide0.cells).toArray 60 := e2
  by_cases hn : L = []
  · subst hn
    refine ⟨fun _ => ⟨wide0, cells_blk e2', ?_⟩, fun g => by simp at g⟩
    refine stH_of e2' (by simp [wcell_len]) fun h2 f1 f2 f3 => ?_
    rw [writeA_all (by simp)] at f1
    exact ⟨wide0, cells_blk f1, k h2 (e3.step f2 fun m hm e => by omega)⟩
  · have hpos : 0 < L.length := List.length_pos_iff.2 hn
    refine ⟨fun g => by rw [beq_iff_eq] at g; omega, fun _ => ?_⟩
    obtain ⟨b, a1, a2, a3, a4, a5⟩ := CW.at ho (last_get hn)
    refine idxA_of (i := L.length - 1) a1 (by omega) (by rw [w64 (by omega) (by omega)]; omega) ?_
    refine ⟨verW (L.getLast hn), a5, ?_⟩
    refine new_of fun m h2 f1 f2 f3 f4 => ?_
    refine ⟨a5.ext f3, f3.cell hc0 (fun f => f), f3.cell hc0 (fun f => f), ?_⟩
    refine stH_of f2 (by show 0 + (wc _).length ≤ _; rw [wc_len]; simp [S_chain_version_spatelaw5_Wide.cells, S_spatelaw5_Wide.cells]) fun h3 g1 g2 g3 => ?_
    rw [writeA_all (by show (wc _).length = _; rw [wc_len]; simp [S_chain_version_spatelaw5_Wide.cells, S_spatelaw5_Wide.cells])] at g1
    have g1' := cells_blk g1
    simp only [add_lit, Nat.zero_add, Nat.add_zero]
    have v1 : Cells h3 ⟨m, 1, none⟩ (verW (L.getLast hn)).value.cells := fun j v hv => by
      rw [add_lit]
      have := g1' (1 + j) v (by
        match j, hv with
        | 0, hv => exact hv
        | 1, hv => exact hv
        | j + 2, hv => simp [S_spatelaw5_Wide.cells] at hv)
      rwa [add_lit, Nat.zero_add] at this
    have c0 : cellH h3 ⟨m, 0, none⟩ = some (.int .i64 (L.getLast hn).epoch) := g1' 0 _ rfl
    have c3 : cellH h3 ⟨m, 3, none⟩ = some (.bool (L.getLast hn).dead) := by have := g1' 3 (.bool (L.getLast hn).dead) rfl; rwa [add_lit, Nat.zero_add] at this
    refine ⟨(verW (L.getLast hn)).value, v1, ?_⟩
    show ldI .i64 h3 ⟨m, 0, none⟩ _
    rw [ldI_iff c0, ldB_iff c3]
    have hnm : n ≠ m := by omega
    have b2 : Blk h3 n (wide0.cells).toArray 60 := g2.block (f3.block e2' (fun f => f)) (by omega)
    refine stH_of b2 (by simp [wcell_len]) fun h4 k1 k2 k3 => ?_
    rw [writeA_all (by simp [wcell_len])] at k1
    refine ⟨k2.cell c3 (show ¬ m = n by omega), k2.cell c0 (show ¬ m = n by omega), _, cells_blk k1, ?_⟩
    have hle : newestM L = ((L.getLast hn).value, (L.getLast hn).epoch, !(L.getLast hn).dead) := by unfold newestM; rw [List.getLast?_eq_some_getLast hn]
    have hlw : newW L = (verW (L.getLast hn)).value := by unfold newW; rw [List.getLast?_eq_some_getLast hn]
    have := k h4 (((e3.trans f3).step g2 fun i hi e => by omega).step k2 fun i hi e => by omega)
    rw [hle, hlw] at this
    exact this
theorem KillW_spec {h : H} {p : Nat} {L : List Ver} {B : Option Nat} {e : Int} {Q : Int → Int → H → Prop} (c : CW h p L B) (hL : L.length < 4294967296)
    (k0 : mayM L e ≠ 0 → Q 0 (mayM L e) h)
    (k2 : mayM L e = 0 → (newestM L).2.2 = false → ∀ h', Ext h h' → Q 0 44 h')
    (k1 : mayM L e = 0 → (newestM L).2.2 = true → ∀ h' B', CW h' p (layM L ⟨e, 0, true⟩) B' → Only (FP p B) h h' → Kin h.size B B' → Q (layN L ⟨e, 0, true⟩) 0 h') : F.chain_Chain_spatelaw5_Wide_Kill (some ⟨p, 0, none⟩) e h Q := by
  unfold F.chain_Chain_spatelaw5_Wide_Kill
  refine mayW_spec c hL ⟨fun g => k0 (by simpa using g), fun g => NewestW_spec c hL fun h1 e1 => ?_⟩
  refine new_of fun n h2 f1 f2 f3 f4 => ?_
  refine stH_of f2 (by simp [S_spatelaw5_Wide.cells]) fun h3 g1 g2 g3 => ?_
  have x3 : Ext h h3 := (e1.trans f3).step g2 fun m hm e => by have := e1.size; omega
  refine ⟨fun g4 => k2 (by simpa using g) (by simpa using g4) h3 x3, fun g4 => ?_⟩
  refine layW_spec (x := ⟨e, 0, true⟩) (c.ext x3) hL fun h' B' q1 q2 q3 => k1 (by simpa using g) (by simpa using g4) h' B' q1 ((x3.only (S := FP p B)).trans q2 fun m _ e => e) (q3.le x3.size)
end Go.Proofs.Ytapomjhjpejimaa.V
