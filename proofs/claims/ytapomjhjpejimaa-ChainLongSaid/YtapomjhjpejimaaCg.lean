/- The law ChainLong answers true, for every input; no condition. -/
import Derived.Test.YtapomjhjpejimaaCf
namespace Go.Proofs.Ytapomjhjpejimaa.V
open Go
set_option linter.unusedVariables false
set_option linter.unusedSimpArgs false

/-! ### The chain that is built -/
def verL (a d t : Nat) : Ver := ⟨((t * a : Nat) : Int), if t % d = 0 then 0 else (t : Int), decide (t % d = 0)⟩
def longL (a d : Nat) : Nat → List Ver
  | 0 => []
  | n + 1 => longL a d n ++ [verL a d (n + 1)]
theorem longL_len (a d : Nat) : ∀ n, (longL a d n).length = n
  | 0 => rfl
  | n + 1 => by simp [longL, longL_len a d n]
theorem mem_longL {a d : Nat} {x : Ver} : ∀ {n : Nat}, x ∈ longL a d n ↔ ∃ t, 1 ≤ t ∧ t ≤ n ∧ x = verL a d t
  | 0 => ⟨(fun h => by cases h), (fun ⟨t, h1, h2, _⟩ => by omega)⟩
  | n + 1 => by
    simp only [longL, List.mem_append, List.mem_singleton, mem_longL (n := n)]
    constructor
    · rintro (⟨t, h1, h2, h3⟩ | h)
      · exact ⟨t, h1, by omega, h3⟩
      · exact ⟨n + 1, by omega, Nat.le_refl _, h⟩
    · rintro ⟨t, h1, h2, h3⟩
      by_cases h : t = n + 1
      · subst h; exact .inr h3
      · exact .inl ⟨t, h1, by omega, h3⟩
theorem rise_longL {a d : Nat} (ha : 0 < a) : ∀ n, Rise (longL a d n)
  | 0 => List.Pairwise.nil
  | n + 1 => by
    refine List.pairwise_append.2 ⟨rise_longL ha n, by simp, fun x hx y hy => ?_⟩
    obtain ⟨t, h1, h2, rfl⟩ := mem_longL.1 hx
    simp only [List.mem_singleton] at hy; subst hy
    have : t * a < (n + 1) * a := Nat.mul_lt_mul_of_pos_right (by omega) ha
    simp only [verL]; omega
theorem last_longL (a d n : Nat) : (longL a d (n + 1)).getLast? = some (verL a d (n + 1)) := by simp [longL]
theorem at_longL {a d n e : Nat} (ha : 0 < a) : atM (longL a d n) (e : Int) = if min n (e / a) = 0 ∨ min n (e / a) % d = 0 then (0, false) else (((min n (e / a) : Nat) : Int), true) := by
  by_cases h0 : min n (e / a) = 0
  · rw [if_pos (.inl h0)]
    unfold atM
    rw [filter_none]
    intro y hy
    obtain ⟨t, h1, h2, rfl⟩ := mem_longL.1 hy
    have hq : e / a = 0 := by omega
    have hlt : e < a := by
      rcases Nat.div_eq_zero_iff.1 hq with h | h
      · omega
      · exact h
    have : 1 * a ≤ t * a := Nat.mul_le_mul_right _ h1
    simp only [verL]; omega
  · generalize hi : min n (e / a) = i at *
    have hmem : verL a d i ∈ longL a d n := mem_longL.2 ⟨i, by omega, by omega, rfl⟩
    have hle : i * a ≤ e := Nat.le_trans (Nat.mul_le_mul_right _ (show i ≤ e / a by omega)) (Nat.div_mul_le_self e a)
    have hl := filter_last (rise_longL (d := d) ha n) (e := (e : Int)) hmem (by simp only [verL]; omega) fun y hy hye => by
      obtain ⟨t, h1, h2, rfl⟩ := mem_longL.1 hy
      simp only [verL] at hye ⊢
      have h3 : t * a ≤ e := by omega
      have h4 : t ≤ e / a := (Nat.le_div_iff_mul_le ha).2 h3
      have : t * a ≤ i * a := Nat.mul_le_mul_right _ (by omega)
      omega
    unfold atM
    rw [hl]
    by_cases hd : i % d = 0
    · simp [verL, hd]
    · simp [verL, hd, h0]
theorem newest_longL {a d n : Nat} : (newestM (longL a d n)).2.1 = ((n * a : Nat) : Int) := by
  cases n with
  | zero => simp [longL, newestM]
  | succ n => unfold newestM; rw [last_longL]; rfl
theorem lastE_longL {a d n : Nat} : lastE (longL a d n) = ((n * a : Nat) : Int) := by
  cases n with
  | zero => simp [longL, lastE]
  | succ n => unfold lastE; rw [last_longL]; rfl

/-! ### A chain of one's own -/
def Cn (h0 h : H) (p : Nat) (L : List Ver) : Prop := ∃ B, Ch h p L B ∧ Ext h0 h ∧ h0.size ≤ p ∧ ∀ b, B = some b → h0.size ≤ b
theorem Cn.ext {h0 h h' : H} {p : Nat} {L : List Ver} (c : Cn h0 h p L) (e : Ext h h') : Cn h0 h' p L := by
  obtain ⟨B, c1, c2, c3, c4⟩ := c
  exact ⟨B, c1.ext e, c2.trans e, c3, c4⟩
theorem Cn.turn {h0 h h' : H} {p : Nat} {L L' : List Ver} {B B' : Option Nat} (c1 : Ch h p L B) (c2 : Ext h0 h) (c3 : h0.size ≤ p) (c4 : ∀ b, B = some b → h0.size ≤ b) (q1 : Ch h' p L' B') (q2 : Only (FP p B) h h') (q3 : Kin h.size B B') : Cn h0 h' p L' := by
  refine ⟨B', q1, c2.step q2 fun n hn e => ?_, c3, fun b hb => ?_⟩
  · rcases e with e | e
    · omega
    · have := c4 n e; omega
  · have := c2.size
    rcases q3 with e | e | ⟨b', e, hge⟩
    · exact c4 b (by rw [← e]; exact hb)
    · rw [e] at hb; cases hb
    · rw [e] at hb; cases hb; omega
theorem Cn.put {h0 h : H} {p : Nat} {L : List Ver} {e v : Int} {Q : Int → Int → H → Prop} (c : Cn h0 h p L) (hL : L.length < 1073741824) (hm : mayM L e = 0) (k : ∀ h', Cn h0 h' p (layM L ⟨e, v, false⟩) → Q (layN L ⟨e, v, false⟩) 0 h') : F.chain_Chain_int_Put (some ⟨p, 0, none⟩) e v h Q := by
  obtain ⟨B, c1, c2, c3, c4⟩ := c
  exact Put_spec c1 (by omega) (fun g => absurd hm g) fun _ h' B' q1 q2 q3 => k h' (Cn.turn c1 c2 c3 c4 q1 q2 q3)
theorem Cn.kill {h0 h : H} {p : Nat} {L : List Ver} {e : Int} {Q : Int → Int → H → Prop} (c : Cn h0 h p L) (hL : L.length < 1073741824) (hm : mayM L e = 0) (hn : (newestM L).2.2 = true) (k : ∀ h', Cn h0 h' p (layM L ⟨e, 0, true⟩) → Q (layN L ⟨e, 0, true⟩) 0 h') : F.chain_Chain_int_Kill (some ⟨p, 0, none⟩) e h Q := by
  obtain ⟨B, c1, c2, c3, c4⟩ := c
  exact Kill_spec c1 (by omega) (fun g => absurd hm g) (fun _ g => by rw [hn] at g; cases g) fun _ _ h' B' q1 q2 q3 => k h' (Cn.turn c1 c2 c3 c4 q1 q2 q3)

/-! ### The law -/
/-- What is asked for, written down. -/
def Ask (h0 h : H) (p : Nat) (L : List Ver) (s : Sl) (E : List Nat) : Prop := Cn h0 h p L ∧ Owns h s 3 1 ((E.map Int.ofNat).flatMap cI) ∧ s.blk ≠ some p ∧ ∀ b, s.blk = some b → h0.size ≤ b
theorem elI : El PP 24 3 1 8 (.int .i64 0) := ⟨Try.underlying24, ⟨Try.t3, by kernel_rfl, by kernel_rfl, by kernel_rfl, by kernel_rfl⟩, rfl, by omega, by omega⟩
/-- The chain that is asked: the whole, or what Prune left. -/
def Good (a d n : Nat) (L : List Ver) (E : List Nat) : Prop := Rise L ∧ L.length ≤ n ∧ (∀ e ∈ E, e < n * a ∧ atM L (e : Int) = atM (longL a d n) (e : Int)) ∧ (L = [] ∨ L.getLast? = (longL a d n).getLast?)
theorem Good.newest {a d n : Nat} {L : List Ver} {E : List Nat} (g : Good a d n L E) : (newestM L).2.1 = (((if L = [] then 0 else n * a : Nat)) : Int) := by
  rcases g.2.2.2 with h | h
  · subst h; simp [newestM]
  · by_cases hL : L = []
    · subst hL; simp [newestM]
    · have h2 := newest_longL (a := a) (d := d) (n := n)
      unfold newestM at h2 ⊢
      rw [h, h2, if_neg hL]
theorem was_all {a d n : Nat} {L : List Ver} {E : List Nat} {h : H} {p : Nat} {h0 : H} {e : Nat} {Q : Bool → H → Prop} (ha : 0 < a) (ha5 : a ≤ 5) (hd : 0 < d) (hn : n ≤ 3000) (g : Good a d n L E) (c : Cn h0 h p L) (he : e ∈ E) (k : ∀ h', Ext h h' → Q true h') : F.spatelaw5_was (some ⟨p, 0, none⟩) (e : Int) (a : Int) (d : Int) h Q := by
  obtain ⟨B, c1, c2, c3, c4⟩ := c
  have hna : n * a ≤ 3000 * 5 := Nat.mul_le_mul hn ha5
  obtain ⟨he1, he2⟩ := g.2.2.1 e he
  have hlt : e / a < n := (Nat.div_lt_iff_lt_mul ha).2 he1
  refine was_spec (nw := if L = [] then 0 else n * a) (i := e / a) c1 g.1 (by have := g.2.1; omega) ha hd (by omega) (by split <;> omega) g.newest ?_ ?_ k
  · have hnn : n * a / a = n := Nat.mul_div_cancel _ ha
    have hnw : ∀ nw, nw = 0 ∨ nw = n * a → e / a = if 0 < nw ∧ nw / a < e / a then nw / a else e / a := fun nw h => by
      rw [if_neg]
      rintro ⟨x, y⟩
      rcases h with h | h
      · omega
      · subst h; omega
    exact hnw _ (by split <;> simp)
  · rw [he2, at_longL ha, Nat.min_eq_right (by omega)]
theorem ask_get {E : List Nat} {i : Nat} (hi : i < E.length) : ∃ e, E[i]? = some e ∧ e ∈ E ∧ (E.map Int.ofNat)[i]? = some (e : Int) :=
  ⟨E[i], List.getElem?_eq_getElem hi, List.getElem_mem hi, by simp [hi]⟩
/-- The second time round, and the end. -/
theorem last_loop {a d n : Nat} {L : List Ver} {E : List Nat} {p : Nat} {h0 : H} {s : Sl} {Q : Bool → H → Prop} (ha : 0 < a) (ha5 : a ≤ 5) (hd : 0 < d) (hd9 : d < 100) (hn : n ≤ 3000) (hE : E.length ≤ 100000) (g : Good a d n L E) (hend : L = [] → n % d = 0) (k : ∀ h', Ext h0 h' → Q true h') :
    ∀ (m i : Nat) (h : H), Ask h0 h p L s E → i ≤ E.length → E.length - i < m → F.spatelaw5_ChainLong.l9 Q m (n : Int) (a : Int) (d : Int) (some ⟨p, 0, none⟩) s (i : Int) h
  | 0, i, h, _, _, hm => by omega
  | m + 1, i, h, ⟨c, ow, hp, hs⟩, hi, hm => by
    unfold F.spatelaw5_ChainLong.l9
    have hl := own_len cI_len (by omega) ow
    rw [List.length_map] at hl
    simp only [decide_eq_true_eq, decide_eq_false_iff_not, hl]
    refine ⟨fun g1 => ?_, fun g1 => ?_⟩
    · obtain ⟨e, _, he, hx⟩ := ask_get (E := E) (i := i) (by omega)
      obtain ⟨b, a1, a2⟩ := own_at cI_len (by omega) ow hx
      refine idxA_of (i := i) a1 (by omega) rfl ?_
      rw [ldI_iff a2.one]
      refine was_all ha ha5 hd hn g c he fun h1 e1 => ⟨(fun h => by cases h), fun _ => ?_⟩
      rw [show IntKind.wrap .i64 ((i : Int) + 1) = ((i + 1 : Nat) : Int) from by rw [w64 (by omega) (by omega)]; omega]
      exact last_loop ha ha5 hd hd9 hn hE g hend k m (i + 1) h1 ⟨c.ext e1, ow.only e1 fun _ _ f => f, hp, hs⟩ (by omega) (by omega)
    · have c0 := c
      obtain ⟨B, c1, c2, c3, c4⟩ := c
      have hna : n * a ≤ 3000 * 5 := Nat.mul_le_mul hn ha5
      have t3 : Int.tmod (n : Int) (d : Int) = ((n % d : Nat) : Int) := Int.ofNat_tmod n d
      rw [beq_iff_eq, beq_eq_false_iff_ne]
      refine ⟨fun _ => k h c2, fun g2 => ?_⟩
      have hwas : ∀ {Q' : Bool → H → Prop}, L ≠ [] → (∀ h', Ext h h' → Q' true h') → F.spatelaw5_was (some ⟨p, 0, none⟩) (IntKind.wrap .i64 (IntKind.wrap .i64 ((n : Int) * (a : Int)) + 7)) (a : Int) (d : Int) h Q' := fun hL k' => by
        have hcast : (n : Int) * (a : Int) = ((n * a : Nat) : Int) := by push_cast; rfl
        rw [hcast, w64 (n := ((n * a : Nat) : Int)) (by omega) (by omega), w64 (by omega) (by omega), show ((n * a : Nat) : Int) + 7 = ((n * a + 7 : Nat) : Int) from by omega]
        have hq : (n * a + 7) / a = n + 7 / a := by rw [Nat.add_comm, Nat.add_mul_div_right _ _ ha, Nat.add_comm]
        have h7 : 1 ≤ 7 / a := (Nat.le_div_iff_mul_le ha).2 (by omega)
        have hnn : n * a / a = n := Nat.mul_div_cancel _ ha
        have hnpos : 0 < n * a := Nat.mul_pos (by omega) ha
        refine was_spec (nw := n * a) (i := n) c1 g.1 (by have := g.2.1; omega) ha hd (by omega) (by omega) (by rw [g.newest, if_neg hL]) (by rw [if_pos (by omega), hnn]) ?_ k'
        rcases g.2.2.2 with h | h
        · exact absurd h hL
        · cases n with
          | zero => omega
          | succ n =>
            rw [last_longL] at h
            have hmem := List.mem_of_getLast? h
            have hmax := filter_last g.1 (e := (((n + 1) * a + 7 : Nat) : Int)) hmem (by simp only [verL]; omega) fun y hy _ => by
              obtain ⟨l, hl⟩ := List.getLast?_eq_some_iff.1 h
              have hr := g.1
              rw [hl] at hy hr
              rcases List.mem_append.1 hy with hm | hm
              · have := (List.pairwise_append.1 hr).2.2 y hm (verL a d (n + 1)) (by simp); omega
              · simp at hm; subst hm; omega
            unfold atM
            rw [hmax]
            by_cases hd0 : (n + 1) % d = 0
            · simp [verL, hd0]
            · simp [verL, hd0]
      refine Len_spec c1 ?_
      rw [beq_iff_eq, beq_eq_false_iff_ne, t3]
      refine ⟨fun g3 => ⟨by omega, fun _ => k h c2, fun g4 => ?_⟩, fun g3 => hwas (fun e => by subst e; simp at g3) fun h1 e1 => ⟨fun _ => k h1 (c2.trans e1), fun h => by cases h⟩⟩
      exfalso
      have := hend (List.eq_nil_of_length_eq_zero (by omega))
      omega
theorem good_long {a d n : Nat} {E : List Nat} (ha : 0 < a) (hE : ∀ e ∈ E, e < n * a) : Good a d n (longL a d n) E := ⟨rise_longL ha n, by rw [longL_len]; omega, fun e he => ⟨hE e he, rfl⟩, .inr rfl⟩
theorem good_prune {a d n : Nat} {E : List Nat} (ha : 0 < a) (hE : ∀ e ∈ E, e < n * a) : Good a d n (pruneM (longL a d n) (E.map Int.ofNat)) E ∧ (pruneM (longL a d n) (E.map Int.ofNat) = [] → n % d = 0) := by
  have hr := rise_longL (d := d) ha n
  refine ⟨⟨rise_sub hr (prune_sub _ _), by have := prune_le (longL a d n) (E.map Int.ofNat); rw [longL_len] at this; exact this, fun e he => ⟨hE e he, prune_at hr (List.mem_map.2 ⟨e, he, rfl⟩)⟩, ?_⟩, fun h => ?_⟩
  · cases n with
    | zero => left; have := (prune_sub (longL a d 0) (E.map Int.ofNat)).length_le; exact List.eq_nil_of_length_eq_zero (by simpa [longL] using this)
    | succ n =>
      have hn : longL a d (n + 1) ≠ [] := by simp [longL]
      rcases prune_last hr hn (E.map Int.ofNat) with ⟨h1, _⟩ | h1
      · exact .inl h1
      · exact .inr (by rw [h1, List.getLast?_eq_some_getLast hn])
  · cases n with
    | zero => simp
    | succ n =>
      have hn : longL a d (n + 1) ≠ [] := by simp [longL]
      have hgl : (longL a d (n + 1)).getLast hn = verL a d (n + 1) := by simp [longL]
      rcases prune_last hr hn (E.map Int.ofNat) with ⟨_, h1⟩ | h1
      · rw [hgl] at h1; simpa [verL] using h1
      · rw [h] at h1; cases h1
/-- The first time round, and Prune. -/
theorem first_loop {a d n : Nat} {E : List Nat} {p : Nat} {h0 : H} {s : Sl} {Q : Bool → H → Prop} (ha : 0 < a) (ha5 : a ≤ 5) (hd : 0 < d) (hd9 : d < 100) (hn : n ≤ 3000) (hEl : E.length ≤ 100000) (hE : ∀ e ∈ E, e < n * a) (k : ∀ h', Ext h0 h' → Q true h') :
    ∀ (m i : Nat) (h : H), Ask h0 h p (longL a d n) s E → i ≤ E.length → E.length - i < m → F.spatelaw5_ChainLong.l7 Q m (n : Int) (a : Int) (d : Int) (some ⟨p, 0, none⟩) s (i : Int) h
  | 0, i, h, _, _, hm => by omega
  | m + 1, i, h, ⟨c, ow, hp, hs⟩, hi, hm => by
    unfold F.spatelaw5_ChainLong.l7
    have hl := own_len cI_len (by omega) ow
    rw [List.length_map] at hl
    simp only [decide_eq_true_eq, decide_eq_false_iff_not, hl]
    refine ⟨fun g1 => ?_, fun g1 => ?_⟩
    · obtain ⟨e, _, he, hx⟩ := ask_get (E := E) (i := i) (by omega)
      obtain ⟨b, a1, a2⟩ := own_at cI_len (by omega) ow hx
      refine idxA_of (i := i) a1 (by omega) rfl ?_
      rw [ldI_iff a2.one]
      refine was_all ha ha5 hd hn (good_long ha hE) c he fun h1 e1 => ⟨(fun h => by cases h), fun _ => ?_⟩
      rw [show IntKind.wrap .i64 ((i : Int) + 1) = ((i + 1 : Nat) : Int) from by rw [w64 (by omega) (by omega)]; omega]
      exact first_loop ha ha5 hd hd9 hn hEl hE k m (i + 1) h1 ⟨c.ext e1, ow.only e1 fun _ _ f => f, hp, hs⟩ (by omega) (by omega)
    · obtain ⟨B, c1, c2, c3, c4⟩ := c
      obtain ⟨gp, ge⟩ := good_prune (d := d) ha hE
      refine Prune_spec c1 (rise_longL ha n) (by rw [longL_len]; omega) (E := E.map Int.ofNat) (by simp; omega) ow.reads (fun b hb => ow.blk_lt hb) fun h1 B1 q1 q2 q3 => ?_
      rw [longL_len]
      have hcn : Cn h0 h1 p (pruneM (longL a d n) (E.map Int.ofNat)) := Cn.turn c1 c2 c3 c4 q1 (q2.mono fun n _ e => .inl e) q3
      have hfew := prune_few (longL a d n) (E.map Int.ofNat)
      rw [List.length_map] at hfew
      have hple := gp.2.1
      generalize pruneM (longL a d n) (E.map Int.ofNat) = R at *
      refine Len_spec q1 ?_
      rw [w64 (by omega) (by omega)]
      have e1 : ((R.length : Int) != (n : Int) - ((n : Int) - (R.length : Int))) = false := by simp; omega
      rw [e1]
      refine ⟨(fun h => by cases h), fun _ => Len_spec q1 ?_⟩
      unfold F.spatelaw5_ChainLong.j10 F.spatelaw5_ChainLong.j8
      rw [w64 (by omega) (by omega), decide_eq_true_iff, decide_eq_false_iff_not]
      refine ⟨fun g => by omega, fun _ => ⟨E.length + 1, ?_⟩⟩
      exact last_loop ha ha5 hd hd9 hn hEl gp ge k _ 0 h1 ⟨hcn, ow.only q2 fun b hb e => hp (by rw [hb, e]), hp, hs⟩ (by omega) (by omega)
/-- What is asked for is written down. -/
theorem ask_loop {a d n ev : Nat} {p : Nat} {h0 : H} {Q : Bool → H → Prop} (ha : 0 < a) (ha5 : a ≤ 5) (hd : 0 < d) (hd9 : d < 100) (hn : n ≤ 3000) (hev : 0 < ev) (hev4 : ev ≤ 400) (k : ∀ h', Ext h0 h' → Q true h') :
    ∀ (m e : Nat) (h : H) (s : Sl) (E : List Nat), Ask h0 h p (longL a d n) s E → (∀ e ∈ E, e < n * a) → E.length ≤ e → (∀ B, Ch h p (longL a d n) B → ∀ b, B = some b → s.blk ≠ some b) → E.length ≤ 15000 → e ≤ 20000 → 16000 - e < m → F.spatelaw5_ChainLong.l6 Q m (n : Int) (a : Int) (d : Int) (ev : Int) (some ⟨p, 0, none⟩) s (e : Int) h
  | 0, e, h, s, E, _, _, _, _, _, _, hm => by omega
  | m + 1, e, h, s, E, ⟨c, ow, hp, hs⟩, hE, hEe, hB, hEl, he2, hm => by
    unfold F.spatelaw5_ChainLong.l6
    have hna : n * a ≤ 3000 * 5 := Nat.mul_le_mul hn ha5
    have hcast : (n : Int) * (a : Int) = ((n * a : Nat) : Int) := by push_cast; rfl
    have hl := own_len cI_len (by omega) ow
    rw [List.length_map] at hl
    rw [hcast, w64 (n := ((n * a : Nat) : Int)) (by omega) (by omega)]
    simp only [decide_eq_true_eq, decide_eq_false_iff_not]
    refine ⟨fun g => ?_, fun g => ?_⟩
    · refine newL_of fun n1 h1 e1 e2 e3 e4 => ?_
      refine app_of (ys := cI (e : Int)) elI (ow.only e3 fun _ _ f => f) (blk_reads (by simpa using e2) rfl) (fun v hv => by simp at hv; subst hv; rfl) (by simp only; omega) fun r h2 r1 r2 r3 r4 => ?_
      rw [show IntKind.wrap .i64 ((e : Int) + (ev : Int)) = ((e + ev : Nat) : Int) from by rw [w64 (by omega) (by omega)]; omega]
      have hp2 : p < h.size := by obtain ⟨B, c1, _⟩ := c; exact c1.lt
      have f2 : Only (fun b => s.blk = some b) h h2 := (e3.only (S := fun b => s.blk = some b)).trans r3 fun _ _ e => e
      obtain ⟨B, c1, c2, c3, c4⟩ := c
      have hBs := hB B c1
      have c5 : Ch h2 p (longL a d n) B := c1.only f2 hp fun b hb e => hBs b hb e
      have hrp : ∀ x, x < h.size → s.blk ≠ some x → r.blk ≠ some x := fun x hx hsx => by
        rcases r4 with r4 | ⟨b, r4, r5⟩
        · rw [r4]; exact hsx
        · rw [r4]; intro e; cases e; omega
      refine ask_loop ha ha5 hd hd9 hn hev hev4 k m (e + ev) h2 r (E ++ [e]) ⟨⟨B, c5, c2.step f2 fun b hb e => by have := hs b e; omega, c3, c4⟩, ?_, hrp p hp2 hp, ?_⟩ ?_ (by simp; omega) ?_ (by simp; omega) (by omega) (by omega)
      · have : ((E ++ [e]).map Int.ofNat).flatMap cI = (E.map Int.ofNat).flatMap cI ++ cI (e : Int) := by simp
        rw [this]; exact r1
      · intro b hb
        rcases r4 with r4 | ⟨b', r4, r5⟩
        · exact hs b (by rw [← r4]; exact hb)
        · rw [r4] at hb; cases hb; have := c2.size; omega
      · intro x hx
        rcases List.mem_append.1 hx with h | h
        · exact hE x h
        · simp at h; omega
      · intro B2 c6 b hb
        have hBB : B2 = B := by
          obtain ⟨s1, u1, u2, u3, u4⟩ := c5
          obtain ⟨s2, v1, v2, v3, v4⟩ := c6
          have hcell := (u1.cell (i := 0) rfl).symm.trans (v1.cell (i := 0) rfl)
          have : s1 = s2 := enc_inj.1 (by simpa using hcell)
          rw [← u3, ← v3, this]
        subst hBB
        exact hrp b (c1.ltB b hb) (hBs b hb)
    · refine ⟨E.length + 1, ?_⟩
      exact first_loop ha ha5 hd hd9 hn (by omega) hE k _ 0 h ⟨c, ow, hp, hs⟩ (by omega) (by omega)
/-- The chain is built. -/
theorem build_loop {a d n ev off : Nat} {p : Nat} {h0 : H} {Q : Bool → H → Prop} (ha : 0 < a) (ha5 : a ≤ 5) (hd : 0 < d) (hd9 : d < 100) (hn : n ≤ 3000) (hev : 0 < ev) (hev4 : ev ≤ 400) (hoff : off ≤ 400) (k : ∀ h', Ext h0 h' → Q true h') :
    ∀ (m i : Nat) (h : H), Cn h0 h p (longL a d i) → i ≤ n → n - i < m → F.spatelaw5_ChainLong.l1 Q m (n : Int) (a : Int) (d : Int) (ev : Int) (off : Int) (some ⟨p, 0, none⟩) ((i + 1 : Nat) : Int) h
  | 0, i, h, _, _, hm => by omega
  | m + 1, i, h, c, hi, hm => by
    unfold F.spatelaw5_ChainLong.l1
    simp only [decide_eq_true_eq, decide_eq_false_iff_not]
    refine ⟨fun g => ?_, fun g => ?_⟩
    · have hia : (i + 1) * a ≤ 3000 * 5 := Nat.mul_le_mul (by omega) ha5
      have hpos : 0 < (i + 1) * a := Nat.mul_pos (by omega) ha
      have hlt : i * a < (i + 1) * a := Nat.mul_lt_mul_of_pos_right (by omega) ha
      have hcast : ((i + 1 : Nat) : Int) * (a : Int) = (((i + 1) * a : Nat) : Int) := by push_cast; rfl
      rw [hcast, w64 (n := (((i + 1) * a : Nat) : Int)) (by omega) (by omega)]
      have hm0 : mayM (longL a d i) (((i + 1) * a : Nat) : Int) = 0 := by
        unfold mayM
        rw [lastE_longL, if_neg (by omega), if_neg (by omega)]
      have hlay : ∀ v b, layM (longL a d i) ⟨(((i + 1) * a : Nat) : Int), v, b⟩ = longL a d i ++ [⟨(((i + 1) * a : Nat) : Int), v, b⟩] := fun v b => by
        unfold layM; rw [lastE_longL]; exact if_neg (by simp only; omega)
      have hlayN : ∀ v b, layN (longL a d i) ⟨(((i + 1) * a : Nat) : Int), v, b⟩ = 1 := fun v b => by
        unfold layN; rw [lastE_longL]; exact if_neg (by simp only; omega)
      refine c.put (by rw [longL_len]; omega) hm0 fun h1 c1 => ?_
      rw [hlayN]
      rw [hlay] at c1
      unfold F.spatelaw5_ChainLong.j5
      refine ⟨(fun h => by cases h), fun _ => ⟨(fun h => by cases h), fun _ => ?_⟩⟩
      have hnext : ∀ h2, Cn h0 h2 p (longL a d (i + 1)) → F.spatelaw5_ChainLong.j2 Q (F.spatelaw5_ChainLong.l1 Q m) (n : Int) (a : Int) (d : Int) (ev : Int) (off : Int) (some ⟨p, 0, none⟩) ((i + 1 : Nat) : Int) h2 := fun h2 c2 => by
        unfold F.spatelaw5_ChainLong.j2
        rw [show IntKind.wrap .i64 (((i + 1 : Nat) : Int) + 1) = ((i + 1 + 1 : Nat) : Int) from by rw [w64 (by omega) (by omega)]; omega]
        exact build_loop ha ha5 hd hd9 hn hev hev4 hoff k m (i + 1) h2 c2 (by omega) (by omega)
      unfold F.spatelaw5_ChainLong.j3
      have t3 : Int.tmod ((i + 1 : Nat) : Int) (d : Int) = (((i + 1) % d : Nat) : Int) := Int.ofNat_tmod _ d
      rw [t3, beq_iff_eq, beq_eq_false_iff_ne, hcast, w64 (n := (((i + 1) * a : Nat) : Int)) (by omega) (by omega)]
      refine ⟨by omega, fun g2 => ?_, fun g2 => ?_⟩
      · have hd0 : (i + 1) % d = 0 := by omega
        have hlE : lastE (longL a d i ++ [⟨(((i + 1) * a : Nat) : Int), ((i + 1 : Nat) : Int), false⟩]) = (((i + 1) * a : Nat) : Int) := by simp [lastE]
        have hne : longL a d i ++ [(⟨(((i + 1) * a : Nat) : Int), ((i + 1 : Nat) : Int), false⟩ : Ver)] ≠ [] := by simp
        refine c1.kill (by simp [longL_len]; omega) ?_ (by simp [newestM]) fun h2 c2 => ?_
        · unfold mayM
          rw [hlE, if_neg (by omega), if_neg (by omega)]
        · have e1 : layM (longL a d i ++ [⟨(((i + 1) * a : Nat) : Int), ((i + 1 : Nat) : Int), false⟩]) ⟨(((i + 1) * a : Nat) : Int), 0, true⟩ = longL a d (i + 1) := by
            unfold layM
            rw [if_pos ⟨hne, by rw [hlE]⟩]
            simp [longL, verL, hd0]
          have e2 : layN (longL a d i ++ [⟨(((i + 1) * a : Nat) : Int), ((i + 1 : Nat) : Int), false⟩]) ⟨(((i + 1) * a : Nat) : Int), 0, true⟩ = 0 := by
            unfold layN
            rw [if_pos ⟨hne, by rw [hlE]⟩]
          rw [e1] at c2
          rw [e2]
          unfold F.spatelaw5_ChainLong.j4
          exact ⟨(fun h => by cases h), fun _ => ⟨(fun h => by cases h), fun _ => hnext h2 c2⟩⟩
      · refine hnext h1 ?_
        have hd0 : (i + 1) % d ≠ 0 := by omega
        have e1 : longL a d (i + 1) = longL a d i ++ [⟨(((i + 1) * a : Nat) : Int), ((i + 1 : Nat) : Int), false⟩] := by simp [longL, verL, hd0]
        rw [e1]; exact c1
    · have hin : i = n := by omega
      subst hin
      have c0 := c
      obtain ⟨B, c1, c2, c3, c4⟩ := c
      refine Len_spec c1 ?_
      rw [longL_len]
      have e1 : ((i : Int) != (i : Int)) = false := by simp
      rw [e1]
      refine ⟨(fun h => by cases h), fun _ => ⟨20000, ?_⟩⟩
      refine ask_loop ha ha5 hd hd9 hn hev hev4 k _ off h _ [] ⟨c0, Owns.nil _ _ _, by simp [Sl.blk], fun b hb => by simp [Sl.blk] at hb⟩ (fun e he => by cases he) (by simp) (fun B2 _ b _ => by simp [Sl.blk]) (by simp) (by omega) (by omega)
theorem ChainLong_spec {h0 : H} {p0 p1 p2 p3 p4 : Int} {Q : Bool → H → Prop} (k : ∀ h', Ext h0 h' → Q true h') : F.spatelaw5_ChainLong p0 p1 p2 p3 p4 h0 Q := by
  unfold F.spatelaw5_ChainLong
  refine known_spec fun h1 e1 => ⟨(fun h => by cases h), fun _ => ?_⟩
  refine within_spec (by omega) (by omega) fun n hn => ?_
  refine within_spec (by omega) (by omega) fun a ha => ?_
  refine within_spec (by omega) (by omega) fun d hd => ?_
  refine within_spec (by omega) (by omega) fun ev hev => ?_
  refine within_spec (by omega) (by omega) fun off hoff => ?_
  refine New_spec fun p h2 hp c e2 => ⟨n + 1, ?_⟩
  rw [w64 (by omega) (by omega), w64 (by omega) (by omega), w64 (by omega) (by omega), show (1 : Int) + (a : Int) = ((1 + a : Nat) : Int) from by omega, show (2 : Int) + (d : Int) = ((2 + d : Nat) : Int) from by omega, show (1 : Int) + (ev : Int) = ((1 + ev : Nat) : Int) from by omega]
  have hs := e1.size
  exact build_loop (n := n) (a := 1 + a) (d := 2 + d) (ev := 1 + ev) (off := off) (h0 := h0) (by omega) (by omega) (by omega) (by omega) (by omega) (by omega) (by omega) (by omega) k (n + 1) 0 h2 ⟨none, c, e1.trans e2, by omega, fun b hb => by cases hb⟩ (by omega) (by omega)
end Go.Proofs.Ytapomjhjpejimaa.V
