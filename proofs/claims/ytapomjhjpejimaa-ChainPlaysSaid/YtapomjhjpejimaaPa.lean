/- Three chains side by side in the law ChainPlays: writes; no condition. -/
import Derived.Test.YtapomjhjpejimaaWc
import Derived.Test.YtapomjhjpejimaaRb
namespace Go.Proofs.Ytapomjhjpejimaa.V
open Go
set_option linter.unusedVariables false
set_option linter.unusedSimpArgs false

/-- Block n is a row of things of type e. -/
def WB (h : H) (n : Nat) (e : TypeId) : Prop := ∃ c, Blk h n c e
theorem WB.ne {h : H} {a b : Nat} {e e' : TypeId} (x : WB h a e) (y : WB h b e') (n : e ≠ e') : a ≠ b := fun hab => by
  obtain ⟨c, hc⟩ := x
  obtain ⟨d, hd⟩ := y
  subst hab
  unfold Blk at hc hd
  rw [hc] at hd
  simp at hd
  exact n hd.2
theorem Owns.typ {h : H} {s : Sl} {e : TypeId} {size : Nat} {cs : List Value} (o : Owns h s e size cs) {b : Nat} (hb : s.blk = some b) : WB h b e := by
  obtain ⟨_, ⟨h1, _⟩ | ⟨b', c', h1, h2, _⟩⟩ := o
  · simp [Sl.blk, h1] at hb
  · simp [Sl.blk, h1] at hb; subst hb; exact ⟨c', h2⟩
theorem Ch.typ {h : H} {p : Nat} {L : List Ver} {B : Option Nat} (c : Ch h p L B) : WB h p 74 ∧ ∀ b, B = some b → WB h b 76 := by
  obtain ⟨s, h1, h2, h3, _⟩ := c
  exact ⟨⟨_, h1⟩, fun b hb => h2.typ (by rw [h3]; exact hb)⟩
theorem CW.typ {h : H} {p : Nat} {L : List Ver} {B : Option Nat} (c : CW h p L B) : WB h p 86 ∧ ∀ b, B = some b → WB h b 103 := by
  obtain ⟨s, h1, h2, h3, _⟩ := c
  exact ⟨⟨_, h1⟩, fun b hb => h2.typ (by rw [h3]; exact hb)⟩
theorem CR.typ {h : H} {p : Nat} {L : List Ver} {B : Option Nat} (c : CR h p L B) : WB h p 64 ∧ ∀ b, B = some b → WB h b 89 := by
  obtain ⟨s, h1, h2, h3, _⟩ := c
  exact ⟨⟨_, h1⟩, fun b hb => h2.typ (by rw [h3]; exact hb)⟩
/-- The world: its block w; the chains' own blocks, their rows. -/
structure PW (h0 h : H) (w pa pb pr : Nat) (Ba Bb Br : Option Nat) (LA LB LR : List Ver) : Prop where
  ext : Ext h0 h
  bw : Blk h w #[.pointer (some ⟨pa, 0, none⟩), .pointer (some ⟨pb, 0, none⟩), .pointer (some ⟨pr, 0, none⟩)] 66
  a : Ch h pa LA Ba
  b : CW h pb LB Bb
  r : CR h pr LR Br
  hw : h0.size ≤ w
  ha : h0.size ≤ pa
  hb : h0.size ≤ pb
  hr : h0.size ≤ pr
  hBa : ∀ b, Ba = some b → h0.size ≤ b
  hBb : ∀ b, Bb = some b → h0.size ≤ b
  hBr : ∀ b, Br = some b → h0.size ≤ b
section
variable {h0 h h' : H} {w pa pb pr : Nat} {Ba Bb Br : Option Nat} {LA LB LR : List Ver}
theorem Kin.ge {n m : Nat} {B B' : Option Nat} (k : Kin n B B') (h1 : ∀ b, B = some b → m ≤ b) (h2 : m ≤ n) : ∀ b, B' = some b → m ≤ b := fun b hb => by
  rcases k with k | k | ⟨b', k, g⟩
  · exact h1 b (by rw [← k]; exact hb)
  · rw [k] at hb; cases hb
  · rw [k] at hb; cases hb; omega
theorem PW.only (t : PW h0 h w pa pb pr Ba Bb Br LA LB LR) {S : Nat → Prop} (o : Only S h h') (hS : ∀ n, S n → h0.size ≤ n ∧ ∃ e, WB h n e ∧ e ≠ 66 ∧ e ≠ 74 ∧ e ≠ 76 ∧ e ≠ 86 ∧ e ≠ 103 ∧ e ≠ 64 ∧ e ≠ 89) : PW h0 h' w pa pb pr Ba Bb Br LA LB LR := by
  obtain ⟨a1, a2⟩ := t.a.typ
  obtain ⟨b1, b2⟩ := t.b.typ
  obtain ⟨r1, r2⟩ := t.r.typ
  have nS : ∀ n e, WB h n e → (e = 66 ∨ e = 74 ∨ e = 76 ∨ e = 86 ∨ e = 103 ∨ e = 64 ∨ e = 89) → ¬ S n := fun n e hw he hs => by
    obtain ⟨_, e', hw', h1, h2, h3, h4, h5, h6, h7⟩ := hS n hs
    refine hw.ne hw' (fun hee => ?_) rfl
    subst hee
    rcases he with he | he | he | he | he | he | he
    · exact h1 he
    · exact h2 he
    · exact h3 he
    · exact h4 he
    · exact h5 he
    · exact h6 he
    · exact h7 he
  exact ⟨t.ext.step o fun n hn hs => by have := (hS n hs).1; omega, o.block t.bw (nS w 66 ⟨_, t.bw⟩ (by simp)), t.a.only o (nS _ _ a1 (by simp)) fun b hb => nS _ _ (a2 b hb) (by simp), t.b.only o (nS _ _ b1 (by simp)) fun b hb => nS _ _ (b2 b hb) (by simp), t.r.only o (nS _ _ r1 (by simp)) fun b hb => nS _ _ (r2 b hb) (by simp), t.hw, t.ha, t.hb, t.hr, t.hBa, t.hBb, t.hBr⟩
theorem PW.ext' (t : PW h0 h w pa pb pr Ba Bb Br LA LB LR) (e : Ext h h') : PW h0 h' w pa pb pr Ba Bb Br LA LB LR := t.only e fun n f => f.elim
theorem PW.turnA (t : PW h0 h w pa pb pr Ba Bb Br LA LB LR) {L' : List Ver} {B' : Option Nat} (c : Ch h' pa L' B') (o : Only (FP pa Ba) h h') (k : Kin h.size Ba B') : PW h0 h' w pa pb pr B' Bb Br L' LB LR := by
  obtain ⟨a1, a2⟩ := t.a.typ
  obtain ⟨b1, b2⟩ := t.b.typ
  obtain ⟨r1, r2⟩ := t.r.typ
  have nS : ∀ n e, WB h n e → e ≠ 74 → e ≠ 76 → ¬ FP pa Ba n := fun n e hw h1 h2 hs => by
    rcases hs with hs | hs
    · exact hw.ne a1 h1 hs
    · exact hw.ne (a2 n hs) h2 rfl
  exact ⟨t.ext.step o fun n hn e => e.elim (fun e => by have := t.ha; omega) (fun e => by have := t.hBa n e; omega), o.block t.bw (nS w 66 ⟨_, t.bw⟩ (by simp) (by simp)), c, t.b.only o (nS _ _ b1 (by simp) (by simp)) fun b hb => nS _ _ (b2 b hb) (by simp) (by simp), t.r.only o (nS _ _ r1 (by simp) (by simp)) fun b hb => nS _ _ (r2 b hb) (by simp) (by simp), t.hw, t.ha, t.hb, t.hr, k.ge t.hBa t.ext.size, t.hBb, t.hBr⟩
theorem PW.turnB (t : PW h0 h w pa pb pr Ba Bb Br LA LB LR) {L' : List Ver} {B' : Option Nat} (c : CW h' pb L' B') (o : Only (FP pb Bb) h h') (k : Kin h.size Bb B') : PW h0 h' w pa pb pr Ba B' Br LA L' LR := by
  obtain ⟨a1, a2⟩ := t.a.typ
  obtain ⟨b1, b2⟩ := t.b.typ
  obtain ⟨r1, r2⟩ := t.r.typ
  have nS : ∀ n e, WB h n e → e ≠ 86 → e ≠ 103 → ¬ FP pb Bb n := fun n e hw h1 h2 hs => by
    rcases hs with hs | hs
    · exact hw.ne b1 h1 hs
    · exact hw.ne (b2 n hs) h2 rfl
  exact ⟨t.ext.step o fun n hn e => e.elim (fun e => by have := t.hb; omega) (fun e => by have := t.hBb n e; omega), o.block t.bw (nS w 66 ⟨_, t.bw⟩ (by simp) (by simp)), t.a.only o (nS _ _ a1 (by simp) (by simp)) fun b hb => nS _ _ (a2 b hb) (by simp) (by simp), c, t.r.only o (nS _ _ r1 (by simp) (by simp)) fun b hb => nS _ _ (r2 b hb) (by simp) (by simp), t.hw, t.ha, t.hb, t.hr, t.hBa, k.ge t.hBb t.ext.size, t.hBr⟩
theorem PW.turnR (t : PW h0 h w pa pb pr Ba Bb Br LA LB LR) {L' : List Ver} {B' : Option Nat} (c : CR h' pr L' B') (o : Only (FP pr Br) h h') (k : Kin h.size Br B') : PW h0 h' w pa pb pr Ba Bb B' LA LB L' := by
  obtain ⟨a1, a2⟩ := t.a.typ
  obtain ⟨b1, b2⟩ := t.b.typ
  obtain ⟨r1, r2⟩ := t.r.typ
  have nS : ∀ n e, WB h n e → e ≠ 64 → e ≠ 89 → ¬ FP pr Br n := fun n e hw h1 h2 hs => by
    rcases hs with hs | hs
    · exact hw.ne r1 h1 hs
    · exact hw.ne (r2 n hs) h2 rfl
  exact ⟨t.ext.step o fun n hn e => e.elim (fun e => by have := t.hr; omega) (fun e => by have := t.hBr n e; omega), o.block t.bw (nS w 66 ⟨_, t.bw⟩ (by simp) (by simp)), t.a.only o (nS _ _ a1 (by simp) (by simp)) fun b hb => nS _ _ (a2 b hb) (by simp) (by simp), t.b.only o (nS _ _ b1 (by simp) (by simp)) fun b hb => nS _ _ (b2 b hb) (by simp) (by simp), c, t.hw, t.ha, t.hb, t.hr, t.hBa, t.hBb, k.ge t.hBr t.ext.size⟩
theorem PW.ca (t : PW h0 h w pa pb pr Ba Bb Br LA LB LR) : cellH h ⟨w, 0, none⟩ = some (.pointer (some ⟨pa, 0, none⟩)) := t.bw.cell rfl
theorem PW.cb (t : PW h0 h w pa pb pr Ba Bb Br LA LB LR) : cellH h ⟨w, 1, none⟩ = some (.pointer (some ⟨pb, 0, none⟩)) := t.bw.cell rfl
theorem PW.cr (t : PW h0 h w pa pb pr Ba Bb Br LA LB LR) : cellH h ⟨w, 2, none⟩ = some (.pointer (some ⟨pr, 0, none⟩)) := t.bw.cell rfl
end
/-! ### The writes' answers -/
def putN (L : List Ver) (e v : Int) : Int := if mayM L e = 0 then layN L ⟨e, v, false⟩ else 0
def killN (L : List Ver) (e : Int) : Int := if mayM L e = 0 ∧ (newestM L).2.2 = true then layN L ⟨e, 0, true⟩ else 0
def killE (L : List Ver) (e : Int) : Int := if mayM L e = 0 then (if (newestM L).2.2 = true then 0 else 44) else mayM L e
theorem put_all {h : H} {p : Nat} {L : List Ver} {B : Option Nat} {e v : Int} {Q : Int → Int → H → Prop} (c : Ch h p L B) (hL : L.length < 4294967296) (k : ∀ h' B', Ch h' p (putM L e v) B' → Only (FP p B) h h' → Kin h.size B B' → Q (putN L e v) (mayM L e) h') : F.chain_Chain_int_Put (some ⟨p, 0, none⟩) e v h Q := by
  unfold putM putN at k
  refine Put_spec c hL (fun g => ?_) fun g h' B' q1 q2 q3 => ?_
  · simp only [if_neg g] at k; exact k h B c (.refl _) (.inl rfl)
  · simp only [if_pos g, g] at k; exact k h' B' q1 q2 q3
theorem putW_all {h : H} {p : Nat} {L : List Ver} {B : Option Nat} {e v : Int} {Q : Int → Int → H → Prop} (c : CW h p L B) (hL : L.length < 4294967296) (k : ∀ h' B', CW h' p (putM L e v) B' → Only (FP p B) h h' → Kin h.size B B' → Q (putN L e v) (mayM L e) h') : F.chain_Chain_spatelaw5_Wide_Put (some ⟨p, 0, none⟩) e (wideV v) h Q := by
  unfold putM putN at k
  refine PutW_spec c hL (fun g h' x => ?_) fun g h' B' q1 q2 q3 => ?_
  · simp only [if_neg g] at k; exact k h' B (c.ext x) x.only (.inl rfl)
  · simp only [if_pos g, g] at k; exact k h' B' q1 q2 q3
theorem putR_all {h : H} {p : Nat} {L : List Ver} {B : Option Nat} {e v : Int} {Q : Int → Int → H → Prop} (c : CR h p L B) (hL : L.length < 4294967296) (k : ∀ h' B', CR h' p (putM L e v) B' → Only (FP p B) h h' → Kin h.size B B' → Q (putN L e v) (mayM L e) h') : F.spateref5_Chain_Put (some ⟨p, 0, none⟩) e v h Q := by
  unfold putM putN at k
  refine PutR_spec c hL (fun g h' x => ?_) fun g h' B' q1 q2 q3 => ?_
  · simp only [if_neg g] at k; exact k h' B (c.ext x) x.only (.inl rfl)
  · simp only [if_pos g, g] at k; exact k h' B' q1 q2 q3
theorem kill_all {h : H} {p : Nat} {L : List Ver} {B : Option Nat} {e : Int} {Q : Int → Int → H → Prop} (c : Ch h p L B) (hL : L.length < 4294967296) (k : ∀ h' B', Ch h' p (killM L e) B' → Only (FP p B) h h' → Kin h.size B B' → Q (killN L e) (killE L e) h') : F.chain_Chain_int_Kill (some ⟨p, 0, none⟩) e h Q := by
  unfold killM killN killE at k
  refine Kill_spec c hL (fun g => ?_) (fun g g2 h' x => ?_) fun g g2 h' B' q1 q2 q3 => ?_
  · simp only [if_neg (fun hh : mayM L e = 0 ∧ _ => g hh.1), if_neg g] at k; exact k h B c (.refl _) (.inl rfl)
  · simp only [g, g2, and_false, if_false, Bool.false_eq_true, if_true] at k; exact k h' B (c.ext x) x.only (.inl rfl)
  · simp only [g, g2, and_self, if_true] at k; exact k h' B' q1 q2 q3
theorem killW_all {h : H} {p : Nat} {L : List Ver} {B : Option Nat} {e : Int} {Q : Int → Int → H → Prop} (c : CW h p L B) (hL : L.length < 4294967296) (k : ∀ h' B', CW h' p (killM L e) B' → Only (FP p B) h h' → Kin h.size B B' → Q (killN L e) (killE L e) h') : F.chain_Chain_spatelaw5_Wide_Kill (some ⟨p, 0, none⟩) e h Q := by
  unfold killM killN killE at k
  refine KillW_spec c hL (fun g => ?_) (fun g g2 h' x => ?_) fun g g2 h' B' q1 q2 q3 => ?_
  · simp only [if_neg (fun hh : mayM L e = 0 ∧ _ => g hh.1), if_neg g] at k; exact k h B c (.refl _) (.inl rfl)
  · simp only [g, g2, and_false, if_false, Bool.false_eq_true, if_true] at k; exact k h' B (c.ext x) x.only (.inl rfl)
  · simp only [g, g2, and_self, if_true] at k; exact k h' B' q1 q2 q3
theorem killR_all {h : H} {p : Nat} {L : List Ver} {B : Option Nat} {e : Int} {Q : Int → Int → H → Prop} (c : CR h p L B) (hL : L.length < 4294967296) (k : ∀ h' B', CR h' p (killM L e) B' → Only (FP p B) h h' → Kin h.size B B' → Q (killN L e) (killE L e) h') : F.spateref5_Chain_Kill (some ⟨p, 0, none⟩) e h Q := by
  unfold killM killN killE at k
  refine KillR_spec c hL (fun g h' x => ?_) (fun g g2 h' x => ?_) fun g g2 h' B' q1 q2 q3 => ?_
  · simp only [if_neg (fun hh : mayM L e = 0 ∧ _ => g hh.1), if_neg g] at k; exact k h' B (c.ext x) x.only (.inl rfl)
  · simp only [g, g2, and_false, if_false, Bool.false_eq_true, if_true] at k; exact k h' B (c.ext x) x.only (.inl rfl)
  · simp only [g, g2, and_self, if_true] at k; exact k h' B' q1 q2 q3
/-! ### wide, number -/
theorem byteI_nat (n : Int) : ((byteI n).toNat : Int) = IntKind.wrap .u8 n := by
  unfold byteI IntKind.wrap
  simp [IntKind.bits, IntKind.signed]
  omega
theorem wide_spec {v : Int} {h : H} {Q : Wd → H → Prop} (k : ∀ h', Ext h h' → Q (wideV v) h') : F.spatelaw5_wide v h Q := by
  unfold F.spatelaw5_wide
  refine new_of fun n h1 e1 e2 e3 e4 => ⟨by omega, ?_⟩
  refine newL_of fun n2 h4 f1 f2 f3 f4 => ?_
  have hb : (#[(.int .u8 (IntKind.wrap .u8 v)), (.int .u8 (IntKind.wrap .u8 (Int.fdiv v (2 ^ (min (8 : Int).toNat (IntKind.bits .i64)) : Int))))] : Array Value) = (([byteI v, byteI (Int.fdiv v 256)] : List UInt8).flatMap cU).toArray := by
    have h1 := byteI_nat v
    have h2 := byteI_nat (Int.fdiv v 256)
    simp [cU, h1, h2, IntKind.bits]
  rw [hb] at f2
  refine cvtT_of (l := [byteI v, byteI (Int.fdiv v 256)]) Try.underlying108 Try.underlying5 Try.underlying9 (blk_reads (size := 1) (m := 2) f2 rfl) ?_
  have b4 : Blk h4 n _ 60 := f3.block e2 (fun f => f)
  refine stH_of b4 (by simp [S_spatelaw5_Wide.cells]) fun h5 g1 g2 g3 => ?_
  rw [writeA_all (by simp [S_spatelaw5_Wide.cells])] at g1
  exact ⟨wideV v, cells_blk g1, k h5 ((e3.trans f3).step g2 fun m hm e => by omega)⟩
theorem number_spec {x : Wd} {h : H} {Q : Int → Bool → H → Prop} (k : ∀ h', Ext h h' → Q x.N ((x.N == (wideV x.N).N) && ((x.S.toList == (wideV x.N).S.toList) && true)) h') : F.spatelaw5_number x h Q := by
  unfold F.spatelaw5_number
  refine new_of fun n h1 e1 e2 e3 e4 => ?_
  have c1 := cells_blk e2
  have c0 : cellH h1 ⟨n, 0, none⟩ = some (.int .i64 x.N) := c1 0 _ rfl
  simp only [add_lit, Nat.add_zero]
  rw [ldI_iff c0]
  refine ⟨x, c1, ?_⟩
  show ldI .i64 h1 ⟨n, 0, none⟩ _
  rw [ldI_iff c0]
  exact wide_spec fun h2 e2 => ⟨c1.ext e2, e2.cell c0 (fun f => f), k h2 (e3.trans e2)⟩
theorem number_wide {v : Int} {h : H} {Q : Int → Bool → H → Prop} (k : ∀ h', Ext h h' → Q v true h') : F.spatelaw5_number (wideV v) h Q :=
  number_spec fun h' e => by
    have := k h' e
    simpa [wideV] using this
theorem number_zero {h : H} {Q : Int → Bool → H → Prop} (k : ∀ h', Ext h h' → Q 0 false h') : F.spatelaw5_number wide0 h Q :=
  number_spec fun h' e => by
    have := k h' e
    rw [toList_data, toList_data]
    simpa [wideV, wide0] using this
section
variable {h0 h : H} {w pa pb pr : Nat} {Ba Bb Br : Option Nat} {L : List Ver} {Q : Bool → H → Prop}
theorem wput_spec {e v : Int} (t : PW h0 h w pa pb pr Ba Bb Br L L L) (hL : L.length < 4294967296) (k : ∀ h' Ba' Bb' Br', PW h0 h' w pa pb pr Ba' Bb' Br' (putM L e v) (putM L e v) (putM L e v) → Q true h') : F.spatelaw5_World_put (some ⟨w, 0, none⟩) e v h Q := by
  unfold F.spatelaw5_World_put
  simp only [nn_some, add_lit, Nat.zero_add, ldP_iff t.ca]
  refine put_all t.a hL fun h1 A1 q1 q2 q3 => ?_
  have t1 := t.turnA q1 q2 q3
  rw [ldP_iff t1.cb]
  refine wide_spec fun h2 e2 => ?_
  have t2 := t1.ext' e2
  refine ⟨t2.cb, ?_⟩
  refine putW_all t2.b hL fun h3 B3 r1 r2 r3 => ?_
  have t3 := t2.turnB r1 r2 r3
  rw [ldP_iff t3.cr]
  refine putR_all t3.r hL fun h4 R4 s1 s2 s3 => ?_
  have t4 := t3.turnR s1 s2 s3
  simp only [beq_self_eq_true, true_implies, Bool.true_eq_false, false_implies, and_true]
  exact k h4 _ _ _ t4
theorem wkill_spec {e : Int} (t : PW h0 h w pa pb pr Ba Bb Br L L L) (hL : L.length < 4294967296) (k : ∀ h' Ba' Bb' Br', PW h0 h' w pa pb pr Ba' Bb' Br' (killM L e) (killM L e) (killM L e) → Q true h') : F.spatelaw5_World_kill (some ⟨w, 0, none⟩) e h Q := by
  unfold F.spatelaw5_World_kill
  simp only [nn_some, add_lit, Nat.zero_add, ldP_iff t.ca]
  refine kill_all t.a hL fun h1 A1 q1 q2 q3 => ?_
  have t1 := t.turnA q1 q2 q3
  rw [ldP_iff t1.cb]
  refine killW_all t1.b hL fun h3 B3 r1 r2 r3 => ?_
  have t3 := t1.turnB r1 r2 r3
  rw [ldP_iff t3.cr]
  refine killR_all t3.r hL fun h4 R4 s1 s2 s3 => ?_
  have t4 := t3.turnR s1 s2 s3
  simp only [beq_self_eq_true, true_implies, Bool.true_eq_false, false_implies, and_true]
  exact k h4 _ _ _ t4
theorem wnear_spec {by_ : Int} {Q : Int → H → Prop} (t : PW h0 h w pa pb pr Ba Bb Br L L L) (hL : L.length < 4294967296) (k : ∀ h', PW h0 h' w pa pb pr Ba Bb Br L L L → Ext h h' → Q (nearM L by_) h') : F.spatelaw5_World_near (some ⟨w, 0, none⟩) by_ h Q := by
  unfold F.spatelaw5_World_near
  simp only [nn_some, add_lit, Nat.zero_add, ldP_iff t.cr]
  refine NewestR_spec t.r hL fun h1 e1 => ?_
  refine within_eq (by omega) (by omega) fun _ _ => ?_
  exact k h1 (t.ext' e1) e1
end
end Go.Proofs.Ytapomjhjpejimaa.V
