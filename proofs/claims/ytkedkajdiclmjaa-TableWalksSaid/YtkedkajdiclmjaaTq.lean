/- The law TableSteps answers true; no condition. -/
import Derived.Test.YtkedkajdiclmjaaTp
namespace Go.Proofs.Ytkedkajdiclmjaa.V
open Go
set_option linter.unusedVariables false
set_option linter.unusedSimpArgs false

/-- The blocks for deferred calls of loops that have been left: they are there, and new; c: what lies ahead of them. -/
def DsOk (h : H) (c : Nat) (ds : List Nat) : Prop := ds.Nodup ∧ ∀ d ∈ ds, c ≤ d ∧ h[d]? = some (.deferred (some []))
theorem DsOk.only {S : Nat → Prop} {h h' : H} {c : Nat} {ds : List Nat} (d : DsOk h c ds) (o : Only S h h') (hn : ∀ x ∈ ds, ¬ S x) : DsOk h' c ds := ⟨d.1, fun x hx => ⟨(d.2 x hx).1, o.block (d.2 x hx).2 (hn x hx)⟩⟩
theorem DsOk.lt {h : H} {c : Nat} {ds : List Nat} (d : DsOk h c ds) : ∀ x ∈ ds, x < h.size := fun x hx => (Array.getElem?_eq_some_iff.1 (d.2 x hx).2).1
theorem shuts_of : ∀ (ds : List Nat) (h : H) (c : Nat) (K : H → Prop), DsOk h c ds → (∀ h', Only (fun n => c ≤ n) h h' → K h') → shuts ds h K
  | [], h, c, K, d, k => k h (.refl _)
  | x :: ds, h, c, K, d, k => by
    have hx := d.2 x (by simp)
    have hnd := List.nodup_cons.1 d.1
    have o := put_only h x (.deferred none)
    refine ⟨hx.2, shuts_of ds _ c K ⟨hnd.2, fun y hy => ⟨(d.2 y (by simp [hy])).1, o.block (d.2 y (by simp [hy])).2 fun e => hnd.1 (by rw [← e]; exact hy)⟩⟩ fun h' o' => k h' ((o.mono fun n _ e => by rw [e]; exact hx.1).trans o' fun _ _ e => e)⟩
theorem count_bd {T : Tb Int} (t : TOk T) (key : ByteArray) (v : Int) (N : Nat) (b : Bd N T) {T' : Tb Int} (hp : putM 0 T key v = some T') : Bd (N + 1) T' := by
  have := (do_ok t ⟨1, v, key⟩).2 N b
  unfold doT at this
  rw [if_pos rfl] at this
  rw [show (⟨1, v, key⟩ : Step).Key = key from rfl, show (⟨1, v, key⟩ : Step).N = v from rfl, hp] at this
  exact this
section
variable {h0 : H} {Q : Bool → H → Prop} {c4 c5 n nx : Nat} {s1 : Sl} {B : List Int} {rx ex : Sl} {X : Tb Int}
/-- What holds while bits are moved. -/
structure SB (h0 : H) (c4 c5 n nx : Nat) (s1 : Sl) (B : List Int) (rx ex : Sl) (X : Tb Int) (ds : List Nat) (rs es : Sl) (T : Tb Int) (h : H) : Prop where
  kp : Kept h0 h n rs es
  kx : Kept h0 h nx rx ex
  b4 : ∃ b, Blk h c4 #[.bool b] 4
  b5 : Blk h c5 #[.pointer (some ⟨n, 0, none⟩)] 30
  t : TH h n rs es T
  x : TH h nx rx ex X
  dj : ∀ b, FT nx rx ex b → ¬ FT n rs es b
  rd : Reads h0 s1 1 (B.flatMap cI)
  l4 : h0.size ≤ c4
  l5 : c4 < c5
  lx : ∀ b, FT n rs es b → b ≠ c4 ∧ b ≠ c5
  lxx : ∀ b, FT nx rx ex b → b ≠ c4 ∧ b ≠ c5
  dk : DsOk h (c5 + 1) ds
  dn : ∀ d ∈ ds, ¬ FT n rs es d ∧ ¬ FT nx rx ex d
theorem SB.only {ds : List Nat} {rs es : Sl} {T : Tb Int} {h h' : H} (s : SB h0 c4 c5 n nx s1 B rx ex X ds rs es T h) {S : Nat → Prop} (o : Only S h h') (hS : ∀ b, S b → h0.size ≤ b ∧ b ≠ c4 ∧ b ≠ c5 ∧ ¬ FT n rs es b ∧ ¬ FT nx rx ex b ∧ b ∉ ds) : SB h0 c4 c5 n nx s1 B rx ex X ds rs es T h' := by
  obtain ⟨b, hb⟩ := s.b4
  have e : Ext h0 h' := s.kp.ext.step o fun m hm hf => by have := (hS m hf).1; omega
  exact ⟨⟨e, s.kp.mine⟩, ⟨e, s.kx.mine⟩, ⟨b, o.block hb fun hf => (hS _ hf).2.1 rfl⟩, o.block s.b5 fun hf => (hS _ hf).2.2.1 rfl, s.t.only o fun m hm hf => (hS _ hf).2.2.2.1 hm, s.x.only o fun m hm hf => (hS _ hf).2.2.2.2.1 hm, s.dj, s.rd, s.l4, s.l5, s.lx, s.lxx, s.dk.only o fun m hm hf => (hS _ hf).2.2.2.2.2 hm, s.dn⟩
theorem SB.ext {ds : List Nat} {rs es : Sl} {T : Tb Int} {h h' : H} (s : SB h0 c4 c5 n nx s1 B rx ex X ds rs es T h) (o : Ext h h') : SB h0 c4 c5 n nx s1 B rx ex X ds rs es T h' := s.only o fun _ f => f.elim
/-- The law's last words: the cell of its answer is written, the deferred calls are shut. -/
theorem SB.answer {ds : List Nat} {rs es : Sl} {T : Tb Int} {h : H} (s : SB h0 c4 c5 n nx s1 B rx ex X ds rs es T h) (k : ∀ h', Ext h0 h' → Q true h') : stH h ⟨c4, 0, none⟩ [.bool true] fun h5 => shuts ds h5 fun h6 => ldB h6 ⟨c4, 0, none⟩ fun y => Q y h6 := by
  obtain ⟨b, hb⟩ := s.b4
  refine stH_of hb (by simp) fun h5 b5 e5 _ => ?_
  rw [writeA_all (by simp)] at b5
  have hl5 := s.l5
  have hl4 := s.l4
  refine shuts_of ds h5 (c5 + 1) _ (s.dk.only e5 fun x hx e => by have := (s.dk.2 x hx).1; omega) fun h6 o6 => ?_
  have b6 : Blk h6 c4 #[.bool true] 4 := o6.block b5 (by omega)
  rw [ldB_iff (b6.cell (i := 0) rfl)]
  exact k h6 ((s.kp.ext.step e5 fun m hm e => by omega).step o6 fun m hm e => by omega)
theorem bits_loop (k : ∀ h', Ext h0 h' → Q true h') (hB : B.length ≤ 500) (hw : ∀ x ∈ B, W64 x) (okx : TOk X) (hcx : X.count < 1073741824) :
    ∀ (m i : Nat) (h : H) (ds : List Nat) (rs es : Sl) (T : Tb Int), SB h0 c4 c5 n nx s1 B rx ex X ds rs es T h → TOk T → (∀ key, getM T key = getM X key) → T.count = X.count → i ≤ B.length → B.length - i < m →
      F.spatelaw6_TableSteps.l5 Q m ds s1 ⟨c4, 0, none⟩ ⟨c5, 0, none⟩ (some ⟨nx, 0, none⟩) ((leftT T : Nat) : Int) (i : Int) h
  | 0, i, h, ds, rs, es, T, s, ok, hg, hc, hi, hm => by omega
  | m + 1, i, h, ds, rs, es, T, s, ok, hg, hc, hi, hm => by
    unfold F.spatelaw6_TableSteps.l5
    have hl := rd_len cI_len (by omega) s.rd
    rw [hl]
    simp only [decide_eq_true_eq, decide_eq_false_iff_not]
    have hbe := s.t.be
    simp only [BIG] at hbe
    have hleft : leftT T ≤ 1099511627776 := by unfold leftT; omega
    have hl5 := s.l5
    have hl4 := s.l4
    refine ⟨fun g => ?_, fun g => ?_⟩
    · obtain ⟨x, hx⟩ : ∃ x, B[i]? = some x := ⟨_, List.getElem?_eq_getElem (by omega)⟩
      have hxw := hw x (List.mem_of_getElem? hx)
      obtain ⟨p, q1, q2, q3⟩ := rd_at cI_len (by omega) (s.rd.ext s.kp.ext) hx
      have hcell : cellH h (p.add (i * 1)) = some (.int .i64 x) := by have := q3.one; rwa [Nat.mul_one] at this ⊢
      -- what is moved, whatever it is
      have go : ∀ y : Nat, (y = x.toNat ∨ (leftT T ≤ x.toNat ∧ y = leftT T)) → y ≤ leftT T → F.spatelaw6_TableSteps.j8 Q (F.spatelaw6_TableSteps.l5 Q m) ds s1 ⟨c4, 0, none⟩ ⟨c5, 0, none⟩ (some ⟨nx, 0, none⟩) ((leftT T : Nat) : Int) (i : Int) (y : Int) h := fun y hy hyl => by
        unfold F.spatelaw6_TableSteps.j8
        rw [ldP_iff (s.b5.cell (i := 0) rfl)]
        refine idxR_of q1 (by omega) rfl ?_
        rw [ldI_iff hcell]
        obtain ⟨T', m1, m2, m3, m4, m5, m6, m7⟩ := move_ok (z := (0 : Int)) ok x
        refine Move_spec s.t m1 hxw.2 fun h1 es1 t1 st1 => ?_
        have hd : IntKind.wrap .i64 (((leftT T : Nat) : Int) - (y : Int)) = ((leftT T' : Nat) : Int) := by rw [w64 (by omega) (by omega)]; omega
        rw [hd]
        simp only [bne_self_eq_false]
        refine ⟨fun g => (by cases g), fun _ => ?_⟩
        have hfn : ∀ b, FT n rs es1 b → b ≠ c4 ∧ b ≠ c5 ∧ ¬ FT nx rx ex b ∧ b ∉ ds := fun b hb => by
          rcases st1.new b hb with h1 | h1
          · exact ⟨(s.lx b h1).1, (s.lx b h1).2, fun h2 => s.dj b h2 h1, fun h2 => (s.dn b h2).1 h1⟩
          · obtain ⟨b4, hb4⟩ := s.b4
            have := block_lt hb4
            have := block_lt s.b5
            exact ⟨by omega, by omega, fun h2 => by have := s.x.lt b h2; omega, fun h2 => by have := s.dk.lt b h2; omega⟩
        obtain ⟨b4, hb4⟩ := s.b4
        have kp1 := s.kp.step st1
        have sb1 : SB h0 c4 c5 n nx s1 B rx ex X ds rs es1 T' h1 := ⟨kp1, ⟨kp1.ext, s.kx.mine⟩, ⟨b4, st1.only.block hb4 fun hf => (s.lx _ hf).1 rfl⟩, st1.only.block s.b5 fun hf => (s.lx _ hf).2 rfl, t1, s.x.only st1.only s.dj, fun b hb h2 => (hfn b h2).2.2.1 hb, s.rd, s.l4, s.l5, fun b hb => ⟨(hfn b hb).1, (hfn b hb).2.1⟩, s.lxx, s.dk.only st1.only fun d hd hf => (s.dn d hd).1 hf, fun d hd => ⟨fun h2 => (hfn d h2).2.2.2 hd, (s.dn d hd).2⟩⟩
        rw [ldP_iff (sb1.b5.cell (i := 0) rfl)]
        refine Len_spec t1 (Len_spec sb1.x ?_)
        rw [m6, hc]
        simp only [bne_self_eq_false]
        unfold F.spatelaw6_TableSteps.j11
        refine ⟨fun g => (by cases g), fun _ => ?_⟩
        unfold F.spatelaw6_TableSteps.j9
        refine All_spec sb1.x okx hcx fun h2 ka ma b r sq e2 mine dis => ?_
        have sb2 := sb1.ext e2
        have hsz : c5 < h1.size := block_lt sb1.b5
        have s2z := e2.size
        refine range_seq (fun j h' => Ext h2 h' ∧ h'[h2.size]? = some (.deferred (some []))) (fun _ _ => False) (fun j h' h'' t o => ⟨t.1.step o fun j hj e => by omega, o.block t.2 (by omega)⟩) (fun _ _ _ f _ => f) (fun j h' t => sq.only t.1 fun _ _ f => f) ⟨.push _ _, by simp⟩ (fun Xo j y' hh K J hXo hI hll hy' kK kJ => ?_) (fun h' hI => ?_) (fun _ _ f => f.elim)
        · have hxm := List.mem_of_getElem? hy'
          have hsm := allL_small s.x okx hxm
          obtain ⟨hv, _⟩ := allL_mem okx hxm
          have sbh := sb2.ext hI.1
          rw [ldP_iff (sbh.b5.cell (i := 0) rfl)]
          refine Get_spec sbh.t m2 hsm fun ha ea => ?_
          rw [m7, hg, hv]
          refine ⟨fun g => (by cases g), fun _ => ?_⟩
          unfold F.spatelaw6_TableSteps.j10
          simp only [Option.getD_some, bne_self_eq_false]
          refine ⟨fun g => (by cases g), fun _ => ?_⟩
          exact kK ha ⟨hI.1.trans ea, ea.block hI.2 (fun f => f)⟩ (ea.block hll (fun f => f))
        · unfold F.spatelaw6_TableSteps.j6
          rw [w64 (by omega) (by omega), show (i : Int) + 1 = ((i + 1 : Nat) : Int) from by omega]
          have sbh := sb2.ext hI.1
          have sb3 : SB h0 c4 c5 n nx s1 B rx ex X (h2.size :: ds) rs es1 T' h' := ⟨sbh.kp, sbh.kx, sbh.b4, sbh.b5, sbh.t, sbh.x, sbh.dj, sbh.rd, sbh.l4, sbh.l5, sbh.lx, sbh.lxx, ⟨List.nodup_cons.2 ⟨fun hin => by have := sb2.dk.lt _ hin; omega, sbh.dk.1⟩, fun d hd => by
            rcases List.mem_cons.1 hd with rfl | hd
            · exact ⟨by omega, hI.2⟩
            · exact sbh.dk.2 d hd⟩, fun d hd => by
            rcases List.mem_cons.1 hd with rfl | hd
            · exact ⟨fun h3 => by have := sb2.t.lt _ h3; omega, fun h3 => by have := sb2.x.lt _ h3; omega⟩
            · exact sbh.dn d hd⟩
          exact bits_loop k hB hw okx hcx m (i + 1) h' _ rs es1 T' sb3 m2 (fun key => (m7 key).trans (hg key)) (m6.trans hc) (by omega) (by omega)
      refine idxR_of q1 (by omega) rfl ?_
      rw [ldI_iff hcell]
      unfold F.spatelaw6_TableSteps.j7
      simp only [decide_eq_true_eq, decide_eq_false_iff_not]
      refine ⟨fun g1 => ⟨fun g2 => by omega, fun g2 => ?_⟩, fun g1 => ⟨fun g2 => ?_, fun g2 => ?_⟩⟩
      · exact go 0 (.inl (by omega)) (by omega)
      · exact go (leftT T) (.inr ⟨by omega, rfl⟩) (by omega)
      · have := go x.toNat (.inl rfl) (by omega)
        rw [Int.toNat_of_nonneg (by omega)] at this
        exact this
    · rw [ldP_iff (s.b5.cell (i := 0) rfl)]
      obtain ⟨T', m1, m2, m3, m4, m5, m6, m7⟩ := move_ok (z := (0 : Int)) ok ((leftT T : Nat) : Int)
      refine Move_spec s.t m1 (by omega) fun h1 es1 t1 st1 => ?_
      have hz : leftT T' = 0 := by omega
      rw [hz]
      refine ⟨fun _ => ?_, fun g => by simp at g⟩
      have hfn : ∀ b, FT n rs es1 b → b ≠ c4 ∧ b ≠ c5 ∧ ¬ FT nx rx ex b ∧ b ∉ ds := fun b hb => by
        rcases st1.new b hb with h1 | h1
        · exact ⟨(s.lx b h1).1, (s.lx b h1).2, fun h2 => s.dj b h2 h1, fun h2 => (s.dn b h2).1 h1⟩
        · obtain ⟨b4, hb4⟩ := s.b4
          have := block_lt hb4
          have := block_lt s.b5
          exact ⟨by omega, by omega, fun h2 => by have := s.x.lt b h2; omega, fun h2 => by have := s.dk.lt b h2; omega⟩
      obtain ⟨b4, hb4⟩ := s.b4
      have kp1 := s.kp.step st1
      have sb1 : SB h0 c4 c5 n nx s1 B rx ex X ds rs es1 T' h1 := ⟨kp1, ⟨kp1.ext, s.kx.mine⟩, ⟨b4, st1.only.block hb4 fun hf => (s.lx _ hf).1 rfl⟩, st1.only.block s.b5 fun hf => (s.lx _ hf).2 rfl, t1, s.x.only st1.only s.dj, fun b hb h2 => (hfn b h2).2.2.1 hb, s.rd, s.l4, s.l5, fun b hb => ⟨(hfn b hb).1, (hfn b hb).2.1⟩, s.lxx, s.dk.only st1.only fun d hd hf => (s.dn d hd).1 hf, fun d hd => ⟨fun h2 => (hfn d h2).2.2.2 hd, (s.dn d hd).2⟩⟩
      rw [ldP_iff (sb1.b5.cell (i := 0) rfl)]
      refine Left_spec t1 ?_
      rw [hz]
      exact sb1.answer k
end
section
variable {h0 : H} {Q : Bool → H → Prop} {c4 c5 n : Nat} {s0 s1 : Sl} {A : List ByteArray} {B : List Int}
theorem keys_loop (k : ∀ h', Ext h0 h' → Q true h') (hA : A.length ≤ 500) (hB : B.length ≤ 500) (hw : ∀ x ∈ B, W64 x) (hs : ∀ x ∈ A, SmallK x) (r0 : Reads h0 s0 1 (A.flatMap cT)) (r1 : Reads h0 s1 1 (B.flatMap cI)) (hl4 : h0.size ≤ c4) (hl5 : c4 < c5) :
    ∀ (m i : Nat) (h : H) (rs es : Sl) (T : Tb Int) (gr : Bool), TH h n rs es T → TOk T → Kept h0 h n rs es → Blk h c4 #[.bool false] 4 → Blk h c5 #[.pointer (some ⟨n, 0, none⟩)] 30 → (∀ b, FT n rs es b → b ≠ c4 ∧ b ≠ c5) → Bd i T → (gr = false → leftT T = 0) → i ≤ A.length → A.length - i < m →
      F.spatelaw6_TableSteps.l2 Q m [] s0 s1 ⟨c4, 0, none⟩ ⟨c5, 0, none⟩ gr (i : Int) h
  | 0, i, h, rs, es, T, gr, t, ok, kp, b4, b5, lx, bd, hgr, hi, hm => by omega
  | m + 1, i, h, rs, es, T, gr, t, ok, kp, b4, b5, lx, bd, hgr, hi, hm => by
    unfold F.spatelaw6_TableSteps.l2
    have hl := rd_len cT_len (by omega) r0
    rw [hl]
    have finish : F.spatelaw6_TableSteps.j4 Q (F.spatelaw6_TableSteps.l2 Q m) [] s0 s1 ⟨c4, 0, none⟩ ⟨c5, 0, none⟩ gr (i : Int) false h := by
      unfold F.spatelaw6_TableSteps.j4
      refine ⟨fun g => (by cases g), fun _ => ⟨fun g => ?_, fun g => ?_⟩⟩
      · have hz := hgr (by simpa using g)
        rw [ldP_iff (b5.cell (i := 0) rfl)]
        refine Left_spec t ?_
        rw [hz]
        show stH h ⟨c4, 0, none⟩ [.bool true] _
        refine stH_of b4 (by simp) fun h1 b1 e1 _ => ?_
        rw [writeA_all (by simp)] at b1
        show ldB _ _ _
        rw [ldB_iff (b1.cell (i := 0) rfl)]
        exact k h1 (kp.ext.step e1 fun j hj e => by omega)
      · rw [ldP_iff (b5.cell (i := 0) rfl)]
        refine Twin_spec t fun h1 nx rx ex tx e1 mx => ?_
        have t1 := t.ext e1
        have b5' : Blk h1 c5 #[.pointer (some ⟨n, 0, none⟩)] 30 := e1.block b5 (fun f => f)
        rw [ldP_iff (b5'.cell (i := 0) rfl)]
        refine Left_spec t1 ?_
        have hc4 := block_lt b4
        have hc5 := block_lt b5
        have hk := kp.ext.size
        have htl := t.lt
        refine ⟨B.length + 1, ?_⟩
        exact bits_loop (i := 0) k hB hw ok (by have := bd.1; omega) (B.length + 1) h1 [] rs es T ⟨kp.add e1, ⟨kp.ext.trans e1, fun b hb => by have := mx b hb; omega⟩, ⟨false, e1.block b4 (fun f => f)⟩, b5', t1, tx, fun b hb h2 => by have := mx b hb; have := htl b h2; omega, r1, hl4, hl5, lx, fun b hb => by have := mx b hb; omega, ⟨List.nodup_nil, fun d hd => by cases hd⟩, fun d hd => by cases hd⟩ ok (fun _ => rfl) rfl (by omega) (by omega)
    simp only [decide_eq_true_eq, decide_eq_false_iff_not]
    refine ⟨fun g => ?_, fun g => finish⟩
    cases gr with
    | true => exact finish
    | false =>
      unfold F.spatelaw6_TableSteps.j4
      refine ⟨fun _ => ?_, fun g => by cases g⟩
      unfold F.spatelaw6_TableSteps.j3
      obtain ⟨x, hx⟩ : ∃ x, A[i]? = some x := ⟨_, List.getElem?_eq_getElem (by omega)⟩
      obtain ⟨p, q1, q2, q3⟩ := rd_at cT_len (by omega) (r0.ext kp.ext) hx
      have hcell : cellH h (p.add (i * 1)) = some (.string x) := by have := q3.one; rwa [Nat.mul_one] at this ⊢
      rw [ldP_iff (b5.cell (i := 0) rfl)]
      refine Slots_spec t ?_
      rw [ldP_iff (b5.cell (i := 0) rfl)]
      refine idxR_of q1 (by omega) rfl ?_
      rw [ldS_iff hcell]
      obtain ⟨T', p1, p2, p3, p4, p5, p6⟩ := put_ok (z := (0 : Int)) ok x (i : Int)
      have bd' := count_bd ok x (i : Int) i bd p1
      refine Put_spec t ok (hs x (List.mem_of_getElem? hx)) p1 (by have := bd'.2; simp only [BIG]; omega) (by have := bd'.1; simp only [BIG]; omega) fun h1 rs1 es1 t1 st1 => ?_
      have b5' : Blk h1 c5 #[.pointer (some ⟨n, 0, none⟩)] 30 := st1.only.block b5 fun hf => (lx _ hf).2 rfl
      have b4' : Blk h1 c4 #[.bool false] 4 := st1.only.block b4 fun hf => (lx _ hf).1 rfl
      rw [ldP_iff (b5'.cell (i := 0) rfl)]
      refine Slots_spec t1 ?_
      have hc4 := block_lt b4
      have hc5 := block_lt b5
      rw [w64 (by omega) (by omega), show (i : Int) + 1 = ((i + 1 : Nat) : Int) from by omega]
      refine keys_loop k hA hB hw hs r0 r1 hl4 hl5 m (i + 1) h1 rs1 es1 T' _ t1 p2 (kp.step st1) b4' b5' (fun b hb => ?_) bd' (fun hg => ?_) (by omega) (by omega)
      · rcases st1.new b hb with h2 | h2
        · exact lx b h2
        · omega
      · have hz := hgr rfl
        have hpos := ok.pos
        simp only [bne_eq_false_iff_eq] at hg
        rcases p6 with ⟨_, _, a, _⟩ | ⟨_, _, a⟩
        · omega
        · omega
end
theorem TableSteps_spec {h : H} {s0 s1 : Sl} {A : List ByteArray} {B : List Int} {Q : Bool → H → Prop} (r0 : Reads h s0 1 (A.flatMap cT)) (r1 : Reads h s1 1 (B.flatMap cI)) (hs : ∀ x ∈ A, SmallK x) (hw : ∀ x ∈ B, W64 x) (k : ∀ h', Ext h h' → Q true h') : F.spatelaw6_TableSteps s0 s1 h Q := by
  unfold F.spatelaw6_TableSteps
  refine new_of fun c4 h1 hc4 b4 e1 z1 => ?_
  refine known_spec fun h3 e3 => ?_
  have hl0 := rd_len cT_len (by omega) r0
  have hl1 := rd_len cI_len (by omega) r1
  have b4' : Blk h3 c4 #[.bool false] 4 := e3.block b4 (fun f => f)
  have x3 := e1.trans e3
  have ans : F.spatelaw6_TableSteps.j12 Q [] s0 s1 ⟨c4, 0, none⟩ true h3 := by
    unfold F.spatelaw6_TableSteps.j12
    refine ⟨fun _ => ?_, fun g => by cases g⟩
    refine stH_of b4' (by simp) fun h5 b5 e5 _ => ?_
    rw [writeA_all (by simp)] at b5
    show ldB _ _ _
    rw [ldB_iff (b5.cell (i := 0) rfl)]
    exact k h5 (x3.step e5 fun j hj e => by omega)
  rw [hl0, hl1]
  simp only [decide_eq_true_eq, decide_eq_false_iff_not]
  refine ⟨fun g => (by cases g), fun _ => ⟨fun _ => ans, fun g0 => ?_⟩⟩
  by_cases g1 : (B.length : Int) > 500
  · rw [decide_eq_true g1]; exact ans
  · rw [decide_eq_false g1]
    unfold F.spatelaw6_TableSteps.j12
    refine ⟨fun g => (by cases g), fun _ => ?_⟩
    unfold F.spatelaw6_TableSteps.j1
    refine New_spec fun h5 n rs t5 e5 m5 => ?_
    refine new_of fun c5 h6 hc5 b6 e6 z6 => ?_
    refine stH_of b6 (by simp) fun h7 b7 e7 _ => ?_
    rw [writeA_all (by simp)] at b7
    obtain ⟨n1, n2, n3⟩ := new_ok (0 : Int)
    have s1' := e1.size
    have s3' := e3.size
    have s5' := e5.size
    have htl := t5.lt
    have hb4l := block_lt b4'
    have x6 := (x3.trans e5).trans e6
    refine ⟨A.length + 1, ?_⟩
    exact keys_loop (i := 0) k (by omega) (by omega) hw hs r0 r1 (by omega) (by omega) (A.length + 1) h7 rs _ _ false ((t5.ext e6).only e7 fun b hb e => by have := htl b hb; omega) n1 ⟨x6.step e7 fun j hj e => by omega, fun b hb => by have := m5 b hb; omega⟩ (e7.block ((e5.trans e6).block b4' (fun f => f)) (by omega)) b7 (fun b hb => by have := m5 b hb; have := htl b hb; omega) ⟨by simp [newT], by simp [newT]⟩ (fun _ => by simp [newT, leftT]) (by omega) (by omega)
end Go.Proofs.Ytkedkajdiclmjaa.V
