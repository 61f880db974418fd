/- The law TableWalks answers true, first part: what holds all the while; the inner ranges; no condition. -/
import Derived.Test.YtkedkajdiclmjaaTq
namespace Go.Proofs.Ytkedkajdiclmjaa.V
open Go
set_option linter.unusedVariables false
set_option linter.unusedSimpArgs false

/-- Where the law's variables lie. -/
structure WC where
  h0 : H
  c2 : Nat
  c4 : Nat
  c5 : Nat
  c7 : Nat
  c8 : Nat
  c9 : Nat
  n : Nat
  ka : Nat
  ma : Nat
  b : Nat
  rq : Sl
  sk : Sl
  sv : Sl
  L : List (ByteArray × Int)
  stop : Int
/-- The blocks that nothing turns. -/
def WC.pz (c : WC) (m : Nat) : Prop := m = c.c2 ∨ m = c.c5 ∨ m = c.c7 ∨ m = c.c8 ∨ m = c.c9 ∨ SQF c.ka c.ma c.b c.rq m ∨ c.sk.blk = some m ∨ c.sv.blk = some m
structure WI (c : WC) (ds z : List Nat) (rs es : Sl) (T : Tb Int) (h : H) : Prop where
  kp : Kept c.h0 h c.n rs es
  t : TH h c.n rs es T
  ok : TOk T
  b2 : Blk h c.c2 #[.int .i64 c.stop] 3
  b4 : ∃ b, Blk h c.c4 #[.bool b] 4
  b5 : Blk h c.c5 #[.pointer (some ⟨c.n, 0, none⟩)] 30
  b7 : Blk h c.c7 #[c.sk.enc] 37
  b8 : Blk h c.c8 #[c.sv.enc] 38
  b9 : Blk h c.c9 #[seqV c.ka c.ma] 40
  bk : Owns h c.sk 9 1 ((c.L.map (·.1)).flatMap cT)
  bv : Owns h c.sv 3 1 ((c.L.map (·.2)).flatMap cI)
  sq : SeqH h c.ka c.ma c.b c.rq c.L
  pd : ∀ m, FT c.n rs es m → ¬ c.pz m ∧ m ≠ c.c4 ∧ m ∉ ds ∧ m ∉ z
  p0 : ∀ m, c.pz m → c.h0.size ≤ m
  l4 : c.h0.size ≤ c.c4
  p4 : ¬ c.pz c.c4
  dk : DsOk h c.h0.size ds
  dd : ∀ d ∈ ds, ¬ c.pz d ∧ d ≠ c.c4
  zz : ∀ d ∈ z, c.h0.size ≤ d ∧ d < h.size ∧ ¬ c.pz d ∧ d ≠ c.c4 ∧ d ∉ ds
section
variable {c : WC} {ds z : List Nat} {rs es : Sl} {T : Tb Int} {h h' : H}
theorem WI.plt (w : WI c ds z rs es T h) : ∀ m, c.pz m → m < h.size := fun m hm => by
  rcases hm with rfl | rfl | rfl | rfl | rfl | hm | hm | hm
  · exact block_lt w.b2
  · exact block_lt w.b5
  · exact block_lt w.b7
  · exact block_lt w.b8
  · exact block_lt w.b9
  · exact w.sq.lt m hm
  · exact w.bk.blk_lt hm
  · exact w.bv.blk_lt hm
theorem WI.c4lt (w : WI c ds z rs es T h) : c.c4 < h.size := by
  obtain ⟨b, hb⟩ := w.b4; exact block_lt hb
/-- Blocks that are none of these are written, or made. -/
theorem WI.only (w : WI c ds z rs es T h) {S : Nat → Prop} (o : Only S h h') (hS : ∀ m, S m → c.h0.size ≤ m ∧ ¬ c.pz m ∧ m ≠ c.c4 ∧ ¬ FT c.n rs es m ∧ m ∉ ds) : WI c ds z rs es T h' := by
  have np : ∀ m, c.pz m → ¬ S m := fun m hm hs => (hS m hs).2.1 hm
  obtain ⟨b, hb⟩ := w.b4
  exact ⟨⟨w.kp.ext.step o fun m hm hf => by have := (hS m hf).1; omega, w.kp.mine⟩, w.t.only o fun m hm hs => (hS m hs).2.2.2.1 hm, w.ok, o.block w.b2 (np _ (.inl rfl)), ⟨b, o.block hb fun hs => (hS _ hs).2.2.1 rfl⟩, o.block w.b5 (np _ (.inr (.inl rfl))), o.block w.b7 (np _ (.inr (.inr (.inl rfl)))), o.block w.b8 (np _ (.inr (.inr (.inr (.inl rfl))))), o.block w.b9 (np _ (.inr (.inr (.inr (.inr (.inl rfl)))))),
    w.bk.only o fun m hm => np _ (.inr (.inr (.inr (.inr (.inr (.inr (.inl hm))))))), w.bv.only o fun m hm => np _ (.inr (.inr (.inr (.inr (.inr (.inr (.inr hm))))))), w.sq.only o fun m hm => np _ (.inr (.inr (.inr (.inr (.inr (.inl hm)))))), w.pd, w.p0, w.l4, w.p4, w.dk.only o fun d hd hs => (hS d hs).2.2.2.2 hd, w.dd, fun d hd => by
      obtain ⟨z1, z2, z3⟩ := w.zz d hd
      exact ⟨z1, Nat.lt_of_lt_of_le z2 o.size, z3⟩⟩
theorem WI.ext (w : WI c ds z rs es T h) (o : Ext h h') : WI c ds z rs es T h' := w.only o fun _ f => f.elim
/-- A block of z is written. -/
theorem WI.onz (w : WI c ds z rs es T h) {d : Nat} (o : Only (· = d) h h') (hd : d ∈ z) : WI c ds z rs es T h' := w.only o fun m hm => by
  subst hm
  obtain ⟨z1, z2, z3, z4, z5⟩ := w.zz m hd
  exact ⟨z1, z3, z4, fun hf => (w.pd m hf).2.2.2 hd, z5⟩
/-- A new block joins z. -/
theorem WI.addz (w : WI c ds z rs es T h) {d : Nat} (hd : c.h0.size ≤ d) (hl : d < h.size) (np : ¬ c.pz d ∧ d ≠ c.c4 ∧ d ∉ ds ∧ ¬ FT c.n rs es d) : WI c ds (d :: z) rs es T h :=
  ⟨w.kp, w.t, w.ok, w.b2, w.b4, w.b5, w.b7, w.b8, w.b9, w.bk, w.bv, w.sq, fun m hm => ⟨(w.pd m hm).1, (w.pd m hm).2.1, (w.pd m hm).2.2.1, fun h => by
    rcases List.mem_cons.1 h with rfl | h
    · exact np.2.2.2 hm
    · exact (w.pd m hm).2.2.2 h⟩, w.p0, w.l4, w.p4, w.dk, w.dd, fun x hx => by
    rcases List.mem_cons.1 hx with rfl | hx
    · exact ⟨hd, hl, np.1, np.2.1, np.2.2.1⟩
    · exact w.zz x hx⟩
/-- .. one that was made behind h. -/
theorem WI.newz (w : WI c ds z rs es T h) {d : Nat} (e : Ext h h') (hd : h.size ≤ d) (hl : d < h'.size) : WI c ds (d :: z) rs es T h' := by
  have hk := w.kp.ext.size
  refine (w.ext e).addz (by omega) hl ⟨fun hp => by have := w.plt d hp; omega, fun h4 => by have := w.c4lt; omega, fun hds => by have := w.dk.lt d hds; omega, fun hf => by have := w.t.lt d hf; omega⟩
theorem WI.sub {z' : List Nat} (w : WI c ds z rs es T h) (hs : ∀ d ∈ z', d ∈ z) : WI c ds z' rs es T h :=
  ⟨w.kp, w.t, w.ok, w.b2, w.b4, w.b5, w.b7, w.b8, w.b9, w.bk, w.bv, w.sq, fun m hm => ⟨(w.pd m hm).1, (w.pd m hm).2.1, (w.pd m hm).2.2.1, fun h => (w.pd m hm).2.2.2 (hs m h)⟩, w.p0, w.l4, w.p4, w.dk, w.dd, fun x hx => w.zz x (hs x hx)⟩
/-- The table turns. -/
theorem WI.step (w : WI c ds z rs es T h) {rs' es' : Sl} {T' : Tb Int} (s : Stp h c.n rs es h' rs' es') (t' : TH h' c.n rs' es' T') (ok' : TOk T') : WI c ds z rs' es' T' h' ∧ ∀ d ∈ z, h'[d]? = h[d]? := by
  have nf : ∀ m, c.pz m → ¬ FT c.n rs es m := fun m hm hf => (w.pd m hf).1 hm
  obtain ⟨b, hb⟩ := w.b4
  have o := s.only
  have hk := w.kp.ext.size
  refine ⟨⟨w.kp.step s, t', ok', o.block w.b2 (nf _ (.inl rfl)), ⟨b, o.block hb fun hf => (w.pd _ hf).2.1 rfl⟩, o.block w.b5 (nf _ (.inr (.inl rfl))), o.block w.b7 (nf _ (.inr (.inr (.inl rfl)))), o.block w.b8 (nf _ (.inr (.inr (.inr (.inl rfl))))), o.block w.b9 (nf _ (.inr (.inr (.inr (.inr (.inl rfl)))))),
    w.bk.only o fun m hm => nf _ (.inr (.inr (.inr (.inr (.inr (.inr (.inl hm))))))), w.bv.only o fun m hm => nf _ (.inr (.inr (.inr (.inr (.inr (.inr (.inr hm))))))), w.sq.only o fun m hm => nf _ (.inr (.inr (.inr (.inr (.inr (.inl hm)))))), fun m hm => ?_, w.p0, w.l4, w.p4, w.dk.only o fun d hd hf => (w.pd d hf).2.2.1 hd, w.dd, fun d hd => ?_⟩, fun d hd => o.same d (w.zz d hd).2.1 fun hf => (w.pd d hf).2.2.2 hd⟩
  · rcases s.new m hm with h1 | h1
    · exact w.pd m h1
    · exact ⟨fun hp => by have := w.plt m hp; omega, by have := w.c4lt; omega, fun hd => by have := w.dk.lt m hd; omega, fun hd => by have := (w.zz m hd).2.1; omega⟩
  · obtain ⟨z1, z2, z3⟩ := w.zz d hd
    exact ⟨z1, Nat.lt_of_lt_of_le z2 o.size, z3⟩
/-- The law's last words. -/
theorem WI.answer {Q : Bool → H → Prop} (w : WI c ds z rs es T h) (k : ∀ h', Ext c.h0 h' → Q true h') : stH h ⟨c.c4, 0, none⟩ [.bool true] fun h5 => shuts ds h5 fun h6 => ldB h6 ⟨c.c4, 0, none⟩ fun y => Q y h6 := by
  obtain ⟨b, hb⟩ := w.b4
  refine stH_of hb (by simp) fun h5 b5 e5 _ => ?_
  rw [writeA_all (by simp)] at b5
  have key : ∀ (l : List Nat) (h1 : H), (∀ d ∈ l, d ∈ ds) → l.Nodup → (∀ d ∈ l, h1[d]? = some (.deferred (some []))) → Blk h1 c.c4 #[.bool true] 4 → Ext c.h0 h1 → shuts l h1 fun h6 => ldB h6 ⟨c.c4, 0, none⟩ fun y => Q y h6 := by
    intro l
    induction l with
    | nil =>
      intro h1 _ _ _ b1 e1
      show ldB _ _ _
      rw [ldB_iff (b1.cell (i := 0) rfl)]
      exact k h1 e1
    | cons d l ih =>
      intro h1 hl hnd hd b1 e1
      have hnd' := List.nodup_cons.1 hnd
      have o := put_only h1 d (.deferred none)
      have hdd := hl d (by simp)
      refine ⟨hd d (by simp), ih _ (fun x hx => hl x (by simp [hx])) hnd'.2 (fun x hx => o.block (hd x (by simp [hx])) fun e => hnd'.1 (e ▸ hx)) (o.block b1 fun e => (w.dd d hdd).2 e.symm) (e1.step o fun m hm e => ?_)⟩
      have := (w.dk.2 d hdd).1
      omega
  exact key ds h5 (fun d hd => hd) w.dk.1 (fun d hd => e5.block (w.dk.2 d hd).2 fun e => (w.dd d hd).2 e) b5 (w.kp.ext.step e5 fun m hm e => by have := w.l4; omega)
end
section
variable {c : WC} {ds z : List Nat} {Q : Bool → H → Prop} {K2 : H → Prop} {J2 : Nat → H → Prop} {l2 x12 x13 : Nat}
/-- Behind a round's inner range: the key goes, another comes. -/
theorem walk_j9 {h : H} {rs es : Sl} {T : Tb Int} {k : ByteArray} {tn i N : Nat} (w : WI c ds z rs es T h) (hx12 : x12 ∈ z) (hx13 : x13 ∈ z) (b12 : Blk h x12 #[.int .i64 (tn : Int)] 3) (b13 : Blk h x13 #[.int .i64 (i : Int)] 3) (hk : k.size < 4611686018427387904) (bd : Bd N T) (hN : N ≤ 1000000)
    (kK : ∀ h' rs' es' T', WI c ds z rs' es' T' h' → Bd (N + 2) T' → (∀ d ∈ z, h'[d]? = h[d]?) → K2 h') (kJ : ∀ h' rs' es' T', WI c ds z rs' es' T' h' → Bd (N + 2) T' → (∀ d ∈ z, h'[d]? = h[d]?) → tn = 0 → J2 1 h') :
    F.spatelaw6_TableWalks.j9 Q K2 J2 l2 ⟨c.c2, 0, none⟩ ⟨c.c5, 0, none⟩ ⟨x12, 0, none⟩ ⟨x13, 0, none⟩ k h := by
  unfold F.spatelaw6_TableWalks.j9
  rw [ldP_iff (w.b5.cell (i := 0) rfl)]
  have hks : SmallK k := by unfold SmallK; omega
  obtain ⟨T1, p1, p2, p3, p4, p5, p6, p7⟩ := drop_ok (z := (0 : Int)) w.ok k
  refine Drop_spec w.t w.ok hks p1 fun h1 es1 t1 s1 => ?_
  obtain ⟨w1, z1⟩ := w.step s1 t1 p2
  rw [ldP_iff (w1.b5.cell (i := 0) rfl)]
  have bd1 : Bd (N + 1) T1 := ⟨by have := bd.1; omega, by have := bd.2; omega⟩
  have hsz : (k ++ (⟨#[33]⟩ : ByteArray)).size = k.size + 1 := by
    rw [ByteArray.size_append]; rfl
  refine ⟨by rw [show (⟨#[33]⟩ : ByteArray).size = 1 from rfl]; omega, ?_⟩
  have hks2 : SmallK (k ++ (⟨#[33]⟩ : ByteArray)) := by unfold SmallK; rw [hsz]; omega
  obtain ⟨T2, q1, q2, q3, q4, q5, q6⟩ := put_ok (z := (0 : Int)) p2 (k ++ (⟨#[33]⟩ : ByteArray)) (-9)
  have bd2 := count_bd p2 _ _ _ bd1 q1
  refine Put_spec t1 p2 hks2 q1 (by have := bd2.2; simp only [BIG]; omega) (by have := bd2.1; simp only [BIG]; omega) fun h2 rs2 es2 t2 s2 => ?_
  obtain ⟨w2, z2⟩ := w1.step s2 t2 q2
  have zz : ∀ d ∈ z, h2[d]? = h[d]? := fun d hd => (z2 d hd).trans (z1 d hd)
  have b12' : Blk h2 x12 #[.int .i64 (tn : Int)] 3 := (zz x12 hx12).trans b12
  have b13' : Blk h2 x13 #[.int .i64 (i : Int)] 3 := (zz x13 hx13).trans b13
  rw [ldI_iff (b12'.cell (i := 0) rfl)]
  simp only [beq_iff_eq, beq_eq_false_iff_ne]
  unfold F.spatelaw6_TableWalks.j10
  refine ⟨fun g => ?_, fun g => ⟨fun g => (by cases g), fun _ => kK h2 _ _ T2 w2 bd2 zz⟩⟩
  rw [ldI_iff (b13'.cell (i := 0) rfl), ldI_iff (w2.b2.cell (i := 0) rfl)]
  exact ⟨fun _ => kJ h2 _ _ T2 w2 bd2 zz (by omega), fun _ => kK h2 _ _ T2 w2 bd2 zz⟩
/-- One round of the outer range. -/
theorem walk_j8 {h : H} {rs es : Sl} {T : Tb Int} {x : ByteArray × Int} {tn i N : Nat} {X : Obj} (hX : ∃ r, X = .loop r) (w : WI c ds z rs es T h) (hx12 : x12 ∈ z) (hx13 : x13 ∈ z) (hl2 : l2 ∈ z) (hne : x12 ≠ x13) (hnl : l2 ≠ x13) (b12 : Blk h x12 #[.int .i64 (tn : Int)] 3) (b13 : Blk h x13 #[.int .i64 (i : Int)] 3) (hlX : h[l2]? = some X) (hx : c.L[i]? = some x) (hk : ∀ y ∈ c.L, y.1.size < 4611686018427387904) (bd : Bd N T) (hN : N ≤ 1000000)
    (kK : ∀ h' rs' es' T', WI c ds z rs' es' T' h' → Bd (N + 2) T' → (∀ d ∈ z, d ≠ x13 → h'[d]? = h[d]?) → Blk h' x13 #[.int .i64 ((i + 1 : Nat) : Int)] 3 → K2 h') (kJ : ∀ h' rs' es' T', WI c ds z rs' es' T' h' → Bd (N + 2) T' → (∀ d ∈ z, d ≠ x13 → h'[d]? = h[d]?) → Blk h' x13 #[.int .i64 ((i + 1 : Nat) : Int)] 3 → tn = 0 → J2 1 h') :
    F.spatelaw6_TableWalks.j8 Q K2 J2 l2 ⟨c.c2, 0, none⟩ ⟨c.c4, 0, none⟩ ⟨c.c5, 0, none⟩ ⟨c.c7, 0, none⟩ ⟨c.c8, 0, none⟩ ⟨c.c9, 0, none⟩ ⟨x12, 0, none⟩ ⟨x13, 0, none⟩ x.1 h := by
  unfold F.spatelaw6_TableWalks.j8
  have hi := (List.getElem?_eq_some_iff.1 hx).1
  have hLl := w.sq.len
  rw [ldI_iff (b13.cell (i := 0) rfl), w64 (by omega) (by omega), show (i : Int) + 1 = ((i + 1 : Nat) : Int) from by omega]
  refine stH_of b13 (by simp) fun h1 b13' e1 _ => ?_
  rw [writeA_all (by simp)] at b13'
  have w1 := w.onz e1 hx13
  have z1 : ∀ d ∈ z, d ≠ x13 → h1[d]? = h[d]? := fun d hd hn => e1.same d (w.zz d hd).2.1 hn
  have b12' : Blk h1 x12 #[.int .i64 (tn : Int)] 3 := (z1 x12 hx12 hne).trans b12
  have hlX1 : h1[l2]? = some X := (z1 l2 hl2 hnl).trans hlX
  refine new_of fun m h2 hm bm e2 zm => ?_
  refine stH_of bm (by simp) fun h3 bm3 e3 zm3 => ?_
  rw [writeA_all (by simp)] at bm3
  have x3 : Ext h1 h3 := e2.step e3 fun j hj e => by omega
  have w3 := w1.ext x3
  rw [ldV_iff (w3.b9.cell (i := 0) rfl)]
  -- what follows, wherever the inner range ends
  have rest : ∀ h', Ext h1 h' → F.spatelaw6_TableWalks.j9 Q K2 J2 l2 ⟨c.c2, 0, none⟩ ⟨c.c5, 0, none⟩ ⟨x12, 0, none⟩ ⟨x13, 0, none⟩ x.1 h' := fun h' e' => by
    have w' := w1.ext e'
    refine walk_j9 w' hx12 hx13 (e'.block b12' (fun f => f)) (e'.block b13' (fun f => f)) (hk x (List.mem_of_getElem? hx)) bd hN (fun h4 r4 s4 T4 w4 bd4 z4 => ?_) (fun h4 r4 s4 T4 w4 bd4 z4 ht => ?_)
    · exact kK h4 r4 s4 T4 w4 bd4 (fun d hd hn => ((z4 d hd).trans (e'.same d (w1.zz d hd).2.1 (fun f => f))).trans (z1 d hd hn)) ((z4 x13 hx13).trans (e'.block b13' (fun f => f)))
    · exact kJ h4 r4 s4 T4 w4 bd4 (fun d hd hn => ((z4 d hd).trans (e'.same d (w1.zz d hd).2.1 (fun f => f))).trans (z1 d hd hn)) ((z4 x13 hx13).trans (e'.block b13' (fun f => f))) ht
  have hl2lt := (w1.zz l2 hl2).2.1
  refine range_seqN (by obtain ⟨r, rfl⟩ := hX; exact ⟨r, x3.block hlX1 (fun f => f)⟩) (fun j h' => Ext h1 h' ∧ Blk h' m #[.int .i64 (j : Int)] 3) (fun j h' => j = 1 ∧ Ext h1 h') (fun j h' h'' t o => ⟨t.1.step o fun q hq e => by have := x3.size; omega, o.block t.2 (by omega)⟩) (fun j h' h'' t o => ⟨t.1, t.2.step o fun q hq e => by have := x3.size; omega⟩) (fun j h' t => w1.sq.only t.1 fun _ _ f => f) ⟨x3, bm3⟩ (fun Xi j y hh K J hXi hI hll hy kK3 kJ3 => ?_) (fun h' t => rest h' t.1) (fun j h' t => by
    obtain ⟨rfl, t⟩ := t
    exact ⟨_, rfl, (fun e => by cases e), fun _ => rest h' t⟩)
  have hj := (List.getElem?_eq_some_iff.1 hy).1
  have wh := w1.ext hI.1
  have hkl := own_len cT_len (by omega) wh.bk
  have hvl := own_len cI_len (by omega) wh.bv
  simp only [List.length_map] at hkl hvl
  rw [ldI_iff (hI.2.cell (i := 0) rfl), ldL_iff (wh.b7.cell (i := 0) rfl), hkl]
  simp only [ge_iff_le, decide_eq_true_eq, decide_eq_false_iff_not]
  refine ⟨fun g => by omega, fun _ => ?_⟩
  rw [ldL_iff (wh.b7.cell (i := 0) rfl), ldI_iff (hI.2.cell (i := 0) rfl)]
  obtain ⟨b1, a1, a2⟩ := own_at cT_len (by omega) wh.bk (i := j) (x := y.1) (by rw [List.getElem?_map, hy]; rfl)
  refine idxA_of (i := j) a1 (by omega) rfl ?_
  rw [ldS_iff (by have := a2.one; rwa [Nat.mul_one] at this ⊢)]
  simp only [beq_self_eq_true, Bool.not_true]
  refine ⟨fun g => (by cases g), fun _ => ?_⟩
  rw [ldL_iff (wh.b8.cell (i := 0) rfl), ldI_iff (hI.2.cell (i := 0) rfl)]
  obtain ⟨b2, a3, a4⟩ := own_at cI_len (by omega) wh.bv (i := j) (x := y.2) (by rw [List.getElem?_map, hy]; rfl)
  refine idxA_of (i := j) a3 (by omega) rfl ?_
  rw [ldI_iff (by have := a4.one; rwa [Nat.mul_one] at this ⊢)]
  simp only [bne_self_eq_false]
  unfold F.spatelaw6_TableWalks.j12
  refine ⟨fun g => (by cases g), fun _ => ?_⟩
  unfold F.spatelaw6_TableWalks.j11
  rw [ldI_iff (hI.2.cell (i := 0) rfl), w64 (by omega) (by omega), show (j : Int) + 1 = ((j + 1 : Nat) : Int) from by omega]
  refine stH_of hI.2 (by simp) fun h5 b5 e5 _ => ?_
  rw [writeA_all (by simp)] at b5
  have x5 : Ext h1 h5 := hI.1.step e5 fun q hq e => by omega
  have w5 := w1.ext x5
  have hll5 : h5[h3.size]? = some Xi := e5.block hll (by omega)
  rw [ldI_iff (b5.cell (i := 0) rfl), ldI_iff (w5.b2.cell (i := 0) rfl)]
  exact ⟨fun _ => kJ3 1 h5 ⟨rfl, x5⟩ hll5, fun _ => kK3 h5 ⟨x5, b5⟩ hll5⟩
end
end Go.Proofs.Ytkedkajdiclmjaa.V
