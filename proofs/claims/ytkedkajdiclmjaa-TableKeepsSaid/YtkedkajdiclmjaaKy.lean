/- The law TableKeeps answers true: the second range, and the whole; no condition. -/
import Derived.Test.YtkedkajdiclmjaaKx
namespace Go.Proofs.Ytkedkajdiclmjaa.V.K
open Go Go.Proofs.Ytkedkajdiclmjaa.V
set_option linter.unusedVariables false
set_option linter.unusedSimpArgs false

section
variable {T : Tb Sl} {Q : Bool → H → Prop} {K2 : H → Prop} {J2 : Nat → H → Prop} {l2 n c2 c6 c16 br : Nat} {rs es : Sl} {h' : H} {R : List (Int × Value)}
theorem lies_walk (t : TH h' n rs es T) (ok : TOk T) (b2 : Blk h' c2 #[.pointer (some ⟨n, 0, none⟩)] 48) (b16 : Blk h' c16 #[.map (some br)] 96) (mr : N.MapH h' br R) (pb : PB T false (allL T).length R) {k : ByteArray} {p : Nat} (hh : Hit T.row k p) (kK : K2 h') :
    ∀ (m j : Nat), j ≤ dist T.row.length (homeM T.row k) p → dist T.row.length (homeM T.row k) p - j < m → F.spatelaw6_lies.l7 Q K2 J2 l2 m ⟨c2, 0, none⟩ ⟨c6, 0, none⟩ ⟨c16, 0, none⟩ (p : Int) (((homeM T.row k + j) % T.row.length : Nat) : Int) h'
  | 0, j, hj, hm => by omega
  | m + 1, j, hj, hm => by
    unfold F.spatelaw6_lies.l7
    have hpl := hh.lt
    have hml := home_lt (R := T.row) (key := k) (by omega)
    have hrd := ring_dist hml hpl
    have hdl := dist_lt hml hpl
    have hbr := t.br
    simp only [BIG] at hbr
    simp only [bne_iff_ne, ne_eq, bne_eq_false_iff_eq]
    refine ⟨fun g => ?_, fun _ => kK⟩
    have hjD : j < dist T.row.length (homeM T.row k) p := by
      rcases Nat.lt_or_ge j (dist T.row.length (homeM T.row k) p) with h | h
      · exact h
      · exfalso
        have : j = dist T.row.length (homeM T.row k) p := by omega
        exact g (by rw [this, hrd])
    obtain ⟨q, q1, q2, q3⟩ := id hh
    have hc := ok.row.chain p q q1 q2
    rw [kL_inj q3] at hc
    obtain ⟨q', f1, f2⟩ := hc j hjD
    have f3 : q'.is_ = 1 := by have := ok.row01 q' (List.mem_of_getElem? f1); omega
    obtain ⟨j', x', y1, y2⟩ := allL_of ok (.inl (List.mem_of_getElem? f1)) f3
    have hw : whereM T x'.1 = some (some (false, (homeM T.row k + j) % T.row.length)) := by
      unfold whereM
      rw [ok.row.hit (i := (homeM T.row k + j) % T.row.length) ⟨q', f1, f3, by rw [y2]⟩]
    have hget := pb.all j' x' _ (List.getElem?_eq_some_iff.1 y1).1 y1 hw
    rw [ldV_iff (b16.cell (i := 0) rfl)]
    refine N.lookM_of (kt := 3) (et := 4) (z := .bool false) Try.underlying96 Try.underlying3 Try.zeroValue4 mr ?_
    rw [hget]
    refine ⟨true, rfl, fun g => (by cases g), fun _ => ?_⟩
    rw [ldP_iff (b2.cell (i := 0) rfl)]
    refine Slots_spec t ⟨by omega, ?_⟩
    rw [next_tmod (ring_lt (by omega)) (by simp only [BIG]; omega), ring_succ]
    exact lies_walk t ok b2 b16 mr pb hh kK m (j + 1) (by omega) (by omega)
end
theorem lies_spec {h0 h : H} {n b : Nat} {rs es : Sl} {T : Tb Sl} {M : List (ByteArray × Value)} {Q : Bool → H → Prop} (p : KP h0 h n b rs es T M) (hc : T.count < 1073741824) (k : ∀ h', Ext h h' → Q true h') : F.spatelaw6_lies (some ⟨n, 0, none⟩) (.map (some b)) h Q := by
  unfold F.spatelaw6_lies
  refine new_of fun c2 h1 e1n b2 e1 z1 => ?_
  refine ⟨rfl, new_of fun c4 h3 e3n b4 e3 z3 => ?_⟩
  refine new_of fun c6 h5 e5n b6 e5 z5 => ?_
  refine new_of fun c8 h7 e7n b8 e7 z7 => ?_
  refine stH_of b8 (by simp) fun h9 b8' e9 z9 => ?_
  rw [writeA_all (by simp)] at b8'
  refine new_of fun c11 h10 e10n b11 e10 z10 => ?_
  refine stH_of b11 (by simp) fun h12 b11' e12 z12 => ?_
  rw [writeA_all (by simp)] at b11'
  refine N.makeM_of (kt := 3) (et := 4) (.inl rfl) fun mr e13 => ?_
  generalize hg13 : h12.push (.map #[] 0) = h13 at mr e13 ⊢
  have z13 : h13.size = h12.size + 1 := by rw [← hg13]; simp
  refine new_of fun c16 h15 e15n b16 e15 z15 => ?_
  refine ⟨rfl, rfl, ?_⟩
  refine stH_of b16 (by simp) fun h17 b16' e17 z17 => ?_
  rw [writeA_all (by simp)] at b16'
  refine N.makeM_of (kt := 3) (et := 4) (.inl rfl) fun me e18 => ?_
  generalize hg18 : h17.push (.map #[] 0) = h18 at me e18 ⊢
  have z18 : h18.size = h17.size + 1 := by rw [← hg18]; simp
  refine new_of fun c21 h20 e20n b21 e20 z20 => ?_
  refine ⟨rfl, rfl, ?_⟩
  refine stH_of b21 (by simp) fun h22 b21' e22 z22 => ?_
  rw [writeA_all (by simp)] at b21'
  -- all that was made lies there still
  have E9 : Only (· = c8) h7 h22 := by
    refine ⟨by omega, fun m hm hne => ?_⟩
    rw [e22.same m (by omega) (by omega), e20.same m (by omega) (fun f => f), e18.same m (by omega) (fun f => f), e17.same m (by omega) (by omega), e15.same m (by omega) (fun f => f), e13.same m (by omega) (fun f => f), e12.same m (by omega) (by omega), e10.same m (by omega) (fun f => f), e9.same m hm hne]
  have x22 : Ext h h22 := ((((e1.trans e3).trans e5).trans e7).step E9 fun m hm e => by omega)
  have L12 : Ext h12 h22 := by
    refine ⟨by omega, fun m hm _ => ?_⟩
    rw [e22.same m (by omega) (by omega), e20.same m (by omega) (fun f => f), e18.same m (by omega) (fun f => f), e17.same m (by omega) (by omega), e15.same m (by omega) (fun f => f), e13.same m (by omega) (fun f => f)]
  have L13 : Ext h13 h22 := by
    refine ⟨by omega, fun m hm _ => ?_⟩
    rw [e22.same m (by omega) (by omega), e20.same m (by omega) (fun f => f), e18.same m (by omega) (fun f => f), e17.same m (by omega) (by omega), e15.same m (by omega) (fun f => f)]
  have L17 : Ext h17 h22 := by
    refine ⟨by omega, fun m hm _ => ?_⟩
    rw [e22.same m (by omega) (by omega), e20.same m (by omega) (fun f => f), e18.same m (by omega) (fun f => f)]
  have L18 : Ext h18 h22 := by
    refine ⟨by omega, fun m hm _ => ?_⟩
    rw [e22.same m (by omega) (by omega), e20.same m (by omega) (fun f => f)]
  have B2 : Blk h22 c2 #[.pointer (some ⟨n, 0, none⟩)] 48 := E9.block (e7.block (e5.block (e3.block b2 (fun f => f)) (fun f => f)) (fun f => f)) (by omega)
  have B4 : Blk h22 c4 #[.map (some b)] 50 := E9.block (e7.block (e5.block b4 (fun f => f)) (fun f => f)) (by omega)
  have B6 : Blk h22 c6 #[.bool false] 4 := E9.block (e7.block b6 (fun f => f)) (by omega)
  have B8 : Blk h22 c8 #[.int .i64 0] 3 := L12.block (e12.block (e10.block b8' (fun f => f)) (by omega)) (fun f => f)
  have B11 : Blk h22 c11 #[.string ⟨#[]⟩] 9 := L12.block b11' (fun f => f)
  have B16 : Blk h22 c16 #[.map (some h12.size)] 96 := L17.block b16' (fun f => f)
  have MR : N.MapH h22 h12.size [] := mr.only L13 (fun f => f)
  have ME : N.MapH h22 h17.size [] := me.only L18 (fun f => f)
  have t22 := p.t.ext x22
  have br22 := p.br.ext x22
  rw [ldP_iff (B2.cell (i := 0) rfl)]
  refine All_spec t22 p.ok hc fun h25 ka ma bq rq sq e25 mine dis => ?_
  have s25 := e25.size
  let c : LC := ⟨h, n, b, c2, c4, c6, c8, c11, h12.size, c16, h17.size, c21, h25.size⟩
  have ho : LOk c := ⟨by show h.size ≤ c2; omega, by show c2 < c4; omega, by show c4 < c6; omega, by show c6 < c8; omega, by show c8 < c11; omega, by show c11 < h12.size; omega, by show h12.size < c16; omega, by show c16 < h17.size; omega, by show h17.size < c21; omega, by show c21 < h25.size; omega⟩
  have hsq : ∀ m, SQF ka ma bq rq m → c21 < m ∧ m < h25.size := fun m hm => ⟨by have := mine m hm; omega, sq.lt m hm⟩
  have dext : Ext h25 (h25.push (.deferred (some []))) := .push _ _
  have st0 : L1 c T ka ma bq rq 0 (h25.push (.deferred (some []))) := ⟨(x22.trans e25).trans dext, (e25.trans dext).block B2 (fun f => f), (e25.trans dext).block B4 (fun f => f), (e25.trans dext).block B6 (fun f => f), (e25.trans dext).block B8 (fun f => f), ⟨_, (e25.trans dext).block B11 (fun f => f), fun j x hj => by omega⟩, (e25.trans dext).block B16 (fun f => f), (e25.trans dext).block b21' (fun f => f), sq.only dext fun _ _ f => f, by show (h25.push (.deferred (some [])))[h25.size]? = _; simp⟩
  have nil0 : ∀ e, PB T e 0 [] := fun e => ⟨fun a => .inl rfl, (fun a ha => by cases ha), fun j x q hj => by omega⟩
  have lm0 : LM c T 0 (h25.push (.deferred (some []))) := ⟨⟨[], MR.only (e25.trans dext) (fun f => f), nil0 _⟩, [], ME.only (e25.trans dext) (fun f => f), nil0 _⟩
  refine range_seq (fun i h' => L1 c T ka ma bq rq i h' ∧ LM c T i h') (fun _ _ => False) (fun i h' h'' t o => ⟨t.1.only ho o fun m hm => ?_, t.2.only o (by show ¬ h12.size = _; omega) (by show ¬ h17.size = _; omega)⟩) (fun _ _ _ f _ => f) (fun i h' t => t.1.sq) ⟨st0, lm0⟩ (fun X i x hh K J hX hI hll hx kK kJ => ?_) (fun h' w => ?_) (fun _ _ f => f.elim)
  · subst hm
    exact ⟨by show h.size ≤ _; omega, by show _ ≠ c2; omega, by show _ ≠ c4; omega, by show _ ≠ c6; omega, by show _ ≠ c8; omega, by show _ ≠ c11; omega, by show _ ≠ h12.size; omega, by show _ ≠ c16; omega, by show _ ≠ h17.size; omega, by show _ ≠ c21; omega, by show _ ≠ h25.size; omega, fun hs => by have := hsq _ hs; omega⟩
  · exact lies_one (c := c) (M := M) (hs := h) ho p.t p.ok p.el p.mp p.br hI.1 hI.2 (fun m hm => (hsq m hm).1) hx hll (by show h25.size < _; omega) fun h2 w2 lm2 hl2 => kK h2 ⟨w2, lm2⟩ hl2
  · obtain ⟨w, lm⟩ := w
    obtain ⟨⟨R, r1, r2⟩, _⟩ := lm
    have th := p.t.ext w.ext
    have B2' : Blk h' c2 #[.pointer (some ⟨n, 0, none⟩)] 48 := w.b2
    rw [ldP_iff (B2'.cell (i := 0) rfl)]
    refine All_spec th p.ok hc fun h63 ka2 ma2 bq2 rq2 sq2 e63 mine2 dis2 => ?_
    refine range_seq (fun i hh => Ext h63 hh ∧ hh[h63.size]? = some (.deferred (some []))) (fun _ _ => False) (fun i h' h'' t o => ⟨t.1.step o fun j hj e => by omega, o.block t.2 (by omega)⟩) (fun _ _ _ f _ => f) (fun i h' t => sq2.only t.1 fun _ _ f => f) ⟨.push _ _, by simp⟩ (fun X i x hh K J hX hI hll hx kK kJ => ?_) (fun h2 hI => ?_) (fun _ _ f => f.elim)
    · have hxm := List.mem_of_getElem? hx
      have hsm := allL_small p.t p.ok hxm
      obtain ⟨hv, _⟩ := allL_mem p.ok hxm
      obtain ⟨e, q, hw, he0, he1⟩ := place_of p.ok hv
      have xx := e63.trans hI.1
      have thh := th.ext xx
      have B2h : Blk hh c2 #[.pointer (some ⟨n, 0, none⟩)] 48 := xx.block B2' (fun f => f)
      rw [ldP_iff (B2h.cell (i := 0) rfl)]
      refine Place_spec thh hsm hw fun h68 e68 => ?_
      have t68 := thh.ext e68
      have B68 : Blk h68 c2 #[.pointer (some ⟨n, 0, none⟩)] 48 := e68.block B2h (fun f => f)
      have hbr := p.t.br
      simp only [BIG] at hbr
      cases e with
      | true =>
        have hit := he1 rfl
        have hpl := hit.lt
        have hel : 2 * T.elder.length = T.row.length := by
          rcases p.el with h | h
          · rw [h] at hpl; simp at hpl
          · exact h
        have hmv : T.moved ≤ q := by
          rcases Nat.lt_or_ge q T.moved with hlt | hge
          · obtain ⟨pp, a1, a2, a3⟩ := hit
            exact absurd a2 (p.ok.behind q pp hlt a1)
          · exact hge
        refine ⟨fun _ => ?_, fun g => by cases g⟩
        rw [ldP_iff (B68.cell (i := 0) rfl)]
        refine Left_spec t68 ?_
        simp only [beq_iff_eq, beq_eq_false_iff_ne]
        refine ⟨fun g => by unfold leftT at g; omega, fun _ => ?_⟩
        rw [ldP_iff (B68.cell (i := 0) rfl), ldP_iff (B68.cell (i := 0) rfl)]
        refine Slots_spec t68 ⟨B68.cell (i := 0) rfl, by omega, Left_spec t68 ?_⟩
        have hdv : Int.tdiv (T.row.length : Int) 2 = ((T.elder.length : Nat) : Int) := by
          rw [show (2 : Int) = ((2 : Nat) : Int) from rfl, ← Int.ofNat_tdiv]
          congr 1; omega
        have hlf : ((leftT T : Nat) : Int) = (T.elder.length : Int) - (T.moved : Int) := by have := p.ok.mle; unfold leftT; omega
        rw [hdv, w64 (n := (T.elder.length : Int)) (by omega) (by omega), hlf, w64 (by omega) (by omega)]
        show F.spatelaw6_lies.j6 Q K J (h63.size + 1) ⟨c6, 0, none⟩ (decide ((q : Int) < _)) h68
        rw [decide_eq_false (by omega)]
        unfold F.spatelaw6_lies.j6
        exact ⟨fun g => (by cases g), fun _ => kK h68 ⟨hI.1.trans e68, e68.block hI.2 (fun f => f)⟩ (e68.block hll (fun f => f))⟩
      | false =>
        have hit := he0 rfl
        have hpl := hit.lt
        refine ⟨fun g => (by cases g), fun _ => ?_⟩
        rw [ldP_iff (B68.cell (i := 0) rfl)]
        refine Hash_spec hsm fun h92 e92 => ?_
        have t92 := t68.ext e92
        have B92 : Blk h92 c2 #[.pointer (some ⟨n, 0, none⟩)] 48 := e92.block B68 (fun f => f)
        refine ⟨B92.cell (i := 0) rfl, Slots_spec t92 ?_⟩
        have hwu : IntKind.wrap .u64 (T.row.length : Int) = ((T.row.length : Nat) : Int) := by rw [wrap_u64]; omega
        rw [hwu]
        refine ⟨by omega, T.row.length + 1, ?_⟩
        rw [← Int.ofNat_tmod]
        have hml := home_lt (R := T.row) (key := x.1) (by omega)
        have hdl := dist_lt hml hpl
        rw [w64 (by omega) (by have := hml; unfold homeM at this; omega)]
        have xa := (xx.trans e68).trans e92
        have := lies_walk (Q := Q) (K2 := K) (J2 := J) (l2 := h63.size + 1) (c6 := c6) t92 p.ok B92 (show Blk h92 c16 #[.map (some h12.size)] 96 from xa.block w.b16 (fun f => f)) (r1.only xa (fun f => f)) r2 hit (kK h92 ⟨hI.1.trans (e68.trans e92), (e68.trans e92).block hI.2 (fun f => f)⟩ ((e68.trans e92).block hll (fun f => f))) (T.row.length + 1) 0 (by omega) (by omega)
        have e0 : (homeM T.row x.1 + 0) % T.row.length = homeM T.row x.1 := Nat.mod_eq_of_lt hml
        rw [e0] at this
        exact this
    · have xx := e63.trans hI.1
      have B8' : Blk h2 c8 #[.int .i64 ((allL T).length : Int)] 3 := xx.block w.b8 (fun f => f)
      have B4' : Blk h2 c4 #[.map (some b)] 50 := xx.block w.b4 (fun f => f)
      have B6' : Blk h2 c6 #[.bool false] 4 := xx.block w.b6 (fun f => f)
      rw [ldI_iff (B8'.cell (i := 0) rfl), ldV_iff (B4'.cell (i := 0) rfl)]
      refine lenM_of (kt := 9) (et := 3) Try.underlying50 (p.mp.only (w.ext.trans xx) (fun f => f)) ⟨(M.length : Int), rfl, ?_⟩
      rw [p.br.len, allL_len p.ok]
      simp only [beq_self_eq_true]
      refine stH_of B6' (by simp) fun h4 f4 g4 _ => ?_
      rw [writeA_all (by simp)] at f4
      have w' := w.ext.size
      have s63 := e63.size
      have hd25 : h'[h25.size]? = some (.deferred (some [])) := w.d
      have hd25l := (Array.getElem?_eq_some_iff.1 hd25).1
      refine ⟨g4.block hI.2 (by omega), ?_⟩
      have o1 := put_only h4 h63.size (.deferred none)
      refine ⟨o1.block (g4.block (xx.block hd25 (fun f => f)) (by omega)) (by omega), ?_⟩
      have o2 := put_only (put h4 h63.size (.deferred none)) h25.size (.deferred none)
      have f6 : Blk (put (put h4 h63.size (.deferred none)) h25.size (.deferred none)) c6 #[.bool true] 4 := o2.block (o1.block f4 (by omega)) (by omega)
      show ldB _ _ _
      rw [ldB_iff (f6.cell (i := 0) rfl)]
      have sx := x22.size
      exact k _ (((((w.ext.trans xx).step g4 fun m hm e => by have hm' : m < h.size := hm; omega).step o1 fun m hm e => by have hm' : m < h.size := hm; omega)).step o2 fun m hm e => by have hm' : m < h.size := hm; omega)
theorem keeps_loop {h0 : H} {n b : Nat} {x0 : Sl} {S : List Step} {Q : Bool → H → Prop} (r0 : Reads h0 x0 3 (S.flatMap (·.cells))) (okS : ∀ x ∈ S, StepOk x) (k : ∀ h', Ext h0 h' → Q true h') : ∀ (m i : Nat) (h : H) (rs es : Sl) (T : Tb Sl) (M : List (ByteArray × Value)), KP h0 h n b rs es T M → (T.count ≤ i ∧ T.row.length ≤ 8 + 4 * i) → i ≤ 4000 → 4000 - i < m →
      F.spatelaw6_TableKeeps.l1 Q m x0 (some ⟨n, 0, none⟩) (.map (some b)) (i : Int) h
  | 0, i, h, rs, es, T, M, p, bd, hi, hm => by omega
  | m + 1, i, h, rs, es, T, M, p, bd, hi, hm => by
    unfold F.spatelaw6_TableKeeps.l1
    have hl := rd_len step_len (by omega) r0
    rw [hl]
    have fin : F.spatelaw6_TableKeeps.j11 Q (F.spatelaw6_TableKeeps.l1 Q m) x0 (some ⟨n, 0, none⟩) (.map (some b)) (i : Int) false h := by
      unfold F.spatelaw6_TableKeeps.j11
      refine ⟨fun g => (by cases g), fun _ => ?_⟩
      exact lies_spec p (by omega) fun h' e' => k h' (p.kp.ext.trans e')
    simp only [decide_eq_true_eq, decide_eq_false_iff_not]
    refine ⟨fun g => ?_, fun g => fin⟩
    by_cases g2 : (i : Int) < 4000
    · rw [decide_eq_true g2]
      unfold F.spatelaw6_TableKeeps.j11
      refine ⟨fun _ => ?_, fun g => by cases g⟩
      obtain ⟨x, hx⟩ : ∃ x, S[i]? = some x := ⟨_, List.getElem?_eq_getElem (by omega)⟩
      exact keeps_step p (by omega) bd r0 hx (okS x (List.mem_of_getElem? hx)) fun h2 r e T2 M2 p2 bd2 => keeps_loop r0 okS k m (i + 1) h2 r e T2 M2 p2 bd2 (by omega) (by omega)
    · rw [decide_eq_false g2]; exact fin
theorem TableKeeps_spec {h : H} {x0 : Sl} {S : List Step} {Q : Bool → H → Prop} (r0 : Reads h x0 3 (S.flatMap (·.cells))) (okS : ∀ x ∈ S, StepOk x) (k : ∀ h', Ext h h' → Q true h') : F.spatelaw6_TableKeeps x0 h Q := by
  unfold F.spatelaw6_TableKeeps
  refine known_spec fun h1 e1 => ?_
  refine ⟨fun g => (by cases g), fun _ => ?_⟩
  refine New_spec fun h4 n rs t4 e4 m4 => ?_
  refine ⟨fun g => (by cases g), fun _ => ?_⟩
  obtain ⟨n1, n2, n3⟩ := new_ok nilS
  refine makeM_of (kt := 9) (et := 3) (.inl rfl) fun mp e7 => ?_
  have s1 := e1.size
  have s4 := e4.size
  refine ⟨4001, ?_⟩
  exact keeps_loop (i := 0) r0 okS k 4001 _ rs _ _ [] ⟨⟨(e1.trans e4).trans e7, fun q hq => by have := m4 q hq; omega⟩, t4.ext e7, n1, EL.new, mp, ⟨rfl, (fun q s hs => by rw [n3] at hs; cases hs), fun _ _ => rfl⟩, by omega⟩ ⟨by simp [newT], by simp [newT]⟩ (by omega) (by omega)
end Go.Proofs.Ytkedkajdiclmjaa.V.K
namespace Go.Proofs.Ytkedkajdiclmjaa.V
theorem TableKeeps_spec {h : H} {x0 : Sl} {S : List Step} {Q : Bool → H → Prop} (r0 : Reads h x0 3 (S.flatMap (·.cells))) (okS : ∀ x ∈ S, StepOk x) (k : ∀ h', Ext h h' → Q true h') : F.spatelaw6_TableKeeps x0 h Q := K.TableKeeps_spec r0 okS k
end Go.Proofs.Ytkedkajdiclmjaa.V
