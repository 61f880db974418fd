/- Parts of the proof of StoreWhole; no condition. -/
import Derived.ArgAppend
import Derived.Test.YtjjchpaomgmmdaaGreatQStoreWhole4
namespace Go.Proofs.YtjjchpaomgmmdaaGreat.V.S
open Go Go.Proofs.YtjjchpaomgmmdaaGreat.V Go.Proofs.YtjjchpaomgmmdaaGreat.V.M
set_option linter.unusedVariables false
set_option linter.unusedSimpArgs false
set_option maxRecDepth 20000
abbrev tSt : TypeId := tn_store_Store
abbrev tPs : TypeId := tp_shard_Shard
abbrev cQ (q : Nat) : List Value := [.pointer (some ⟨q, 0, none⟩)]
theorem cQ_len (q : Nat) : (cQ q).length = 1 := rfl
theorem st_sh : ¬ ShE tSt := by unfold ShE; decide
theorem ps_sh : ¬ ShE tPs := by unfold ShE; decide
theorem sty_lt {h : H} {b : Nat} (t : ShTy h b) : b < h.size := by
  obtain ⟨e, _, c, hc⟩ := t
  exact block_lt hc
structure TS (h : H) (p : Nat) (l : Sl) (ps : List Nat) (S : SL) (slots : Nat) (R : Nat -> Prop) : Prop where
  ok : SOk S
  n1 : 1 <= ps.length
  n2 : ps.length <= 16
  sb : Blk h p #[l.enc] tSt
  own : Owns h l tPs 1 (ps.flatMap cQ)
  lt : ∀ b, R b -> b < h.size
  ex : ∃ Rk : Nat -> Nat -> Prop, (∀ k q, ps[k]? = some q -> SH h q (partS ps.length k S) slots (Rk k)) ∧ (∀ k b, k < ps.length -> Rk k b -> R b) ∧ (∀ j k b, j < ps.length -> k < ps.length -> Rk j b -> Rk k b -> j = k)
section
variable {h h' : H} {p : Nat} {l : Sl} {ps : List Nat} {S : SL} {slots : Nat} {R : Nat -> Prop}
theorem TS.keep {P : Nat -> Prop} (t : TS h p l ps S slots R) (o : Only P h h') (hn : ∀ b, R b -> ShTy h b -> ¬ P b) (h1 : ¬ P p) (h2 : ∀ b, l.blk = some b -> ¬ P b) : TS h' p l ps S slots R := by
  obtain ⟨Rk, e1, e2, e3⟩ := t.ex
  exact ⟨t.ok, t.n1, t.n2, o.block t.sb h1, t.own.only o fun b hb => h2 b hb, fun b hb => Nat.lt_of_lt_of_le (t.lt b hb) o.size, Rk, fun k q hq => (e1 k q hq).keep o fun b hb ht => hn b (e2 k b (List.getElem?_eq_some_iff.1 hq).1 hb) ht, e2, e3⟩
theorem TS.ext (t : TS h p l ps S slots R) (e : Ext h h') : TS h' p l ps S slots R := t.keep e (fun _ _ _ f => f) (fun f => f) fun _ _ f => f
theorem TS.other {R' : Nat -> Prop} (t : TS h p l ps S slots R) (o : SOnly R' h h') (hd : ∀ b, b < h.size -> R b -> ¬ R' b) : TS h' p l ps S slots R :=
  t.keep o (fun b hb ht ⟨g, _⟩ => hd b (sty_lt ht) hb g) (fun g => not_sh t.sb st_sh g.2) fun b hb g => own_nsh t.own ps_sh hb g.2
theorem TS.len (t : TS h p l ps S slots R) : l.len = ps.length := own_len cQ_len (by omega) t.own
theorem TS.ldl (t : TS h p l ps S slots R) {K : Sl -> Prop} (k : K l) : ldL h ⟨p, 0, none⟩ K := (ldL_iff (t.sb.cell (i := 0) rfl)).2 k
theorem TS.at (t : TS h p l ps S slots R) {i q : Nat} (hq : ps[i]? = some q) {K : Option Addr -> Prop} (k : K (some ⟨q, 0, none⟩)) : idxA l (i : Int) 1 fun a => ldP h a K := by
  obtain ⟨r, r1, r2, r3⟩ := rd_at cQ_len (by omega) t.own.reads hq
  have hl := t.len
  refine idxR_of (i := i) r1 (by have := (List.getElem?_eq_some_iff.1 hq).1; omega) rfl ?_
  rw [Nat.mul_one] at r3 ⊢
  exact ldP_of (by have := r3 0 _ rfl; exact this) k
theorem TS.sh (t : TS h p l ps S slots R) {i q : Nat} (hq : ps[i]? = some q) : ∃ R0, SH h q (partS ps.length i S) slots R0 := by
  obtain ⟨Rk, e1, _⟩ := t.ex
  exact ⟨_, e1 i q hq⟩
theorem TS.op (t : TS h p l ps S slots R) {i q : Nat} (hq : ps[i]? = some q) : ∃ R0 : Nat -> Prop, SH h q (partS ps.length i S) slots R0 ∧ (∀ b, h.size <= b -> R0 b) ∧ (∀ b, R0 b -> R b ∨ h.size <= b) ∧
    ∀ h' S', SortS S' -> SH h' q (partS ps.length i S') slots R0 -> SOnly R0 h h' -> (∀ j, j < ps.length -> j ≠ i -> partS ps.length j S' = partS ps.length j S) ->
      ∃ R', TS h' p l ps S' slots R' ∧ SOnly R h h' ∧ ∀ b, R' b -> R b ∨ h.size <= b := by
  obtain ⟨Rk, e1, e2, e3⟩ := t.ex
  have hi : i < ps.length := (List.getElem?_eq_some_iff.1 hq).1
  refine ⟨fun b => Rk i b ∨ h.size <= b, (e1 i q hq).turn fun b _ hb => .inl hb, fun b hb => .inr hb, fun b hb => hb.imp (e2 i b hi) id, fun h' S' srt sh' o oth => ?_⟩
  have o' : SOnly R h h' := o.mono fun b hb g => ⟨g.1.elim (e2 i b hi) (fun x => by omega), g.2⟩
  have hsz := o.size
  refine ⟨fun b => R b ∨ (h.size <= b ∧ b < h'.size), ⟨⟨srt, fun x hx => ?_⟩, t.n1, t.n2, o.block t.sb (fun g => not_sh t.sb st_sh g.2), t.own.only o fun b hb g => own_nsh t.own ps_sh hb g.2, fun b hb => ?_, fun j b => if j = i then (Rk i b ∨ h.size <= b) ∧ b < h'.size else Rk j b, fun k q' hq' => ?_, fun k b hk hb => ?_, fun j k b hj hk h1 h2 => ?_⟩, o', fun b hb => hb.imp id (·.1)⟩
  · -- each of them is fine
    have hlt := rt_lt (show 0 < ps.length by omega) x.1
    have hm : x ∈ partS ps.length (rt ps.length x.1) S' := part_mem.2 ⟨hx, rfl⟩
    by_cases hr : rt ps.length x.1 = i
    · rw [hr] at hm; exact sh'.ok.ok x hm
    · rw [oth _ hlt hr] at hm; exact t.ok.ok x (part_mem.1 hm).1
  · rcases hb with hb | hb
    · have := t.lt b hb; omega
    · exact hb.2
  · by_cases hk : k = i
    · subst hk
      rw [hq] at hq'; cases hq'
      simp only [if_pos]
      exact sh'.turn fun b hb hr => ⟨hr, hb⟩
    · have hkl := (List.getElem?_eq_some_iff.1 hq').1
      simp only [if_neg hk]
      rw [oth k hkl hk]
      refine (e1 k q' hq').keep o fun b hb ht g => g.1.elim (fun x => hk (e3 k i b hkl hi hb x)) fun x => ?_
      have := sty_lt ht; omega
  · by_cases hki : k = i
    · simp only [if_pos hki] at hb
      rcases hb.1 with g | g
      · exact .inl (e2 i b hi g)
      · exact .inr ⟨g, hb.2⟩
    · simp only [if_neg hki] at hb
      exact .inl (e2 k b hk hb)
  · have old : ∀ k, k < ps.length -> Rk k b -> b < h.size := fun k hk g => t.lt b (e2 k b hk g)
    by_cases hji : j = i
    · by_cases hki : k = i
      · omega
      · simp only [if_pos hji] at h1
        simp only [if_neg hki] at h2
        have := old k hk h2
        rcases h1.1 with g | g
        · rw [hji]; exact (e3 k i b hk hi h2 g).symm
        · omega
    · by_cases hki : k = i
      · simp only [if_neg hji] at h1
        simp only [if_pos hki] at h2
        have := old j hj h1
        rcases h2.1 with g | g
        · rw [hki]; exact e3 j i b hj hi h1 g
        · omega
      · simp only [if_neg hji] at h1
        simp only [if_neg hki] at h2
        exact e3 j k b hj hk h1 h2
abbrev KeyOk (c : Cel) : Prop := c.Key.size <= 9223372036854775807
theorem rt_wrap {n x : Nat} (h0 : 0 < n) (hn : n <= 16) : IntKind.wrap .u64 (n : Int) = (n : Int) ∧ IntKind.wrap .i64 (Int.tmod (x : Int) (n : Int)) = ((x % n : Nat) : Int) := by
  have := Nat.mod_lt x h0
  refine ⟨by rw [wrap_u64]; omega, ?_⟩
  rw [← Int.ofNat_tmod, w64 (by omega) (by omega)]
theorem TRoute {c : Cel} {Q : Int -> H -> Prop} (t : TS h p l ps S slots R) (hk : KeyOk c) (k : ∀ h', Ext h h' -> Q ((rt ps.length c : Nat) : Int) h') : F.xce (some ⟨p, 0, none⟩) c.Key h Q := by
  unfold F.xce
  simp only [nn_some, add_lit, Nat.add_zero]
  have h1 := t.n1
  refine t.ldl (Hash_spec hk fun h5 e5 => ⟨(t.ext e5).sb.cell (i := 0) rfl, ?_⟩)
  obtain ⟨q1, q2⟩ := rt_wrap (x := hashM c.Key) (show 0 < ps.length by omega) t.n2
  rw [t.len, q1]
  refine ⟨by omega, ?_⟩
  rw [q2]
  exact k h5 e5
theorem TS.has (t : TS h p l ps S slots R) (c : Cel) : ∃ q, ps[rt ps.length c]? = some q := ⟨_, List.getElem?_eq_getElem (rt_lt (by have := t.n1; omega) c)⟩
theorem TOf {c : Cel} {q : Nat} {Q : Option Addr -> H -> Prop} (t : TS h p l ps S slots R) (hk : KeyOk c) (hq : ps[rt ps.length c]? = some q) (k : ∀ h', Ext h h' -> Q (some ⟨q, 0, none⟩) h') : F.xbu (some ⟨p, 0, none⟩) c h Q := by
  unfold F.xbu
  refine new_of fun m h1 hm b1 e1 s1 => ?_
  have t1 := t.ext e1
  have c1 : cellH h1 ⟨m, 1, none⟩ = some (.string c.Key) := Blk.cells b1 1 _ rfl
  simp only [nn_some, add_lit, Nat.add_zero, Nat.zero_add]
  refine t1.ldl ((ldS_iff c1).2 (TRoute t1 hk fun h9 e9 => ⟨(t1.ext e9).sb.cell (i := 0) rfl, (t1.ext e9).at hq (k h9 (e1.trans e9))⟩))
end
theorem part_nil (n k : Nat) : partS n k [] = [] := rfl
theorem TNew {h : H} {m sl : Int} {Q : Option Addr -> Int -> H -> Prop} (k0 : (m < 1 ∨ m > 16 ∨ sl < 2 ∨ sl > 1048576) -> Q none 1 h)
    (k1 : 1 <= m -> m <= 16 -> 2 <= sl -> sl <= 1048576 -> ∀ h' p l ps R, (ps.length : Int) = m -> TS h' p l ps [] sl.toNat R -> Ext h h' -> (∀ b, R b -> h.size <= b) -> h.size <= p -> Mine h l -> Q (some ⟨p, 0, none⟩) 0 h') : F.xak m sl h Q := by
  have bad : (m < 1 ∨ m > 16 ∨ sl < 2 ∨ sl > 1048576) -> F.xak.j3 Q m sl true h := fun g => by
    unfold F.xak.j3
    exact ⟨fun _ => k0 g, fun g => by cases g⟩
  unfold F.xak
  refine ⟨fun g => bad (by have := of_decide_eq_true g; omega), fun g1 => ⟨fun g => bad (by have := of_decide_eq_true g; omega), fun g2 => ⟨fun g => bad (by have := of_decide_eq_true g; omega), fun g3 => ?_⟩⟩⟩
  have g1 := of_decide_eq_false g1
  have g2 := of_decide_eq_false g2
  have g3 := of_decide_eq_false g3
  unfold F.xak.j3
  refine ⟨fun g => k0 (by have := of_decide_eq_true g; omega), fun g4 => ?_⟩
  have g4 := of_decide_eq_false g4
  unfold F.xak.j1
  refine new_of fun p h1 hp b1 e1 s1 => ⟨m.toNat + 1, ?_⟩
  have key : ∀ (d i : Nat) (hh : H) (l : Sl) (ps : List Nat) (Rk : Nat -> Nat -> Prop), i <= m.toNat -> m.toNat - i < d -> ps.length = i -> Blk hh p #[l.enc] tSt -> Owns hh l tPs 1 (ps.flatMap cQ) -> Mine h l -> Ext h hh ->
      (∀ k q, ps[k]? = some q -> SH hh q [] sl.toNat (Rk k)) -> (∀ k b, k < i -> Rk k b -> h.size <= b ∧ b < hh.size) -> (∀ j k b, j < i -> k < i -> Rk j b -> Rk k b -> j = k) -> F.xak.l2 Q d sl ⟨p, 0, none⟩ m (i : Int) hh := by
    intro d
    induction d with
    | zero => intro i _ _ _ _ _ hm; omega
    | succ d ih =>
      intro i hh l ps Rk hi hm hl b w mi e hs hb hd
      unfold F.xak.l2
      refine ⟨fun g => ?_, fun g => ?_⟩
      · have g := of_decide_eq_true g
        refine New_spec (R := fun b => hh.size <= b) (fun g => by omega) (fun _ hb => hb) fun _ _ h4 q sh4 e4 hq => ⟨fun g => by simp at g, fun _ => ?_⟩
        have b4 : Blk h4 p #[l.enc] tSt := e4.block b fun f => f
        simp only [add_lit, Nat.add_zero]
        refine (ldL_iff (b4.cell (i := 0) rfl)).2 ?_
        refine newL_of fun m2 h10 hm2 b10 e10 s10 => ?_
        have r10 : Reads h10 ⟨some ⟨m2, 0, none⟩, 1, 1⟩ 1 ([q].flatMap cQ) := blk_reads (by simpa using b10) rfl
        have w10 := (w.ext e4).ext e10
        refine app_list (L := ps) (M := [q]) cQ_len (by omega) el_Sl_shard_Shard w10 r10 (fun x v hv => by simp at hv; subst hv; rfl) (by simp only [List.length_singleton]; omega) fun r3 h12 w3 o3 n3 => ?_
        have hsz4 := e4.size
        have hsz10 := e10.size
        have hsz3 := o3.size
        have hsz := e.size
        have m3 : Mine h r3 := fun y hy => by
          rcases n3 with n3 | ⟨b', n3, n4⟩
          · exact mi y (by rw [← n3]; exact hy)
          · rw [n3] at hy; cases hy; omega
        have e12 : Ext h h12 := ((e.trans e4).trans e10).mine mi o3
        have b12 : Blk h12 p #[l.enc] tSt := o3.block (e10.block b4 fun f => f) fun hb' => own_ne w10 (e10.block b4 fun f => f) (by decide) hb'
        refine stH_of b12 (by simp) fun h14 b14 o14 s14 => ?_
        rw [writeA_all (by simp)] at b14
        have w14 : Owns h14 r3 tPs 1 ((ps ++ [q]).flatMap cQ) := w3.only o14 fun y hy hf => own_ne w3 b12 (by decide) (by rw [hy, hf])
        rw [w64 (by omega) (by omega)]
        have hsz14 := o14.size
        -- a shard stays
        have stay : ∀ {q' : Nat} {R' : Nat -> Prop}, SH h10 q' [] sl.toNat R' -> SH h14 q' [] sl.toNat R' := fun s => (s.oth o3 w10 ps_sh).keep o14 fun x _ ht e => by subst e; exact not_sh b12 st_sh ht
        refine ih (i + 1) h14 r3 (ps ++ [q]) (fun k b => if k = i then hh.size <= b ∧ b < h14.size else Rk k b) (by omega) (by omega) (by simp [hl]) b14 w14 m3 (e12.step o14 fun x hx e => by omega) (fun k q' hq' => ?_) (fun k b hk hr => ?_) fun j k b hj hk h1 h2 => ?_
        · by_cases hk : k = i
          · subst hk
            rw [List.getElem?_append_right (by omega), hl, Nat.sub_self] at hq'
            cases hq'
            simp only [if_pos]
            exact (stay (sh4.ext e10)).turn fun b hb hr => ⟨hr, hb⟩
          · simp only [if_neg hk]
            have hlt : k < ps.length := by
              have := (List.getElem?_eq_some_iff.1 hq').1
              rw [List.length_append, List.length_singleton] at this
              omega
            rw [List.getElem?_append_left hlt] at hq'
            exact stay (((hs k q' hq').ext e4).ext e10)
        · by_cases hki : k = i
          · simp only [if_pos hki] at hr; exact ⟨by omega, hr.2⟩
          · simp only [if_neg hki] at hr
            have := hb k b (by omega) hr
            exact ⟨this.1, by omega⟩
        · by_cases hji : j = i
          · by_cases hki : k = i
            · omega
            · simp only [if_pos hji] at h1
              simp only [if_neg hki] at h2
              have := hb k b (by omega) h2; omega
          · by_cases hki : k = i
            · simp only [if_neg hji] at h1
              simp only [if_pos hki] at h2
              have := hb j b (by omega) h1; omega
            · simp only [if_neg hji] at h1
              simp only [if_neg hki] at h2
              exact hd j k b (by omega) (by omega) h1 h2
      · have g := of_decide_eq_false g
        refine k1 (by omega) (by omega) (by omega) (by omega) hh p l ps (fun b => ∃ k, k < i ∧ Rk k b) (by omega) ⟨⟨List.Pairwise.nil, fun x hx => by cases hx⟩, by omega, by omega, b, w, fun x ⟨k, hk, hx⟩ => (hb k x hk hx).2, Rk, fun k q hq => by rw [part_nil]; exact hs k q hq, fun k b hk hr => ⟨k, by omega, hr⟩, fun j k b hj hk => hd j k b (by omega) (by omega)⟩ e (fun x ⟨k, hk, hx⟩ => (hb k x hk hx).1) (by omega) mi
  exact key _ 0 h1 ⟨none, 0, 0⟩ [] (fun _ _ => False) (by omega) (by omega) rfl b1 (by simpa using Owns.nil h1 tPs 1) (by intro x hx; simp [Sl.blk] at hx) e1 (fun k q hq => by simp at hq) (fun k b hk => by omega) fun j k b hj => by omega
section
variable {n k : Nat} {S : SL}
theorem put_part (hs : SortS S) (e : Int) (c : Cel) (a : S_api_Agg) : partS n (rt n c) (putS S e c a) = putS (partS n (rt n c) S) e c a := by unfold putS; rw [part_set hs, if_pos rfl, part_get]
theorem put_other (hs : SortS S) (e : Int) (c : Cel) (a : S_api_Agg) (hk : k ≠ rt n c) : partS n k (putS S e c a) = partS n k S := by unfold putS; rw [part_set hs, if_neg (fun g => hk g.symm)]
theorem kill_part (hs : SortS S) (e : Int) (c : Cel) : partS n (rt n c) (killS S e c) = killS (partS n (rt n c) S) e c := by unfold killS; rw [part_set hs, if_pos rfl, part_get]
theorem kill_other (hs : SortS S) (e : Int) (c : Cel) (hk : k ≠ rt n c) : partS n k (killS S e c) = partS n k S := by unfold killS; rw [part_set hs, if_neg (fun g => hk g.symm)]
theorem sum_le {f g : Nat -> Nat} : ∀ n, (∀ k, k < n -> f k <= g k) -> ((List.range n).map f).sum <= ((List.range n).map g).sum
  | 0, _ => Nat.le_refl _
  | n + 1, h => by
    rw [List.range_succ, List.map_append, List.sum_append, List.map_append, List.sum_append]
    have := sum_le n fun k hk => h k (by omega)
    have := h n (by omega)
    simp; omega
theorem sum_ones {α : Type} (L : List α) : (L.map fun _ => 1).sum = L.length := by
  induction L with
  | nil => rfl
  | cons a L ih => simp only [List.map_cons, List.sum_cons, List.length_cons]; omega
theorem len_parts (hn : 0 < n) (S : SL) : ((List.range n).map fun k => (partS n k S).length).sum = S.length := by
  have h := sum_parts hn (fun _ => 1) S
  simp only [sum_ones] at h
  exact h
def partX (n : Nat) (k : Int) (S : SL) : SL := if 0 <= k ∧ k < n then partS n k.toNat S else []
theorem partX_nat (hk : k < n) : partX n (k : Int) S = partS n k S := by unfold partX; rw [if_pos (by omega)]; rfl
end
section
variable {h h' : H} {p : Nat} {l : Sl} {ps : List Nat} {S : SL} {slots : Nat} {R : Nat -> Prop}
theorem TPut {e : Int} {x : S_api_Row} {b : Bool} {Q : Int -> H -> Prop} (t : TS h p l ps S slots R) (hk : KeyOk x.Cell) (hrt : RightIs x.Agg b)
    (k0 : putE (partS ps.length (rt ps.length x.Cell) S) slots e x.Cell x.Agg b ≠ 0 -> ∀ h', Ext h h' -> Q (putE (partS ps.length (rt ps.length x.Cell) S) slots e x.Cell x.Agg b) h')
    (k1 : putE (partS ps.length (rt ps.length x.Cell) S) slots e x.Cell x.Agg b = 0 -> ∀ h' R', TS h' p l ps (putS S e x.Cell x.Agg) slots R' -> SOnly R h h' -> (∀ b, R' b -> R b ∨ h.size <= b) -> Q 0 h') : F.xbz (some ⟨p, 0, none⟩) e x h Q := by
  unfold F.xbz
  refine new_of fun m h1 hm b1 e1 s1 => ?_
  have t1 := t.ext e1
  obtain ⟨q, hq⟩ := t.has x.Cell
  refine ⟨x.Cell, row_cell (Blk.cells b1), x, Blk.cells b1, TOf t1 hk hq fun h7 e7 => ⟨(Blk.cells b1).ext e7, ?_⟩⟩
  have t7 := t1.ext e7
  have e17 := e1.trans e7
  obtain ⟨R0, sh, hR, hRR, fin⟩ := t7.op hq
  refine Put_spec sh hrt hR (fun g h' e' => k0 g h' (e17.trans e')) fun g h' sh' o => ?_
  obtain ⟨R', t', o', hR'⟩ := fin h' (putS S e x.Cell x.Agg) (sort_setS t.ok.sort _ _) (by rw [put_part t.ok.sort]; exact sh') o fun j hj hne => put_other t.ok.sort _ _ _ hne
  exact k1 g h' R' t' (SOnly.trans (SOnly.of e17) o') fun b hb => (hR' b hb).imp id fun x => Nat.le_trans e17.size x
theorem TKill {e : Int} {c : Cel} {Q : Int -> H -> Prop} (t : TS h p l ps S slots R) (hk : KeyOk c)
    (k0 : killE S e c ≠ 0 -> ∀ h', Ext h h' -> Q (killE S e c) h')
    (k1 : killE S e c = 0 -> ∀ h' R', TS h' p l ps (killS S e c) slots R' -> SOnly R h h' -> (∀ b, R' b -> R b ∨ h.size <= b) -> Q 0 h') : F.xcr (some ⟨p, 0, none⟩) e c h Q := by
  unfold F.xcr
  refine new_of fun m h1 hm b1 e1 s1 => ?_
  have t1 := t.ext e1
  obtain ⟨q, hq⟩ := t.has c
  refine ⟨c, Blk.cells b1, c, Blk.cells b1, TOf t1 hk hq fun h7 e7 => ⟨(Blk.cells b1).ext e7, ?_⟩⟩
  have t7 := t1.ext e7
  have e17 := e1.trans e7
  obtain ⟨R0, sh, hR, hRR, fin⟩ := t7.op hq
  refine Kill_spec sh hR (fun g h' e' => ?_) fun g h' sh' o => ?_
  · rw [part_kill] at g ⊢
    exact k0 g h' (e17.trans e')
  · rw [part_kill] at g
    obtain ⟨R', t', o', hR'⟩ := fin h' (killS S e c) (sort_setS t.ok.sort _ _) (by rw [kill_part t.ok.sort]; exact sh') o fun j hj hne => kill_other t.ok.sort _ _ hne
    exact k1 g h' R' t' (SOnly.trans (SOnly.of e17) o') fun b hb => (hR' b hb).imp id fun x => Nat.le_trans e17.size x
theorem TAt {e : Int} {c : Cel} {Q : S_api_Agg -> H -> Prop} (t : TS h p l ps S slots R) (hk : KeyOk c) (k : ∀ h', Ext h h' -> Q (atS S c e) h') : F.xcz (some ⟨p, 0, none⟩) c e h Q := by
  unfold F.xcz
  refine new_of fun m h1 hm b1 e1 s1 => new_of fun m2 h3 hm2 b3 e3 s3 => ?_
  have t3 := (t.ext e1).ext e3
  obtain ⟨q, hq⟩ := t.has c
  have c3 := (Blk.cells b1).ext e3
  refine ⟨c, c3, c, c3, TOf t3 hk hq fun h9 e9 => ⟨c3.ext e9, ?_⟩⟩
  obtain ⟨R0, sh⟩ := (t3.ext e9).sh hq
  refine At_spec sh fun h12 e12 => ?_
  rw [part_at]
  have b12 := e12.block (e9.block b3 fun f => f) fun f => f
  refine stH_of b12 (by simp [S_api_Agg.cells]) fun h14 b14 o14 s14 => ?_
  rw [writeA_all (by simp [S_api_Agg.cells])] at b14
  refine ⟨_, Blk.cells (cs := (atS S c e).cells) b14, k h14 ((((e1.trans e3).trans e9).trans e12).step o14 fun x hx g => ?_)⟩
  omega
theorem TGet {c : Cel} {Q : S_api_Agg -> H -> Prop} (t : TS h p l ps S slots R) (hk : KeyOk c) (k : ∀ h', Ext h h' -> Q (atS S c 0) h') : F.xct (some ⟨p, 0, none⟩) c h Q := by
  unfold F.xct
  refine new_of fun m h1 hm b1 e1 s1 => new_of fun m2 h3 hm2 b3 e3 s3 => ?_
  have t3 := (t.ext e1).ext e3
  obtain ⟨q, hq⟩ := t.has c
  have c3 := (Blk.cells b1).ext e3
  refine ⟨c, c3, c, c3, TOf t3 hk hq fun h9 e9 => ⟨c3.ext e9, ?_⟩⟩
  obtain ⟨R0, sh⟩ := (t3.ext e9).sh hq
  refine Get_spec sh fun h12 e12 => ?_
  rw [part_at]
  have b12 := e12.block (e9.block b3 fun f => f) fun f => f
  refine stH_of b12 (by simp [S_api_Agg.cells]) fun h14 b14 o14 s14 => ?_
  rw [writeA_all (by simp [S_api_Agg.cells])] at b14
  refine ⟨_, Blk.cells (cs := (atS S c 0).cells) b14, k h14 ((((e1.trans e3).trans e9).trans e12).step o14 fun x hx g => ?_)⟩
  omega
theorem TIs {i : Int} {Q : Bool -> H -> Prop} (t : TS h p l ps S slots R) (k : Q (decide (0 <= i ∧ i < ps.length)) h) : F.xci (some ⟨p, 0, none⟩) i h Q := by
  unfold F.xci
  refine ⟨fun g => ?_, fun g => ?_⟩
  · have g := of_decide_eq_true g
    simp only [nn_some, add_lit, Nat.add_zero]
    refine t.ldl ?_
    rw [t.len]
    rw [show decide (0 <= i ∧ i < (ps.length : Int)) = decide (i < (ps.length : Int)) by rw [decide_eq_decide]; omega] at k
    exact k
  · have g := of_decide_eq_false g
    rw [decide_eq_false (by omega)] at k
    exact k
theorem TS.nth (t : TS h p l ps S slots R) {i : Int} (hi : 0 <= i ∧ i < ps.length) : ∃ q, ps[i.toNat]? = some q ∧ ((i.toNat : Nat) : Int) = i := ⟨_, List.getElem?_eq_getElem (by omega), by omega⟩
theorem TUnits {i : Int} {Q : Int -> H -> Prop} (t : TS h p l ps S slots R) (k : Q (unitsS (partX ps.length i S) : Int) h) : F.xcc (some ⟨p, 0, none⟩) i h Q := by
  unfold F.xcc
  refine TIs t ?_
  by_cases hi : 0 <= i ∧ i < ps.length
  · unfold partX at k
    rw [if_pos hi] at k
    rw [decide_eq_true hi]
    obtain ⟨q, hq, hin⟩ := t.nth hi
    refine ⟨fun g => by simp at g, fun _ => ?_⟩
    simp only [nn_some, add_lit, Nat.add_zero]
    refine t.ldl ?_
    rw [← hin]
    refine t.at hq ?_
    simp only [nn_some, add_lit, Nat.add_zero]
    obtain ⟨R0, sh⟩ := t.sh hq
    exact Units_spec sh k
  · unfold partX at k
    rw [if_neg hi] at k
    rw [decide_eq_false hi]
    exact ⟨fun _ => k, fun g => by cases g⟩
end
theorem sum_snoc (f : Nat -> Nat) (i : Nat) : ((List.range (i + 1)).map f).sum = ((List.range i).map f).sum + f i := by rw [List.range_succ, List.map_append, List.sum_append]; simp
theorem fmax_snoc (f : Nat -> Nat) (i : Nat) : maxL ((List.range (i + 1)).map f) = max (maxL ((List.range i).map f)) (f i) := by
  unfold maxL; rw [List.range_succ, List.map_append, List.foldl_append]; rfl
theorem there_bd {S : SL} {slots : Nat} (h : unitsS S <= slots ∧ slots <= 1048576) : thereS S <= 1048576 := by have := there_le (S := S); omega
theorem sum_bd {f : Nat -> Nat} {B : Nat} : ∀ i, (∀ k, k < i -> f k <= B) -> ((List.range i).map f).sum <= i * B
  | 0, _ => by simp
  | i + 1, h => by rw [sum_snoc, Nat.succ_mul]; have := sum_bd i fun k hk => h k (by omega); have := h i (by omega); omega
section
variable {h h' : H} {p : Nat} {l : Sl} {ps : List Nat} {S : SL} {slots : Nat} {R : Nat -> Prop}
theorem TS.us (t : TS h p l ps S slots R) {k : Nat} (hk : k < ps.length) : unitsS (partS ps.length k S) <= slots ∧ slots <= 1048576 := by
  obtain ⟨R0, sh⟩ := t.sh (List.getElem?_eq_getElem hk)
  exact sh.us
theorem TCells {Q : Int -> H -> Prop} (t : TS h p l ps S slots R) (k : Q (thereS S : Int) h) : F.xbp (some ⟨p, 0, none⟩) h Q := by
  unfold F.xbp
  simp only [nn_some, add_lit, Nat.add_zero]
  refine t.ldl ⟨ps.length + 1, ?_⟩
  rw [t.len]
  have n2 := t.n2
  have key : ∀ (d i : Nat), i <= ps.length -> ps.length - i < d -> F.xbp.l1 Q d ((((List.range i).map fun k => thereS (partS ps.length k S)).sum : Nat) : Int) l (ps.length : Int) (i : Int) h := by
    intro d
    induction d with
    | zero => intro i _ hm; omega
    | succ d ih =>
      intro i hi hm
      unfold F.xbp.l1
      refine ⟨fun g => ?_, fun g => ?_⟩
      · have g := of_decide_eq_true g
        obtain ⟨q, hq⟩ : ∃ q, ps[i]? = some q := ⟨_, List.getElem?_eq_getElem (by omega)⟩
        obtain ⟨R0, sh⟩ := t.sh hq
        refine t.at hq ?_
        simp only [nn_some, add_lit, Nat.add_zero]
        refine Cells_spec sh ?_
        have hb := sum_bd (f := fun k => thereS (partS ps.length k S)) (B := 1048576) i fun k hk => there_bd (t.us (by omega))
        have hb2 := there_bd (t.us (k := i) (by omega))
        have hb3 : i * 1048576 <= 16 * 1048576 := Nat.mul_le_mul_right _ (by omega)
        rw [w64 (by omega) (by omega), w64 (by omega) (by omega)]
        have := ih (i + 1) (by omega) (by omega)
        rw [sum_snoc] at this
        exact_mod_cast this
      · have g := of_decide_eq_false g
        rw [show i = ps.length by omega, there_parts (by have := t.n1; omega)]
        exact k
  exact key _ 0 (by omega) (by omega)
theorem TMost {Q : Int -> H -> Prop} (t : TS h p l ps S slots R) (k : ∀ h', Ext h h' -> Q (mostS S : Int) h') : F.xbn (some ⟨p, 0, none⟩) h Q := by
  unfold F.xbn
  simp only [nn_some, add_lit, Nat.add_zero]
  refine t.ldl ⟨ps.length + 1, ?_⟩
  rw [t.len]
  have n2 := t.n2
  have key : ∀ (d i : Nat) (hh : H), Ext h hh -> i <= ps.length -> ps.length - i < d -> F.xbn.l1 Q d (((maxL ((List.range i).map fun k => mostS (partS ps.length k S)) : Nat)) : Int) l (ps.length : Int) (i : Int) hh := by
    intro d
    induction d with
    | zero => intro i _ _ _ hm; omega
    | succ d ih =>
      intro i hh e hi hm
      unfold F.xbn.l1
      refine ⟨fun g => ?_, fun g => ?_⟩
      · have g := of_decide_eq_true g
        obtain ⟨q, hq⟩ : ∃ q, ps[i]? = some q := ⟨_, List.getElem?_eq_getElem (by omega)⟩
        have te := t.ext e
        obtain ⟨R0, sh⟩ := te.sh hq
        refine te.at hq (Most_spec sh fun h10 e10 => max_of ?_)
        rw [w64 (by omega) (by omega)]
        have := ih (i + 1) h10 (e.trans e10) (by omega) (by omega)
        rw [fmax_snoc] at this
        generalize maxL ((List.range i).map fun k => mostS (partS ps.length k S)) = a at *
        generalize mostS (partS ps.length i S) = b at *
        rw [show (if (a : Int) < (b : Int) then (b : Int) else (a : Int)) = ((max a b : Nat) : Int) by split <;> omega]
        exact_mod_cast this
      · have g := of_decide_eq_false g
        rw [show i = ps.length by omega, most_parts (by have := t.n1; omega)]
        exact k hh e
  exact key _ 0 h (.refl _) (by omega) (by omega)
theorem TScan {e most : Int} {fr to : Cel} {Q : Sl -> H -> Prop} (t : TS h p l ps S slots R) (hS : S.length < 100000)
    (k : ∀ r h', Owns h' r tn_api_Row 7 (((rangeS S e fr to).take most.toNat).flatMap cW) -> Mine h r -> Ext h h' -> Q r h') : F.xbf (some ⟨p, 0, none⟩) e fr to most h Q := by
  unfold F.xbf
  refine new_of fun n2 h1 hm b1 e1 s1 => new_of fun n4 h3 hm2 b3 e3 s3 => ?_
  have t3 := (t.ext e1).ext e3
  have e13 := e1.trans e3
  have n16 := t.n2
  simp only [nn_some, add_lit, Nat.add_zero]
  refine t3.ldl ⟨ps.length + 1, ?_⟩
  rw [t.len]
  have key : ∀ (d i : Nat) (hh : H) (l8 : Sl) (ss : List Sl), i <= ps.length -> ps.length - i < d -> ss.length = i -> Ext h3 hh -> Owns hh l8 tn_Slapi_Row 1 (ss.flatMap V.cS8) -> Mine h3 l8 ->
      (∀ (j : Nat) s, ss[j]? = some s -> Owns hh s tn_api_Row 7 (((rangeS (partS ps.length j S) e fr to).take most.toNat).flatMap cW)) -> F.xbf.l1 Q d e most ⟨n2, 0, none⟩ ⟨n4, 0, none⟩ l8 l (ps.length : Int) (i : Int) hh := by
    intro d
    induction d with
    | zero => intro i _ _ _ _ hm; omega
    | succ d ih =>
      intro i hh l8 ss hi hm hl ee w mi rows
      unfold F.xbf.l1
      refine ⟨fun g => ?_, fun g => ?_⟩
      · have g := of_decide_eq_true g
        obtain ⟨q, hq⟩ : ∃ q, ps[i]? = some q := ⟨_, List.getElem?_eq_getElem (by omega)⟩
        have te := t3.ext ee
        obtain ⟨R0, sh⟩ := te.sh hq
        refine te.at hq ⟨fr, ((Blk.cells b1).ext e3).ext ee, to, (Blk.cells b3).ext ee, Range_spec sh fun r h18 w18 m18 e18 => ?_⟩
        refine newL_of fun m2 h20 hm2 b20 e20 s20 => ?_
        have r20 : Reads h20 ⟨some ⟨m2, 0, none⟩, 1, 1⟩ 1 ([r].flatMap V.cS8) := blk_reads (by simpa using b20) rfl
        have w20 := (w.ext e18).ext e20
        refine app_list (L := ss) (M := [r]) V.cS8_len (by omega) el_SlSlapi_Row w20 r20 (fun x v hv => by simp at hv; subst hv; rfl) (by simp only [List.length_singleton]; omega) fun r3 h22 w3 o3 n3 => ?_
        have hsz18 := e18.size
        have hsz20 := e20.size
        have hsz := ee.size
        have m3 : Mine h3 r3 := fun y hy => by
          rcases n3 with n3 | ⟨b', n3, n4⟩
          · exact mi y (by rw [← n3]; exact hy)
          · rw [n3] at hy; cases hy; omega
        rw [w64 (by omega) (by omega)]
        refine ih (i + 1) h22 r3 (ss ++ [r]) (by omega) (by omega) (by simp [hl]) (((ee.trans e18).trans e20).mine mi o3) w3 m3 fun j s hs => ?_
        rcases Nat.lt_or_ge j ss.length with hj | hj
        · rw [List.getElem?_append_left hj] at hs
          exact V.own_typ (((rows j s hs).ext e18).ext e20) o3 w20 (by decide)
        · have hj2 : j = ss.length := by
            have := (List.getElem?_eq_some_iff.1 hs).1
            rw [List.length_append, List.length_singleton] at this; omega
          subst hj2
          rw [List.getElem?_append_right (by omega), Nat.sub_self] at hs
          cases hs
          rw [hl]
          exact V.own_typ (w18.ext e20) o3 w20 (by decide)
      · have g := of_decide_eq_false g
        have hin : i = ps.length := by omega
        subst hin
        have npos : 0 < ps.length := by have := t.n1; omega
        have hX := range_sort t.ok e fr to
        generalize hLs : ((List.range ps.length).map fun k => ((rangeS S e fr to).filter fun r => decide (rt ps.length r.Cell = k)).take most.toNat) = Ls
        have law := scan_law hX npos most.toNat
        rw [hLs] at law
        have hLl : Ls.length = ps.length := by rw [← hLs]; simp
        have hLj : ∀ (j : Nat) (A : List S_api_Row), Ls[j]? = some A -> A = (rangeS (partS ps.length j S) e fr to).take most.toNat := fun j A hA => by
          rw [← hLs] at hA
          have hj := (List.getElem?_eq_some_iff.1 hA).1
          rw [List.length_map, List.length_range] at hj
          rw [List.getElem?_map, List.getElem?_range hj] at hA
          simp only [Option.map_some, Option.some.injEq] at hA
          rw [← hA, part_range]
        have tb : TB hh l8 ss Ls := ⟨w.reads, by rw [hl, hLl], fun j s A hs hA => by rw [hLj j A hA]; exact ⟨(rows j s hs).reads, (rows j s hs).le_cap⟩⟩
        have hlen : (mR Ls).length < 100000 := by
          have h1 : (mR Ls).length = (Ls.map List.length).sum := mAll_len
          have h2 : (Ls.map List.length).sum <= S.length := by
            rw [← hLs, List.map_map, ← len_parts npos S]
            refine sum_le _ fun k hk => ?_
            simp only [Function.comp]
            rw [← part_range, List.length_take]
            have : (rangeS (partS ps.length k S) e fr to).length <= (partS ps.length k S).length := by unfold rangeS; rw [List.length_map]; exact List.length_filter_le _ _
            omega
          omega
        refine Rows_spec tb (by omega) hlen fun r h24 w24 m24 e24 => ?_
        rw [law] at w24
        exact k r h24 w24 (fun y hy => by have := m24 y hy; have := ee.size; have := e13.size; omega) ((e13.trans ee).trans e24)
  exact key _ 0 h3 ⟨none, 0, 0⟩ [] (by omega) (by omega) rfl (.refl _) (by simpa using Owns.nil h3 tn_Slapi_Row 1) (fun y hy => by simp [Sl.blk] at hy) fun j s hs => by simp at hs
end
abbrev cBb : Cel := ⟨0, ⟨#[98]⟩, 0⟩
abbrev ab1 : SL := putS [] 1 cA (oneA 1)
abbrev ab2 : SL := putS ab1 1 cBb (oneA 2)
theorem rt_a : rt 2 cA = 0 := by decide +kernel
theorem rt_b : rt 2 cBb = 1 := by decide +kernel
theorem put_1 : putE (partS 2 (rt 2 cA) []) 9 1 cA (oneA 1) true = 0 := by rw [rt_a, part_nil]; decide
theorem put_2 : putE (partS 2 (rt 2 cBb) ab1) 9 1 cBb (oneA 2) true = 0 := by
  have : partS 2 1 ab1 = [] := by
    show partS 2 1 [(cA, _)] = []
    unfold partS
    rw [List.filter_cons, List.filter_nil, show rt 2 (cA, C.layM ((getS ([] : SL) cA).getD []) ⟨1, oneA 1, false⟩).1 = 0 from rt_a]; rfl
  rw [rt_b, this]; decide
theorem part_2 : partS 2 1 ab2 = [(cBb, [⟨1, oneA 2, false⟩])] := by
  show partS 2 1 [(cA, [⟨1, oneA 1, false⟩]), (cBb, [⟨1, oneA 2, false⟩])] = _
  unfold partS
  rw [List.filter_cons, List.filter_cons, List.filter_nil]
  simp only [rt_a, rt_b]
  rfl
theorem units_1 : (unitsS (partX 2 1 ab2) : Int) = 2 := by
  show (unitsS (partX 2 ((1 : Nat) : Int) ab2) : Int) = 2
  rw [partX_nat (by omega), part_2]; rfl
theorem units_2 : (unitsS (partX 2 2 ab2) : Int) = 0 := by
  unfold partX; rw [if_neg (by omega)]; rfl
theorem head10 {h : H} {Q : Bool -> H -> Prop} (k : ∀ h', Ext h h' -> Q true h') : F.xbc h Q := by
  unfold F.xbc
  refine TNew (fun g => by omega) fun _ _ _ _ h1 p l ps R hps t e1 hR hp ml => ⟨fun g => by simp at g, fun _ => ?_⟩
  have hps : ps.length = 2 := by omega
  unfold F.xbc.j2
  refine ⟨fun g => by simp at g, fun _ => ?_⟩
  unfold F.xbc.j1
  refine one_spec fun h4 e4 => ?_
  refine TPut (x := ⟨cA, oneA 1⟩) (t.ext e4) (show cA.Key.size <= _ by decide) (right_one' 1) (fun g => absurd (by rw [hps]; exact put_1) g) fun _ h6 R6 t6 o6 hR6 => ?_
  have hR6' : ∀ b, R6 b -> h.size <= b := fun b hb => (hR6 b hb).elim (hR b) fun x => by have := e1.size; have := e4.size; omega
  refine one_spec fun h8 e8 => ?_
  refine TPut (x := ⟨cBb, oneA 2⟩) (t6.ext e8) (show cBb.Key.size <= _ by decide) (right_one' 2) (fun g => absurd (by rw [hps]; exact put_2) g) fun _ h10 R10 t10 o10 hR10 => ?_
  have e06 : Ext h h6 := o6.base (e1.trans e4) hR
  have e010 : Ext h h10 := o10.base (e06.trans e8) hR6'
  refine TScan t10 (by decide) fun r13 h12 w12 m12 e12 => ⟨fun _ => ⟨fun _ => ?_, fun g => by simp at g⟩, fun g => by simp at g⟩
  have t12 := t10.ext e12
  have w12 : Owns h12 r13 tn_api_Row 7 (([⟨cA, oneA 1⟩, ⟨cBb, oneA 2⟩] : List S_api_Row).flatMap cW) := w12
  have hl := own_len cW_len (by omega) w12
  refine TRoute (c := cA) t12 (show cA.Key.size <= _ by decide) fun h16 e16 => ?_
  rw [hps, rt_a]
  refine ⟨fun _ => ?_, fun g => by simp at g⟩
  refine TRoute (c := cBb) (t12.ext e16) (show cBb.Key.size <= _ by decide) fun h19 e19 => ?_
  rw [hps, rt_b]
  refine ⟨fun _ => ⟨fun _ => ?_, fun g => by rw [hl] at g; simp at g⟩, fun g => by simp at g⟩
  refine rowAt (i := 1) ((w12.ext e16).ext e19).reads rfl fun a ca => ?_
  have c4 : cellH h19 (a.add 4) = some (.int .i64 2) := ca 4 _ rfl
  refine ldI_of (by simpa [add_lit, Addr.add, Nat.add_assoc] using c4) ⟨fun _ => ?_, fun g => by simp at g⟩
  have t19 := (t12.ext e16).ext e19
  refine TUnits t19 ?_
  rw [hps]
  refine ⟨fun _ => TUnits t19 ?_, fun g => absurd (show ((unitsS (partX 2 1 ab2) : Int) == 2) = false from g) (by rw [units_1]; decide)⟩
  rw [hps]
  have u2 : ((unitsS (partX 2 2 ab2) : Int) == 0) = true := by rw [units_2]; rfl
  show Q ((unitsS (partX 2 2 ab2) : Int) == 0) h19
  rw [u2]
  exact k h19 ((e010.trans e12).trans (e16.trans e19))
def fewKey (k : ByteArray) : ByteArray := match k.data.toList with
  | [] => ⟨#[107]⟩
  | b :: _ => ⟨#[UInt8.ofNat (97 + b.toNat % 9), UInt8.ofNat (97 + k.size % 3)]⟩
def fewC (c : Cel) : Cel := ⟨withinM c.View 2, fewKey c.Key, Int.tmod c.Start 3⟩
theorem fewKey_size (k : ByteArray) : 1 <= (fewKey k).size ∧ (fewKey k).size <= 2 := by
  unfold fewKey
  split
  · exact ⟨Nat.le_refl 1, by show 1 <= 2; omega⟩
  · exact ⟨by show 1 <= 2; omega, Nat.le_refl 2⟩
theorem few_ok (c : Cel) : okC (fewC c) = 0 := by
  have h1 := within_range (a := c.View) (m := 2) (by omega)
  have h2 := fewKey_size c.Key
  have h3 := Int.tmod_lt_of_pos c.Start (show (0 : Int) < 3 by omega)
  have h4 : -3 < Int.tmod c.Start 3 := by
    have := Int.tmod_lt_of_pos (-c.Start) (show (0 : Int) < 3 by omega)
    rw [Int.neg_tmod] at this
    omega
  unfold okC fewC
  simp only
  rw [if_neg (by omega), if_neg (by omega), if_neg (by omega)]
theorem few_key (c : Cel) : KeyOk (fewC c) := by have := fewKey_size c.Key; show (fewKey c.Key).size <= _; omega
theorem few_spec {h : H} {c : Cel} {Q : S_api_Cell -> H -> Prop} (hk : KeyOk c) (k : ∀ h', Ext h h' -> Q (fewC c) h') : F.xbh c h Q := by
  unfold F.xbh
  refine new_of fun n h1 hn b1 e1 s1 => new_of fun n3 h3 hn3 b3 e3 s3 => ?_
  have b3' : Blk h3 n3 zeroC.cells.toArray tn_api_Cell := b3
  have c0 : ∀ {hh : H}, Ext h3 hh -> cellH hh ⟨n, 0, none⟩ = some (.int .i64 c.View) := fun e => (e3.trans e).cell (Blk.cells b1 0 _ rfl) fun f => f
  have c1 : ∀ {hh : H}, Ext h3 hh -> cellH hh ⟨n, 1, none⟩ = some (.string c.Key) := fun e => (e3.trans e).cell (Blk.cells b1 1 _ rfl) fun f => f
  have c2 : ∀ {hh : H}, Ext h3 hh -> cellH hh ⟨n, 2, none⟩ = some (.int .i64 c.Start) := fun e => (e3.trans e).cell (Blk.cells b1 2 _ rfl) fun f => f
  have j1 : ∀ (key : ByteArray) (hh : H), Ext h3 hh -> key = fewKey c.Key -> F.xbh.j1 Q ⟨n, 0, none⟩ ⟨n3, 0, none⟩ key hh := fun key hh e hk => by
    unfold F.xbh.j1
    simp only [add_lit, Nat.zero_add, Nat.add_zero]
    refine ldI_of (c0 e) (ldI_of (c2 e) ⟨by omega, within_spec (by omega) (by omega) ⟨c2 e, ?_⟩⟩)
    have b3e : Blk hh n3 zeroC.cells.toArray tn_api_Cell := e.block b3' fun f => f
    refine st_cel b3e (d := ⟨withinM c.View 2, key, Int.tmod c.Start 3⟩) fun h5 b5 o5 s5 => ⟨_, b5.cells, ?_⟩
    rw [hk]
    exact k h5 (((e1.trans e3).trans e).step o5 fun x hx hb => by omega)
  simp only [add_lit, Nat.zero_add, Nat.add_zero]
  rw [ldS_iff (c1 (.refl _))]
  refine ⟨fun g => ldS_of (c1 (.refl _)) ?_, fun g => j1 _ h3 (.refl _) ?_⟩
  · have g := of_decide_eq_true g
    obtain ⟨b, r, hbr⟩ : ∃ b r, c.Key.data.toList = b :: r := by
      cases hl : c.Key.data.toList with
      | nil => exact absurd hl (key_some (by omega))
      | cons b r => exact ⟨b, r, rfl⟩
    refine idxS_of (i := 0) (b := b) (by rw [hbr]; rfl) rfl ⟨by omega, ldS_of (c1 (.refl _)) ⟨by omega, ?_⟩⟩
    have hbt := b.toNat_lt
    have hb : IntKind.wrap .u8 (97 + Int.tmod ((b.toNat : Nat) : Int) 9) = (((UInt8.ofNat (97 + b.toNat % 9)).toNat : Nat) : Int) := by
      rw [wrap_u8, Int.tmod_eq_emod_of_nonneg (by omega)]
      simp
    have hc : IntKind.wrap .u8 (97 + IntKind.wrap .u8 (Int.tmod ((c.Key.size : Nat) : Int) 3)) = (((UInt8.ofNat (97 + c.Key.size % 3)).toNat : Nat) : Int) := by
      rw [wrap_u8, wrap_u8, Int.tmod_eq_emod_of_nonneg (by omega)]
      simp
    rw [hb, hc]
    refine newL_of fun n5 h5 hn5 b5 e5 s5 => ?_
    have rd : Reads h5 ⟨some ⟨n5, 0, none⟩, 2, 2⟩ 1 ([UInt8.ofNat (97 + b.toNat % 9), UInt8.ofNat (97 + c.Key.size % 3)].flatMap cU) := blk_reads b5 rfl
    refine cvtT_of (l := [UInt8.ofNat (97 + b.toNat % 9), UInt8.ofNat (97 + c.Key.size % 3)]) el_Sluint8.slice Tryz.underlying5 Tryz.underlying9 rd ?_
    exact j1 _ h5 e5 (by unfold fewKey; rw [hbr])
  · have g := of_decide_eq_false g
    unfold fewKey
    cases hl : c.Key.data.toList with
    | nil => rfl
    | cons b r => have e2 := size_data (s := c.Key); rw [hl] at e2; simp only [List.length_cons] at e2; omega
structure St0 where
  y : St
  n : Int
abbrev c0 (x : St0) : List Value := (⟨x.y.x, x.n⟩ : S_spatelaw10_Step).cells
theorem c0_len (x : St0) : (c0 x).length = 16 := rfl
structure St0Ok (h : H) (x : St0) : Prop where
  ok : StOk h x.y
  n64 : -9223372036854775808 <= x.n ∧ x.n < 9223372036854775808
section
variable {T : Type} {enc : TypeId × Value -> T} {w : World} {base : Nat} {spare : Nat -> Bool} {held : Bool} {fuel : Nat}
theorem list16 {β : Type} : ∀ {l : List β}, l.length = 16 -> ∃ a b, a.length = 15 ∧ l = a ++ [b]
  | l, h => by
    have hn : l ≠ [] := fun e => by subst e; cases h
    exact ⟨l.dropLast, l.getLast hn, by rw [List.length_dropLast, h], (List.dropLast_concat_getLast hn).symm⟩
theorem list2 {β : Type} : ∀ {l : List β}, l.length = 2 -> ∃ a b, l = [a, b]
  | [a, b], _ => ⟨a, b, rfl⟩
theorem step0_open {cs : List Value} {y : DataW T × List MemPlace} (h : DataW.trod enc PP w base spare held fuel tn_spatelaw10_Step cs = some y) (hl : cs.length = 16) : ∃ x : St0, cs = c0 x ∧ St0Ok w.heap x := by
  obtain ⟨xs, n, _, _, _, hlen, hf⟩ := DataW.trod_struct ut_spatelaw10_Step h
  have hlen2 : xs.length = 2 := hlen
  have k3 : PP.cellsOf 3 = 1 := by kernel_rfl
  have ks : PP.cellsOf tn_spatelaw7_Step = 15 := by kernel_rfl
  obtain ⟨a, b, ha, rfl⟩ := list16 hl
  obtain ⟨y0, y1, rfl⟩ := list2 hlen2
  have f0 : DataW.trod enc PP w base spare held n tn_spatelaw7_Step (((a ++ [b]).drop 0).take (PP.cellsOf tn_spatelaw7_Step)) = some y0 := hf 0 _ rfl
  rw [ks] at f0
  have f1 : DataW.trod enc PP w base spare held n 3 (((a ++ [b]).drop 15).take (PP.cellsOf 3)) = some y1 := hf 1 _ rfl
  rw [k3] at f1
  rw [List.drop_zero, List.take_left' ha] at f0
  rw [List.drop_left' ha] at f1
  obtain ⟨x0, e0, w0⟩ := step_open f0 ha
  obtain ⟨m1, e1, _, w1⟩ := DataW.trod_int Tryz.underlying3 f1
  refine ⟨⟨x0, m1⟩, ?_, ⟨w0, i64_of w1⟩⟩
  rw [e0, show [b] = [Value.int .i64 m1] from e1]; rfl
theorem steps_open {v : Value} {y : DataW T × List MemPlace} (h : DataW.trod enc PP w base spare held fuel tn_Slspatelaw10_Step [v] = some y) :
    ∃ (s : Sl) (L : List St0), v = s.enc ∧ Reads w.heap s 16 (L.flatMap c0) ∧ s.len <= s.cap ∧ (L ≠ [] -> ∀ b, s.blk = some b -> b < w.heap.size) ∧ (∀ x ∈ L, St0Ok w.heap x) ∧ L.length <= 9223372036854775807 :=
  gen_open c0 (St0Ok w.heap) c0_len ut_Slspatelaw10_Step (show PP.cellsOf tn_spatelaw10_Step = 16 from by kernel_rfl) (by omega) h fun n cs y hy hl => step0_open hy hl
end
section
variable {h0 h : H} {l : Sl} {L : List St0} {i : Nat} {x : St0}
theorem step0_at (rd : Reads h0 l 16 (L.flatMap c0)) (e : Ext h0 h) (hy : L[i]? = some x) {K : Addr -> Prop} (kk : ∀ a, Cells h a (c0 x) -> K a) : idxA l (i : Int) 16 K := by
  obtain ⟨p, p1, p2, p3⟩ := rd_at c0_len (by omega) (rd.ext e) hy
  have hl := rd_len c0_len (by omega) rd
  exact idxR_of (i := i) p1 (by have := (List.getElem?_eq_some_iff.1 hy).1; omega) rfl (kk _ p3)
theorem step0_cel {a : Addr} (c : Cells h a (c0 x)) : Cells h ((a.add 0).add 2) x.y.x.Cell.cells := fun i v hv => by
  have hi : i < 3 := (List.getElem?_eq_some_iff.1 hv).1
  have e : ((a.add 0).add 2).add i = a.add (2 + i) := by simp [Addr.add, Nat.add_assoc]
  rw [e]
  exact c (2 + i) v (by
    match i, hi, hv with
    | 0, _, hv => exact hv
    | 1, _, hv => exact hv
    | 2, _, hv => exact hv)
theorem step0_kind {a : Addr} (c : Cells h a (c0 x)) : cellH h ((a.add 0).add 0) = some (.int .i64 x.y.x.Kind) := by
  have e : (a.add 0).add 0 = a.add 0 := by simp [Addr.add]
  rw [e]; exact c 0 _ rfl
theorem St0Ok.key (o : St0Ok h x) : KeyOk x.y.x.Cell := by have := o.ok.cel.2.2; simp only [maxLen] at this; show x.y.x.Cell.Key.size <= _; omega
end
section
variable {base h h' : H} {p : Nat} {l : Sl} {ps : List Nat} {S : SL} {slots : Nat}
theorem cel_sh' : ¬ ShE tn_api_Cell := by unfold ShE; decide
theorem rg_len (S : SL) (e : Int) (fr to : Cel) : (rangeS S e fr to).length <= S.length := by unfold rangeS; rw [List.length_map]; exact List.length_filter_le _ _
end
section
variable {h3 hh h18 : H} {l8 : Sl} {ss : List Sl} {f : Nat -> List S_api_Row}
end
open Go Go.Proofs.YtjjchpaomgmmdaaGreat.V
theorem prune_cons (x : Cel × List Ver) (r : SL) (E : List Int) : pruneS (x :: r) E = (if C.pruneM x.2 E = [] then [] else [(x.1, C.pruneM x.2 E)]) ++ pruneS r E := by
  unfold pruneS
  rw [List.map_cons, List.filter_cons]
  by_cases h : C.pruneM x.2 E = []
  · simp [h]
  · simp [h]
def EB (S : SL) (ep : Int) : Prop := ∀ x ∈ S, ∀ v ∈ x.2, v.epoch <= ep
theorem EB.mono {S : SL} {a b : Int} (h : EB S a) (hab : a <= b) : EB S b := fun x hx v hv => Int.le_trans (h x hx v hv) hab
theorem EB.lay {S : SL} {ep : Int} (h : EB S ep) (hs : SortS S) {c : Cel} {x : Ver} (hx : x.epoch <= ep) : EB (setS S c (C.layM ((getS S c).getD []) x)) ep := fun y hy v hv => by
  rcases (mem_set hs).1 hy with hy | hy
  · subst hy
    have hv' : v = x ∨ v ∈ (getS S c).getD [] := by
      unfold C.layM at hv
      split at hv
      · rcases List.mem_append.1 hv with hv | hv
        · exact .inr (List.dropLast_subset _ hv)
        · exact .inl (List.mem_singleton.1 hv)
      · rcases List.mem_append.1 hv with hv | hv
        · exact .inr hv
        · exact .inl (List.mem_singleton.1 hv)
    rcases hv' with hv' | hv'
    · subst hv'; exact hx
    · cases hg : getS S c with
      | none => rw [hg] at hv'; cases hv'
      | some vs =>
        rw [hg] at hv'
        unfold getS at hg
        obtain ⟨z, hz, rfl⟩ := Option.map_eq_some_iff.1 hg
        exact h z (getK_some hz).1 v hv'
  · exact h y hy.1 v hv
theorem EB.prune {S : SL} {ep : Int} (h : EB S ep) (E : List Int) : EB (pruneS S E) ep := fun y hy v hv => by
  unfold pruneS at hy
  obtain ⟨h1, _⟩ := List.mem_filter.1 hy
  obtain ⟨x, hx, rfl⟩ := List.mem_map.1 h1
  exact h x hx v ((C.prune_sub _ _).subset hv)
theorem newest_le {S : SL} {ep : Int} (h : EB S ep) (h1 : 1 <= ep) (c : Cel) : ¬ (C.newestM ((getS S c).getD [])).2.1 > ep := by
  cases hg : getS S c with
  | none => show ¬ (0 : Int) > ep; omega
  | some vs =>
    unfold getS at hg
    obtain ⟨z, hz, rfl⟩ := Option.map_eq_some_iff.1 hg
    have hm := (getK_some hz).1
    show ¬ (C.newestM z.2).2.1 > ep
    unfold C.newestM
    cases hl : z.2.getLast? with
    | none => show ¬ (0 : Int) > ep; omega
    | some v =>
      have := h z hm v (List.mem_of_getLast? hl)
      show ¬ v.epoch > ep; omega
theorem need_0 (S : SL) (e : Int) (c : Cel) : 0 <= needS S e c ∧ needS S e c <= 2 := by
  unfold needS
  split
  · omega
  · unfold needV
    split
    · omega
    · split
      · omega
      · split
        · omega
        · split <;> omega
theorem room_put {S : SL} (hok : SOk S) {slots : Nat} {ep v : Int} (hb : EB S ep) (h1 : 1 <= ep) (h2 : ep <= 1099511627776) {c : Cel} (hc : okC c = 0) :
    ((unitsS S : Int) + needS S ep c <= slots ∧ putE S slots ep c (oneA v) true = 0 ∧ (unitsS (putS S ep c (oneA v)) : Int) = unitsS S + needS S ep c) ∨ (¬ (unitsS S : Int) + needS S ep c <= slots ∧ putE S slots ep c (oneA v) true = 31) := by
  have hle := newest_le hb h1 c
  unfold putE
  have hno : ¬ (ep < 1 ∨ ep > 1099511627776 ∨ (oneA v).Count = 0 ∨ true = false) := by
    rintro (h | h | h | h)
    · omega
    · omega
    · exact absurd (show (1 : Int) = 0 from h) (by decide)
    · cases h
  rw [if_neg (fun h => h hc), if_neg hno, if_neg hle]
  by_cases hf : (unitsS S : Int) + needS S ep c <= slots
  · exact .inl ⟨hf, if_neg (by omega), (put_units hok hc hle).1⟩
  · exact .inr ⟨hf, if_pos (by omega)⟩
theorem prune_le {S : SL} (hok : SOk S) (E : List Int) : unitsS (pruneS S E) <= unitsS S ∧ (pruneS S E).length <= S.length := by
  have : ∀ (S : SL), (∀ x ∈ S, VOk x.2) -> unitsS (pruneS S E) <= unitsS S ∧ (pruneS S E).length <= S.length := fun S => by
    induction S with
    | nil => intro _; exact ⟨Nat.le_refl _, Nat.le_refl _⟩
    | cons x r ih =>
      intro h
      obtain ⟨i1, i2⟩ := ih fun y hy => h y (by simp [hy])
      have hu := prune_units (h x (by simp)) E
      rw [prune_cons]
      unfold unitsS at i1 ⊢
      rw [List.map_append, List.sum_append, List.map_cons, List.sum_cons, List.length_append, List.length_cons]
      split <;> simp <;> omega
  exact this S fun x hx => (hok.ok x hx).2
section
variable {n k : Nat} {S : SL} {E : List Int}
theorem prune_cs (x : Cel × List Ver) (S : SL) (E : List Int) : pruneS (x :: S) E = if (C.pruneM x.2 E).isEmpty then pruneS S E else (x.1, C.pruneM x.2 E) :: pruneS S E := by
  unfold pruneS; rw [List.map_cons, List.filter_cons]
  cases (C.pruneM x.2 E).isEmpty <;> simp
theorem part_prune (E : List Int) : ∀ S : SL, partS n k (pruneS S E) = pruneS (partS n k S) E
  | [] => rfl
  | x :: S => by
    have ih := part_prune E S
    rw [prune_cs, part_cons]
    by_cases hk : rt n x.1 = k
    · rw [if_pos hk, prune_cs]
      by_cases hp : (C.pruneM x.2 E).isEmpty
      · rw [if_pos hp, if_pos hp, ih]
      · rw [if_neg hp, if_neg hp, part_cons, if_pos hk, ih]
    · rw [if_neg hk]
      by_cases hp : (C.pruneM x.2 E).isEmpty
      · rw [if_pos hp, ih]
      · rw [if_neg hp, part_cons, if_neg hk, ih]
theorem parts_ext {A B : SL} (hn : 0 < n) (ha : SortS A) (hb : SortS B) (h : ∀ j, j < n -> partS n j A = partS n j B) : A = B := by
  refine sortK_ext (key := fun x : Cel × List Ver => x.1) ha hb fun x => ?_
  have := h _ (rt_lt hn x.1)
  constructor
  · intro hx
    have hm : x ∈ partS n (rt n x.1) A := part_mem.2 ⟨hx, rfl⟩
    rw [this] at hm; exact (part_mem.1 hm).1
  · intro hx
    have hm : x ∈ partS n (rt n x.1) B := part_mem.2 ⟨hx, rfl⟩
    rw [← this] at hm; exact (part_mem.1 hm).1
def pruneK (n k : Nat) (S : SL) (E : List Int) : SL := (S.map fun x => if rt n x.1 = k then (x.1, C.pruneM x.2 E) else x).filter fun x => !x.2.isEmpty
theorem pk_one (x : Cel × List Ver) (S : SL) (hx : x.2 ≠ []) : pruneK n k (x :: S) E = if rt n x.1 = k then (if (C.pruneM x.2 E).isEmpty then pruneK n k S E else (x.1, C.pruneM x.2 E) :: pruneK n k S E) else x :: pruneK n k S E := by
  unfold pruneK; rw [List.map_cons, List.filter_cons]
  by_cases hk : rt n x.1 = k
  · rw [if_pos hk, if_pos hk]
    cases (C.pruneM x.2 E).isEmpty <;> simp
  · rw [if_neg hk, if_neg hk]
    simp [hx]
theorem pk_self : ∀ {S : SL}, (∀ x ∈ S, x.2 ≠ []) -> partS n k (pruneK n k S E) = pruneS (partS n k S) E
  | [], _ => rfl
  | x :: S, h => by
    have ih := pk_self (S := S) fun y hy => h y (List.mem_cons_of_mem _ hy)
    rw [pk_one x S (h x (List.mem_cons_self ..)), part_cons]
    by_cases hk : rt n x.1 = k
    · rw [if_pos hk, if_pos hk, prune_cs]
      by_cases hp : (C.pruneM x.2 E).isEmpty
      · rw [if_pos hp, if_pos hp, ih]
      · rw [if_neg hp, if_neg hp, part_cons, if_pos hk, ih]
    · rw [if_neg hk, if_neg hk, part_cons, if_neg hk, ih]
theorem pk_other {j : Nat} (hj : j ≠ k) : ∀ {S : SL}, (∀ x ∈ S, x.2 ≠ []) -> partS n j (pruneK n k S E) = partS n j S
  | [], _ => rfl
  | x :: S, h => by
    have ih := pk_other hj (S := S) fun y hy => h y (List.mem_cons_of_mem _ hy)
    rw [pk_one x S (h x (List.mem_cons_self ..)), part_cons]
    by_cases hk : rt n x.1 = k
    · rw [if_pos hk, if_neg (show ¬ rt n x.1 = j by omega)]
      by_cases hp : (C.pruneM x.2 E).isEmpty
      · rw [if_pos hp, ih]
      · rw [if_neg hp, part_cons, if_neg (show ¬ rt n x.1 = j by omega), ih]
    · rw [if_neg hk, part_cons, ih]
theorem pk_sort (h : SortS S) : SortS (pruneK n k S E) := by
  unfold pruneK
  refine List.Pairwise.filter _ ?_
  rw [List.pairwise_map]
  refine h.imp fun {a b} hab => ?_
  have ka : (if rt n a.1 = k then (a.1, C.pruneM a.2 E) else a).1 = a.1 := by split <;> rfl
  have kb : (if rt n b.1 = k then (b.1, C.pruneM b.2 E) else b).1 = b.1 := by split <;> rfl
  simp only [ka, kb]; exact hab
theorem sort_prune (h : SortS S) (E : List Int) : SortS (pruneS S E) := by
  unfold pruneS
  refine List.Pairwise.filter _ ?_
  rw [List.pairwise_map]
  exact h
def pruneX (n : Nat) (i : Int) (S : SL) (E : List Int) : SL := if 0 <= i ∧ i < n then pruneK n i.toNat S E else S
theorem pruneX_part {i : Int} {j : Nat} (h : ∀ x ∈ S, x.2 ≠ []) (hj : j < n) : partS n j (pruneX n i S E) = if (j : Int) = i then pruneS (partS n j S) E else partS n j S := by
  unfold pruneX
  by_cases hi : 0 <= i ∧ i < n
  · rw [if_pos hi]
    by_cases hji : (j : Int) = i
    · rw [if_pos hji, show i.toNat = j by omega, pk_self h]
    · rw [if_neg hji, pk_other (by omega) h]
  · rw [if_neg hi, if_neg (by omega)]
theorem pos_of (hok : SOk S) : ∀ x ∈ S, x.2 ≠ [] := fun x hx => (hok.ok x hx).2.ne
end
theorem TPrune {h : H} {p : Nat} {l : Sl} {ps : List Nat} {S : SL} {slots : Nat} {R : Nat -> Prop} {i : Int} {held : Sl} {E : List Int} {Q : Int -> H -> Prop} (t : TS h p l ps S slots R) (rd : Reads h held 1 (E.flatMap cI)) (hE : E.length < 1073741824)
    (hlt : E ≠ [] -> ∀ b, held.blk = some b -> b < h.size ∧ ¬ R b)
    (k : ∀ h' R', TS h' p l ps (pruneX ps.length i S E) slots R' -> SOnly R h h' -> (∀ b, R' b -> R b ∨ h.size <= b) -> Q ((unitsS (partX ps.length i S) : Int) - unitsS (pruneS (partX ps.length i S) E)) h') : F.xde (some ⟨p, 0, none⟩) i held h Q := by
  unfold F.xde
  refine TIs t ?_
  by_cases hi : 0 <= i ∧ i < ps.length
  · rw [decide_eq_true hi]
    obtain ⟨q, hq, hin⟩ := t.nth hi
    refine ⟨fun g => by simp at g, fun _ => ?_⟩
    simp only [nn_some, add_lit, Nat.add_zero]
    refine t.ldl ?_
    rw [← hin]
    refine t.at hq ?_
    obtain ⟨R0, sh, hR, hRR, fin⟩ := t.op hq
    refine Prune_spec sh rd hE (fun hne b hb => ⟨(hlt hne b hb).1, fun g => (hRR b g.1).elim (hlt hne b hb).2 fun x => by have := (hlt hne b hb).1; omega⟩) hR fun h' sh' o => ?_
    have hpx : pruneX ps.length ((i.toNat : Nat) : Int) S E = pruneK ps.length i.toNat S E := by unfold pruneX; rw [if_pos (by omega)]; rfl
    have hpos := pos_of t.ok
    obtain ⟨R', t', o', hR'⟩ := fin h' (pruneK ps.length i.toNat S E) (pk_sort t.ok.sort) (by rw [pk_self hpos]; exact sh') o fun j hj hne => pk_other hne hpos
    have := k h' R'
    rw [← hin, hpx, partX_nat (by omega)] at this
    exact this t' o' hR'
  · rw [decide_eq_false hi]
    refine ⟨fun _ => ?_, fun g => by cases g⟩
    have := k h R
    unfold pruneX partX at this
    rw [if_neg hi, if_neg hi] at this
    exact this t (.refl _) fun b hb => .inl hb
theorem sum16 {f : Nat -> Nat} {n : Nat} : ∀ m, (∀ k, n <= k -> f k = 0) -> ((List.range (n + m)).map f).sum = ((List.range n).map f).sum
  | 0, _ => rfl
  | m + 1, h => by rw [show n + (m + 1) = n + m + 1 by omega, sum_snoc, sum16 m h, h (n + m) (by omega)]; rfl
theorem units16 {n : Nat} (h1 : 1 <= n) (h2 : n <= 16) (S : SL) : ((List.range 16).map fun k : Nat => unitsS (partX n (k : Int) S)).sum = unitsS S := by
  have e : (16 : Nat) = n + (16 - n) := by omega
  rw [e, sum16 (16 - n) fun k hk => by unfold partX; rw [if_neg (by omega)]; rfl]
  rw [← units_parts (show 0 < n by omega) S]
  congr 1
  exact List.map_congr_left fun k hk => by rw [partX_nat (List.mem_range.1 hk)]
structure TW (base h : H) (p : Nat) (l : Sl) (ps : List Nat) (q : Nat) (S T : SL) (R R2 : Nat -> Prop) : Prop where
  ts : TS h p l ps S 500 R
  sh : SH h q T 8000 R2
  r1 : ∀ b, R b -> base.size <= b
  r2 : ∀ b, R2 b -> base.size <= b ∧ b < h.size
  dj : ∀ b, R b -> ¬ R2 b
  e : Ext base h
section
variable {base h h' : H} {p : Nat} {l : Sl} {ps : List Nat} {q : Nat} {S T : SL} {R R2 : Nat -> Prop}
theorem TW.ext (w : TW base h p l ps q S T R R2) (e : Ext h h') : TW base h' p l ps q S T R R2 := ⟨w.ts.ext e, w.sh.ext e, w.r1, fun b hb => ⟨(w.r2 b hb).1, Nat.lt_of_lt_of_le (w.r2 b hb).2 e.size⟩, w.dj, w.e.trans e⟩
theorem TW.st (w : TW base h p l ps q S T R R2) {S' : SL} {R' : Nat -> Prop} (t : TS h' p l ps S' 500 R') (o : SOnly R h h') (hR : ∀ b, R' b -> R b ∨ h.size <= b) : TW base h' p l ps q S' T R' R2 := by
  have hz := w.e.size
  have hz2 := o.size
  refine ⟨t, w.sh.keep o fun b hb _ g => w.dj b g.1 hb, fun b hb => ?_, fun b hb => ⟨(w.r2 b hb).1, by have := (w.r2 b hb).2; omega⟩, fun b hb hb2 => ?_, o.base w.e w.r1⟩
  · rcases hR b hb with g | g
    · exact w.r1 b g
    · omega
  · rcases hR b hb with g | g
    · exact w.dj b g hb2
    · have := (w.r2 b hb2).2; omega
theorem TW.op (w : TW base h p l ps q S T R R2) : ∃ R0 : Nat -> Prop, SH h q T 8000 R0 ∧ (∀ b, h.size <= b -> R0 b) ∧ (∀ b, R0 b -> base.size <= b) ∧ ∀ h' T', SH h' q T' 8000 R0 -> SOnly R0 h h' -> ∃ R2', TW base h' p l ps q S T' R R2' := by
  have hz := w.e.size
  refine ⟨fun b => R2 b ∨ h.size <= b, w.sh.turn fun b _ hb => .inl hb, fun b hb => .inr hb, fun b hb => hb.elim (fun g => (w.r2 b g).1) fun g => by omega, fun h' T' sh' o => ?_⟩
  have hz2 := o.size
  have bz : ∀ b, R2 b ∨ h.size <= b -> base.size <= b := fun b hb => hb.elim (fun g => (w.r2 b g).1) fun g => by omega
  refine ⟨fun b => (R2 b ∨ h.size <= b) ∧ b < h'.size, w.ts.other o fun b hb g1 g2 => g2.elim (w.dj b g1) fun g => by omega, sh'.turn fun b hb g => ⟨g, hb⟩, w.r1, fun b hb => ⟨bz b hb.1, hb.2⟩, fun b hb g => g.1.elim (w.dj b hb) fun g => by have := w.ts.lt b hb; omega, o.base w.e bz⟩
theorem so_kp {m : Nat} {c : Array Value} {e : TypeId} (o : SOnly R h h') (b : Blk h m c e) (he : ¬ ShE e) : Blk h' m c e := o.block b fun hh => not_sh b he hh.2
end
theorem step0_held {h : H} {x : St0} {a : Addr} (c : Cells h a (c0 x)) : cellH h ((a.add 0).add 10) = some x.y.x.Held.enc := by
  have e : (a.add 0).add 10 = a.add 10 := by simp [Addr.add]
  rw [e]; exact c 10 _ rfl
theorem step0_sum {h : H} {x : St0} {a : Addr} (c : Cells h a (c0 x)) : cellH h (((a.add 0).add 5).add 1) = some (.int .i64 x.y.x.Agg.Sum) := by
  have e : ((a.add 0).add 5).add 1 = a.add 6 := by simp [Addr.add]
  rw [e]; exact c 6 _ rfl
theorem le_sum : ∀ {L : List Nat} {x : Nat}, x ∈ L -> x <= L.sum
  | [], _, h => by cases h
  | y :: L, x, h => by
    rw [List.sum_cons]
    rcases List.mem_cons.1 h with h | h
    · omega
    · have := le_sum h; omega
theorem agg_ne (a : S_api_Agg) : (!((a.Count == a.Count) && ((a.Sum == a.Sum) && ((a.Min == a.Min) && ((a.Max == a.Max) && true))))) = false := by rw [agg_eq.2 rfl]; rfl
theorem StoreWhole_spec {sh : Int} {l0 l1 : Sl} {L L1 : List St0} {h : H} {Q : Bool -> H -> Prop} (rd : Reads h l0 16 (L.flatMap c0)) (ok : ∀ y ∈ L, St0Ok h y) (hL : L.length <= 9223372036854775807)
    (rd1 : Reads h l1 16 (L1.flatMap c0)) (ok1 : ∀ y ∈ L1, St0Ok h y) (hL1 : L1.length <= 9223372036854775807) (k : ∀ h', Ext h h' -> Q true h') : F.xaa sh l0 l1 h Q := by
  unfold F.xaa
  have hlen := rd_len c0_len (by omega) rd
  have hlen1 := rd_len c0_len (by omega) rd1
  refine within_spec (by omega) (by omega) ?_
  have wr := within_range (a := sh) (m := 16) (by omega)
  generalize withinM sh 16 = w at wr ⊢
  rw [w64 (by omega) (by omega)]
  refine TNew (fun g => by omega) fun _ _ _ _ h3 p l ps R hps t3 e3 hR3 hp3 hl3 => ?_
  refine New_spec (R := fun b => h3.size <= b) (fun g => by omega) (fun b hb => hb) fun _ _ h6 q sh6 e6 hq => ⟨fun g => by simp at g, fun _ => ⟨fun g => by simp at g, fun _ => ⟨fun g => by simp at g, fun _ => ?_⟩⟩⟩
  have z3 := e3.size
  have w6 : TW h h6 p l ps q [] [] R (fun b => h3.size <= b ∧ b < h6.size) := ⟨t3.ext e6, sh6.turn fun b hb g => ⟨g, hb⟩, hR3, fun b hb => ⟨by omega, hb.2⟩, fun b hb g => by have := t3.lt b hb; omega, e3.trans e6⟩
  have hn : (ps.length : Int) = 1 + w := hps
  have n1 := t3.n1
  have n16 := t3.n2
  unfold F.xaa.j20 F.xaa.j1
  refine ⟨fun g => by simp at g, fun _ => ⟨L.length + 1, ?_⟩⟩
  -- what is asked at the end
  have asks : ∀ (d i : Nat) (S : SL) (hh : H) (R R2 : Nat -> Prop), i <= L1.length -> L1.length - i < d -> TW h hh p l ps q S S R R2 -> unitsS S <= 120 -> F.xaa.l14 Q d l1 (some ⟨p, 0, none⟩) (some ⟨q, 0, none⟩) (i : Int) hh := by
    intro d
    induction d with
    | zero => intro i _ _ _ _ _ hm; omega
    | succ d ih =>
      intro i S hh R R2 hi hm v hu
      unfold F.xaa.l14
      rw [hlen1]
      have done : ∀ C1, F.xaa.j18 Q C1 l1 (some ⟨p, 0, none⟩) (some ⟨q, 0, none⟩) (i : Int) false hh := fun C1 => by
        unfold F.xaa.j18
        exact ⟨fun g => (by cases g), fun _ => head10 fun h' e' => k h' (v.e.trans e')⟩
      refine ⟨fun gg => ?_, fun _ => done _⟩
      have gg := of_decide_eq_true gg
      by_cases g20 : (i : Int) < 20
      · rw [decide_eq_true g20]
        obtain ⟨y, hy⟩ : ∃ y, L1[i]? = some y := ⟨_, List.getElem?_eq_getElem (by omega)⟩
        have yok := ok1 y (List.mem_of_getElem? hy)
        have hSl : S.length < 100000 := by have := len_units v.ts.ok; omega
        unfold F.xaa.j18 F.xaa.j15
        refine ⟨fun _ => step0_at rd1 v.e hy fun a ca => ⟨⟨y.y.x, y.n⟩, ca, new_of fun m h101 hm1 b101 e101 s101 => ?_⟩, fun g => (by cases g)⟩
        refine stH_of b101 (by simp [S_spatelaw10_Step.cells, S_spatelaw7_Step.cells, S_api_Cell.cells, S_api_Agg.cells]) fun h103 b103 o103 s103 => ?_
        rw [writeA_all (by simp [S_spatelaw10_Step.cells, S_spatelaw7_Step.cells, S_api_Cell.cells, S_api_Agg.cells])] at b103
        have x103 : Ext hh h103 := e101.step o103 fun x hx g => by omega
        have c103 : Cells h103 ⟨m, 0, none⟩ (c0 y) := Blk.cells (cs := c0 y) b103
        have ce : ∀ {h2 : H}, Ext h103 h2 -> Cells h2 ⟨m, 0, none⟩ (c0 y) := fun e => c103.ext e
        have cel : ∀ {h2 : H}, Ext h103 h2 -> Cells h2 (((⟨m, 0, none⟩ : Addr).add 0).add 2) y.y.x.Cell.cells := fun e => step0_cel (ce e)
        have cto : ∀ {h2 : H}, Ext h103 h2 -> Cells h2 (((⟨m, 0, none⟩ : Addr).add 0).add 11) y.y.x.To.cells := fun {h2} e i v hv => by
          have hi : i < 3 := (List.getElem?_eq_some_iff.1 hv).1
          have e2 : (((⟨m, 0, none⟩ : Addr).add 0).add 11).add i = (⟨m, 0, none⟩ : Addr).add (11 + i) := by simp [Addr.add, Nat.add_assoc]
          rw [e2]
          exact ce e (11 + i) v (by
            match i, hi, hv with
            | 0, _, hv => exact hv
            | 1, _, hv => exact hv
            | 2, _, hv => exact hv)
        have cmo : ∀ {h2 : H}, Ext h103 h2 -> cellH h2 (((⟨m, 0, none⟩ : Addr).add 0).add 14) = some (.int .i64 y.y.x.Most) := fun {h2} e => by
          have e2 : ((⟨m, 0, none⟩ : Addr).add 0).add 14 = (⟨m, 0, none⟩ : Addr).add 14 := by simp [Addr.add]
          rw [e2]; exact ce e 14 _ rfl
        have cep : cellH h103 (((⟨m, 0, none⟩ : Addr).add 0).add 1) = some (.int .i64 y.y.x.Epoch) := by
          have e2 : ((⟨m, 0, none⟩ : Addr).add 0).add 1 = (⟨m, 0, none⟩ : Addr).add 1 := by simp [Addr.add]
          rw [e2]; exact ce (.refl _) 1 _ rfl
        refine ldI_of cep (within_spec (by omega) (by omega) ?_)
        generalize withinM y.y.x.Epoch 8 = ep
        refine ⟨y.y.x.Cell, cel (.refl _), few_spec yok.key fun h110 e110 => new_of fun m2 h112 hm2 b112 e112 s112 => ?_⟩
        have hck := few_key y.y.x.Cell
        generalize fewC y.y.x.Cell = c at hck ⊢
        have b112' : Blk h112 m2 zeroC.cells.toArray tn_api_Cell := b112
        refine st_cel b112' (d := c) fun h114 b114 o114 s114 => ?_
        have x114 : Ext h103 h114 := (e110.trans e112).step o114 fun x hx g => by have := e110.size; omega
        have c114 := Blk.cells b114
        have v114 := v.ext (x103.trans x114)
        have next : ∀ h', Ext h114 h' -> ∀ b, b = false -> F.xaa.j17 Q (F.xaa.l14 Q d) l1 (some ⟨p, 0, none⟩) (some ⟨q, 0, none⟩) (i : Int) b h' := fun h' x' b hb => by
          subst hb
          unfold F.xaa.j17 F.xaa.j16
          refine ⟨fun g => (by cases g), fun _ => ?_⟩
          rw [w64 (by omega) (by omega)]
          exact ih (i + 1) S h' R R2 (by omega) (by omega) (v114.ext x') hu
        refine ⟨c, c114, c, c114, TGet v114.ts hck fun h120 e120 => ⟨c114.ext e120, Get_spec (v114.ext e120).sh fun h123 e123 => ?_⟩⟩
        rw [agg_ne]
        refine ⟨fun g => (by cases g), fun _ => ?_⟩
        have x123 := e120.trans e123
        refine ⟨c, c114.ext x123, c, c114.ext x123, TAt (v114.ext x123).ts hck fun h130 e130 => ⟨(c114.ext x123).ext e130, At_spec ((v114.ext x123).ext e130).sh fun h133 e133 => ?_⟩⟩
        rw [agg_ne]
        refine ⟨fun g => (by cases g), fun _ => ?_⟩
        have x133 := x123.trans (e130.trans e133)
        have y133 := x114.trans x133
        have v133 := v114.ext x133
        refine ⟨_, cel y133, _, cto y133, ldI_of (cmo y133) ⟨_, cel y133, _, cto y133, ldI_of (cmo y133) (TScan v133.ts hSl fun r h148 w148 m148 e148 => ⟨cmo (y133.trans e148), cto (y133.trans e148), cel (y133.trans e148), Range_spec (v133.ext e148).sh fun r2 h153 w153 m153 e153 => ?_⟩)⟩⟩
        refine SameRows_spec (w148.ext e153).reads w153.reads (by have := rg_len S ep y.y.x.Cell y.y.x.To; rw [List.length_take]; omega) (fun _ => next h153 (x133.trans (e148.trans e153)) _ rfl) fun hne => absurd rfl hne
      · rw [decide_eq_false g20]; exact done _
  -- the numbers
  have numbers : ∀ (S : SL) (hh : H) (R R2 : Nat -> Prop), TW h hh p l ps q S S R R2 -> unitsS S <= 120 -> ∃ m, F.xaa.l12 Q m l1 (some ⟨p, 0, none⟩) (some ⟨q, 0, none⟩) 0 0 hh := fun S hh R R2 v hu => by
    refine ⟨17, ?_⟩
    have key : ∀ (d j : Nat), j <= 16 -> 16 - j < d -> F.xaa.l12 Q d l1 (some ⟨p, 0, none⟩) (some ⟨q, 0, none⟩) ((((List.range j).map fun k : Nat => unitsS (partX ps.length (k : Int) S)).sum : Nat) : Int) (j : Int) hh := by
      intro d
      induction d with
      | zero => intro j _ hm; omega
      | succ d ih =>
        intro j hj hm
        unfold F.xaa.l12
        have bd : ∀ i : Nat, unitsS (partX ps.length (i : Int) S) <= 1048576 := fun i => by
          by_cases hi : i < ps.length
          · rw [partX_nat hi]; have := v.ts.us hi; omega
          · unfold partX; rw [if_neg (by omega)]; simp [unitsS]
        refine ⟨fun g => ?_, fun g => ?_⟩
        · have g := of_decide_eq_true g
          refine TUnits v.ts ?_
          have hb := sum_bd (f := fun k : Nat => unitsS (partX ps.length (k : Int) S)) (B := 1048576) j fun k _ => bd k
          have hb2 := bd j
          have hb3 : j * 1048576 <= 16 * 1048576 := Nat.mul_le_mul_right _ (by omega)
          rw [w64 (by omega) (by omega), w64 (by omega) (by omega)]
          have := ih (j + 1) (by omega) (by omega)
          rw [sum_snoc (fun k : Nat => unitsS (partX ps.length (k : Int) S))] at this
          exact_mod_cast this
        · have g := of_decide_eq_false g
          have hj16 : j = 16 := by omega
          subst hj16
          rw [units16 n1 n16]
          simp only [nn_some, add_lit, Nat.add_zero]
          refine Units_spec v.sh ⟨fun g => by simp at g, fun _ => TCells v.ts (Cells_spec v.sh ⟨fun g => by simp at g, fun _ => TMost v.ts fun h175 e175 => Most_spec (v.ext e175).sh fun h177 e177 => ?_⟩)⟩
          unfold F.xaa.j19 F.xaa.j13
          refine ⟨fun g => by simp at g, fun _ => ⟨L1.length + 1, asks _ 0 S h177 R R2 (by omega) (by omega) (v.ext (e175.trans e177)) hu⟩⟩
    exact key _ 0 (by omega) (by omega)
  -- the steps
  have steps : ∀ (d i : Nat) (S : SL) (hh : H) (R R2 : Nat -> Prop), i <= L.length -> L.length - i < d -> TW h hh p l ps q S S R R2 -> i <= 60 -> unitsS S <= 2 * i -> EB S (1 + i / 10) -> F.xaa.l2 Q d l0 l1 (some ⟨p, 0, none⟩) (some ⟨q, 0, none⟩) (i : Int) hh := by
    intro d
    induction d with
    | zero => intro i _ _ _ _ _ hm; omega
    | succ d ih =>
      intro i S hh R R2 hi hm v h60 hu heb
      unfold F.xaa.l2
      rw [hlen]
      have done : ∀ C1, F.xaa.j11 Q C1 l0 l1 (some ⟨p, 0, none⟩) (some ⟨q, 0, none⟩) (i : Int) false hh := fun C1 => by
        unfold F.xaa.j11
        exact ⟨fun g => (by cases g), fun _ => numbers S hh R R2 v (by omega)⟩
      refine ⟨fun gg => ?_, fun _ => done _⟩
      have gg := of_decide_eq_true gg
      by_cases g60 : (i : Int) < 60
      · rw [decide_eq_true g60]
        obtain ⟨y, hy⟩ : ∃ y, L[i]? = some y := ⟨_, List.getElem?_eq_getElem (by omega)⟩
        have yok := ok y (List.mem_of_getElem? hy)
        unfold F.xaa.j11 F.xaa.j3
        refine ⟨fun _ => step0_at rd v.e hy fun a ca => ⟨y.y.x.Cell, step0_cel ca, few_spec yok.key fun h13 e13 => new_of fun m h15 hm15 b15 e15 s15 => ?_⟩, fun g => (by cases g)⟩
        have hc0 := few_ok y.y.x.Cell
        have hck := few_key y.y.x.Cell
        generalize fewC y.y.x.Cell = c at hc0 hck ⊢
        have b15' : Blk h15 m zeroC.cells.toArray tn_api_Cell := b15
        refine st_cel b15' (d := c) fun h17 b17 o17 s17 => ⟨by omega, ?_⟩
        have x17 : Ext hh h17 := (e13.trans e15).step o17 fun x hx g => by have := e13.size; omega
        have v17 := v.ext x17
        have c17 := Blk.cells b17
        refine step0_at rd v17.e hy fun a2 ca2 => ldI_of (step0_kind ca2) (within_spec (by omega) (by omega) ?_)
        have hep : IntKind.wrap .i64 (1 + IntKind.wrap .i64 (Int.tdiv (i : Int) 10)) = 1 + (i : Int) / 10 := by
          rw [Int.tdiv_eq_ediv_of_nonneg (by omega), w64 (n := (i : Int) / 10) (by omega) (by omega), w64 (by omega) (by omega)]
        rw [hep]
        generalize hepd : (1 : Int) + (i : Int) / 10 = ep at heb
        have he1 : 1 <= ep := by omega
        have he2 : ep <= 7 := by omega
        have next : ∀ (S' : SL) (h' : H) (R' R2' : Nat -> Prop), TW h h' p l ps q S' S' R' R2' -> unitsS S' <= 2 * (i + 1) -> EB S' ep -> F.xaa.j4 Q (F.xaa.l2 Q d) l0 l1 (some ⟨p, 0, none⟩) (some ⟨q, 0, none⟩) (i : Int) h' := fun S' h' R' R2' v' hu' heb' => by
          unfold F.xaa.j4
          rw [w64 (by omega) (by omega)]
          exact ih (i + 1) S' h' R' R2' (by omega) (by omega) v' (by omega) hu' (heb'.mono (by rw [← hepd]; omega))
        have hok := v.ts.ok
        refine ⟨fun _ => ?_, fun _ => ⟨fun _ => ?_, fun _ => ?_⟩⟩
        · -- a kill
          refine ⟨c, c17, c, c17, ?_⟩
          have kill2 : ∀ (S' : SL) (h30 : H) (R' : Nat -> Prop), TW h h30 p l ps q S' S R' R2 -> Cells h30 ⟨m, 0, none⟩ c.cells -> S' = (if killE S ep c = 0 then killS S ep c else S) -> Cells h30 ⟨m, 0, none⟩ c.cells ∧ F.xap (some ⟨q, 0, none⟩) ep c h30 fun r34 h33 => (((killE S ep c != r34)) = true -> Q false h33) ∧ (((killE S ep c != r34)) = false -> F.xaa.j4 Q (F.xaa.l2 Q d) l0 l1 (some ⟨p, 0, none⟩) (some ⟨q, 0, none⟩) (i : Int) h33) := fun S' h30 R' v30 c30 hS' => by
            refine ⟨c30, ?_⟩
            rw [hS'] at v30
            obtain ⟨R0, sh0, hR0, hRb, fin⟩ := v30.op
            refine Kill_spec sh0 hR0 (fun g h33 e33 => ⟨fun g => by simp at g, fun _ => ?_⟩) fun g h33 sh33 o33 => ⟨fun g2 => by rw [g] at g2; simp at g2, fun _ => ?_⟩
            · rw [if_neg g] at v30
              exact next S h33 R' R2 (v30.ext e33) (by omega) heb
            · obtain ⟨R2', v33⟩ := fin h33 _ sh33 o33
              rw [if_pos g] at v33
              refine next _ h33 R' R2' v33 ?_ (heb.lay hok.sort (Int.le_refl _))
              have hg : ∃ vs, getS S c = some vs ∧ alive vs = true := by
                unfold killE at g
                rw [if_neg (by omega), if_neg (by omega)] at g
                cases hgc : getS S c with
                | none => rw [hgc] at g; simp at g
                | some vs =>
                  rw [hgc] at g
                  simp only at g
                  refine ⟨vs, rfl, ?_⟩
                  split at g
                  · cases g
                  · split at g
                    · cases g
                    · rename_i h2; simpa using h2
              obtain ⟨vs, hg1, hg2⟩ := hg
              have := (kill_units hok (e := ep) hg1 hg2).1
              have := layN_range vs ⟨ep, zA, true⟩
              omega
          refine TKill v17.ts hck (fun g h30 e30 => kill2 S h30 R (v17.ext e30) (c17.ext e30) (by rw [if_neg g])) fun g h30 R' t30 o30 hR30 => ?_
          have := kill2 (killS S ep c) h30 R' (v17.st t30 o30 hR30) (Blk.cells (so_kp o30 b17 cel_sh')) (by rw [if_pos g])
          rw [g] at this
          exact this
        · -- prunes
          refine ⟨17, ?_⟩
          have hes := rd_len cI_len (by omega) yok.ok.re
          have reE : ∀ {h2 : H}, Ext h h2 -> Reads h2 y.y.x.Held 1 (y.y.E.flatMap cI) := fun e => yok.ok.re.ext e
          have hpos := pos_of hok
          -- all of them
          have all : ∀ (d2 j : Nat) (Sj : SL) (h2 : H) (Rj : Nat -> Prop), j <= 16 -> 16 - j < d2 -> TW h h2 p l ps q Sj S Rj R2 -> (∀ i < ps.length, partS ps.length i Sj = if i < j ∧ y.y.E.length < 20 then pruneS (partS ps.length i S) y.y.E else partS ps.length i S) ->
              F.xaa.l5 Q (F.xaa.l2 Q d) d2 l0 l1 (some ⟨p, 0, none⟩) (some ⟨q, 0, none⟩) (i : Int) (if y.y.E.length < 20 then ((((List.range j).map fun k : Nat => unitsS (partX ps.length (k : Int) S)).sum : Nat) : Int) - ((((List.range j).map fun k : Nat => unitsS (partX ps.length (k : Int) (pruneS S y.y.E))).sum : Nat) : Int) else 0) (j : Int) h2 := by
            intro d2
            induction d2 with
            | zero => intro j _ _ _ _ hm; omega
            | succ d2 ih2 =>
              intro j Sj h2 Rj hj hm2 v2 hparts
              unfold F.xaa.l5
              -- behind them all, the shard alone
              have fin : ∀ (x14 : Int), (y.y.E.length < 20 -> j = 16 ∧ x14 = (unitsS S : Int) - unitsS (pruneS S y.y.E)) -> F.xaa.j7 Q (F.xaa.l2 Q d) (F.xaa.l5 Q (F.xaa.l2 Q d) d2) l0 l1 (some ⟨p, 0, none⟩) (some ⟨q, 0, none⟩) (i : Int) x14 (j : Int) false h2 := fun x14 hx => by
                unfold F.xaa.j7
                refine ⟨fun g => (by cases g), fun _ => step0_at rd v2.e hy fun a3 ca3 => ldL_of (step0_held ca3) ?_⟩
                rw [hes]
                refine ⟨fun g => ?_, fun g => ?_⟩
                · have g := of_decide_eq_true g
                  obtain ⟨hj16, hx14⟩ := hx (by omega)
                  have hSj : Sj = pruneS S y.y.E := parts_ext (n := ps.length) (by omega) v2.ts.ok.sort (sort_prune hok.sort _) fun i hi => by rw [hparts i hi, if_pos ⟨by omega, by omega⟩, part_prune]
                  subst hSj
                  refine step0_at rd v2.e hy fun a4 ca4 => ldL_of (step0_held ca4) ?_
                  obtain ⟨R0, sh0, hR0, hRb, finn⟩ := v2.op
                  refine Prune_spec sh0 (reE v2.e) (by omega) (fun hne b hb => ?_) hR0 fun h54 sh54 o54 => ?_
                  · have := yok.ok.be hne b hb
                    exact ⟨Nat.lt_of_lt_of_le this v2.e.size, fun g => by have := hRb b g.1; omega⟩
                  · unfold F.xaa.j8
                    rw [hx14]
                    refine ⟨fun g => by simp at g, fun _ => ?_⟩
                    obtain ⟨R2', v54⟩ := finn h54 _ sh54 o54
                    exact next _ h54 Rj R2' v54 (by have := (prune_le hok y.y.E).1; omega) (heb.prune _)
                · have g := of_decide_eq_false g
                  have hSj : Sj = S := parts_ext (n := ps.length) (by omega) v2.ts.ok.sort hok.sort fun i hi => by rw [hparts i hi, if_neg (fun x => by omega)]
                  subst hSj
                  unfold F.xaa.j8
                  exact ⟨fun g => (by cases g), fun _ => next _ h2 Rj R2 v2 (by omega) heb⟩
              refine ⟨fun g => ?_, fun g => ?_⟩
              · have g := of_decide_eq_true g
                refine step0_at rd v2.e hy fun a3 ca3 => ldL_of (step0_held ca3) ?_
                rw [hes]
                by_cases h20 : y.y.E.length < 20
                · rw [decide_eq_true (show (y.y.E.length : Int) < 20 by omega)]
                  unfold F.xaa.j7 F.xaa.j6
                  refine ⟨fun _ => step0_at rd v2.e hy fun a4 ca4 => ldL_of (step0_held ca4) ?_, fun g => (by cases g)⟩
                  refine TPrune v2.ts (reE v2.e) (by omega) (fun hne b hb => ?_) fun h41 R41 t41 o41 hR41 => ?_
                  · have := yok.ok.be hne b hb
                    exact ⟨Nat.lt_of_lt_of_le this v2.e.size, fun g => by have := v2.r1 b g; omega⟩
                  · have v41 := v2.st t41 o41 hR41
                    have hpx : partX ps.length (j : Int) Sj = partX ps.length (j : Int) S := by
                      by_cases hjn : j < ps.length
                      · rw [partX_nat hjn, partX_nat hjn, hparts j hjn, if_neg (fun x => by omega)]
                      · unfold partX; rw [if_neg (by omega), if_neg (by omega)]
                    have hpp : pruneS (partX ps.length (j : Int) S) y.y.E = partX ps.length (j : Int) (pruneS S y.y.E) := by
                      by_cases hjn : j < ps.length
                      · rw [partX_nat hjn, partX_nat hjn, part_prune]
                      · unfold partX; rw [if_neg (by omega), if_neg (by omega)]; rfl
                    have bd : ∀ (T : SL), unitsS T <= 120 -> ∀ i : Nat, unitsS (partX ps.length (i : Int) T) <= 120 := fun T hT i => by
                      by_cases hi : i < ps.length
                      · rw [partX_nat hi]
                        have h1 := units_parts (show 0 < ps.length by omega) T
                        have : unitsS (partS ps.length i T) <= ((List.range ps.length).map fun k => unitsS (partS ps.length k T)).sum := le_sum (List.mem_map.2 ⟨i, List.mem_range.2 hi, rfl⟩)
                        omega
                      · unfold partX; rw [if_neg (by omega)]; simp [unitsS]
                    have hpl := (prune_le hok y.y.E).1
                    have b1 := sum_bd (f := fun k : Nat => unitsS (partX ps.length (k : Int) S)) (B := 120) j fun k _ => bd S (by omega) k
                    have b2 := sum_bd (f := fun k : Nat => unitsS (partX ps.length (k : Int) (pruneS S y.y.E))) (B := 120) j fun k _ => bd _ (by omega) k
                    have b3 := bd S (by omega) j
                    have b4 := bd (pruneS S y.y.E) (by omega) j
                    have b5 : j * 120 <= 16 * 120 := Nat.mul_le_mul_right _ (by omega)
                    have := ih2 (j + 1) (pruneX ps.length (j : Int) Sj y.y.E) h41 R41 (by omega) (by omega) v41 fun i hi => by
                      rw [pruneX_part (pos_of v2.ts.ok) hi, hparts i hi]
                      by_cases hij : i = j
                      · subst hij; rw [if_pos rfl, if_neg (fun x => by omega), if_pos ⟨by omega, h20⟩]
                      · rw [if_neg (by omega)]
                        by_cases hlt : i < j
                        · rw [if_pos ⟨hlt, h20⟩, if_pos ⟨by omega, h20⟩]
                        · rw [if_neg (fun x => by omega), if_neg (fun x => by omega)]
                    rw [if_pos h20, sum_snoc (fun k : Nat => unitsS (partX ps.length (k : Int) S)), sum_snoc (fun k : Nat => unitsS (partX ps.length (k : Int) (pruneS S y.y.E)))] at this
                    rw [if_pos h20, hpx, hpp, w64 (by omega) (by omega), w64 (by omega) (by omega)]
                    have e1 : ∀ (A B a b : Nat), ((A + a : Nat) : Int) - ((B + b : Nat) : Int) = ((A : Int) - (B : Int)) + ((a : Int) - (b : Int)) := fun A B a b => by omega
                    rw [e1] at this
                    exact_mod_cast this
                · rw [decide_eq_false (show ¬ (y.y.E.length : Int) < 20 by omega)]
                  exact fin _ fun g => absurd g h20
              · have g := of_decide_eq_false g
                have hj16 : j = 16 := by omega
                refine fin _ fun h20 => ⟨hj16, ?_⟩
                subst hj16
                rw [if_pos h20, units16 n1 n16, units16 n1 n16]
          have := all 17 0 S h17 R (by omega) (by omega) v17 fun i hi => by rw [if_neg (fun x => by omega)]
          simpa using this
        · -- a row
          have put2 : ∀ (mr : Nat) (h84 : H), Ext h17 h84 -> Blk h84 mr ((⟨c, oneA y.y.x.Agg.Sum⟩ : S_api_Row).cells).toArray tn_api_Row -> F.xaa.j9 Q (F.xaa.l2 Q d) l0 l1 (some ⟨p, 0, none⟩) (some ⟨q, 0, none⟩) (i : Int) ep ⟨mr, 0, none⟩ h84 := fun mr h84 x84 b84 => by
            unfold F.xaa.j9
            have v84 := v17.ext x84
            have un := units_parts (show 0 < ps.length by omega) S
            have hup : unitsS (partS ps.length (rt ps.length c) S) <= 120 := by
              have : unitsS (partS ps.length (rt ps.length c) S) <= ((List.range ps.length).map fun k => unitsS (partS ps.length k S)).sum := le_sum (List.mem_map.2 ⟨_, List.mem_range.2 (rt_lt (by omega) c), rfl⟩)
              omega
            have hebp : EB (partS ps.length (rt ps.length c) S) ep := fun x hx => heb x (part_mem.1 hx).1
            have nd := need_0 S ep c
            have ndp := need_0 (partS ps.length (rt ps.length c) S) ep c
            have p1 : putE (partS ps.length (rt ps.length c) S) 500 ep c (oneA y.y.x.Agg.Sum) true = 0 := by
              rcases room_put (part_ok hok) (slots := 500) (v := y.y.x.Agg.Sum) hebp he1 (by omega) hc0 with g | g
              · exact g.2.1
              · exact absurd (by omega) g.1
            have p2 : putE S 8000 ep c (oneA y.y.x.Agg.Sum) true = 0 ∧ (unitsS (putS S ep c (oneA y.y.x.Agg.Sum)) : Int) = unitsS S + needS S ep c := by
              rcases room_put hok (slots := 8000) (v := y.y.x.Agg.Sum) heb he1 (by omega) hc0 with g | g
              · exact g.2
              · exact absurd (by omega) g.1
            refine ⟨⟨c, oneA y.y.x.Agg.Sum⟩, Blk.cells b84, TPut (x := ⟨c, oneA y.y.x.Agg.Sum⟩) v84.ts hck (right_one' _) (fun g => absurd p1 g) fun _ h65 R' t65 o65 hR65 => ⟨fun g => by simp at g, fun _ => ?_⟩⟩
            have v65 := v84.st t65 o65 hR65
            have b65 : Blk h65 mr ((⟨c, oneA y.y.x.Agg.Sum⟩ : S_api_Row).cells).toArray tn_api_Row := so_kp o65 b84 row_sh
            obtain ⟨R0, sh0, hR0, hRb, fin⟩ := v65.op
            refine ⟨⟨c, oneA y.y.x.Agg.Sum⟩, Blk.cells b65, Put_spec (x := ⟨c, oneA y.y.x.Agg.Sum⟩) sh0 (right_one' _) hR0 (fun g => absurd p2.1 g) fun _ h70 sh70 o70 => ?_⟩
            unfold F.xaa.j10
            refine ⟨fun g => by simp at g, fun _ => ?_⟩
            obtain ⟨R2', v70⟩ := fin h70 _ sh70 o70
            exact next _ h70 R' R2' v70 (by have := p2.2; simp only at this ⊢; omega) (heb.lay hok.sort (Int.le_refl _))
          refine ⟨c, c17, step0_at rd v17.e hy fun a3 ca3 => ldI_of (step0_sum ca3) ⟨?_, ?_⟩⟩
          · refine one_spec fun h78 e78 => ⟨c17.ext e78, new_of fun mr h81 hmr b81 e81 s81 => ⟨(c17.ext e78).ext e81, ?_⟩⟩
            refine stH_of b81 (by simp [S_api_Row.cells, S_api_Cell.cells, S_api_Agg.cells]) fun h84 b84 o84 s84 => ?_
            rw [writeA_all (by simp [S_api_Row.cells, S_api_Cell.cells, S_api_Agg.cells])] at b84
            exact put2 mr h84 ((e78.trans e81).step o84 fun x hx g => by have := e78.size; omega) b84
          · refine new_of fun mr h85 hmr b85 e85 s85 => ⟨e85.cell (step0_sum ca3) fun f => f, c17.ext e85, one_spec fun h89 e89 => ⟨(c17.ext e85).ext e89, ?_⟩⟩
            have b89 := e89.block b85 fun f => f
            refine stH_of b89 (by simp [S_api_Row.cells, S_api_Cell.cells, S_api_Agg.cells]) fun h92 b92 o92 s92 => ?_
            rw [writeA_all (by simp [S_api_Row.cells, S_api_Cell.cells, S_api_Agg.cells])] at b92
            exact put2 mr h92 ((e85.trans e89).step o92 fun x hx g => by omega) b92
      · rw [decide_eq_false g60]; exact done _
  exact steps _ 0 [] h6 R _ (by omega) (by omega) w6 (by omega) (by simp [unitsS]) fun x hx => by cases hx
end Go.Proofs.YtjjchpaomgmmdaaGreat.V.S
