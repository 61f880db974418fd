/- Parts of the proof of ShardFolds; no condition. -/
import Derived.ArgAppend
import Derived.ChangeSlices
import Derived.OpenShut
import Derived.Sort.KeysCollected
import Derived.Test.YtoccbnhahaoeiaaQShardFolds2
namespace Go.Proofs.Ytoccbnhahaoeiaa.V.P
open Go Go.Proofs.Ytoccbnhahaoeiaa.V
set_option linter.unusedVariables false
set_option linter.unusedSimpArgs false
set_option maxRecDepth 20000
def tkL (R : List (Pl (Option Addr))) : List (ByteArray × Value) := (R.filter fun p => decide (p.is_ = 1)).map fun p => (p.key, .pointer p.value)
theorem tkL_app (A B : List (Pl (Option Addr))) : tkL (A ++ B) = tkL A ++ tkL B := by simp [tkL]
theorem tkL_one {p : Pl (Option Addr)} (h : p.is_ = 1) : tkL [p] = [(p.key, .pointer p.value)] := by simp [tkL, h]
theorem tkL_no {p : Pl (Option Addr)} (h : p.is_ ≠ 1) : tkL [p] = [] := by simp [tkL, h]
def KU (W : List (Pl (Option Addr))) : Prop := ((tkL W).map (·.1)).Nodup
theorem KU_of {T : Tb (Option Addr)} (t : TOk T) : KU (T.row ++ T.elder) := by
  unfold KU tkL
  rw [List.map_map]
  unfold List.Nodup
  rw [List.pairwise_map, List.pairwise_filter, List.pairwise_append]
  have one : ∀ {R : List (Pl (Option Addr))}, RowOk R → R.Pairwise fun a b => decide (a.is_ = 1) = true → decide (b.is_ = 1) = true → ((fun x : ByteArray × Value => x.1) ∘ fun p : Pl (Option Addr) => (p.key, Value.pointer p.value)) a ≠ ((fun x : ByteArray × Value => x.1) ∘ fun p : Pl (Option Addr) => (p.key, Value.pointer p.value)) b := fun {R} r => by
    rw [List.pairwise_iff_getElem]
    intro i j hi hj hij h1 h2 he
    have := r.uniq i j R[i] R[j] (List.getElem?_eq_getElem hi) (List.getElem?_eq_getElem hj) (by simpa using h1) (by simpa using h2) (congrArg kL he)
    omega
  refine ⟨one t.row, one t.elder, fun a ha b hb h1 h2 he => ?_⟩
  obtain ⟨i, hi⟩ := List.mem_iff_getElem?.1 ha
  obtain ⟨j, hj⟩ := List.mem_iff_getElem?.1 hb
  exact t.apart i j a b hi hj (by simpa using h1) (by simpa using h2) (congrArg kL he)
noncomputable def allL (T : Tb (Option Addr)) : List (ByteArray × Option Addr) := (sortT ((tkL (T.row ++ T.elder)).map (·.1))).map fun k => (k, (getM T k).getD nilA)
theorem tk_val {T : Tb (Option Addr)} (t : TOk T) {k : ByteArray} {v : Value} (h : (k, v) ∈ tkL (T.row ++ T.elder)) : ∃ n, getM T k = some n ∧ v = .pointer n := by
  unfold tkL at h
  obtain ⟨p, hp, he⟩ := List.mem_map.1 h
  cases he
  rw [List.mem_filter] at hp
  obtain ⟨hp, h1⟩ := hp
  have h1 : p.is_ = 1 := by simpa using h1
  refine ⟨p.value, ?_, rfl⟩
  rcases List.mem_append.1 hp with hp | hp
  · obtain ⟨i, hi⟩ := List.mem_iff_getElem?.1 hp
    exact get_row t hi h1 rfl
  · obtain ⟨i, hi⟩ := List.mem_iff_getElem?.1 hp
    exact get_elder t (fun j ⟨q, g1, g2, g3⟩ => t.apart j i q p g1 hi g2 h1 g3) hi h1 rfl
theorem tk_len {T : Tb (Option Addr)} (t : TOk T) : (tkL (T.row ++ T.elder)).length = T.count := by
  unfold tkL
  rw [List.length_map, ← List.countP_eq_length_filter, List.countP_append, ← t.cnt]
  rfl
/-- A sequence: its keys' cell, its map's cell. -/
structure SeqH (h : H) (ka ma b : Nat) (r : Sl) (L : List (ByteArray × Option Addr)) : Prop where
  kb : Blk h ka #[r.enc] tn_Slstring
  ko : Owns h r 9 1 ((L.map (·.1)).flatMap cT)
  mb : Blk h ma #[.map (some b)] tn_map_string_chain_Chain_api_Agg
  mp : ∃ M, MapH h b M ∧ ∀ p ∈ L, getK M p.1 = some (.pointer p.2)
  len : L.length < 1073741824
theorem SeqH.only {S : Nat → Prop} {h h' : H} {ka ma b : Nat} {r : Sl} {L : List (ByteArray × Option Addr)} (s : SeqH h ka ma b r L) (o : Only S h h') (hn : ∀ n, SQF ka ma b r n → ¬ S n) : SeqH h' ka ma b r L := by
  obtain ⟨M, m1, m2⟩ := s.mp
  exact ⟨o.block s.kb (hn _ (.inl rfl)), s.ko.only o fun n e => hn n (.inr (.inr (.inr e))), o.block s.mb (hn _ (.inr (.inl rfl))), ⟨M, m1.only o (hn _ (.inr (.inr (.inl rfl)))), m2⟩, s.len⟩
theorem SeqH.lt {h : H} {ka ma b : Nat} {r : Sl} {L : List (ByteArray × Option Addr)} (s : SeqH h ka ma b r L) : ∀ n, SQF ka ma b r n → n < h.size := fun n hn => by
  obtain ⟨M, m1, m2⟩ := s.mp
  rcases hn with rfl | rfl | rfl | hn
  · exact block_lt s.kb
  · exact block_lt s.mb
  · exact m1.lt
  · exact s.ko.blk_lt hn
theorem all_row {h hs : H} {Q : Value → H → Prop} {s22 s28 : Sl} {x23 x24 : Int} {C1 : Addr → Sl → Int → Int → H → Prop} {ma b : Nat} {pre R : List (Pl (Option Addr))} (hm0 : h.size ≤ ma) (hb0 : h.size ≤ b) (hmb : ma ≠ b) (hR : R.length ≤ BIG) (ku : KU (pre ++ R))
    (k : ∀ h', Ext h h' → Only (· = b) hs h' → Blk h' ma #[.map (some b)] tn_map_string_chain_Chain_api_Agg → MapH h' b (tkL (pre ++ R)) → C1 ⟨ma, 0, none⟩ s22 x23 (IntKind.wrap .i64 (x24 + 1)) h') (hrd : Reads h s28 3 (R.flatMap cP)) :
    ∀ (m i : Nat) (h' : H), Ext h h' → Only (· = b) hs h' → Blk h' ma #[.map (some b)] tn_map_string_chain_Chain_api_Agg → MapH h' b (tkL (pre ++ R.take i)) → i ≤ R.length → R.length - i < m → F.table_Table_chain_Chain_api_Agg_All.l2 Q C1 m ⟨ma, 0, none⟩ s22 x23 x24 s28 (s28.len : Int) (i : Int) h'
  | 0, i, h', e, eo, bm, mp, hi, hm => by omega
  | m + 1, i, h', e, eo, bm, mp, hi, hm => by
    unfold F.table_Table_chain_Chain_api_Agg_All.l2
    have hlen := rd_len cP_len (by omega) hrd
    rw [hlen]
    simp only [decide_eq_true_eq, decide_eq_false_iff_not]
    simp only [BIG] at hR
    refine ⟨fun g => ?_, fun g => ?_⟩
    · obtain ⟨p, hp⟩ : ∃ p, R[i]? = some p := ⟨_, List.getElem?_eq_getElem (by omega)⟩
      obtain ⟨a, q1, q2, q3⟩ := rd_at cP_len (by omega) (hrd.ext e) hp
      refine idxR_of q1 (by omega) rfl ?_
      refine ⟨⟨(p.is_ : Int), p.key, p.value⟩, q3, ?_⟩
      refine new_of fun n h1 hn b1 e1 _ => ?_
      refine stH_of b1 (by simp [S_table_place_chain_Chain_api_Agg.cells]) fun h2 b2 e2 _ => ?_
      rw [writeA_all (by simp [S_table_place_chain_Chain_api_Agg.cells])] at b2
      have x2 : Ext h' h2 := e1.step e2 fun j hj hf => by omega
      simp only [add_lit, Nat.zero_add]
      rw [ldI_iff (b2.cell (i := 0) rfl)]
      have htk : R.take (i + 1) = R.take i ++ [p] := by rw [List.take_add_one, hp]; rfl
      rw [w64 (by omega) (by omega), show (i : Int) + 1 = ((i + 1 : Nat) : Int) from by omega]
      simp only [beq_iff_eq, beq_eq_false_iff_ne]
      refine ⟨fun g1 => ?_, fun g1 => ?_⟩
      · have h1 : p.is_ = 1 := by have : (p.is_ : Int) = 1 := g1; omega
        have bm2 := x2.block bm (fun f => f)
        rw [ldM_iff ((show Blk h2 ma #[.map (some b)] tn_map_string_chain_Chain_api_Agg from bm2).cell (i := 0) rfl), ldS_iff (b2.cell (i := 1) rfl), ldP_iff (b2.cell (i := 2) rfl)]
        refine updM_of (kt := 9) (et := _) mt_map_string_chain_Chain_api_Agg Try.underlying9 (mp.only x2 (fun f => f)) fun h3 m3 e3 _ => ?_
        have hnew : p.key ∉ (tkL (pre ++ R.take i)).map (·.1) := fun hin => by
          have hs : R = R.take i ++ p :: R.drop (i + 1) := by
            have := List.take_append_drop i R
            rw [List.drop_eq_getElem_cons (show i < R.length by omega)] at this
            have hpe : R[i] = p := (List.getElem?_eq_some_iff.1 hp).2
            rw [hpe] at this
            exact this.symm
          unfold KU at ku
          rw [hs, ← List.append_assoc, tkL_app, List.map_append, List.nodup_append] at ku
          have : p.key ∈ (tkL (p :: R.drop (i + 1))).map (·.1) := by
            rw [show p :: R.drop (i + 1) = [p] ++ R.drop (i + 1) from rfl, tkL_app, tkL_one h1]
            simp
          exact ku.2.2 _ hin _ this rfl
        rw [put_new hnew] at m3
        have hM : tkL (pre ++ R.take (i + 1)) = tkL (pre ++ R.take i) ++ [(p.key, .pointer p.value)] := by rw [htk, ← List.append_assoc, tkL_app, tkL_one h1]
        have := all_row (Q := Q) hm0 hb0 hmb (by simp only [BIG]; omega) ku k hrd m (i + 1) h3 ((e.trans x2).step e3 fun j hj hf => by omega) ((eo.ext x2).trans e3 fun _ _ e => e) (e3.block bm2 hmb) (by rw [hM]; exact m3) (by omega) (by omega)
        rw [hlen] at this
        exact this
      · have h1 : p.is_ ≠ 1 := fun h => g1 (by show (p.is_ : Int) = 1; omega)
        have hM : tkL (pre ++ R.take (i + 1)) = tkL (pre ++ R.take i) := by rw [htk, ← List.append_assoc, tkL_app, tkL_no h1, List.append_nil]
        have := all_row (Q := Q) hm0 hb0 hmb (by simp only [BIG]; omega) ku k hrd m (i + 1) h2 (e.trans x2) (eo.ext x2) (x2.block bm (fun f => f)) (by rw [hM]; exact mp.only x2 (fun f => f)) (by omega) (by omega)
        rw [hlen] at this
        exact this
    · have hi' : i = R.length := by omega
      subst hi'
      rw [List.take_length] at mp
      exact k h' e eo bm mp
theorem All_spec {h : H} {n : Nat} {rs es : Sl} {T : Tb (Option Addr)} {Q : Value → H → Prop} (t : TH h n rs es T) (ok : TOk T) (hsm : T.count < 1073741824)
    (k : ∀ h' ka ma b r, SeqH h' ka ma b r (allL T) → Ext h h' → (∀ m, SQF ka ma b r m → h.size ≤ m) → (ka ≠ ma ∧ ka ≠ b ∧ ma ≠ b ∧ r.blk ≠ some ka ∧ r.blk ≠ some ma ∧ r.blk ≠ some b) → Q (.func (.func no_table_Table_chain_Chain_api_Agg_All_1) #[] #[.pointer (some ⟨ka, 0, none⟩), .pointer (some ⟨ma, 0, none⟩)]) h') : F.table_Table_chain_Chain_api_Agg_All (some ⟨n, 0, none⟩) h Q := by
  unfold F.table_Table_chain_Chain_api_Agg_All
  simp only [nn_some, add_lit, Nat.zero_add]
  rw [ldI_iff t.c3]
  refine makeM_of (.inr ⟨⟨_, _, rfl⟩, mt_map_string_chain_Chain_api_Agg⟩) fun mp1 e1 => ?_
  generalize hb1 : h.push (.map #[] 0) = h1 at mp1 e1 ⊢
  refine ⟨_, rfl, ?_⟩
  refine new_of fun ma h2 hma b2 e2 sz2 => ?_
  have hs1 : h1.size = h.size + 1 := by rw [← hb1]; simp
  have hmb : ma ≠ h.size := by omega
  refine stH_of b2 (by simp) fun h3 b3 e3 _ => ?_
  rw [writeA_all (by simp)] at b3
  have x3 : Ext h h3 := (e1.trans e2).step e3 fun j hj hf => by omega
  have t3 := t.ext x3
  rw [ldL_iff t3.c0, ldL_iff t3.c1]
  refine newL_of fun sl h4 hsl b4 e4 _ => ?_
  have x4 := x3.trans e4
  have t4 := t.ext x4
  have mp4 : MapH h4 h.size [] := ((mp1.only e2 (fun f => f)).only e3 (fun e => hmb e.symm)).only e4 (fun f => f)
  have bm4 := e4.block b3 (fun f => f)
  have ku := KU_of ok
  refine ⟨3, ?_⟩
  have hbr := t.br
  have hbe := t.be
  have tail : ∀ h5, Only (· = h.size) h4 h5 → Blk h5 ma #[.map (some h.size)] tn_map_string_chain_Chain_api_Agg → MapH h5 h.size (tkL (T.row ++ T.elder)) → F.table_Table_chain_Chain_api_Agg_All.l1 Q 1 ⟨ma, 0, none⟩ ⟨some ⟨sl, 0, none⟩, 2, 2⟩ 2 2 h5 := fun h5 e5 b5 m5 => by
    unfold F.table_Table_chain_Chain_api_Agg_All.l1
    refine ⟨fun g => by simp at g, fun _ => ?_⟩
    rw [ldM_iff ((show Blk h5 ma #[.map (some h.size)] tn_map_string_chain_Chain_api_Agg from b5).cell (i := 0) rfl)]
    unfold F.maps_Keys_map_string_chain_Chain_api_Agg_string_chain_Chain_api_Agg
    refine new_of fun kc h6 hkc b6 e6 _ => ?_
    have hML : (tkL (T.row ++ T.elder)).length < 1073741824 := by rw [tk_len ok]; exact hsm
    refine sorted_int_spec b6 (m5.only e6 (fun f => f)) hML (fun p hp => ?_) fun r h7 D hD o7 e7 m7 => ?_
    · obtain ⟨v, _, hv⟩ := tk_val ok (k := p.1) (v := p.2) hp
      exact ⟨v, hv⟩
    · refine new_of fun ka h8 hka b8 e8 _ => ?_
      refine stH_of b8 (by simp) fun h9 b9 e9 _ => ?_
      rw [writeA_all (by simp)] at b9
      have x5 : Ext h h5 := x4.step e5 fun j hj hf => by omega
      have x7 := (x5.trans e6).trans e7
      have x9 : Ext h h9 := (x7.trans e8).step e9 fun j hj hf => by have := x7.size; omega
      have hmlt := (mp4.lt)
      have s5 := e5.size
      have s6 := e6.size
      have s7 := e7.size
      have hml : ma < h4.size := block_lt bm4
      have hks : sortT (D.map (·.1)) = sortT ((tkL (T.row ++ T.elder)).map (·.1)) := sortT_perm (hD.map _)
      have hL : (allL T).map (·.1) = sortT ((tkL (T.row ++ T.elder)).map (·.1)) := by
        unfold allL; rw [List.map_map]; simp [Function.comp_def]
      have e59 : Only (· = ka) h5 h9 := ((e6.trans e7).trans e8).only.trans e9 fun _ _ e => e
      have hr9 : ∀ j, r.blk = some j → h6.size ≤ j ∧ j < h7.size := fun j hj => ⟨m7 j hj, o7.blk_lt hj⟩
      refine k h9 ka ma h.size r ⟨b9, ?_, e59.block b5 (by omega), ⟨_, m5.only e59 (by omega), fun p hp => ?_⟩, ?_⟩ x9 (fun j hj => ?_) ⟨by omega, by omega, by omega, fun e => ?_, fun e => ?_, fun e => ?_⟩
      · rw [hL, ← hks]
        exact (o7.ext e8).only e9 fun j hj hf => by have := hr9 j hj; omega
      · unfold allL at hp
        obtain ⟨key, hkey, rfl⟩ := List.mem_map.1 hp
        rw [sortT_mem] at hkey
        obtain ⟨q, hq, rfl⟩ := List.mem_map.1 hkey
        obtain ⟨v, hv1, hv2⟩ := tk_val ok (k := q.1) (v := q.2) hq
        rw [getK_mem ku (v := q.2) hq, hv2, hv1]; rfl
      · have := congrArg List.length hL
        simp only [List.length_map, sortT_len] at this
        omega
      · rcases hj with rfl | rfl | rfl | hj
        · have := x7.size; omega
        · omega
        · omega
        · have := hr9 j hj; have := x5.size; omega
      · have := hr9 _ e; omega
      · have := hr9 _ e; omega
      · have := hr9 _ e; have := x5.size; omega
  have hidx : ∀ (h5 : H), Only (· = h.size) h4 h5 → ∀ (i : Nat) (s : Sl), ([rs, es] : List Sl)[i]? = some s → cellH h5 ⟨sl, i * 1, none⟩ = some s.enc := fun h5 e5 i s hs => by
    have b5 : Blk h5 sl #[rs.enc, es.enc] tn_Sltable_place_chain_Chain_api_Agg := e5.block b4 (by have := e3.size; omega)
    rw [Nat.mul_one]
    rcases i with _ | _ | i
    · simp at hs; subst hs; exact b5.cell rfl
    · simp at hs; subst hs; exact b5.cell rfl
    · simp at hs
  have second : ∀ h5, Only (· = h.size) h4 h5 → Blk h5 ma #[.map (some h.size)] tn_map_string_chain_Chain_api_Agg → MapH h5 h.size (tkL T.row) → F.table_Table_chain_Chain_api_Agg_All.l1 Q 2 ⟨ma, 0, none⟩ ⟨some ⟨sl, 0, none⟩, 2, 2⟩ 2 1 h5 := fun h5 e5 b5 m5 => by
    unfold F.table_Table_chain_Chain_api_Agg_All.l1
    refine ⟨fun _ => ?_, fun g => by simp at g⟩
    refine idxA_of (b := sl) (i := 1) rfl (by simp) rfl ?_
    rw [ldL_iff (hidx h5 e5 1 es rfl)]
    refine ⟨T.elder.length + 1, ?_⟩
    have x5 : Ext h h5 := x4.step e5 fun j hj hf => by omega
    exact all_row (Q := Q) (h := h) (hs := h5) (pre := T.row) (R := T.elder) (C1 := F.table_Table_chain_Chain_api_Agg_All.l1 Q 1) (by omega) (Nat.le_refl _) hmb hbe ku (fun h6 e6 o6 b6 m6 => by
      rw [w64 (by omega) (by omega)]
      exact tail h6 (e5.trans o6 fun _ _ e => e) b6 m6) t.el.reads _ 0 h5 x5 (.refl _) b5 (by simpa using m5) (by omega) (by omega)
  unfold F.table_Table_chain_Chain_api_Agg_All.l1
  refine ⟨fun _ => ?_, fun g => by simp at g⟩
  refine idxA_of (b := sl) (i := 0) rfl (by simp) rfl ?_
  rw [ldL_iff (hidx h4 (.refl _) 0 rs rfl)]
  refine ⟨T.row.length + 1, ?_⟩
  refine all_row (Q := Q) (h := h) (hs := h4) (pre := []) (R := T.row) (C1 := F.table_Table_chain_Chain_api_Agg_All.l1 Q 2) (by omega) (Nat.le_refl _) hmb hbr ?_ (fun h6 e6 o6 b6 m6 => ?_) t.row.reads _ 0 h4 x4 (.refl _) bm4 (by simpa [tkL] using mp4) (by omega) (by omega)
  · have := ku
    unfold KU at this
    rw [tkL_app, List.map_append, List.nodup_append] at this
    exact this.1
  · rw [w64 (by omega) (by omega)]
    exact second h6 o6 b6 m6
end Go.Proofs.Ytoccbnhahaoeiaa.V.P
namespace Go.Proofs.Ytoccbnhahaoeiaa.V.P
open Go Go.Proofs.Ytoccbnhahaoeiaa.V
set_option linter.unusedVariables false
set_option linter.unusedSimpArgs false
set_option maxRecDepth 20000
abbrev seqV (ka ma : Nat) : Value := .func (.func no_table_Table_chain_Chain_api_Agg_All_1) #[] #[.pointer (some ⟨ka, 0, none⟩), .pointer (some ⟨ma, 0, none⟩)]
/-- What a table's iterator does, called with a loop's yield. -/
theorem seq_core {h1 : H} {ka ma b l : Nat} {r : Sl} {L : List (ByteArray × Option Addr)} {js : List Code} {R : LoopState → Option Code → Obj} {BB : Nat → ByteArray → Option Addr → H → (H → Prop) → (Nat → H → Prop) → Prop} {Kn : H → Prop} {Kj : Nat → H → Prop} (I : Nat → H → Prop) (E : Nat → H → Prop) (hR : ∀ s p, ∃ r, R s p = .loop r)
    (hst : ∀ i h' h'', I i h' → Only (· = l) h' h'' → I i h'') (hstE : ∀ j h' h'', E j h' → Only (· = l) h' h'' → E j h'') (hown : ∀ i h', I i h' → SeqH h' ka ma b r L)
    (hB : ∀ (X : Obj) (i : Nat) (x : ByteArray × Option Addr) (h5 : H) (K : H → Prop) (J : Nat → H → Prop), (∃ r, X = .loop r) → I i h5 → h5[l]? = some X → L[i]? = some x → (∀ h2, I (i + 1) h2 → h2[l]? = some X → K h2) → (∀ j h2, E j h2 → h2[l]? = some X → J j h2) → BB l x.1 x.2 h5 K J)
    (hn : ∀ h', I L.length h' → Kn h') (hj : ∀ j h', E j h' → ∃ c, js[j]? = some c ∧ Kj j h')
    (hy : yields PP R l js (fun bg l args h' K J => ∃ (k : ByteArray), ∃ (v : Option Addr), args = [.string k, .pointer v] ∧ bg h' fun h5 => BB l k v h5 K J)) (h0 : I 0 h1) (hr : h1[l]? = some (R .ready none)) :
    F.table_Table_chain_Chain_api_Agg_All_1 (.func (.yield l) #[] #[]) ⟨ka, 0, none⟩ ⟨ma, 0, none⟩ h1 (rngEnd R l js Kn Kj) := by
  unfold F.table_Table_chain_Chain_api_Agg_All_1
  have s0 := hown 0 h1 h0
  rw [ldL_iff (s0.kb.cell (i := 0) rfl)]
  have hlen := s0.len
  have hrl := own_len cT_len (by omega) s0.ko
  rw [List.length_map] at hrl
  refine ⟨L.length + 1, ?_⟩
  rw [hrl]
  have key : ∀ (m i : Nat) (h' : H), i ≤ L.length → L.length - i < m → I i h' → h'[l]? = some (R .ready none) → F.table_Table_chain_Chain_api_Agg_All_1.l1 (rngEnd R l js Kn Kj) m (.func (.yield l) #[] #[]) ⟨ma, 0, none⟩ r (L.length : Int) (i : Int) h' := by
    intro m
    induction m with
    | zero => intro i h' _ hm; omega
    | succ m ih =>
      intro i h' hi hm hI hrd
      unfold F.table_Table_chain_Chain_api_Agg_All_1.l1
      simp only [decide_eq_true_eq, decide_eq_false_iff_not]
      refine ⟨fun g => ?_, fun g => ?_⟩
      · obtain ⟨x, hx⟩ : ∃ x, L[i]? = some x := ⟨_, List.getElem?_eq_getElem (by omega)⟩
        have si := hown i h' hI
        obtain ⟨M, m1, m2⟩ := si.mp
        obtain ⟨bb, a1, a2⟩ := own_at cT_len (by omega) si.ko (i := i) (x := x.1) (by rw [List.getElem?_map, hx]; rfl)
        refine idxA_of (i := i) a1 (by omega) rfl ?_
        rw [ldS_iff (by have := a2.one; rwa [Nat.mul_one] at this ⊢), ldM_iff (si.mb.cell (i := 0) rfl)]
        refine lookM_of (kt := 9) (et := _) (z := .pointer none) mt_map_string_chain_Chain_api_Agg Try.underlying9 (fun w => by kernel_rfl) m1 ?_
        rw [m2 x (List.mem_of_getElem? hx)]
        refine ⟨x.2, rfl, ?_⟩
        refine hy h' _ _ hrd ⟨x.1, x.2, rfl, hrd, ?_⟩
        refine hB (R .busy none) i x _ _ _ (hR _ _) (hst i h' _ hI (put_only h' l _)) (putAt_ hrd) hx (fun h4 hI4 hb4 => ⟨hb4, true, rfl, (fun h => by cases h), fun _ => ?_⟩) (fun j h4 hE hb4 => ?_)
        · rw [show IntKind.wrap .i64 ((i : Int) + 1) = ((i + 1 : Nat) : Int) from by rw [w64 (by omega) (by omega)]; omega]
          exact ih (i + 1) _ (by omega) (by omega) (hst (i + 1) h4 _ hI4 (put_only h4 l _)) (putAt_ hb4)
        · obtain ⟨c, hc, _⟩ := hj j h4 hE
          refine ⟨c, hc, hb4, false, rfl, fun _ => ?_, fun h => by cases h⟩
          have hE2 := hstE j h4 _ hE (put_only h4 l (R .done (some c)))
          have hp := putAt_ (o := R .done (some c)) hb4
          obtain ⟨c', hc', hk⟩ := hj j _ (hstE j _ _ hE2 (put_only _ l (R .exhausted (some c))))
          exact .inr ⟨j, c, hc, hp, hk⟩
      · have : i = L.length := by omega
        subst this
        exact .inl ⟨hrd, hn _ (hst _ h' _ hI (put_only h' l _))⟩
  exact key _ 0 h1 (by omega) (by omega) h0 hr
/-- A range over a table's sequence, outermost: h.size + 1 is the record's place, h.size that of the block for deferred calls. -/
theorem range_seq {h : H} {ka ma b : Nat} {r : Sl} {L : List (ByteArray × Option Addr)} {js : List Code} {BB : Nat → ByteArray → Option Addr → H → (H → Prop) → (Nat → H → Prop) → Prop} {Kn : H → Prop} {Kj : Nat → H → Prop} (I : Nat → H → Prop) (E : Nat → H → Prop)
    (hst : ∀ i h' h'', I i h' → Only (· = h.size + 1) h' h'' → I i h'') (hstE : ∀ j h' h'', E j h' → Only (· = h.size + 1) h' h'' → E j h'') (hown : ∀ i h', I i h' → SeqH h' ka ma b r L)
    (h0 : I 0 (h.push (.deferred (some []))))
    (hB : ∀ (X : Obj) (i : Nat) (x : ByteArray × Option Addr) (h5 : H) (K : H → Prop) (J : Nat → H → Prop), (∃ r, X = .loop r) → I i h5 → h5[h.size + 1]? = some X → L[i]? = some x → (∀ h2, I (i + 1) h2 → h2[h.size + 1]? = some X → K h2) → (∀ j h2, E j h2 → h2[h.size + 1]? = some X → J j h2) → BB (h.size + 1) x.1 x.2 h5 K J)
    (hn : ∀ h', I L.length h' → Kn h') (hj : ∀ j h', E j h' → ∃ c, js[j]? = some c ∧ Kj j h') :
    rng PP (seqV ka ma) h js (fun bg l args h' K J => ∃ (k : ByteArray), ∃ (v : Option Addr), args = [.string k, .pointer v] ∧ bg h' fun h5 => BB l k v h5 K J) Kn Kj := fun R hR hy => by
  refine ⟨no_table_Table_chain_Chain_api_Agg_All_1, #[], #[.pointer (some ⟨ka, 0, none⟩), .pointer (some ⟨ma, 0, none⟩)], rfl, fun a w => no_table_Table_chain_Chain_api_Agg_All_1_call a w, ?_⟩
  have := F.table_Table_chain_Chain_api_Agg_All_1_ok (seq_core I E hR hst hstE hown hB hn hj hy (h1 := (h.push (.deferred (some []))).push (R .ready none)) (hst 0 _ _ h0 (.push _ _)) (by rw [Array.getElem?_push, if_pos (by simp)]))
  exact this.mono fun r h' ⟨_, q⟩ => q
end Go.Proofs.Ytoccbnhahaoeiaa.V.P
namespace Go.Proofs.Ytoccbnhahaoeiaa.V.P
open Go Go.Proofs.Ytoccbnhahaoeiaa.V
set_option linter.unusedVariables false
set_option linter.unusedSimpArgs false
set_option maxRecDepth 20000
set_option linter.unusedVariables false
set_option linter.unusedSimpArgs false
theorem sortT_id {A : List ByteArray} (h : A.Pairwise fun a b => a.data.toList < b.data.toList) : sortT A = A := by
  unfold sortT
  have hs : (A.map fun s => s.data.toList).Pairwise fun x y => (decide (x ≤ y)) = true := by
    rw [List.pairwise_map]
    exact h.imp fun h => by simpa using List.le_of_lt h
  rw [List.mergeSort_of_pairwise hs, List.map_map]
  conv => rhs; rw [← List.map_id A]
  exact List.map_congr_left fun s _ => rfl
end Go.Proofs.Ytoccbnhahaoeiaa.V.P
namespace Go.Proofs.Ytoccbnhahaoeiaa.V.S
open Go Go.Proofs.Ytoccbnhahaoeiaa.V
set_option linter.unusedVariables false
set_option linter.unusedSimpArgs false
set_option maxRecDepth 20000
section
variable {α : Type} {key : α → Cel}
/-- x laid into a list that is in order of its keys, in the place of what has its key. -/
def setK (key : α → Cel) : List α → α → List α
  | [], x => [x]
  | y :: r, x => if cmpC (key x) (key y) = -1 then x :: y :: r else if cmpC (key x) (key y) = 0 then x :: r else y :: setK key r x
def getK (key : α → Cel) (S : List α) (c : Cel) : Option α := S.find? fun y => decide (cmpC (key y) c = 0)
abbrev SortK (key : α → Cel) (S : List α) : Prop := S.Pairwise fun a b => cmpC (key a) (key b) = -1
theorem cC_self (a : Cel) : cmpC a a = 0 := cC_zero.2 rfl
theorem getK_some {S : List α} {c : Cel} {x : α} (h : getK key S c = some x) : x ∈ S ∧ key x = c :=
  ⟨List.mem_of_find?_eq_some h, cC_zero.1 (by have := List.find?_some h; simpa using this)⟩
theorem getK_none {S : List α} {c : Cel} (h : getK key S c = none) : ∀ x ∈ S, key x ≠ c := fun x hx e => by
  have := List.find?_eq_none.1 h x hx
  simp [cC_zero.2 e] at this
theorem getK_mem {S : List α} (hs : SortK key S) {x : α} (hx : x ∈ S) : getK key S (key x) = some x := by
  induction S with
  | nil => cases hx
  | cons y r ih =>
    have h := List.pairwise_cons.1 hs
    unfold getK
    rw [List.find?_cons]
    rcases List.mem_cons.1 hx with e | e
    · subst e; simp [cC_self]
    · have := h.1 x e
      have hn : ¬ cmpC (key y) (key x) = 0 := by omega
      simp only [hn, decide_false]
      exact ih h.2 e
theorem mem_set {x y : α} : ∀ {S : List α}, SortK key S → (y ∈ setK key S x ↔ y = x ∨ (y ∈ S ∧ key y ≠ key x))
  | [], _ => by simp [setK]
  | z :: r, hs => by
    have h := List.pairwise_cons.1 hs
    have ih := mem_set (x := x) (y := y) h.2
    unfold setK
    split
    · rename_i h1
      have hall : ∀ w ∈ z :: r, key w ≠ key x := fun w hw e => by
        rcases List.mem_cons.1 hw with q | q
        · subst q; rw [e, cC_self] at h1; omega
        · have := cC_trans h1 (h.1 w q); rw [e, cC_self] at this; omega
      constructor
      · intro hy
        rcases List.mem_cons.1 hy with q | q
        · exact .inl q
        · exact .inr ⟨q, hall y q⟩
      · rintro (q | ⟨q, _⟩)
        · rw [q]; simp
        · exact List.mem_cons_of_mem _ q
    · rename_i h1
      split
      · rename_i h2
        have he := cC_zero.1 h2
        constructor
        · intro hy
          rcases List.mem_cons.1 hy with q | q
          · exact .inl q
          · refine .inr ⟨List.mem_cons_of_mem _ q, fun e => ?_⟩
            have := h.1 y q
            rw [e, ← he, cC_self] at this; omega
        · rintro (q | ⟨q, q2⟩)
          · rw [q]; simp
          · rcases List.mem_cons.1 q with q | q
            · subst q; exact absurd he.symm q2
            · exact List.mem_cons_of_mem _ q
      · rename_i h2
        have hne : key z ≠ key x := fun e => h2 (cC_zero.2 e.symm)
        rw [List.mem_cons, ih]
        constructor
        · rintro (q | q | ⟨q, q2⟩)
          · subst q; exact .inr ⟨by simp, hne⟩
          · exact .inl q
          · exact .inr ⟨List.mem_cons_of_mem _ q, q2⟩
        · rintro (q | ⟨q, q2⟩)
          · exact .inr (.inl q)
          · rcases List.mem_cons.1 q with q | q
            · exact .inl q
            · exact .inr (.inr ⟨q, q2⟩)
theorem sort_set {x : α} : ∀ {S : List α}, SortK key S → SortK key (setK key S x)
  | [], _ => by simp [setK, SortK]
  | z :: r, hs => by
    have h := List.pairwise_cons.1 hs
    have ih := sort_set (x := x) h.2
    unfold setK
    split
    · rename_i h1
      refine List.pairwise_cons.2 ⟨fun w hw => ?_, hs⟩
      rcases List.mem_cons.1 hw with q | q
      · subst q; exact h1
      · exact cC_trans h1 (h.1 w q)
    · rename_i h1
      split
      · rename_i h2
        have he := cC_zero.1 h2
        exact List.pairwise_cons.2 ⟨fun w hw => by rw [he]; exact h.1 w hw, h.2⟩
      · rename_i h2
        refine List.pairwise_cons.2 ⟨fun w hw => ?_, ih⟩
        rcases (mem_set h.2).1 hw with q | ⟨q, _⟩
        · subst q
          have := cC_range (key w) (key z)
          have := cC_anti (key z) (key w)
          omega
        · exact h.1 w q
theorem pw_set {P : α → α → Prop} {x : α} : ∀ {S : List α}, SortK key S → S.Pairwise P → (∀ y ∈ S, key y ≠ key x → P x y ∧ P y x) → (setK key S x).Pairwise P
  | [], _, _, _ => by simp [setK]
  | z :: r, hs, hp, hx => by
    have h := List.pairwise_cons.1 hs
    have hp' := List.pairwise_cons.1 hp
    have ih := pw_set (x := x) h.2 hp'.2 fun y hy => hx y (List.mem_cons_of_mem _ hy)
    unfold setK
    split
    · rename_i h1
      refine List.pairwise_cons.2 ⟨fun w hw => (hx w hw fun e => ?_).1, hp⟩
      rcases List.mem_cons.1 hw with q | q
      · subst q; rw [e, cC_self] at h1; omega
      · have := cC_trans h1 (h.1 w q); rw [e, cC_self] at this; omega
    · rename_i h1
      split
      · rename_i h2
        have he := cC_zero.1 h2
        refine List.pairwise_cons.2 ⟨fun w hw => (hx w (List.mem_cons_of_mem _ hw) fun e => ?_).1, hp'.2⟩
        have := h.1 w hw
        rw [e, ← he, cC_self] at this; omega
      · rename_i h2
        have hne : key z ≠ key x := fun e => h2 (cC_zero.2 e.symm)
        refine List.pairwise_cons.2 ⟨fun w hw => ?_, ih⟩
        rcases (mem_set h.2).1 hw with q | ⟨q, _⟩
        · subst q; exact (hx z (by simp) hne).2
        · exact hp'.1 w q
theorem sum_set {x : α} (f : α → Nat) : ∀ {S : List α}, SortK key S → ((setK key S x).map f).sum + ((getK key S (key x)).map f).getD 0 = (S.map f).sum + f x
  | [], _ => by simp [setK, getK]
  | z :: r, hs => by
    have h := List.pairwise_cons.1 hs
    have ih := sum_set (x := x) f h.2
    unfold setK
    split
    · rename_i h1
      have hn : getK key (z :: r) (key x) = none := by
        unfold getK
        rw [List.find?_eq_none]
        intro w hw
        have : cmpC (key x) (key w) = -1 := by
          rcases List.mem_cons.1 hw with q | q
          · subst q; exact h1
          · exact cC_trans h1 (h.1 w q)
        have := cC_anti (key w) (key x)
        simp; omega
      rw [hn]; simp; omega
    · rename_i h1
      split
      · rename_i h2
        have he := cC_zero.1 h2
        have hs' : getK key (z :: r) (key x) = some z := by
          unfold getK; rw [List.find?_cons, ← he]; simp [cC_self]
        rw [hs']; simp; omega
      · rename_i h2
        have hne : ¬ cmpC (key z) (key x) = 0 := fun e => h2 (cC_zero.2 (cC_zero.1 e).symm)
        have hs' : getK key (z :: r) (key x) = getK key r (key x) := by
          unfold getK; rw [List.find?_cons]; simp [hne]
        rw [hs']; simp; omega
theorem map_set {β : Type} {key' : β → Cel} (f : α → β) (hk : ∀ x, key' (f x) = key x) {x : α} : ∀ (S : List α), (setK key S x).map f = setK key' (S.map f) (f x)
  | [] => rfl
  | z :: r => by
    have ih := map_set f hk (x := x) r
    show _ = setK key' (f z :: r.map f) (f x)
    unfold setK
    rw [hk, hk]
    split
    · rfl
    · split
      · rfl
      · rw [List.map_cons, ih]
theorem map_get {β : Type} {key' : β → Cel} (f : α → β) (hk : ∀ x, key' (f x) = key x) {c : Cel} : ∀ (S : List α), getK key' (S.map f) c = (getK key S c).map f
  | [] => rfl
  | z :: r => by
    have ih := map_get f hk (c := c) r
    unfold getK at ih ⊢
    rw [List.map_cons, List.find?_cons, List.find?_cons, hk, ih]
    split <;> simp_all
end
abbrev Ver := C.Ver
abbrev zA := C.zA
abbrev SL := List (Cel × List Ver)
def okC (c : Cel) : Int := if c.View < 0 ∨ c.View ≥ 4 then 23 else if (c.Key.size : Int) < 1 ∨ (c.Key.size : Int) > 32 then 21 else if c.Start < -2305843009213693952 ∨ c.Start > 2305843009213693952 then 22 else 0
theorem ok_may {c : Cel} (h : okC c = 0) : mayC c = 0 := by
  unfold okC at h
  unfold mayC
  split at h
  · cases h
  · rename_i h1
    rw [if_neg (by omega)]
    split at h
    · cases h
    · rename_i h2
      rw [if_neg (by omega)]
      split at h
      · cases h
      · rename_i h3; rw [if_neg h3]
theorem ok_start {c : Cel} (h : okC c = 0) : I64n c.Start := by
  unfold okC at h
  split at h
  · cases h
  · split at h
    · cases h
    · split at h
      · cases h
      · unfold I64n; omega
def keyB (c : Cel) : ByteArray := ⟨(keyL c).toArray⟩
theorem kL_keyB (c : Cel) : kL (keyB c) = keyL c := by simp [keyB, kL]
theorem key_size {c : Cel} (h : okC c = 0) : (keyL c).length ≤ 100 := by
  obtain ⟨h1, h2, h3⟩ := may_view (ok_may h)
  have := escL_len c.Key.data.toList
  have h4 : c.Key.data.toList.length = c.Key.size := (size_data).symm
  unfold keyL
  simp [beT_len]
  omega
theorem key_inj {a b : Cel} (ha : okC a = 0) (hb : okC b = 0) (h : keyL a = keyL b) : a = b := by
  have h1 := cell_back (ok_may ha) (ok_start ha)
  have h2 := cell_back (ok_may hb) (ok_start hb)
  rw [h, h2] at h1
  exact (congrArg Prod.fst h1).symm
abbrev alive (vs : List Ver) : Bool := (C.newestM vs).2.2
def unitsV (vs : List Ver) : Nat := vs.length + (if alive vs then 1 else 0)
def aliveN (vs : List Ver) : Nat := if alive vs then 1 else 0
def unitsS (S : SL) : Nat := (S.map fun x => unitsV x.2).sum
def thereS (S : SL) : Nat := (S.map fun x => aliveN x.2).sum
abbrev getS (S : SL) (c : Cel) : Option (List Ver) := (getK (·.1) S c).map (·.2)
abbrev setS (S : SL) (c : Cel) (vs : List Ver) : SL := setK (·.1) S (c, vs)
abbrev SortS (S : SL) : Prop := SortK (·.1) S
def atV (vs : List Ver) (e : Int) : S_api_Agg × Bool := if e = 0 then ((C.newestM vs).1, alive vs) else C.atM vs e
def atS (S : SL) (c : Cel) (e : Int) : S_api_Agg := if okC c ≠ 0 then zA else match getS S c with
  | some vs => (atV vs e).1
  | none => zA
def needV (o : Option (List Ver)) (e : Int) : Int := match o with
  | none => 2
  | some vs => if (C.newestM vs).2.1 > e then 0 else if (C.newestM vs).2.1 = e ∧ alive vs = true then 0 else if (C.newestM vs).2.1 = e ∨ alive vs = true then 1 else 2
def needS (S : SL) (e : Int) (c : Cel) : Int := if okC c ≠ 0 then 0 else needV (getS S c) e
/-- What a version list of a cell is like. -/
structure VOk (vs : List Ver) : Prop where
  ne : vs ≠ []
  rise : C.Rise vs
  dead : ∀ v ∈ vs, v.dead = true → v.value = zA
  ep : ∀ v ∈ vs, 1 ≤ v.epoch ∧ v.epoch ≤ 1099511627776
structure SOk (S : SL) : Prop where
  sort : SortS S
  ok : ∀ x ∈ S, okC x.1 = 0 ∧ VOk x.2
theorem unitsV_pos {vs : List Ver} (h : vs ≠ []) : 1 ≤ unitsV vs := by
  have := List.length_pos_iff.2 h
  unfold unitsV; omega
theorem len_units {S : SL} (h : SOk S) : S.length ≤ unitsS S := by
  have : ∀ (S : SL), (∀ x ∈ S, x.2 ≠ []) → S.length ≤ unitsS S := fun S => by
    induction S with
    | nil => intro _; simp [unitsS]
    | cons x r ih =>
      intro hx
      have h1 := ih fun y hy => hx y (by simp [hy])
      have h2 := unitsV_pos (hx x (by simp))
      unfold unitsS at h1 ⊢
      rw [List.map_cons, List.sum_cons, List.length_cons]; omega
  exact this S fun x hx => (h.ok x hx).2.ne
theorem ver_units {S : SL} {x : Cel × List Ver} (hx : x ∈ S) : x.2.length ≤ unitsS S := by
  induction S with
  | nil => cases hx
  | cons y r ih =>
    unfold unitsS at ih ⊢
    rw [List.map_cons, List.sum_cons]
    rcases List.mem_cons.1 hx with e | e
    · subst e; unfold unitsV; omega
    · have := ih e; omega
theorem alive_le (vs : List Ver) : aliveN vs ≤ unitsV vs := by unfold aliveN unitsV; omega
theorem there_le {S : SL} : thereS S ≤ unitsS S := by
  induction S with
  | nil => simp [thereS, unitsS]
  | cons y r ih =>
    unfold unitsS thereS at ih ⊢
    rw [List.map_cons, List.sum_cons, List.map_cons, List.sum_cons]
    have := alive_le y.2
    omega
end Go.Proofs.Ytoccbnhahaoeiaa.V.S
namespace Go.Proofs.Ytoccbnhahaoeiaa.V
open Go
set_option linter.unusedVariables false
set_option linter.unusedSimpArgs false
theorem own_neG {h : H} {s : Sl} {n : Nat} {cs : List Value} {k : Nat} {c : Array Value} {e e' : TypeId} (w : Owns h s e k cs) (b : Blk h n c e') (he : e ≠ e') : s.blk ≠ some n := fun hb => by
  obtain ⟨_, ⟨q1, _, _⟩ | ⟨b', c', q1, q2, _⟩⟩ := w
  · simp [Sl.blk, q1] at hb
  · simp [Sl.blk, q1] at hb
    subst hb
    have := q2.symm.trans b
    simp at this
    exact he this.2
section
variable {α : Type} {f : α → List Value} {kk : Nat} {e : TypeId} {n : Nat} {h0 h h' : H} {A M : Nat → Sl} {D T : Nat → List α}
end
end Go.Proofs.Ytoccbnhahaoeiaa.V
namespace Go.Proofs.Ytoccbnhahaoeiaa.V.S
open Go Go.Proofs.Ytoccbnhahaoeiaa.V
set_option linter.unusedVariables false
set_option linter.unusedSimpArgs false
set_option maxRecDepth 20000
theorem key_spec {h : H} {c : Cel} {Q : ByteArray → Int → H → Prop} (k0 : okC c ≠ 0 → ∀ h', Ext h h' → Q ⟨#[]⟩ (okC c) h') (k1 : okC c = 0 → ∀ h', Ext h h' → Q (keyB c) 0 h') : F.shard_key c h Q := by
  unfold F.shard_key
  refine new_of fun n h1 hn b1 e1 s1 => ?_
  have c0 : cellH h1 ⟨n, 0, none⟩ = some (.int .i64 c.View) := Blk.cells b1 0 _ rfl
  have c1 : cellH h1 ⟨n, 1, none⟩ = some (.string c.Key) := Blk.cells b1 1 _ rfl
  have c2 : cellH h1 ⟨n, 2, none⟩ = some (.int .i64 c.Start) := Blk.cells b1 2 _ rfl
  have j1 : okC c = 0 → F.shard_key.j1 Q ⟨n, 0, none⟩ h1 := fun g => by
    unfold F.shard_key.j1
    refine ⟨c, Blk.cells b1, Key_spec (fun g2 => absurd (ok_may g) g2) fun _ h2 e2 => k1 g h2 (e1.trans e2)⟩
  have j4 : ∀ b : Bool, (b = true → okC c = 22) → (b = false → okC c = 0) → F.shard_key.j4 Q ⟨n, 0, none⟩ b h1 := fun b q1 q2 => by
    unfold F.shard_key.j4
    refine ⟨fun g => ?_, fun g => j1 (q2 g)⟩
    have := k0 (by rw [q1 g]; decide) h1 e1
    rw [q1 g] at this; exact this
  have j3 : ∀ b : Bool, (b = true → okC c = 21) → (b = false → okC c = if c.Start < -2305843009213693952 ∨ c.Start > 2305843009213693952 then 22 else 0) → F.shard_key.j3 Q ⟨n, 0, none⟩ b h1 := fun b q1 q2 => by
    unfold F.shard_key.j3
    simp only [add_lit, Nat.zero_add, Nat.add_zero]
    refine ⟨fun g => ?_, fun g => ?_⟩
    · have := k0 (by rw [q1 g]; decide) h1 e1
      rw [q1 g] at this; exact this
    · have hq := q2 g
      rw [ldI_iff c2]
      refine ⟨fun g2 => j4 true (fun _ => ?_) fun h => (by cases h), fun g2 => ?_⟩
      · have g2 := of_decide_eq_true g2
        rw [hq, if_pos (.inl g2)]
      · have g2 := of_decide_eq_false g2
        rw [ldI_iff c2]
        refine j4 _ (fun g3 => ?_) fun g3 => ?_
        · have g3 := of_decide_eq_true g3
          rw [hq, if_pos (.inr g3)]
        · have g3 := of_decide_eq_false g3
          rw [hq, if_neg (by omega)]
  have j2 : ∀ b : Bool, (b = true → okC c = 23) → (b = false → okC c = if (c.Key.size : Int) < 1 ∨ (c.Key.size : Int) > 32 then 21 else if c.Start < -2305843009213693952 ∨ c.Start > 2305843009213693952 then 22 else 0) → F.shard_key.j2 Q ⟨n, 0, none⟩ b h1 := fun b q1 q2 => by
    unfold F.shard_key.j2
    simp only [add_lit, Nat.zero_add, Nat.add_zero]
    refine ⟨fun g => ?_, fun g => ?_⟩
    · have := k0 (by rw [q1 g]; decide) h1 e1
      rw [q1 g] at this; exact this
    · have hq := q2 g
      rw [ldS_iff c1]
      refine ⟨fun g2 => j3 true (fun _ => ?_) fun h => (by cases h), fun g2 => ?_⟩
      · have g2 := of_decide_eq_true g2
        rw [hq, if_pos (.inl g2)]
      · have g2 := of_decide_eq_false g2
        rw [ldS_iff c1]
        refine j3 _ (fun g3 => ?_) fun g3 => ?_
        · have g3 := of_decide_eq_true g3
          rw [hq, if_pos (.inr g3)]
        · have g3 := of_decide_eq_false g3
          rw [hq, if_neg (by omega)]
  simp only [add_lit, Nat.zero_add, Nat.add_zero]
  rw [ldI_iff c0]
  refine ⟨fun g2 => j2 true (fun _ => ?_) fun h => (by cases h), fun g2 => ?_⟩
  · have g2 := of_decide_eq_true g2
    unfold okC; rw [if_pos (.inl g2)]
  · have g2 := of_decide_eq_false g2
    rw [ldI_iff c0]
    refine j2 _ (fun g3 => ?_) fun g3 => ?_
    · have g3 := of_decide_eq_true g3
      unfold okC; rw [if_pos (.inr g3)]
    · have g3 := of_decide_eq_false g3
      unfold okC; rw [if_neg (by omega)]
structure Rec where
  c : Cel
  vs : List Ver
  p : Nat
  B : Option Nat
abbrev toS (Z : List Rec) : SL := Z.map fun r => (r.c, r.vs)
/-- The kinds of a shard's blocks. -/
def ShE (e : TypeId) : Prop := e = tn_shard_Shard ∨ e = tn_table_Table_chain_Chain_api_Agg ∨ e = tn_table_place_chain_Chain_api_Agg ∨ e = tn_chain_Chain_api_Agg ∨ e = tn_chain_version_api_Agg
def ShTy (h : H) (b : Nat) : Prop := ∃ e, ShE e ∧ WB h b e
structure SZG (W : List Ver → Prop) (h : H) (n tn : Nat) (rs es : Sl) (T : Tb (Option Addr)) (Z : List Rec) (slots : Nat) (R : Nat → Prop) (u t : Int) : Prop where
  sb : Blk h n #[.int .i64 u, .int .i64 t, .int .i64 (slots : Int), .pointer (some ⟨tn, 0, none⟩)] tn_shard_Shard
  th : P.TH h tn rs es T
  ok : TOk T
  ch : ∀ r ∈ Z, C.Ch h r.p r.vs r.B
  get : ∀ r ∈ Z, getM T (keyB r.c) = some (some ⟨r.p, 0, none⟩)
  all : ∀ k v, getM T k = some v → ∃ r ∈ Z, kL k = keyL r.c
  srt : SortK Rec.c Z
  pd : Z.Pairwise fun a b => a.p ≠ b.p
  bd : Z.Pairwise fun a b => ∀ x, a.B = some x → b.B ≠ some x
  wf : ∀ r ∈ Z, okC r.c = 0 ∧ W r.vs
  us : unitsS (toS Z) ≤ slots
  sl : slots ≤ 1048576
  rl : T.row.length ≤ 4200000
  rn : R n
  rt : R tn
  rr : ∀ b, rs.blk = some b → R b
  re : ∀ b, es.blk = some b → R b
  rp : ∀ r ∈ Z, R r.p ∧ ∀ x, r.B = some x → R x
abbrev SZ := SZG VOk
theorem toS_ok {h : H} {n tn : Nat} {rs es : Sl} {T : Tb (Option Addr)} {Z : List Rec} {slots : Nat} {R : Nat → Prop} {u t : Int} (z : SZ h n tn rs es T Z slots R u t) : SOk (toS Z) := by
  refine ⟨?_, fun x hx => ?_⟩
  · unfold SortS SortK; rw [List.pairwise_map]; exact z.srt
  · obtain ⟨r, hr, rfl⟩ := List.mem_map.1 hx
    exact z.wf r hr
section
variable {W : List Ver → Prop} {h h' : H} {n tn : Nat} {rs es : Sl} {T : Tb (Option Addr)} {Z : List Rec} {slots : Nat} {R : Nat → Prop} {u t : Int}
theorem ch_typ {p : Nat} {L : List Ver} {B : Option Nat} (c : C.Ch h p L B) : WB h p tn_chain_Chain_api_Agg ∧ ∀ b, B = some b → WB h b tn_chain_version_api_Agg := by
  obtain ⟨s, h1, h2, h3, h4⟩ := c
  exact ⟨⟨_, h1⟩, fun b hb => h2.typ (by rw [h3]; exact hb)⟩
/-- Blocks of others are written: the shard stays. -/
theorem SZG.keep {S : Nat → Prop} (z : SZG W h n tn rs es T Z slots R u t) (o : Only S h h') (hn : ∀ b, R b → ShTy h b → ¬ S b) : SZG W h' n tn rs es T Z slots R u t := by
  refine { z with sb := o.block z.sb (hn n z.rn ⟨_, .inl rfl, _, z.sb⟩), th := z.th.only o fun b hb => ?_, ch := fun r hr => ?_ }
  · rcases hb with hb | hb | hb
    · subst hb; exact hn _ z.rt ⟨_, .inr (.inl rfl), _, z.th.tb⟩
    · exact hn _ (z.rr b hb) ⟨_, .inr (.inr (.inl rfl)), z.th.row.typ hb⟩
    · exact hn _ (z.re b hb) ⟨_, .inr (.inr (.inl rfl)), z.th.el.typ hb⟩
  · have := ch_typ (z.ch r hr)
    exact (z.ch r hr).only o (hn _ (z.rp r hr).1 ⟨_, .inr (.inr (.inr (.inl rfl))), this.1⟩) fun b hb => hn _ ((z.rp r hr).2 b hb) ⟨_, .inr (.inr (.inr (.inr rfl))), this.2 b hb⟩
theorem SZG.ext (z : SZG W h n tn rs es T Z slots R u t) (e : Ext h h') : SZG W h' n tn rs es T Z slots R u t := z.keep e fun _ _ _ f => f
theorem SZG.len (z : SZG VOk h n tn rs es T Z slots R u t) : Z.length ≤ 1048576 := by
  have h1 := len_units (toS_ok z)
  have h2 := z.us
  have h3 := z.sl
  rw [show (toS Z).length = Z.length from List.length_map _] at h1
  omega
theorem SZG.vlen (z : SZG W h n tn rs es T Z slots R u t) {r : Rec} (hr : r ∈ Z) : r.vs.length ≤ 1048576 := by
  have h1 := ver_units (S := toS Z) (x := (r.c, r.vs)) (List.mem_map.2 ⟨r, hr, rfl⟩)
  have h2 := z.us
  have h3 := z.sl
  simp only at h1
  omega
theorem SZG.cs0 (z : SZG W h n tn rs es T Z slots R u t) : cellH h ⟨n, 0, none⟩ = some (.int .i64 u) := z.sb.cell rfl
theorem SZG.cs1 (z : SZG W h n tn rs es T Z slots R u t) : cellH h ⟨n, 1, none⟩ = some (.int .i64 t) := z.sb.cell rfl
theorem SZG.cs2 (z : SZG W h n tn rs es T Z slots R u t) : cellH h ⟨n, 2, none⟩ = some (.int .i64 (slots : Int)) := z.sb.cell rfl
theorem SZG.cs3 (z : SZG W h n tn rs es T Z slots R u t) : cellH h ⟨n, 3, none⟩ = some (.pointer (some ⟨tn, 0, none⟩)) := z.sb.cell rfl
/-- What lies under a cell's key. -/
theorem SZG.look (z : SZG W h n tn rs es T Z slots R u t) {c : Cel} (hc : okC c = 0) : getM T (keyB c) = (getK Rec.c Z c).map fun r => some ⟨r.p, 0, none⟩ := by
  cases hg : getK Rec.c Z c with
  | some r =>
    obtain ⟨h1, h2⟩ := getK_some hg
    subst h2
    exact z.get r h1
  | none =>
    cases hm : getM T (keyB c) with
    | none => rfl
    | some v =>
      obtain ⟨r, hr, he⟩ := z.all _ _ hm
      rw [kL_keyB] at he
      exact absurd (key_inj hc (z.wf r hr).1 he).symm (getK_none hg r hr)
theorem SZG.getS (z : SZG W h n tn rs es T Z slots R u t) (c : Cel) : S.getS (toS Z) c = (getK Rec.c Z c).map (·.vs) := by
  show (getK _ (Z.map _) c).map _ = _
  rw [map_get (key := Rec.c) (key' := fun x : Cel × List Ver => x.1) (fun r : Rec => (r.c, r.vs)) (fun _ => rfl), Option.map_map]
  rfl
theorem key_small {c : Cel} (h : okC c = 0) : SmallK (keyB c) := by
  have := key_size h
  show (keyL c).toArray.size ≤ _
  simp; omega
end
def SH (h : H) (n : Nat) (S : SL) (slots : Nat) (R : Nat → Prop) : Prop := ∃ tn rs es T Z, toS Z = S ∧ SZ h n tn rs es T Z slots R (unitsS (toS Z) : Int) (thereS (toS Z) : Int)
section
variable {h h' : H} {n : Nat} {S : SL} {slots : Nat} {R : Nat → Prop}
theorem SH.keep {P : Nat → Prop} (s : SH h n S slots R) (o : Only P h h') (hn : ∀ b, R b → ShTy h b → ¬ P b) : SH h' n S slots R := by
  obtain ⟨tn, rs, es, T, Z, h1, z⟩ := s
  exact ⟨tn, rs, es, T, Z, h1, z.keep o hn⟩
theorem SH.ext (s : SH h n S slots R) (e : Ext h h') : SH h' n S slots R := s.keep e fun _ _ _ f => f
theorem SH.ok (s : SH h n S slots R) : SOk S := by
  obtain ⟨tn, rs, es, T, Z, rfl, z⟩ := s
  exact toS_ok z
theorem SH.us (s : SH h n S slots R) : unitsS S ≤ slots ∧ slots ≤ 1048576 := by
  obtain ⟨tn, rs, es, T, Z, rfl, z⟩ := s
  exact ⟨z.us, z.sl⟩
/-- A slice of another kind is written. -/
theorem SH.oth (s : SH h n S slots R) {t : Sl} {e : TypeId} {k : Nat} {cs : List Value} (o : Only (fun b => t.blk = some b) h h') (w : Owns h t e k cs) (he : ¬ ShE e) : SH h' n S slots R :=
  s.keep o fun b _ ⟨e', h1, c', h2⟩ hb => he (by
    obtain ⟨c, h3⟩ := w.typ hb
    have := h3.symm.trans h2
    simp at this
    rw [this.2]; exact h1)
/-- What a shard's methods turn: blocks of its kinds, of its own. -/
abbrev SOnly (R : Nat → Prop) (h h' : H) : Prop := Only (fun b => R b ∧ ShTy h b) h h'
theorem ShTy.back {S : Nat → Prop} (o : Only S h h') {b : Nat} (hb : b < h.size) (hs : ¬ S b) (t : ShTy h' b) : ShTy h b := by
  obtain ⟨e, h1, c, h2⟩ := t
  exact ⟨e, h1, c, (o.same b hb hs).symm.trans h2⟩
theorem SOnly.trans {h'' : H} (a : SOnly R h h') (b : SOnly R h' h'') : SOnly R h h'' := Only.trans a b fun m hm ⟨h1, h2⟩ => by
  by_cases hs : ShTy h m
  · exact ⟨h1, hs⟩
  · exact ⟨h1, ShTy.back a hm (fun h => hs h.2) h2⟩
theorem SOnly.ext {h'' : H} (a : SOnly R h h') (b : Ext h' h'') : SOnly R h h'' := Only.ext a b
theorem SOnly.of (e : Ext h h') : SOnly R h h' := Ext.only e
/-- Slices of other kinds stay. -/
theorem SOnly.owns (a : SOnly R h h') {t : Sl} {e : TypeId} {k : Nat} {cs : List Value} (w : Owns h t e k cs) (he : ¬ ShE e) : Owns h' t e k cs := w.only a fun b hb ⟨_, e', h1, c', h2⟩ => he (by
  obtain ⟨c, h3⟩ := w.typ hb
  have := h3.symm.trans h2
  simp at this
  rw [this.2]; exact h1)
theorem SOnly.base {h0 : H} (e : Ext h0 h) (a : SOnly R h h') (hR : ∀ b, R b → h0.size ≤ b) : Ext h0 h' := e.step a fun m hm hb => by have := hR m hb.1; omega
end
theorem Units_spec {h : H} {n : Nat} {S : SL} {slots : Nat} {R : Nat → Prop} {Q : Int → H → Prop} (s : SH h n S slots R) (k : Q (unitsS S : Int) h) : F.shard_counts_Units (some ⟨n, 0, none⟩) h Q := by
  obtain ⟨tn, rs, es, T, Z, rfl, z⟩ := s
  unfold F.shard_counts_Units
  simp only [nn_some, add_lit, Nat.add_zero]
  rw [ldI_iff z.cs0]; exact k
theorem Cells_spec {h : H} {n : Nat} {S : SL} {slots : Nat} {R : Nat → Prop} {Q : Int → H → Prop} (s : SH h n S slots R) (k : Q (thereS S : Int) h) : F.shard_counts_Cells (some ⟨n, 0, none⟩) h Q := by
  obtain ⟨tn, rs, es, T, Z, rfl, z⟩ := s
  unfold F.shard_counts_Cells
  simp only [nn_some, add_lit, Nat.zero_add]
  rw [ldI_iff z.cs1]; exact k
theorem New_spec {h : H} {m : Int} {R : Nat → Prop} {Q : Option Addr → Int → H → Prop} (k0 : (m < 2 ∨ m > 1048576) → Q none 1 h)
    (hR : ∀ b, h.size ≤ b → R b) (k1 : 2 ≤ m → m ≤ 1048576 → ∀ h' n, SH h' n [] m.toNat R → Ext h h' → h.size ≤ n → Q (some ⟨n, 0, none⟩) 0 h') : F.shard_New m h Q := by
  have j1 : 2 ≤ m → m ≤ 1048576 → F.shard_New.j1 Q m h := fun h1 h2 => by
    unfold F.shard_New.j1
    refine P.New_spec fun h3 tn rs th e3 hft => ?_
    refine new_of fun n h4 hn b4 e4 s4 => ?_
    have g := new_ok (P.nilA)
    have e3s := e3.size
    refine k1 h1 h2 h4 n ⟨tn, rs, ⟨none, 0, 0⟩, newT P.nilA, [], rfl, ?_⟩ (e3.trans e4) (by omega)
    refine { sb := ?_, th := th.ext e4, ok := g.1, ch := (fun r hr => by cases hr), get := (fun r hr => by cases hr), all := fun k v hk => ?_, srt := List.Pairwise.nil, pd := List.Pairwise.nil, bd := List.Pairwise.nil, wf := (fun r hr => by cases hr), us := Nat.zero_le _, sl := by omega, rl := (by show (newT P.nilA).row.length ≤ _; simp [newT]), rn := hR _ (by omega), rt := hR _ (hft _ (.inl rfl)), rr := fun b hb => hR _ (hft _ (.inr (.inl hb))), re := fun b hb => hR _ (hft _ (.inr (.inr hb))), rp := (fun r hr => by cases hr) }
    · have hm : ((m.toNat : Nat) : Int) = m := by omega
      rw [hm]; exact b4
    · rw [g.2.2] at hk; cases hk
  unfold F.shard_New F.shard_New.j2
  refine ⟨fun g => ⟨fun _ => k0 (.inl (of_decide_eq_true g)), fun h => by cases h⟩, fun g => ⟨fun g2 => k0 (.inr (of_decide_eq_true g2)), fun g2 => ?_⟩⟩
  exact j1 (by have := of_decide_eq_false g; omega) (by have := of_decide_eq_false g2; omega)
/-- A cell's chain. -/
theorem chain_spec {h : H} {n tn : Nat} {rs es : Sl} {T : Tb (Option Addr)} {Z : List Rec} {slots : Nat} {R : Nat → Prop} {u t : Int} {c : Cel} {Q : Option Addr → H → Prop} (z : SZ h n tn rs es T Z slots R u t)
    (k0 : (okC c ≠ 0 ∨ getK Rec.c Z c = none) → ∀ h', Ext h h' → Q none h') (k1 : okC c = 0 → ∀ r, getK Rec.c Z c = some r → ∀ h', Ext h h' → Q (some ⟨r.p, 0, none⟩) h') : F.shard_Shard_chain (some ⟨n, 0, none⟩) c h Q := by
  unfold F.shard_Shard_chain
  refine new_of fun m h1 hm b1 e1 s1 => ⟨c, Blk.cells b1, ?_⟩
  refine key_spec (fun g h2 e2 => ⟨fun _ => k0 (.inl g) h2 (e1.trans e2), fun g2 => absurd (by simpa using g2) g⟩) fun g h2 e2 => ⟨fun g2 => by simp at g2, fun _ => ?_⟩
  have z2 := z.ext (e1.trans e2)
  simp only [nn_some, add_lit, Nat.zero_add]
  rw [ldP_iff z2.cs3]
  refine P.Get_spec z2.th z2.ok (key_small g) fun h3 e3 => ?_
  rw [z2.look g]
  have e13 := (e1.trans e2).trans e3
  cases hg : getK Rec.c Z c with
  | none => exact k0 (.inr hg) h3 e13
  | some r => exact k1 g r hg h3 e13
theorem at_none {h : H} {e : Int} {Q : S_api_Agg → Bool → H → Prop} (k : ∀ h', Ext h h' → Q zA false h') : F.shard_at none e h Q := by
  unfold F.shard_at
  refine new_of fun m h1 hm b1 e1 s1 => ⟨fun _ => ?_, fun g => by cases g⟩
  have b1' : Blk h1 m zA.cells.toArray tn_api_Agg := b1
  refine C.st_agg b1' (d := zA) fun h2 b2 o2 s2 => ⟨zA, b2.cells, k h2 (e1.step o2 fun x hx hb => by omega)⟩
theorem at_spec {h : H} {p : Nat} {vs : List Ver} {B : Option Nat} {e : Int} {Q : S_api_Agg → Bool → H → Prop} (c : C.Ch h p vs B) (hr : C.Rise vs) (hl : vs.length < 1073741824) (k : ∀ h', Ext h h' → Q (atV vs e).1 (atV vs e).2 h') : F.shard_at (some ⟨p, 0, none⟩) e h Q := by
  unfold F.shard_at
  unfold atV at k
  refine new_of fun m h1 hm b1 e1 s1 => ⟨fun g => by simp at g, fun _ => ⟨fun g => ?_, fun g => ?_⟩⟩
  · have g : e = 0 := by simpa using g
    rw [if_pos g] at k
    have b1' : Blk h1 m zA.cells.toArray tn_api_Agg := b1
    refine C.Newest_spec (c.ext e1) (by omega) fun h2 e2 => ?_
    refine new_of fun m3 h3 hm3 b3 e3 s3 => ?_
    have b3' : Blk h3 m3 zA.cells.toArray tn_api_Agg := b3
    refine C.st_agg b3' fun h4 b4 o4 s4 => ⟨_, b4.cells, ?_⟩
    have e2s := e2.size
    have e14 : Ext h1 h4 := (e2.trans e3).step o4 fun x hx hb => by omega
    have b14 := e14.block b1' fun f => f
    refine C.st_agg b14 fun h5 b5 o5 s5 => ⟨_, b5.cells, ?_⟩
    exact k h5 ((e1.trans e14).step o5 fun x hx hb => by omega)
  · have g : e ≠ 0 := by simpa using g
    rw [if_neg g] at k
    have b1' : Blk h1 m zA.cells.toArray tn_api_Agg := b1
    refine C.At_spec (c.ext e1) hr hl fun h2 e2 => ?_
    refine C.st_agg (e2.block b1' fun f => f) fun h5 b5 o5 s5 => ⟨_, b5.cells, ?_⟩
    exact k h5 ((e1.trans e2).step o5 fun x hx hb => by omega)
theorem At_spec {h : H} {n : Nat} {S : SL} {slots : Nat} {R : Nat → Prop} {c : Cel} {e : Int} {Q : S_api_Agg → H → Prop} (s : SH h n S slots R) (k : ∀ h', Ext h h' → Q (atS S c e) h') : F.shard_Shard_At (some ⟨n, 0, none⟩) c e h Q := by
  obtain ⟨tn, rs, es, T, Z, rfl, z⟩ := s
  unfold F.shard_Shard_At
  refine new_of fun m h1 hm b1 e1 s1 => new_of fun m2 h2 hm2 b2 e2 s2 => ⟨c, (Blk.cells b1).ext e2, ?_⟩
  have e12 := e1.trans e2
  have b2' : Blk h2 m2 zA.cells.toArray tn_api_Agg := b2
  have z2 := z.ext e12
  have tail : ∀ (a : S_api_Agg) (h3 : H), Ext h2 h3 → a = atS (toS Z) c e → new h3 (((⟨0, 0, 0, 0⟩ : S_api_Agg) : S_api_Agg).cells.toArray) tn_api_Agg fun a13 h12 => stH h12 a13 a.cells fun h14 => ld_S_api_Agg h14 a13 fun y15 => stH h14 ⟨m2, 0, none⟩ y15.cells fun h17 => ld_S_api_Agg h17 ⟨m2, 0, none⟩ fun y18 => Q y18 h17 := fun a h3 e3 ha => by
    refine new_of fun m4 h4 hm4 b4 e4 s4 => ?_
    have b4' : Blk h4 m4 zA.cells.toArray tn_api_Agg := b4
    refine C.st_agg b4' fun h5 b5 o5 s5 => ⟨_, b5.cells, ?_⟩
    have z3 := e3.size
    have e25 : Ext h2 h5 := (e3.trans e4).step o5 fun x hx hb => by omega
    refine C.st_agg (e25.block b2' fun f => f) fun h6 b6 o6 s6 => ⟨_, b6.cells, ?_⟩
    rw [ha]
    exact k h6 ((e12.trans e25).step o6 fun x hx hb => by have := e1.size; omega)
  refine chain_spec z2 (fun g h3 e3 => at_none fun h4 e4 => tail _ h4 (e3.trans e4) ?_) fun g r hr h3 e3 => ?_
  · unfold atS
    split
    · rfl
    · rename_i g2
      rcases g with g | g
      · exact absurd g g2
      · rw [z.getS, g]; rfl
  · obtain ⟨h5, h6⟩ := getK_some hr
    refine at_spec ((z2.ch r h5).ext e3) (z.wf r h5).2.rise (by have := z.vlen h5; omega) fun h4 e4 => tail _ h4 (e3.trans e4) ?_
    unfold atS
    rw [if_neg (fun h => h g), z.getS, hr]; rfl
theorem Get_spec {h : H} {n : Nat} {S : SL} {slots : Nat} {R : Nat → Prop} {c : Cel} {Q : S_api_Agg → H → Prop} (s : SH h n S slots R) (k : ∀ h', Ext h h' → Q (atS S c 0) h') : F.shard_Shard_Get (some ⟨n, 0, none⟩) c h Q := by
  unfold F.shard_Shard_Get
  refine new_of fun m h1 hm b1 e1 s1 => new_of fun m2 h2 hm2 b2 e2 s2 => ⟨c, (Blk.cells b1).ext e2, ?_⟩
  have e12 := e1.trans e2
  have b2' : Blk h2 m2 zA.cells.toArray tn_api_Agg := b2
  refine At_spec (s.ext e12) fun h3 e3 => ?_
  refine C.st_agg (e3.block b2' fun f => f) fun h6 b6 o6 s6 => ⟨_, b6.cells, ?_⟩
  exact k h6 ((e12.trans e3).step o6 fun x hx hb => by have := e1.size; omega)
theorem need_spec {h : H} {n tn : Nat} {rs es : Sl} {T : Tb (Option Addr)} {Z : List Rec} {slots : Nat} {R : Nat → Prop} {u t : Int} {c : Cel} {e : Int} {Q : Int → H → Prop} (z : SZ h n tn rs es T Z slots R u t) (k : ∀ h', Ext h h' → Q (needS (toS Z) e c) h') : F.shard_Shard_need (some ⟨n, 0, none⟩) e c h Q := by
  unfold F.shard_Shard_need
  unfold needS at k
  refine new_of fun m h1 hm b1 e1 s1 => ⟨c, Blk.cells b1, ?_⟩
  refine key_spec (fun g h2 e2 => ⟨fun _ => ?_, fun g2 => absurd (by simpa using g2) g⟩) fun g h2 e2 => ⟨fun g2 => by simp at g2, fun _ => ⟨c, (Blk.cells b1).ext e2, ?_⟩⟩
  · rw [if_pos g] at k; exact k h2 (e1.trans e2)
  rw [if_neg (fun h => h g)] at k
  have z2 := z.ext (e1.trans e2)
  refine chain_spec z2 (fun g2 h3 e3 => ⟨fun _ => ?_, fun g3 => by simp at g3⟩) fun _ r hr h3 e3 => ⟨fun g3 => by simp at g3, fun _ => ?_⟩
  · have : getK Rec.c Z c = none := by
      rcases g2 with g2 | g2
      · exact absurd g g2
      · exact g2
    rw [z.getS, this] at k
    exact k h3 ((e1.trans e2).trans e3)
  · obtain ⟨h5, h6⟩ := getK_some hr
    rw [z.getS, hr] at k
    refine C.Newest_spec ((z2.ch r h5).ext e3) (by have := z.vlen h5; omega) fun h4 e4 => ?_
    refine new_of fun m5 h5' hm5 b5 e5 s5 => ?_
    have b5' : Blk h5' m5 zA.cells.toArray tn_api_Agg := b5
    refine C.st_agg b5' fun h6' b6 o6 s6 => ?_
    have ee : Ext h h6' := ((((e1.trans e2).trans e3).trans e4).trans e5).step o6 fun x hx hb => by
      have := (((e1.trans e2).trans e3).trans e4).size
      omega
    have k := k h6' ee
    simp only [Option.map_some, needV] at k
    refine ⟨fun g3 => ?_, fun g3 => ?_⟩
    · rw [if_pos (of_decide_eq_true g3)] at k; exact k
    · rw [if_neg (of_decide_eq_false g3)] at k
      rw [show alive r.vs = (C.newestM r.vs).2.2 from rfl] at k
      generalize (C.newestM r.vs).2.2 = A at k ⊢
      generalize (C.newestM r.vs).2.1 = E at k ⊢
      unfold F.shard_Shard_need.j1 F.shard_Shard_need.j2
      by_cases hE : E = e
      · subst hE; cases A <;> simp at k ⊢ <;> exact k
      · cases A <;> simp [hE] at k ⊢ <;> exact k
end Go.Proofs.Ytoccbnhahaoeiaa.V.S
namespace Go.Proofs.Ytoccbnhahaoeiaa.V.S
open Go Go.Proofs.Ytoccbnhahaoeiaa.V
set_option linter.unusedVariables false
set_option linter.unusedSimpArgs false
set_option maxRecDepth 20000
theorem cells_l {h : H} {n o : Nat} {xs ys : List Value} (c : Cells h ⟨n, o, none⟩ (xs ++ ys)) : Cells h ⟨n, o, none⟩ xs := fun i v hv => c i v (by rw [List.getElem?_append_left (List.getElem?_eq_some_iff.1 hv).1]; exact hv)
theorem cells_r {h : H} {n o : Nat} {xs ys : List Value} (c : Cells h ⟨n, o, none⟩ (xs ++ ys)) : Cells h ⟨n, o + xs.length, none⟩ ys := fun i v hv => by
  have := c (xs.length + i) v (by rw [List.getElem?_append_right (by omega), Nat.add_sub_cancel_left]; exact hv)
  rw [add_lit] at this ⊢
  rwa [Nat.add_assoc]
theorem pw_two {α : Type} {P : α → α → Prop} (sym : ∀ x y, P x y → P y x) : ∀ {Z : List α}, Z.Pairwise P → ∀ {x y : α}, x ∈ Z → y ∈ Z → x ≠ y → P x y
  | [], _, _, _, hx, _, _ => by cases hx
  | z :: r, h, x, y, hx, hy, hne => by
    have h' := List.pairwise_cons.1 h
    rcases List.mem_cons.1 hx with e | e <;> rcases List.mem_cons.1 hy with e2 | e2
    · exact absurd (e.trans e2.symm) hne
    · rw [e]; exact h'.1 y e2
    · rw [e2]; exact sym _ _ (h'.1 x e)
    · exact pw_two sym h'.2 e e2 hne
theorem nodup_lenG {α : Type} [DecidableEq α] : ∀ {E L : List α}, E.Nodup → (∀ e ∈ E, e ∈ L) → E.length ≤ L.length
  | [], L, _, _ => Nat.zero_le _
  | e :: E, L, h, hs => by
    rw [List.nodup_cons] at h
    have he := hs e (by simp)
    have := nodup_lenG (E := E) (L := L.erase e) h.2 fun x hx => (List.mem_erase_of_ne (show x ≠ e from fun hxe => h.1 (by rw [← hxe]; exact hx))).2 (hs x (by simp [hx]))
    rw [List.length_erase_of_mem he] at this
    have hpos : 0 < L.length := List.length_pos_of_mem he
    simp only [List.length_cons]; omega
theorem ft_ty {h : H} {tn : Nat} {rs es : Sl} {T : Tb (Option Addr)} (th : P.TH h tn rs es T) {b : Nat} (hb : FT tn rs es b) : ∃ e, WB h b e ∧ (e = tn_table_Table_chain_Chain_api_Agg ∨ e = tn_table_place_chain_Chain_api_Agg) := by
  rcases hb with hb | hb | hb
  · subst hb; exact ⟨_, ⟨_, th.tb⟩, .inl rfl⟩
  · exact ⟨_, th.row.typ hb, .inr rfl⟩
  · exact ⟨_, th.el.typ hb, .inr rfl⟩
section
variable {W : List Ver → Prop} {h h' : H} {n tn : Nat} {rs es : Sl} {T : Tb (Option Addr)} {Z : List Rec} {slots : Nat} {R : Nat → Prop} {u t : Int}
theorem SZG.n_ft (z : SZG W h n tn rs es T Z slots R u t) {b : Nat} (hb : FT tn rs es b) : b ≠ n := by
  obtain ⟨e, h1, h2⟩ := ft_ty z.th hb
  exact h1.ne ⟨_, z.sb⟩ (by rcases h2 with rfl | rfl <;> decide)
theorem SZG.ch_ft (z : SZG W h n tn rs es T Z slots R u t) {r : Rec} (hr : r ∈ Z) {b : Nat} (hb : FT tn rs es b) : b ≠ r.p ∧ r.B ≠ some b := by
  obtain ⟨e, h1, h2⟩ := ft_ty z.th hb
  have h3 := ch_typ (z.ch r hr)
  exact ⟨h1.ne h3.1 (by rcases h2 with rfl | rfl <;> decide), fun hB => h1.ne (h3.2 b hB) (by rcases h2 with rfl | rfl <;> decide) rfl⟩
theorem SZG.n_ch (z : SZG W h n tn rs es T Z slots R u t) {r : Rec} (hr : r ∈ Z) : r.p ≠ n ∧ r.B ≠ some n := by
  have h3 := ch_typ (z.ch r hr)
  exact ⟨h3.1.ne ⟨_, z.sb⟩ (by decide), fun hB => (h3.2 n hB).ne ⟨_, z.sb⟩ (by decide) rfl⟩
theorem SZG.p_B (z : SZG W h n tn rs es T Z slots R u t) {r r' : Rec} (hr : r ∈ Z) (hr' : r' ∈ Z) : r'.B ≠ some r.p := fun hB =>
  ((ch_typ (z.ch r' hr')).2 _ hB).ne (ch_typ (z.ch r hr)).1 (by decide) rfl
theorem SZG.f_lt (z : SZG W h n tn rs es T Z slots R u t) : n < h.size ∧ (∀ b, FT tn rs es b → b < h.size) ∧ ∀ r ∈ Z, r.p < h.size ∧ ∀ b, r.B = some b → b < h.size :=
  ⟨block_lt z.sb, z.th.lt, fun r hr => ⟨(z.ch r hr).lt, (z.ch r hr).ltB⟩⟩
theorem SZG.stN (z : SZG W h n tn rs es T Z slots R u t) {u' t' : Int} (o : Only (· = n) h h') (b : Blk h' n #[.int .i64 u', .int .i64 t', .int .i64 (slots : Int), .pointer (some ⟨tn, 0, none⟩)] tn_shard_Shard) : SZG W h' n tn rs es T Z slots R u' t' ∧ SOnly R h h' := by
  refine ⟨{ z with sb := b, th := z.th.only o fun b hb => z.n_ft hb, ch := fun r hr => (z.ch r hr).only o (z.n_ch hr).1 fun b hb e => (z.n_ch hr).2 (by rw [hb, e]) }, o.mono fun b _ e => ?_⟩
  subst e
  exact ⟨z.rn, _, .inl rfl, _, z.sb⟩
theorem SZG.st0 (z : SZG W h n tn rs es T Z slots R u t) {x : Int} {K : H → Prop} (k : ∀ h', SZG W h' n tn rs es T Z slots R x t → SOnly R h h' → K h') : stH h ⟨n, 0, none⟩ [.int .i64 x] K :=
  stH_of z.sb (by simp) fun h' q1 q2 q3 => by
    have := z.stN (u' := x) (t' := t) q2 q1
    exact k h' this.1 this.2
theorem SZG.st1 (z : SZG W h n tn rs es T Z slots R u t) {x : Int} {K : H → Prop} (k : ∀ h', SZG W h' n tn rs es T Z slots R u x → SOnly R h h' → K h') : stH h ⟨n, 1, none⟩ [.int .i64 x] K :=
  stH_of z.sb (by simp) fun h' q1 q2 q3 => by
    have := z.stN (u' := u) (t' := x) q2 q1
    exact k h' this.1 this.2
theorem mem_setZ (z : SZG W h n tn rs es T Z slots R u t) {x y : Rec} : y ∈ setK Rec.c Z x ↔ y = x ∨ (y ∈ Z ∧ y.c ≠ x.c) := mem_set z.srt
/-- The versions of a cell are others. -/
theorem SZG.lay (z : SZG W h n tn rs es T Z slots R u t) {r : Rec} (hr : r ∈ Z) {vs : List Ver} {B' : Option Nat} (c : C.Ch h' r.p vs B') (o : Only (C.FP r.p r.B) h h') (kin : C.Kin h.size r.B B') (ok : W vs)
    (hus : unitsS (toS (setK Rec.c Z ⟨r.c, vs, r.p, B'⟩)) ≤ slots) (hR : ∀ b, h.size ≤ b → R b) : SZG W h' n tn rs es T (setK Rec.c Z ⟨r.c, vs, r.p, B'⟩) slots R u t ∧ SOnly R h h' := by
  obtain ⟨l1, l2, l3⟩ := z.f_lt
  have hty := ch_typ (z.ch r hr)
  have hne : ∀ {y : Rec}, y ∈ Z → y.c ≠ r.c → y.p ≠ r.p ∧ (∀ x, r.B = some x → y.B ≠ some x) := fun {y} hy hc => by
    have hyr : y ≠ r := fun e => hc (by rw [e])
    exact ⟨pw_two (fun _ _ h => h.symm) z.pd hy hr hyr, fun x hx hyx => pw_two (P := fun a b : Rec => ∀ x, a.B = some x → b.B ≠ some x) (fun a b h x h1 h2 => h x h2 h1) z.bd hy hr hyr x hyx hx⟩
  have keepCh : ∀ y ∈ Z, y.c ≠ r.c → C.Ch h' y.p y.vs y.B := fun y hy hc => by
    obtain ⟨h1, h2⟩ := hne hy hc
    refine (z.ch y hy).only o (fun e => ?_) fun b hb e => ?_
    · rcases e with e | e
      · exact h1 e
      · exact z.p_B hy hr e
    · rcases e with e | e
      · subst e; exact z.p_B hr hy hb
      · exact h2 b e hb
  have hB : ∀ x, B' = some x → r.B = some x ∨ h.size ≤ x := fun x hx => by
    rcases kin with k | k | ⟨b, k, k2⟩
    · exact .inl (by rw [← k]; exact hx)
    · rw [k] at hx; cases hx
    · rw [k] at hx; cases hx; exact .inr k2
  refine ⟨{ z with sb := ?_, th := ?_, ch := fun y hy => ?_, get := fun y hy => ?_, all := fun k v hk => ?_, srt := sort_set z.srt, pd := pw_set z.srt z.pd fun y hy hc => ?_, bd := pw_set z.srt z.bd fun y hy hc => ?_, wf := fun y hy => ?_, us := hus, rp := fun y hy => ?_ }, ?_⟩
  · refine o.block z.sb fun e => ?_
    rcases e with e | e
    · exact (z.n_ch hr).1 e.symm
    · exact (z.n_ch hr).2 e
  · refine z.th.only o fun b hb e => ?_
    have := z.ch_ft hr hb
    rcases e with e | e
    · exact this.1 e
    · exact this.2 e
  · rcases (mem_setZ z).1 hy with e | ⟨e, e2⟩
    · subst e; exact c
    · exact keepCh y e e2
  · rcases (mem_setZ z).1 hy with e | ⟨e, e2⟩
    · subst e; exact z.get r hr
    · exact z.get y e
  · obtain ⟨y, hy, e⟩ := z.all k v hk
    by_cases hc : y.c = r.c
    · exact ⟨_, (mem_setZ z).2 (.inl rfl), by rw [e, hc]⟩
    · exact ⟨y, (mem_setZ z).2 (.inr ⟨hy, hc⟩), e⟩
  · exact ⟨fun e => (hne hy hc).1 e.symm, fun e => (hne hy hc).1 e⟩
  · refine ⟨fun x hx hy2 => ?_, fun x hx hy2 => ?_⟩
    · rcases hB x hx with e | e
      · exact (hne hy hc).2 x e hy2
      · have := (l3 y hy).2 x hy2; omega
    · rcases hB x hy2 with e | e
      · exact (hne hy hc).2 x e hx
      · have := (l3 y hy).2 x hx; omega
  · rcases (mem_setZ z).1 hy with e | ⟨e, e2⟩
    · subst e; exact ⟨(z.wf r hr).1, ok⟩
    · exact z.wf y e
  · rcases (mem_setZ z).1 hy with e | ⟨e, e2⟩
    · subst e
      refine ⟨(z.rp r hr).1, fun x hx => ?_⟩
      rcases hB x hx with e | e
      · exact (z.rp r hr).2 x e
      · exact hR x e
    · exact z.rp y e
  · refine o.mono fun b _ e => ?_
    rcases e with e | e
    · subst e; exact ⟨(z.rp r hr).1, _, .inr (.inr (.inr (.inl rfl))), hty.1⟩
    · exact ⟨(z.rp r hr).2 b e, _, .inr (.inr (.inr (.inr rfl))), hty.2 b e⟩
theorem SZG.count (z : SZG W h n tn rs es T Z slots R u t) : T.count ≤ Z.length := by
  have ku := P.KU_of z.ok
  have hl := P.tk_len z.ok
  have hn : ((P.tkL (T.row ++ T.elder)).map fun p => kL p.1).Nodup := by
    have : ((P.tkL (T.row ++ T.elder)).map fun p => kL p.1) = ((P.tkL (T.row ++ T.elder)).map (·.1)).map kL := by rw [List.map_map]; rfl
    rw [this]
    exact List.Pairwise.map _ (fun a b h e => h (kL_inj e)) ku
  have := nodup_lenG hn (L := Z.map fun r => keyL r.c) fun e he => by
    obtain ⟨⟨k, v⟩, hp, rfl⟩ := List.mem_map.1 he
    obtain ⟨w, hw, _⟩ := P.tk_val z.ok hp
    obtain ⟨r, hr, e⟩ := z.all k w hw
    exact List.mem_map.2 ⟨r, hr, e.symm⟩
  rw [List.length_map, List.length_map, hl] at this
  exact this
/-- A cell that had no versions has some. -/
theorem SZG.add {h1 h2 : H} {T' : Tb (Option Addr)} {rs' es' : Sl} {c : Cel} {p : Nat} {vs : List Ver} {B' : Option Nat} (z : SZG W h n tn rs es T Z slots R u t) (hc : okC c = 0) (hg : getK Rec.c Z c = none) (e1 : Ext h h1) (hp : h.size ≤ p) (hp1 : p < h1.size)
    (th : P.TH h2 tn rs' es' T') (ok : TOk T') (stp : Stp h1 tn rs es h2 rs' es') (hget : ∀ k, getM T' k = if kL k = kL (keyB c) then some (some ⟨p, 0, none⟩) else getM T k) (hrl : T'.row.length ≤ 4200000)
    (ch : C.Ch h' p vs B') (o : Only (C.FP p none) h2 h') (kin : C.Kin h2.size none B') (vok : W vs) (hus : unitsS (toS (setK Rec.c Z ⟨c, vs, p, B'⟩)) ≤ slots) (hR : ∀ b, h.size ≤ b → R b) :
    SZG W h' n tn rs' es' T' (setK Rec.c Z ⟨c, vs, p, B'⟩) slots R u t ∧ SOnly R h h' := by
  obtain ⟨l1, l2, l3⟩ := z.f_lt
  have z1 := z.ext e1
  have s1 := e1.size
  have s2 := stp.only.size
  have hcne : ∀ y ∈ Z, y.c ≠ c := getK_none hg
  have oB : ∀ b, b < h.size → ¬ C.FP p none b := fun b hb e => by
    rcases e with e | e
    · omega
    · cases e
  have hB : ∀ x, B' = some x → h.size ≤ x := fun x hx => by
    rcases kin with k | k | ⟨b, k, k2⟩
    · rw [k] at hx; cases hx
    · rw [k] at hx; cases hx
    · rw [k] at hx; cases hx; omega
  have keepCh : ∀ y ∈ Z, C.Ch h' y.p y.vs y.B := fun y hy => by
    have q := ((z1.ch y hy).only stp.only (fun e => (z1.ch_ft hy e).1 rfl) fun b hb e => (z1.ch_ft hy e).2 hb)
    exact q.only o (oB _ (l3 y hy).1) fun b hb => oB _ ((l3 y hy).2 b hb)
  have ft' : ∀ b, FT tn rs' es' b → b ≠ p ∧ R b := fun b hb => by
    rcases stp.new b hb with e | e
    · have := l2 b e
      refine ⟨by omega, ?_⟩
      rcases e with e | e | e
      · subst e; exact z.rt
      · exact z.rr b e
      · exact z.re b e
    · exact ⟨by omega, hR b (by omega)⟩
  refine ⟨{ sb := ?_, th := th.only o fun b hb e => ?_, ok := ok, ch := fun y hy => ?_, get := fun y hy => ?_, all := fun k v hk => ?_, srt := sort_set z.srt, pd := pw_set z.srt z.pd fun y hy hc => ?_, bd := pw_set z.srt z.bd fun y hy hc => ?_, wf := fun y hy => ?_, us := hus, sl := z.sl, rl := hrl, rn := z.rn, rt := z.rt, rr := fun b hb => (ft' b (.inr (.inl hb))).2, re := fun b hb => (ft' b (.inr (.inr hb))).2, rp := fun y hy => ?_ }, ?_⟩
  · exact o.block (stp.only.block z1.sb fun e => z1.n_ft e rfl) (oB n l1)
  · rcases e with e | e
    · exact (ft' b hb).1 e
    · cases e
  · rcases (mem_setZ z).1 hy with e | ⟨e, e2⟩
    · subst e; exact ch
    · exact keepCh y e
  · rw [hget]
    rcases (mem_setZ z).1 hy with e | ⟨e, e2⟩
    · subst e; rw [if_pos rfl]
    · rw [if_neg]
      · exact z.get y e
      · intro he
        rw [kL_keyB, kL_keyB] at he
        exact e2 (key_inj (z.wf y e).1 hc he)
  · rw [hget] at hk
    split at hk
    · rename_i he
      exact ⟨_, (mem_setZ z).2 (.inl rfl), by rw [he, kL_keyB]⟩
    · obtain ⟨y, hy, e⟩ := z.all k v hk
      exact ⟨y, (mem_setZ z).2 (.inr ⟨hy, hcne y hy⟩), e⟩
  · have := (l3 y hy).1
    exact ⟨by simp only; omega, by simp only; omega⟩
  · refine ⟨fun x hx hy2 => ?_, fun x hx hy2 => ?_⟩
    · have := hB x hx; have := (l3 y hy).2 x hy2; omega
    · have := hB x hy2; have := (l3 y hy).2 x hx; omega
  · rcases (mem_setZ z).1 hy with e | ⟨e, e2⟩
    · subst e; exact ⟨hc, vok⟩
    · exact z.wf y e
  · rcases (mem_setZ z).1 hy with e | ⟨e, e2⟩
    · subst e; exact ⟨hR _ hp, fun x hx => hR x (hB x hx)⟩
    · exact z.rp y e
  · have a1 : SOnly R h h1 := SOnly.of e1
    have a2 : SOnly R h1 h2 := stp.only.mono fun b _ e => by
      obtain ⟨ty, q1, q2⟩ := ft_ty z1.th e
      refine ⟨?_, ty, ?_, q1⟩
      · rcases e with e | e | e
        · subst e; exact z.rt
        · exact z.rr b e
        · exact z.re b e
      · rcases q2 with rfl | rfl
        · exact .inr (.inl rfl)
        · exact .inr (.inr (.inl rfl))
    exact Only.trans (SOnly.trans a1 a2) o fun m hm e => absurd e (oB m hm)
end
theorem lastE_newest {vs : List Ver} : C.lastE vs = (C.newestM vs).2.1 := by
  unfold C.lastE C.newestM
  cases vs.getLast? <;> rfl
theorem lay_last (vs : List Ver) (x : Ver) : (C.layM vs x).getLast? = some x := by
  unfold C.layM
  split <;> simp
theorem lay_newest (vs : List Ver) (x : Ver) : C.newestM (C.layM vs x) = (x.value, x.epoch, !x.dead) := by
  unfold C.newestM; rw [lay_last]
theorem lay_len (vs : List Ver) (x : Ver) : ((C.layM vs x).length : Int) = vs.length + C.layN vs x := by
  unfold C.layM C.layN
  split
  · rename_i h
    have := List.length_pos_iff.2 h.1
    simp; omega
  · simp
theorem layN_range (vs : List Ver) (x : Ver) : C.layN vs x = 0 ∨ C.layN vs x = 1 := by
  unfold C.layN; split <;> simp
theorem lay_units (vs : List Ver) (x : Ver) : ((unitsV (C.layM vs x) : Nat) : Int) = vs.length + C.layN vs x + (if x.dead then 0 else 1) := by
  unfold unitsV alive
  rw [lay_newest]
  have := lay_len vs x
  cases x.dead <;> simp <;> omega
theorem lay_alive (vs : List Ver) (x : Ver) : aliveN (C.layM vs x) = if x.dead then 0 else 1 := by
  unfold aliveN alive
  rw [lay_newest]
  cases x.dead <;> simp
theorem units_eq (vs : List Ver) : unitsV vs = vs.length + aliveN vs := rfl
theorem last_le {vs : List Ver} (hr : C.Rise vs) : ∀ v ∈ vs, v.epoch ≤ C.lastE vs := fun v hv => by
  unfold C.lastE
  have hn : vs ≠ [] := fun e => by rw [e] at hv; cases hv
  rw [List.getLast?_eq_some_getLast hn]
  obtain ⟨i, hi⟩ := List.mem_iff_getElem?.1 hv
  have hl := C.last_get hn
  have h1 := (List.getElem?_eq_some_iff.1 hi).1
  by_cases e : i = vs.length - 1
  · rw [e, hl] at hi; cases hi; exact Int.le_refl _
  · have := hr.lt (show i < vs.length - 1 by omega) hi hl
    simp only; omega
theorem lastE_get {vs : List Ver} (hn : vs ≠ []) : C.lastE vs = (vs.getLast hn).epoch := by
  unfold C.lastE; rw [List.getLast?_eq_some_getLast hn]
theorem lay_ok {vs : List Ver} {x : Ver} (h : vs = [] ∨ VOk vs) (he : C.lastE vs ≤ x.epoch ∨ vs = []) (hd : x.dead = true → x.value = zA) (h1 : 1 ≤ x.epoch) (h2 : x.epoch ≤ 1099511627776) : VOk (C.layM vs x) := by
  have hr : C.Rise vs := by
    rcases h with h | h
    · subst h; exact List.Pairwise.nil
    · exact h.rise
  have hdd : ∀ v ∈ vs, (v.dead = true → v.value = zA) ∧ 1 ≤ v.epoch ∧ v.epoch ≤ 1099511627776 := fun v hv => by
    rcases h with h | h
    · subst h; cases hv
    · exact ⟨h.dead v hv, h.ep v hv⟩
  have hlast := last_le hr
  have hmem : ∀ v ∈ C.layM vs x, v = x ∨ v ∈ vs := fun v hv => by
    unfold C.layM at hv
    split at hv
    · rcases List.mem_append.1 hv with e | e
      · exact .inr ((List.dropLast_sublist vs).subset e)
      · exact .inl (List.mem_singleton.1 e)
    · rcases List.mem_append.1 hv with e | e
      · exact .inr e
      · exact .inl (List.mem_singleton.1 e)
  refine ⟨fun e => ?_, ?_, fun v hv => ?_, fun v hv => ?_⟩
  · have := lay_last vs x
    rw [e] at this; cases this
  · unfold C.layM
    split
    · rename_i g
      refine List.pairwise_append.2 ⟨List.Pairwise.sublist (List.dropLast_sublist vs) hr, List.pairwise_singleton _ _, fun a ha b hb => ?_⟩
      obtain rfl := List.mem_singleton.1 hb
      have hd2 : vs = vs.dropLast ++ [vs.getLast g.1] := (List.dropLast_concat_getLast g.1).symm
      have hr2 := hr
      unfold C.Rise at hr2
      rw [hd2] at hr2
      have := (List.pairwise_append.1 hr2).2.2 a ha (vs.getLast g.1) (by simp)
      have hl := lastE_get g.1
      have := g.2
      omega
    · rename_i g
      refine List.pairwise_append.2 ⟨hr, List.pairwise_singleton _ _, fun a ha b hb => ?_⟩
      obtain rfl := List.mem_singleton.1 hb
      have hn : vs ≠ [] := fun e => by rw [e] at ha; cases ha
      have h3 := hlast a ha
      have h4 : C.lastE vs ≠ b.epoch := fun e => g ⟨hn, e⟩
      rcases he with he | he
      · omega
      · exact absurd he hn
  · rcases hmem v hv with e | e
    · subst e; exact hd
    · exact (hdd v e).1
  · rcases hmem v hv with e | e
    · subst e; exact ⟨h1, h2⟩
    · exact (hdd v e).2
theorem set_units {S : SL} (hs : SortS S) (c : Cel) (vs : List Ver) : unitsS (setS S c vs) + unitsV ((getS S c).getD []) = unitsS S + unitsV vs := by
  have := sum_set (key := fun x : Cel × List Ver => x.1) (x := (c, vs)) (fun x => unitsV x.2) hs
  have e : ((getK (fun x : Cel × List Ver => x.1) S c).map fun x => unitsV x.2).getD 0 = unitsV ((getS S c).getD []) := by
    unfold getS
    cases getK (fun x : Cel × List Ver => x.1) S c <;> rfl
  rw [← e]; exact this
theorem set_there {S : SL} (hs : SortS S) (c : Cel) (vs : List Ver) : thereS (setS S c vs) + aliveN ((getS S c).getD []) = thereS S + aliveN vs := by
  have := sum_set (key := fun x : Cel × List Ver => x.1) (x := (c, vs)) (fun x => aliveN x.2) hs
  have e : ((getK (fun x : Cel × List Ver => x.1) S c).map fun x => aliveN x.2).getD 0 = aliveN ((getS S c).getD []) := by
    unfold getS
    cases getK (fun x : Cel × List Ver => x.1) S c <;> rfl
  rw [← e]; exact this
theorem toS_set (Z : List Rec) (r : Rec) : toS (setK Rec.c Z r) = setS (toS Z) r.c r.vs :=
  map_set (key := Rec.c) (key' := fun x : Cel × List Ver => x.1) (fun r : Rec => (r.c, r.vs)) (fun _ => rfl) Z
/-- What a write takes more. -/
theorem need_lay (o : Option (List Ver)) (e : Int) (x : Ver) (hx : x.epoch = e) (hd : x.dead = false) (hn : ¬ (C.newestM (o.getD [])).2.1 > e) (ho : ∀ vs, o = some vs → vs ≠ []) : needV o e = C.layN (o.getD []) x + 1 - aliveN (o.getD []) := by
  cases o with
  | none => rfl
  | some vs =>
    have hne := ho vs rfl
    simp only [Option.getD_some] at hn ⊢
    unfold needV
    simp only
    rw [if_neg hn]
    by_cases h1 : (C.newestM vs).2.1 = e
    · have hl : C.layN vs x = 0 := by unfold C.layN; rw [if_pos ⟨hne, by rw [lastE_newest, hx]; exact h1⟩]
      rw [hl]
      unfold aliveN
      by_cases h2 : alive vs = true
      · rw [if_pos ⟨h1, h2⟩, if_pos h2]; rfl
      · rw [if_neg (fun h => h2 h.2), if_pos (.inl h1), if_neg h2]; rfl
    · have hl : C.layN vs x = 1 := by unfold C.layN; rw [if_neg (fun h => h1 (by rw [← lastE_newest, ← hx]; exact h.2))]
      rw [hl, if_neg (fun h => h1 h.1)]
      unfold aliveN
      by_cases h2 : alive vs = true
      · rw [if_pos (.inr h2), if_pos h2]; rfl
      · rw [if_neg (fun h => h.elim h1 h2), if_neg h2]; rfl
end Go.Proofs.Ytoccbnhahaoeiaa.V.S
namespace Go.Proofs.Ytoccbnhahaoeiaa.V.S
open Go Go.Proofs.Ytoccbnhahaoeiaa.V
set_option linter.unusedVariables false
set_option linter.unusedSimpArgs false
set_option maxRecDepth 20000
/-- What agg.Right tells of an aggregate. -/
def RightIs (a : S_api_Agg) (b : Bool) : Prop := ∀ (h : H) (Q : Bool → H → Prop), (∀ h', Ext h h' → Q b h') → F.agg_Right a h Q
def putE (S : SL) (slots : Nat) (e : Int) (c : Cel) (a : S_api_Agg) (rt : Bool) : Int :=
  if okC c ≠ 0 then okC c else if e < 1 ∨ e > 1099511627776 ∨ a.Count = 0 ∨ rt = false then 1 else if (C.newestM ((getS S c).getD [])).2.1 > e then 32 else if (unitsS S : Int) + needS S e c > slots then 31 else 0
def putS (S : SL) (e : Int) (c : Cel) (a : S_api_Agg) : SL := setS S c (C.layM ((getS S c).getD []) ⟨e, a, false⟩)
theorem getS_ne {S : SL} (h : SOk S) {c : Cel} : ∀ vs, getS S c = some vs → VOk vs := fun vs hg => by
  unfold getS at hg
  cases hx : getK (fun x : Cel × List Ver => x.1) S c with
  | none => rw [hx] at hg; cases hg
  | some x =>
    rw [hx] at hg; cases hg
    exact (h.ok x (getK_some hx).1).2
theorem put_units {S : SL} (h : SOk S) {e : Int} {c : Cel} {a : S_api_Agg} (hc : okC c = 0) (hn : ¬ (C.newestM ((getS S c).getD [])).2.1 > e) :
    (unitsS (putS S e c a) : Int) = unitsS S + needS S e c ∧ (thereS (putS S e c a) : Int) = thereS S + (1 - aliveN ((getS S c).getD [])) ∧ needS S e c = C.layN ((getS S c).getD []) ⟨e, a, false⟩ + (1 - aliveN ((getS S c).getD [])) := by
  have h1 := set_units h.sort c (C.layM ((getS S c).getD []) ⟨e, a, false⟩)
  have h2 := set_there h.sort c (C.layM ((getS S c).getD []) ⟨e, a, false⟩)
  have h3 := lay_units ((getS S c).getD []) ⟨e, a, false⟩
  have h4 := lay_alive ((getS S c).getD []) ⟨e, a, false⟩
  have h5 := units_eq ((getS S c).getD [])
  have h6 := need_lay (getS S c) e ⟨e, a, false⟩ rfl rfl hn fun vs hv => (getS_ne h vs hv).ne
  have h7 : needS S e c = needV (getS S c) e := by unfold needS; rw [if_neg (fun h => h hc)]
  simp only [Bool.false_eq_true, if_false] at h3 h4
  unfold putS
  rw [h7]
  refine ⟨by omega, by omega, by omega⟩
theorem mayM_ok {vs : List Ver} {e : Int} (h1 : 1 ≤ e) (h2 : e ≤ 1099511627776) : C.mayM vs e = if vs ≠ [] ∧ e < (C.newestM vs).2.1 then 32 else 0 := by
  unfold C.mayM
  rw [if_neg (by omega), lastE_newest]
section
variable {h : H} {n : Nat} {S : SL} {slots : Nat} {R : Nat → Prop}
theorem Put_spec {e : Int} {x : S_api_Row} {rt : Bool} {Q : Int → H → Prop} (s : SH h n S slots R) (hrt : RightIs x.Agg rt) (hR : ∀ b, h.size ≤ b → R b)
    (k0 : putE S slots e x.Cell x.Agg rt ≠ 0 → ∀ h', Ext h h' → Q (putE S slots e x.Cell x.Agg rt) h')
    (k1 : putE S slots e x.Cell x.Agg rt = 0 → ∀ h', SH h' n (putS S e x.Cell x.Agg) slots R → SOnly R h h' → Q 0 h') : F.shard_Shard_Put (some ⟨n, 0, none⟩) e x h Q := by
  have sok := s.ok
  obtain ⟨tn, rs, es, T, Z, hZ, z⟩ := s
  obtain ⟨c, a⟩ := x
  simp only at hrt k0 k1
  unfold F.shard_Shard_Put
  refine new_of fun m h1 hm b1 e1 s1 => ?_
  have rc : Cells h1 ⟨m, 0, none⟩ (c.cells ++ a.cells) := Blk.cells b1
  simp only [add_lit, Nat.zero_add, Nat.add_zero]
  have ra : ∀ {hh : H}, Ext h1 hh → Cells hh ⟨m, 3, none⟩ a.cells := fun ee => (cells_r rc : Cells h1 ⟨m, 0 + 3, none⟩ a.cells).ext ee
  have rcc : ∀ {hh : H}, Ext h1 hh → Cells hh ⟨m, 0, none⟩ c.cells := fun ee => (cells_l rc).ext ee
  refine ⟨c, rcc (.refl _), ?_⟩
  unfold putE at k0 k1
  refine key_spec (fun g h2 e2 => ⟨fun _ => ?_, fun g2 => absurd (by simpa using g2) g⟩) fun g h2 e2 => ⟨fun g2 => by simp at g2, fun _ => ?_⟩
  · rw [if_pos g] at k0; exact k0 g h2 (e1.trans e2)
  rw [if_neg (fun h => h g)] at k0 k1
  have e02 := e1.trans e2
  have a0 : ∀ {hh : H}, Ext h1 hh → cellH hh ⟨m, 3, none⟩ = some (.int .i64 a.Count) := fun ee => ra ee 0 _ rfl
  -- a bad argument
  have bad : ∀ {hh : H}, Ext h hh → (e < 1 ∨ e > 1099511627776 ∨ a.Count = 0 ∨ rt = false) → F.shard_Shard_Put.j4 Q (some ⟨n, 0, none⟩) e ⟨m, 0, none⟩ (keyB c) true hh := fun ee hb => by
    unfold F.shard_Shard_Put.j4
    refine ⟨fun _ => ?_, fun h => by cases h⟩
    rw [if_pos hb] at k0
    exact k0 (by decide) _ ee
  -- the last step: a chain that is there is written
  have j1 : ∀ h3, Ext h2 h3 → 1 ≤ e → e ≤ 1099511627776 → a.Count ≠ 0 → rt = true → F.shard_Shard_Put.j1 Q (some ⟨n, 0, none⟩) e ⟨m, 0, none⟩ (keyB c) h3 := by
    intro h3 e3 he1 he2 hac hrt1
    rw [if_neg (by rintro (h | h | h | h)
                   · omega
                   · omega
                   · exact hac h
                   · rw [hrt1] at h; cases h)] at k0 k1
    have e03 := e02.trans e3
    have z3 := z.ext e03
    unfold F.shard_Shard_Put.j1
    simp only [nn_some, add_lit, Nat.zero_add, Nat.add_zero]
    rw [ldP_iff z3.cs3]
    refine P.Get_spec z3.th z3.ok (key_small g) fun h4 e4 => ?_
    have e04 := e03.trans e4
    have e14 : Ext h1 h4 := (e2.trans e3).trans e4
    have z4 := z3.ext e4
    have hlk := z3.look g
    rw [hlk]
    -- room is asked for
    have j2 : ∀ (h5 : H) (l : Option Addr) (is th : Bool), Ext h4 h5 → ¬ (C.newestM ((getS S c).getD [])).2.1 > e → ((unitsS S : Int) + needS S e c ≤ slots → ∀ h6, Ext h5 h6 → ((!is) = true → F.chain_New_api_Agg h6 fun r60 h59 => ldP h59 ⟨n, 3, none⟩ fun y63 => F.table_Table_chain_Chain_api_Agg_Put y63 (keyB c) r60 h59 fun h65 => F.shard_Shard_Put.j3 Q (some ⟨n, 0, none⟩) e ⟨m, 0, none⟩ r60 th h65) ∧ ((!is) = false → F.shard_Shard_Put.j3 Q (some ⟨n, 0, none⟩) e ⟨m, 0, none⟩ l th h6)) →
        F.shard_Shard_Put.j2 Q (some ⟨n, 0, none⟩) e ⟨m, 0, none⟩ (keyB c) l is th h5 := by
      intro h5 l is th e5 hnw hgo
      have z5 := z4.ext e5
      unfold F.shard_Shard_Put.j2
      simp only [nn_some, add_lit, Nat.zero_add, Nat.add_zero]
      rw [ldI_iff z5.cs0]
      refine ⟨c, rcc (e14.trans e5), ldI_of z5.cs2 (need_spec z5 fun h6 e6 => ⟨(z5.ext e6).cs2, (z5.ext e6).cs0, ?_⟩)⟩
      rw [hZ]
      rw [if_neg hnw] at k0 k1
      have hus := z.us
      have hsl := z.sl
      rw [hZ] at hus
      have hnd : 0 ≤ needS S e c ∧ needS S e c ≤ 2 := by
        unfold needS needV
        split
        · omega
        · cases getS S c with
          | none => simp
          | some vs => simp only; split <;> (try split) <;> (try split) <;> omega
      rw [w64 (by omega) (by omega)]
      refine ⟨fun g2 => ?_, fun g2 => hgo (by have := of_decide_eq_false g2; omega) h6 e6⟩
      have g2 := of_decide_eq_true g2
      rw [if_pos g2] at k0
      exact k0 (by decide) h6 ((e04.trans e5).trans e6)
    have hgs : getS S c = (getK Rec.c Z c).map (·.vs) := by rw [← hZ]; exact z.getS c
    have hpu := fun (hn : ¬ (C.newestM ((getS S c).getD [])).2.1 > e) => put_units (a := a) sok g hn
    -- the numbers
    have nums : ∀ (h8 : H) (rs' es' : Sl) (T' : Tb (Option Addr)) (Z' : List Rec) (th : Bool), SZ h8 n tn rs' es' T' Z' slots R (unitsS S : Int) (thereS S : Int) → toS Z' = putS S e c a → SOnly R h h8 → ¬ (C.newestM ((getS S c).getD [])).2.1 > e → (unitsS S : Int) + needS S e c ≤ slots →
        (aliveN ((getS S c).getD []) = if th then 1 else 0) →
        (nn (some ⟨n, 0, none⟩) fun a36 => ldI .i64 h8 ((a36.add 0).add 0) fun y38 => nn (some ⟨n, 0, none⟩) fun a40 => stH h8 ((a40.add 0).add 0) [(.int .i64 (IntKind.wrap .i64 (y38 + C.layN ((getS S c).getD []) ⟨e, a, false⟩)))] fun h42 =>
          ((!th) = true → nn (some ⟨n, 0, none⟩) fun a44 => ldI .i64 h42 ((a44.add 0).add 0) fun y46 => nn (some ⟨n, 0, none⟩) fun a48 => stH h42 ((a48.add 0).add 0) [(.int .i64 (IntKind.wrap .i64 (y46 + 1)))] fun h50 => nn (some ⟨n, 0, none⟩) fun a51 => ldI .i64 h50 ((a51.add 0).add 1) fun y53 => nn (some ⟨n, 0, none⟩) fun a55 => stH h50 ((a55.add 0).add 1) [(.int .i64 (IntKind.wrap .i64 (y53 + 1)))] fun h57 => Q 0 h57) ∧ ((!th) = false → Q 0 h42)) := by
      intro h8 rs' es' T' Z' th z8 hZ' so hnw hroom hth
      obtain ⟨p1, p2, p3⟩ := hpu hnw
      have hsl := z.sl
      have htl : thereS S ≤ unitsS S := there_le
      have hus := z.us
      rw [hZ] at hus
      have hlr := layN_range ((getS S c).getD []) ⟨e, a, false⟩
      rw [if_neg hnw, if_neg (show ¬ (unitsS S : Int) + needS S e c > slots by omega)] at k1
      simp only [nn_some, add_lit, Nat.zero_add, Nat.add_zero]
      rw [ldI_iff z8.cs0, w64 (by omega) (by omega)]
      refine z8.st0 fun h9 z9 o9 => ?_
      have so9 := so.trans o9
      refine ⟨fun g3 => ?_, fun g3 => ?_⟩
      · have hth0 : th = false := by simpa using g3
        rw [hth0] at hth
        simp only [Bool.false_eq_true, if_false] at hth
        rw [ldI_iff z9.cs0, w64 (by omega) (by omega)]
        refine z9.st0 fun h10 z10 o10 => ?_
        rw [ldI_iff z10.cs1, w64 (by omega) (by omega)]
        refine z10.st1 fun h11 z11 o11 => ?_
        refine k1 rfl h11 ⟨tn, rs', es', T', Z', hZ', ?_⟩ ((so9.trans o10).trans o11)
        rw [hZ', p1, p2, p3, hth]
        have q1 : (unitsS S : Int) + C.layN ((getS S c).getD []) ⟨e, a, false⟩ + 1 = unitsS S + (C.layN ((getS S c).getD []) ⟨e, a, false⟩ + (1 - ((0 : Nat) : Int))) := by omega
        have q2 : (thereS S : Int) + 1 = thereS S + (1 - ((0 : Nat) : Int)) := by omega
        rw [← q1, ← q2]; exact z11
      · have hth1 : th = true := by simpa using g3
        rw [hth1] at hth
        simp only [if_true] at hth
        refine k1 rfl h9 ⟨tn, rs', es', T', Z', hZ', ?_⟩ so9
        rw [hZ', p1, p2, p3, hth]
        have q1 : (unitsS S : Int) + C.layN ((getS S c).getD []) ⟨e, a, false⟩ = unitsS S + (C.layN ((getS S c).getD []) ⟨e, a, false⟩ + (1 - ((1 : Nat) : Int))) := by omega
        have q2 : (thereS S : Int) = thereS S + (1 - ((1 : Nat) : Int)) := by omega
        rw [← q1, ← q2]; exact z9
    cases hg : getK Rec.c Z c with
    | none =>
      refine ⟨fun h => (by cases h), fun _ => ?_⟩
      have hgd : (getS S c).getD [] = [] := by rw [hgs, hg]; rfl
      have hnw : ¬ (C.newestM ((getS S c).getD [])).2.1 > e := by rw [hgd]; show ¬ (0 : Int) > e; omega
      refine j2 h4 _ _ _ (.refl _) hnw fun hroom h6 e6 => ⟨fun _ => ?_, fun h => by cases h⟩
      have z6 := z4.ext e6
      refine C.New_spec fun p h7 hp c7 e7 => ?_
      have z7 := z6.ext e7
      rw [ldP_iff z7.cs3]
      obtain ⟨T', t1, t2, t3, t4, t5, t6⟩ := put_ok (z := P.nilA) z7.ok (keyB c) (some ⟨p, 0, none⟩)
      have hcnt := z7.count
      have hzl := z7.len
      have hrl := z7.rl
      have hgn : getM T (keyB c) = none := by rw [z.look g, hg]; rfl
      rw [hgn] at t5
      simp only [Option.isSome_none, Bool.false_eq_true, if_false] at t5
      have hrl' : T'.row.length ≤ 4200000 := by
        rcases t6 with ⟨_, q1, q2, _⟩ | ⟨_, q2, _⟩
        · have q1 : 3 * T.row.length < 4 * (T.count + 1) := q1
          omega
        · omega
      refine P.Put_spec z7.th z7.ok (key_small g) t1 (by show _ ≤ 1099511627776; omega) (by show _ ≤ 1099511627776; omega) fun h8 rs' es' th8 stp => ?_
      unfold F.shard_Shard_Put.j3
      simp only [add_lit, Nat.zero_add, Nat.add_zero]
      have hp6 : p < h7.size := c7.lt
      have l7 := z7.f_lt
      have c8 : C.Ch h8 p [] none := c7.only stp.only (fun hb => by
        have := z6.th.lt p hb; omega) fun b hb => by cases hb
      have e17 : Ext h1 h7 := (e14.trans e6).trans e7
      have e07 := ((e04.trans e6).trans e7)
      have rb8 : Cells h8 ⟨m, 3, none⟩ a.cells := (ra e17).only stp.only fun hb => by
        have := z.th.lt m hb; omega
      refine ⟨a, rb8, ?_⟩
      refine C.Put_spec c8 (by simp) (fun h => absurd (by rw [mayM_ok he1 he2]; simp) h) fun _ h9 B' c9 o9 kin9 => ?_
      have hsetq : toS (setK Rec.c Z ⟨c, C.layM [] ⟨e, a, false⟩, p, B'⟩) = putS S e c a := by
        rw [toS_set, hZ]; unfold putS; rw [hgd]
      have vok : VOk (C.layM [] ⟨e, a, false⟩) := lay_ok (.inl rfl) (.inr rfl) (fun h => by cases h) he1 he2
      obtain ⟨p1, p2, p3⟩ := hpu hnw
      have hz := z.add (c := c) g hg (e07) (by have := ((e04.trans e6)).size; omega) hp6 th8 t2 stp t4 hrl' c9 o9 kin9 vok (by rw [hsetq]; omega) hR
      have := nums h9 rs' es' T' _ false (by rw [← hZ]; exact hz.1) hsetq hz.2 hnw hroom (by rw [hgd]; rfl)
      rw [hgd] at this
      exact this
    | some r =>
      refine ⟨fun _ => ?_, fun h => by cases h⟩
      obtain ⟨hr, hrc⟩ := getK_some hg
      have hgd : (getS S c).getD [] = r.vs := by rw [hgs, hg]; rfl
      have hv := (z.wf r hr).2
      refine C.Newest_spec (z4.ch r hr) (by have := z.vlen hr; omega) fun h5 e5 => ⟨fun g2 => ?_, fun g2 => ?_⟩
      · have g2 := of_decide_eq_true g2
        rw [hgd, if_pos g2] at k0
        exact k0 (by decide) h5 (e04.trans e5)
      have hnw : ¬ (C.newestM ((getS S c).getD [])).2.1 > e := by rw [hgd]; exact of_decide_eq_false g2
      refine j2 h5 _ _ _ e5 hnw fun hroom h6 e6 => ⟨fun h => (by cases h), fun _ => ?_⟩
      have e06 := (e04.trans e5).trans e6
      have z6 := z.ext e06
      unfold F.shard_Shard_Put.j3
      simp only [add_lit, Nat.zero_add, Nat.add_zero]
      refine ⟨a, ra ((e14.trans e5).trans e6), ?_⟩
      refine C.Put_spec (z6.ch r hr) (by have := z.vlen hr; omega) (fun h => absurd (by rw [mayM_ok he1 he2, if_neg (fun h2 => by rw [hgd] at hnw; omega)]) h) fun _ h9 B' c9 o9 kin9 => ?_
      have hsetq : toS (setK Rec.c Z ⟨r.c, C.layM r.vs ⟨e, a, false⟩, r.p, B'⟩) = putS S e c a := by
        rw [toS_set, hZ, hrc]; unfold putS; rw [hgd]
      have hn2 : C.lastE r.vs ≤ e := by rw [lastE_newest]; rw [hgd] at hnw; omega
      have vok : VOk (C.layM r.vs ⟨e, a, false⟩) := lay_ok (.inr hv) (.inl hn2) (fun h => by cases h) he1 he2
      obtain ⟨p1, p2, p3⟩ := hpu hnw
      have hz := z6.lay hr c9 o9 kin9 vok (by rw [hsetq]; omega) fun b hb => hR b (by have := e06.size; omega)
      have := nums h9 rs es T _ (alive r.vs) (by rw [← hZ]; exact hz.1) hsetq ((SOnly.of e06).trans hz.2) hnw hroom (by rw [hgd]; rfl)
      rw [hgd] at this
      exact this
  have e2r : Ext h1 h2 := e2
  refine ⟨fun g2 => bad e02 (.inl (of_decide_eq_true g2)), fun g2 => ⟨fun g3 => bad e02 (.inr (.inl (of_decide_eq_true g3))), fun g3 => ?_⟩⟩
  rw [ldI_iff (a0 e2)]
  refine ⟨fun g4 => bad e02 (.inr (.inr (.inl (by simpa using g4)))), fun g4 => ⟨a, ra e2, hrt h2 _ fun h3 e3 => ?_⟩⟩
  have g2 := of_decide_eq_false g2
  have g3 := of_decide_eq_false g3
  have g4 : a.Count ≠ 0 := by simpa using g4
  cases hrv : rt with
  | false => exact bad (e02.trans e3) (.inr (.inr (.inr hrv)))
  | true =>
    unfold F.shard_Shard_Put.j4
    exact ⟨fun h => (by cases h), fun _ => j1 h3 e3 (by omega) (by omega) g4 hrv⟩
end
end Go.Proofs.Ytoccbnhahaoeiaa.V.S
namespace Go.Proofs.Ytoccbnhahaoeiaa.V.S
open Go Go.Proofs.Ytoccbnhahaoeiaa.V
set_option linter.unusedVariables false
set_option linter.unusedSimpArgs false
set_option maxRecDepth 20000
abbrev Rw := S_api_Row
/-- The keys of a shard's table, with what lies under them. -/
def keysZ (Z : List Rec) : List (ByteArray × Option Addr) := Z.map fun r => (keyB r.c, some ⟨r.p, 0, none⟩)
theorem keysZ_len (Z : List Rec) : (keysZ Z).length = Z.length := List.length_map _
theorem cB_lt : ∀ (x y : List UInt8), Lib.compareBytes x y = -1 → x < y
  | [], [], h => by simp [Lib.compareBytes] at h
  | [], b :: y, _ => List.nil_lt_cons b y
  | a :: x, [], h => by simp [Lib.compareBytes] at h
  | a :: x, b :: y, h => by
    simp only [Lib.compareBytes] at h
    rcases u8_tri a b with g | g | g
    · exact List.cons_lt_cons_iff.2 (.inl g)
    · subst g
      simp only [u8_irr, if_false] at h
      exact List.cons_lt_cons_iff.2 (.inr ⟨rfl, cB_lt x y h⟩)
    · simp [g, u8_asym g] at h
theorem key_lt {a b : Cel} (ha : okC a = 0) (hb : okC b = 0) (h : cmpC a b = -1) : keyL a < keyL b :=
  cB_lt _ _ (by rw [key_cmp (ok_may ha) (ok_may hb) (ok_start ha) (ok_start hb)]; exact h)
section
variable {h h' : H} {n tn : Nat} {rs es : Sl} {T : Tb (Option Addr)} {Z : List Rec} {slots : Nat} {R : Nat → Prop} {u t : Int}
theorem tk_has (ok : TOk T) {k : ByteArray} {v : Option Addr} (hg : getM T k = some v) : ∃ p ∈ P.tkL (T.row ++ T.elder), p.1 = k := by
  have go : ∀ (W : List (Pl (Option Addr))), valOf W k = some v → ∃ p ∈ P.tkL W, p.1 = k := fun W hv => by
    obtain ⟨i, p, h1, h2, h3, h4⟩ := valOf_some hv
    exact ⟨(p.key, .pointer p.value), List.mem_map.2 ⟨p, List.mem_filter.2 ⟨List.mem_of_getElem? h1, by simp [h2]⟩, rfl⟩, kL_inj h3⟩
  unfold getM at hg
  rw [P.tkL_app]
  cases hv : valOf T.row k with
  | some w =>
    rw [hv] at hg; cases hg
    obtain ⟨p, h1, h2⟩ := go _ hv
    exact ⟨p, List.mem_append_left _ h1, h2⟩
  | none =>
    rw [hv] at hg
    obtain ⟨p, h1, h2⟩ := go _ hg
    exact ⟨p, List.mem_append_right _ h1, h2⟩
theorem all_eq (z : SZ h n tn rs es T Z slots R u t) : P.allL T = keysZ Z := by
  have hk : ∀ c : Cel, (keyB c).data.toList = keyL c := fun c => by simp [keyB]
  have hsort : (Z.map fun r => keyB r.c).Pairwise fun a b => a.data.toList < b.data.toList := by
    rw [List.pairwise_map]
    have := z.srt
    refine List.Pairwise.imp_of_mem ?_ this
    intro a b ha hb hab
    rw [hk, hk]
    exact key_lt (z.wf a ha).1 (z.wf b hb).1 hab
  have hn2 : (Z.map fun r => keyB r.c).Nodup := hsort.imp fun {a b} hab e => by subst e; exact List.lt_irrefl _ hab
  have hn1 := P.KU_of z.ok
  have hp : ((P.tkL (T.row ++ T.elder)).map (·.1)).Perm (Z.map fun r => keyB r.c) := (List.perm_ext_iff_of_nodup hn1 hn2).2 fun k => by
    constructor
    · intro hk'
      obtain ⟨⟨k2, v⟩, hm, rfl⟩ := List.mem_map.1 hk'
      obtain ⟨w, hw, _⟩ := P.tk_val z.ok hm
      obtain ⟨r, hr, e⟩ := z.all k2 w hw
      refine List.mem_map.2 ⟨r, hr, kL_inj ?_⟩
      rw [kL_keyB]; exact e.symm
    · intro hk'
      obtain ⟨r, hr, rfl⟩ := List.mem_map.1 hk'
      have hg := z.get r hr
      refine Classical.byContradiction fun hno => ?_
      have hlt := tk_has z.ok hg
      obtain ⟨p, hp1, hp2⟩ := hlt
      exact hno (List.mem_map.2 ⟨p, hp1, hp2⟩)
  unfold P.allL
  rw [sortT_perm hp, P.sortT_id hsort, List.map_map]
  refine List.map_congr_left fun r hr => ?_
  simp only [Function.comp, z.get r hr, Option.getD_some]
end
theorem st_cel {h : H} {n : Nat} {c d : Cel} {e : TypeId} {K : H → Prop} (b : Blk h n c.cells.toArray e) (k : ∀ h', Blk h' n d.cells.toArray e → Only (· = n) h h' → h'.size = h.size → K h') : stH h ⟨n, 0, none⟩ d.cells K := by
  refine stH_of b (Nat.le_refl 3) fun h' q1 q2 q3 => k h' ?_ q2 q3
  rw [writeA_all (by rfl)] at q1
  exact q1
theorem shut1 {d : Nat} {h : H} {K : H → Prop} (hd : h[d]? = some (.deferred (some []))) (k : ∀ h', Only (· = d) h h' → K h') : shuts [d] h K :=
  ⟨hd, k _ ⟨by simp [put], fun b hb hn => by simp only [put]; rw [Array.getElem?_setIfInBounds_ne (fun e => hn e.symm)]⟩⟩
section
variable {h hL h' h'' : H} {n2 n4 n6 n8 n10 n12 ka ma b : Nat} {r : Sl} {L : List (ByteArray × Option Addr)} {ep most : Int} {fr to : Cel} {rows : List Rw}
end
end Go.Proofs.Ytoccbnhahaoeiaa.V.S
namespace Go.Proofs.Ytoccbnhahaoeiaa.V.S
open Go Go.Proofs.Ytoccbnhahaoeiaa.V
set_option linter.unusedVariables false
set_option linter.unusedSimpArgs false
set_option maxRecDepth 20000
theorem max_of {k : IntKind} {ts : Array TypeId} {t : TypeId} {h : H} {a b : Int} {K : Int → H → Prop} (kk : K (if a < b then b else a) h) : runI PP (Builtin.max_ ts t #[.int k a, .int k b]) h k K := fun w hw =>
  ⟨_, w, rfl, .refl _, _, rfl, by rw [hw]; exact kk⟩
def maxL (L : List Nat) : Nat := L.foldl max 0
theorem w64s {n : Nat} (h : n < 9000000000000000000) : IntKind.wrap .i64 ((n : Int) + 1) = ((n + 1 : Nat) : Int) := by rw [w64 (by omega) (by omega)]; omega
abbrev cN (n : Nat) : List Value := [.int .i64 (n : Int)]
theorem cN_len (n : Nat) : (cN n).length = 1 := rfl
theorem Max_spec {h : H} {s : Sl} {L : List Nat} {Q : Int → H → Prop} (rd : Reads h s 1 (L.flatMap cN)) (hn : L ≠ []) (hl : L.length < 4611686018427387904) (k : Q (maxL L : Int) h) : F.slices_Max_Slint_int s h Q := by
  have hs := rd_len cN_len (by omega) rd
  have hpos := List.length_pos_iff.2 hn
  have at_ : ∀ {i : Nat} {x : Nat} {K : Int → Prop}, L[i]? = some x → K (x : Int) → idxA s (i : Int) 1 fun a => ldI .i64 h a K := fun {i x K} hx kk => by
    obtain ⟨p, p1, p2, p3⟩ := rd_at cN_len (by omega) rd hx
    exact idxR_of (i := i) p1 (by have := (List.getElem?_eq_some_iff.1 hx).1; omega) rfl ((ldI_iff (n := x) p3.one).2 kk)
  unfold F.slices_Max_Slint_int
  rw [hs]
  refine ⟨fun g => by have := of_decide_eq_true g; omega, fun _ => ?_⟩
  unfold F.slices_Max_Slint_int.j1
  obtain ⟨x0, hx0⟩ : ∃ x, L[0]? = some x := ⟨_, List.getElem?_eq_getElem hpos⟩
  refine at_ (i := 0) hx0 ⟨L.length + 1, ?_⟩
  have key : ∀ (d i m : Nat), i ≤ L.length → L.length - i < d → m = maxL (L.take i) → F.slices_Max_Slint_int.l2 Q d s (m : Int) (i : Int) h := by
    intro d
    induction d with
    | zero => intro i m _ hd; omega
    | succ d ih =>
      intro i m hi hd hm
      unfold F.slices_Max_Slint_int.l2
      rw [hs]
      refine ⟨fun g => ?_, fun g => ?_⟩
      · have g := of_decide_eq_true g
        obtain ⟨x, hx⟩ : ∃ x, L[i]? = some x := ⟨_, List.getElem?_eq_getElem (by omega)⟩
        refine at_ hx (max_of ?_)
        rw [w64s (by omega)]
        have hmx : (if (m : Int) < (x : Int) then (x : Int) else (m : Int)) = ((max m x : Nat) : Int) := by split <;> omega
        rw [hmx]
        refine ih (i + 1) (max m x) (by omega) (by omega) ?_
        obtain ⟨h1, h2⟩ := List.getElem?_eq_some_iff.1 hx
        rw [List.take_succ_eq_append_getElem h1, h2]
        unfold maxL at hm ⊢
        rw [List.foldl_append, ← hm]; rfl
      · have : i = L.length := by have := of_decide_eq_false g; omega
        rw [this, List.take_length] at hm
        rw [hm]; exact k
  refine key _ 1 x0 (by omega) (by omega) ?_
  cases L with
  | nil => exact absurd rfl hn
  | cons y r => simp at hx0; subst hx0; simp [maxL]
def lensZ (Z : List Rec) : List Nat := Z.map fun r => r.vs.length
theorem lensZ_len (Z : List Rec) : (lensZ Z).length = Z.length := List.length_map _
def mostS (S : SL) : Nat := maxL (S.map fun x => x.2.length)
structure MI (h hL h' : H) (n2 ka ma b : Nat) (r : Sl) (L : List (ByteArray × Option Addr)) (out : List Nat) : Prop where
  ext : Ext h h'
  sq : P.SeqH h' ka ma b r L
  dfr : h'[hL.size]? = some (.deferred (some []))
  out : ∃ o, Blk h' n2 #[o.enc] tn_Slint ∧ Owns h' o tn_int 1 (out.flatMap cN) ∧ ∀ x, o.blk = some x → hL.size + 2 ≤ x
  sz : hL.size + 1 ≤ h'.size
  lt : n2 < hL.size ∧ (∀ m, SQF ka ma b r m → m < hL.size ∧ m ≠ n2) ∧ h.size ≤ n2
theorem MI.only {h hL h' h'' : H} {n2 ka ma b : Nat} {r : Sl} {L : List (ByteArray × Option Addr)} {out : List Nat} {S : Nat → Prop} (v : MI h hL h' n2 ka ma b r L out) (o : Only S h' h'') (hS : ∀ m, S m → hL.size < m ∧ ∀ o : Sl, Blk h' n2 #[o.enc] tn_Slint → o.blk ≠ some m) : MI h hL h'' n2 ka ma b r L out := by
  obtain ⟨l2, lq, q⟩ := v.lt
  have no : ∀ m, m ≤ hL.size → ¬ S m := fun m hm h => by have := (hS m h).1; omega
  obtain ⟨ou, o1, o2, o3⟩ := v.out
  exact ⟨v.ext.step o fun m hm => no m (by omega), v.sq.only o fun m hm => no m (by have := (lq m hm).1; omega), o.block v.dfr (no _ (by omega)),
    ⟨ou, o.block o1 (no _ (by omega)), o2.only o fun m hm hs => (hS m hs).2 ou o1 hm, o3⟩, by have := o.size; have := v.sz; omega, v.lt⟩
theorem Most_spec {h : H} {n : Nat} {S : SL} {slots : Nat} {R : Nat → Prop} {Q : Int → H → Prop} (s : SH h n S slots R) (k : ∀ h', Ext h h' → Q (mostS S : Int) h') : F.shard_Shard_Most (some ⟨n, 0, none⟩) h Q := by
  obtain ⟨tn, rs, es, T, Z, rfl, z⟩ := s
  unfold F.shard_Shard_Most
  refine new_of fun n2 h1 hn2 b2 e1 s1 => ?_
  have z1 := z.ext e1
  simp only [nn_some, add_lit, Nat.zero_add, Nat.add_zero]
  rw [ldP_iff z1.cs3]
  have hcnt := z.count
  have hzl := z.len
  refine P.All_spec z1.th z1.ok (by omega) fun hL ka ma b r sq eL hmine _ => ?_
  rw [all_eq z1] at sq
  have hLs := eL.size
  have hmost : mostS (toS Z) = maxL (lensZ Z) := by unfold mostS toS lensZ; rw [List.map_map]; rfl
  refine P.range_seq (I := fun i h' => MI h hL h' n2 ka ma b r (keysZ Z) (lensZ (Z.take i))) (E := fun j h' => False)
    (fun i h' h'' v o => v.only o fun m hm => ⟨by omega, fun ou hou hb => ?_⟩) (fun j h' h'' v o => v) (fun i h' v => v.sq) ?_ ?_ (fun h' v => ?_) (fun j h' v => v.elim)
  · obtain ⟨o', o1, o2, o3⟩ := v.out
    have heq := o1.symm.trans hou
    have : o' = ou := enc_inj.1 (by simpa using heq)
    subst this
    have := o3 m hb; omega
  · have ep0 : Ext hL (hL.push (.deferred (some []))) := .push _ _
    refine ⟨(e1.trans eL).trans ep0, sq.only ep0 fun m hm f => f, by simp, ⟨_, ep0.block (eL.block b2 fun f => f) fun f => f, by simpa [lensZ] using Owns.nil _ tn_int 1, fun x hx => by simp [Sl.blk] at hx⟩, by simp, ?_⟩
    exact ⟨by omega, fun m hm => ⟨sq.lt m hm, by have := hmine m hm; omega⟩, by omega⟩
  · intro X i x h5 K J hX v hx hxi kK kJ
    unfold keysZ at hxi
    rw [List.getElem?_map] at hxi
    obtain ⟨q, hq, rfl⟩ : ∃ q, Z[i]? = some q ∧ x = (keyB q.c, some ⟨q.p, 0, none⟩) := by
      cases hy : Z[i]? with
      | none => rw [hy] at hxi; cases hxi
      | some q => rw [hy] at hxi; cases hxi; exact ⟨q, rfl, rfl⟩
    have hqz : q ∈ Z := List.mem_of_getElem? hq
    obtain ⟨o, o1, o2, o3⟩ := v.out
    have hlo := own_len cN_len (by omega) o2
    rw [lensZ_len, List.length_take] at hlo
    have zq := z.ext v.ext
    have c5 : cellH h5 ⟨n2, 0, none⟩ = some o.enc := Blk.cell (i := 0) o1 rfl
    refine ldL_of c5 (C.Len_spec (zq.ch q hqz) ⟨c5, ?_⟩)
    refine newL_of fun n14 h14 hn14 b14 e14 s14 => ⟨e14.cell c5 fun f => f, ?_⟩
    have hi : i < Z.length := (List.getElem?_eq_some_iff.1 hq).1
    refine app_list (L := lensZ (Z.take i)) (M := [q.vs.length]) cN_len (by omega) el_Slint (o2.ext e14) (blk_reads b14 rfl) (fun x => one1 rfl) (by simp only [List.length_singleton, lensZ_len, List.length_take]; omega) fun r15 h15 w15 o15 n15 => ?_
    have x14 : Blk h14 n2 #[o.enc] tn_Slint := e14.block o1 fun f => f
    obtain ⟨l2, lq, ld⟩ := v.lt
    have lts := v.lt
    have hob : o.blk ≠ some n2 := fun e => by have := o3 _ e; omega
    have x15 : Blk h15 n2 #[o.enc] tn_Slint := o15.block x14 hob
    have hh5 : hL.size + 1 < h5.size := (Array.getElem?_eq_some_iff.1 hx).1
    refine stH_of x15 (by simp) fun h16 b16 o16 s16 => ?_
    have r15n : ∀ y, r15.blk = some y → hL.size + 2 ≤ y := fun y hy => by
      rcases n15 with n15 | ⟨y', n15, n16⟩
      · exact o3 y (by rw [← n15]; exact hy)
      · rw [n15] at hy; cases hy
        have := e14.size; omega
    have v14 : MI h hL h14 n2 ka ma b r (keysZ Z) (lensZ (Z.take i)) := v.only e14 fun _ f => f.elim
    have no : ∀ m, m ≤ hL.size + 1 → ¬ (o.blk = some m) := fun m hm e => by have := o3 m e; omega
    have o14 : Only (fun m => o.blk = some m ∨ m = n2) h14 h16 := (o15.mono fun _ _ e => .inl e).trans o16 fun _ _ e => .inr e
    refine kK h16 ⟨v14.ext.step o14 fun m hm e => ?_, v14.sq.only o14 fun m hm e => ?_, o14.block v14.dfr fun e => ?_, ⟨r15, b16, ?_, r15n⟩, ?_, lts⟩ (o14.block (e14.block hx fun f => f) fun e => ?_)
    · rcases e with e | e
      · have := o3 m e; have := (e1.trans eL).size; omega
      · omega
    · rcases e with e | e
      · have := o3 m e; have := (lq m hm).1; omega
      · exact (lq m hm).2 e
    · rcases e with e | e
      · exact no _ (by omega) e
      · omega
    · have hsn : lensZ (Z.take (i + 1)) = lensZ (Z.take i) ++ [q.vs.length] := by
        unfold lensZ
        obtain ⟨h1, h2⟩ := List.getElem?_eq_some_iff.1 hq
        rw [List.take_succ_eq_append_getElem h1, h2, List.map_append]; rfl
      rw [hsn]
      exact w15.only o16 fun m hm e => by have := r15n m hm; omega
    · have := o14.size; have := v14.sz; omega
    · rcases e with e | e
      · exact no _ (Nat.le_refl _) e
      · omega
  · obtain ⟨o, o1, o2, o3⟩ := v.out
    rw [keysZ_len, List.take_length] at o2
    have hlo := own_len cN_len (by omega) o2
    rw [lensZ_len] at hlo
    have c5 : cellH h' ⟨n2, 0, none⟩ = some o.enc := Blk.cell (i := 0) o1 rfl
    have hle : h.size ≤ hL.size := (e1.trans eL).size
    refine ldL_of c5 ⟨fun g => ?_, fun g => ldL_of c5 ?_⟩
    · have hz : Z = [] := List.eq_nil_of_length_eq_zero (by have : (o.len : Int) = 0 := by simpa using g
                                                            omega)
      refine shut1 v.dfr fun h9 o9 => ?_
      have := k h9 (v.ext.step o9 fun m hm e => by omega)
      rw [hmost, hz] at this; exact this
    · have hz : Z ≠ [] := fun e => by rw [e] at hlo; simp [hlo] at g
      refine Max_spec o2.reads (by simpa [lensZ] using hz) (by rw [lensZ_len]; omega) (shut1 v.dfr fun h9 o9 => ?_)
      have := k h9 (v.ext.step o9 fun m hm e => by omega)
      rw [hmost] at this; exact this
end Go.Proofs.Ytoccbnhahaoeiaa.V.S
namespace Go.Proofs.Ytoccbnhahaoeiaa.V.S
open Go Go.Proofs.Ytoccbnhahaoeiaa.V
set_option linter.unusedVariables false
set_option linter.unusedSimpArgs false
set_option maxRecDepth 20000
section
variable {W : List Ver → Prop} {h h' : H} {n tn : Nat} {rs es : Sl} {T : Tb (Option Addr)} {Z : List Rec} {slots : Nat} {R : Nat → Prop} {u t : Int}
theorem not_sh {h : H} {m : Nat} {c : Array Value} {e : TypeId} (b : Blk h m c e) (he : ¬ ShE e) : ¬ ShTy h m := fun ⟨e', h1, c', h2⟩ => he (by
  have := b.symm.trans h2
  simp at this
  rw [this.2]; exact h1)
/-- A cell that is left out of the table. -/
theorem SZG.drop (z : SZG W h n tn rs es T Z slots R u t) {c : Cel} (hc : okC c = 0) {T' : Tb (Option Addr)} {rs' es' : Sl} (th : P.TH h' tn rs' es' T') (ok : TOk T') (stp : Stp h tn rs es h' rs' es') (hget : ∀ k, getM T' k = if kL k = kL (keyB c) then none else getM T k) (hrl : T'.row.length ≤ 4200000) (hR : ∀ b, h.size ≤ b → R b) :
    SZG W h' n tn rs' es' T' (Z.filter fun r => decide (cmpC r.c c ≠ 0)) slots R u t ∧ SOnly R h h' := by
  have hsub : (Z.filter fun r => decide (cmpC r.c c ≠ 0)).Sublist Z := List.filter_sublist
  have hmem : ∀ {r : Rec}, r ∈ (Z.filter fun r => decide (cmpC r.c c ≠ 0)) ↔ r ∈ Z ∧ cmpC r.c c ≠ 0 := fun {r} => by rw [List.mem_filter]; simp
  have hreg : ∀ b, FT tn rs' es' b → R b := fun b hb => by
    rcases stp.new b hb with e | e
    · rcases e with e | e | e
      · subst e; exact z.rt
      · exact z.rr b e
      · exact z.re b e
    · exact hR b e
  have hus : ∀ (Y : List Rec), unitsS (toS (Y.filter fun r => decide (cmpC r.c c ≠ 0))) ≤ unitsS (toS Y) := fun Y => by
    induction Y with
    | nil => exact Nat.le_refl _
    | cons x r ih =>
      unfold unitsS toS at ih ⊢
      rw [List.filter_cons]
      split
      · simp only [List.map_cons, List.sum_cons]; omega
      · simp only [List.map_cons, List.sum_cons]; omega
  refine ⟨{ sb := stp.only.block z.sb fun e => z.n_ft e rfl, th := th, ok := ok, ch := fun r hr => ?_, get := fun r hr => ?_, all := fun k v hk => ?_, srt := z.srt.sublist hsub, pd := z.pd.sublist hsub, bd := z.bd.sublist hsub, wf := fun r hr => z.wf r (hmem.1 hr).1, us := Nat.le_trans (hus Z) z.us, sl := z.sl, rl := hrl, rn := z.rn, rt := z.rt, rr := fun b hb => hreg b (.inr (.inl hb)), re := fun b hb => hreg b (.inr (.inr hb)), rp := fun r hr => z.rp r (hmem.1 hr).1 }, ?_⟩
  · have hr' := (hmem.1 hr).1
    exact (z.ch r hr').only stp.only (fun e => (z.ch_ft hr' e).1 rfl) fun b hb e => (z.ch_ft hr' e).2 hb
  · obtain ⟨h1, h2⟩ := hmem.1 hr
    rw [hget, if_neg]
    · exact z.get r h1
    · intro he
      rw [kL_keyB, kL_keyB] at he
      exact h2 (cC_zero.2 (key_inj (z.wf r h1).1 hc he))
  · rw [hget] at hk
    split at hk
    · cases hk
    · rename_i hne
      obtain ⟨r, hr, e⟩ := z.all k v hk
      refine ⟨r, hmem.2 ⟨hr, fun h0 => hne ?_⟩, e⟩
      rw [e, cC_zero.1 h0, kL_keyB]
  · exact stp.only.mono fun b _ e => by
      obtain ⟨ty, q1, q2⟩ := ft_ty z.th e
      refine ⟨?_, ty, ?_, q1⟩
      · rcases e with e | e | e
        · subst e; exact z.rt
        · exact z.rr b e
        · exact z.re b e
      · rcases q2 with rfl | rfl
        · exact .inr (.inl rfl)
        · exact .inr (.inr (.inl rfl))
end
end Go.Proofs.Ytoccbnhahaoeiaa.V.S
namespace Go.Proofs.Ytoccbnhahaoeiaa.V.S
open Go Go.Proofs.Ytoccbnhahaoeiaa.V
set_option linter.unusedVariables false
set_option linter.unusedSimpArgs false
set_option maxRecDepth 20000
section
variable {W W' : List Ver → Prop} {h h' : H} {n tn : Nat} {rs es : Sl} {T : Tb (Option Addr)} {Z : List Rec} {slots : Nat} {R R' : Nat → Prop} {u t : Int}
theorem SZG.turn (z : SZG W h n tn rs es T Z slots R u t) (hw : ∀ r ∈ Z, W r.vs → W' r.vs) (hr : ∀ b, b < h.size → R b → R' b) : SZG W' h n tn rs es T Z slots R' u t := by
  obtain ⟨l1, l2, l3⟩ := z.f_lt
  exact { z with wf := fun r hr => ⟨(z.wf r hr).1, hw r hr (z.wf r hr).2⟩, rn := hr _ l1 z.rn, rt := hr _ (l2 _ (.inl rfl)) z.rt, rr := fun b hb => hr _ (l2 _ (.inr (.inl hb))) (z.rr b hb), re := fun b hb => hr _ (l2 _ (.inr (.inr hb))) (z.re b hb), rp := fun r hm => ⟨hr _ (l3 r hm).1 (z.rp r hm).1, fun x hx => hr _ ((l3 r hm).2 x hx) ((z.rp r hm).2 x hx)⟩ }
end
end Go.Proofs.Ytoccbnhahaoeiaa.V.S
namespace Go.Proofs.Ytoccbnhahaoeiaa.V.S
open Go Go.Proofs.Ytoccbnhahaoeiaa.V
set_option linter.unusedVariables false
set_option linter.unusedSimpArgs false
set_option maxRecDepth 20000
abbrev oneA (v : Int) : S_api_Agg := ⟨1, v, v, v⟩
theorem one_spec {h : H} {v : Int} {Q : S_api_Agg → H → Prop} (k : ∀ h', Ext h h' → Q (oneA v) h') : F.spatelaw7_one v h Q := by
  unfold F.spatelaw7_one
  refine new_of fun m h1 hm b1 e1 s1 => ?_
  have b1' : Blk h1 m zA.cells.toArray tn_api_Agg := b1
  exact C.st_agg b1' (d := oneA v) fun h2 b2 o2 s2 => ⟨_, b2.cells, k h2 (e1.step o2 fun x hx hb => by omega)⟩
theorem right_one (a b c : Int) : RightIs ⟨1, a, b, c⟩ (decide (b = a ∧ c = a)) := fun h Q k => by
  unfold F.agg_Right
  refine new_of fun m h1 hm b1 e1 s1 => ?_
  have c0 : cellH h1 ⟨m, 0, none⟩ = some (.int .i64 1) := Blk.cells b1 0 _ rfl
  have c1 : cellH h1 ⟨m, 1, none⟩ = some (.int .i64 a) := Blk.cells b1 1 _ rfl
  have c2 : cellH h1 ⟨m, 2, none⟩ = some (.int .i64 b) := Blk.cells b1 2 _ rfl
  have c3 : cellH h1 ⟨m, 3, none⟩ = some (.int .i64 c) := Blk.cells b1 3 _ rfl
  simp only [add_lit, Nat.zero_add, Nat.add_zero]
  rw [ldI_iff c0]
  refine ⟨fun g => by have := of_decide_eq_true g; omega, fun _ => ?_⟩
  rw [ldI_iff c0]
  refine ⟨fun _ => ?_, fun g => by simp at g⟩
  rw [ldI_iff c2, ldI_iff c1]
  have k := k h1 e1
  refine ⟨fun g => ?_, fun g => ?_⟩
  · have g : b = a := by simpa using g
    rw [ldI_iff c3, ldI_iff c1]
    have : decide (b = a ∧ c = a) = (c == a) := by
      by_cases h : c = a <;> simp [g, h]
    rw [this] at k; exact k
  · have g : ¬ b = a := by simpa using g
    have : decide (b = a ∧ c = a) = false := by simp [g]
    rw [this] at k; exact k
theorem right_one' (v : Int) : RightIs (oneA v) true := by
  have := right_one v v v
  simpa using this
theorem agg_eq {a b : S_api_Agg} : ((a.Count == b.Count) && ((a.Sum == b.Sum) && ((a.Min == b.Min) && ((a.Max == b.Max) && true)))) = true ↔ a = b := by
  obtain ⟨a1, a2, a3, a4⟩ := a
  obtain ⟨b1, b2, b3, b4⟩ := b
  simp [and_assoc]
abbrev cA : Cel := ⟨0, ⟨#[97]⟩, 0⟩
theorem head_spec {h : H} {Q : Bool → H → Prop} (k : ∀ h', Ext h h' → Q true h') : F.spatelaw7_head h Q := by
  unfold F.spatelaw7_head
  refine New_spec (R := fun b => h.size ≤ b) (fun g => by omega) (fun b hb => hb) fun _ _ h1 n sh e1 hn => ⟨fun g => by simp at g, fun _ => ?_⟩
  unfold F.spatelaw7_head.j2
  refine ⟨fun g => by simp at g, fun _ => ?_⟩
  unfold F.spatelaw7_head.j1
  refine new_of fun m h4 hm b4 e4 s4 => ?_
  have b4' : Blk h4 m zeroC.cells.toArray tn_api_Cell := b4
  refine st_cel b4' (d := cA) fun h6 b6 o6 s6 => ⟨cA, b6.cells, ?_⟩
  have e16 : Ext h1 h6 := e4.step o6 fun x hx hb => by omega
  refine one_spec fun h9 e9 => ⟨(Blk.cells b6).ext e9, ?_⟩
  have sh9 := (sh.ext e16).ext e9
  have e09 : Ext h h9 := (e1.trans e16).trans e9
  have hR : ∀ {hh : H}, Ext h hh → ∀ b, hh.size ≤ b → h.size ≤ b := fun e b hb => by have := e.size; omega
  have b9 : Blk h9 m cA.cells.toArray tn_api_Cell := e9.block b6 fun f => f
  have mty : ¬ ShE tn_api_Cell := by unfold ShE; decide
  have keep : ∀ {a b : H}, SOnly (fun x => h.size ≤ x) a b → Blk a m cA.cells.toArray tn_api_Cell → Blk b m cA.cells.toArray tn_api_Cell := fun o hb => o.block hb fun ⟨_, e, h1, c, h2⟩ => mty (by
    have := hb.symm.trans h2
    simp at this
    rw [this.2]; exact h1)
  refine Put_spec (x := ⟨cA, oneA 5⟩) sh9 (right_one' 5) (hR e09) (fun g => absurd (by decide) g) fun _ h12 sh12 o12 => ?_
  have e012 : Ext h h12 := o12.base e09 fun b hb => hb
  have b12 := keep o12 b9
  refine ⟨cA, b12.cells, one_spec fun h16 e16' => ⟨(Blk.cells b12).ext e16', ?_⟩⟩
  have e016 := e012.trans e16'
  refine Put_spec (x := ⟨cA, oneA 6⟩) (sh12.ext e16') (right_one' 6) (hR e016) (fun g => absurd (by decide) g) fun _ h19 sh19 o19 => ?_
  have e019 : Ext h h19 := o19.base e016 fun b hb => hb
  have b19 := keep o19 (e16'.block b12 fun f => f)
  refine ⟨fun _ => ⟨fun _ => ?_, fun g => by simp at g⟩, fun g => by simp at g⟩
  simp only [nn_some, add_lit, Nat.zero_add, Nat.add_zero]
  refine Units_spec sh19 ⟨fun _ => ?_, fun g => absurd (show ((unitsS (putS (putS [] 1 cA (oneA 5)) 2 cA (oneA 6)) : Int) == 3) = true from by decide) (by rw [g]; decide)⟩
  refine Cells_spec sh19 ⟨fun _ => ?_, fun g => absurd (show ((thereS (putS (putS [] 1 cA (oneA 5)) 2 cA (oneA 6)) : Int) == 1) = true from by decide) (by rw [g]; decide)⟩
  refine Most_spec sh19 fun h33 e33 => ⟨fun _ => ?_, fun g => absurd (show ((mostS (putS (putS [] 1 cA (oneA 5)) 2 cA (oneA 6)) : Int) == 2) = true from by decide) (by rw [g]; decide)⟩
  refine ⟨cA, (Blk.cells b19).ext e33, Get_spec (sh19.ext e33) fun h38 e38 => one_spec fun h40 e40 => ?_⟩
  have e3340 := e38.trans e40
  refine ⟨fun _ => ?_, fun g => absurd (agg_eq.2 (show atS (putS (putS [] 1 cA (oneA 5)) 2 cA (oneA 6)) cA 0 = oneA 6 from rfl)) (by rw [g]; decide)⟩
  refine ⟨cA, (Blk.cells b19).ext (e33.trans e3340), At_spec (sh19.ext (e33.trans e3340)) fun h45 e45 => one_spec fun h47 e47 => ?_⟩
  have hat : atS (putS (putS [] 1 cA (oneA 5)) 2 cA (oneA 6)) cA 1 = oneA 5 := rfl
  rw [agg_eq.2 hat]
  exact k h47 ((e019.trans e33).trans (e3340.trans (e45.trans e47)))
end Go.Proofs.Ytoccbnhahaoeiaa.V.S
namespace Go.Proofs.Ytoccbnhahaoeiaa.V.S
open Go Go.Proofs.Ytoccbnhahaoeiaa.V
set_option linter.unusedVariables false
set_option linter.unusedSimpArgs false
set_option maxRecDepth 20000
/-- A number brought to 0 .. m - 1. -/
theorem key_some {t : ByteArray} (h : 1 ≤ t.size) : t.data.toList ≠ [] := fun e => by
  have := size_data (s := t)
  rw [e] at this
  simp only [List.length_nil] at this
  omega
def withinM (a m : Int) : Int := if Int.tmod a m < 0 then Int.tmod a m + m else Int.tmod a m
theorem within_range {a m : Int} (h : 0 < m) : 0 ≤ withinM a m ∧ withinM a m < m := by
  have h1 := Int.tmod_lt_of_pos a h
  have h2 : -m < Int.tmod a m := by
    have := Int.tmod_lt_of_pos (-a) h
    rw [Int.neg_tmod] at this
    omega
  unfold withinM
  split <;> omega
theorem within_spec {a m : Int} {h : H} {Q : Int → H → Prop} (h0 : 0 < m) (h1 : m < 4611686018427387904) (k : Q (withinM a m) h) : F.spatelaw7_within a m h Q := by
  have hr := Int.tmod_lt_of_pos a h0
  have h2 : -m < Int.tmod a m := by
    have := Int.tmod_lt_of_pos (-a) h0
    rw [Int.neg_tmod] at this
    omega
  unfold F.spatelaw7_within F.spatelaw7_within.j1
  unfold withinM at k
  refine ⟨by omega, fun g => ?_, fun g => ?_⟩
  · have g := of_decide_eq_true g
    rw [if_pos g] at k
    rw [w64 (by omega) (by omega)]; exact k
  · have g := of_decide_eq_false g
    rw [if_neg g] at k; exact k
def fewKey (k : ByteArray) : ByteArray := match k.data.toList with
  | [] => ⟨#[107]⟩
  | b :: _ => ⟨#[UInt8.ofNat (97 + b.toNat % 4)]⟩
def fewC (c : Cel) : Cel := ⟨withinM c.View 2, fewKey c.Key, Int.tmod c.Start 3⟩
theorem few_ok (c : Cel) : okC (fewC c) = 0 := by
  have h1 := within_range (a := c.View) (m := 2) (by omega)
  have h2 : (fewKey c.Key).size = 1 := by
    unfold fewKey
    split <;> rfl
  have h3 := Int.tmod_lt_of_pos c.Start (b := 3) (by omega)
  have h4 : -3 < Int.tmod c.Start 3 := by
    have := Int.tmod_lt_of_pos (-c.Start) (b := 3) (by omega)
    rw [Int.neg_tmod] at this
    omega
  unfold okC fewC
  simp only
  rw [if_neg (by omega), if_neg (by omega), if_neg (by omega)]
theorem few_spec {h : H} {c : Cel} {Q : S_api_Cell → H → Prop} (k : ∀ h', Ext h h' → Q (fewC c) h') : F.spatelaw7_few c h Q := by
  unfold F.spatelaw7_few
  refine new_of fun n h1 hn b1 e1 s1 => new_of fun n3 h3 hn3 b3 e3 s3 => ?_
  have b3' : Blk h3 n3 zeroC.cells.toArray tn_api_Cell := b3
  have c0 : ∀ {hh : H}, Ext h3 hh → cellH hh ⟨n, 0, none⟩ = some (.int .i64 c.View) := fun e => (e3.trans e).cell (Blk.cells b1 0 _ rfl) fun f => f
  have c1 : ∀ {hh : H}, Ext h3 hh → cellH hh ⟨n, 1, none⟩ = some (.string c.Key) := fun e => (e3.trans e).cell (Blk.cells b1 1 _ rfl) fun f => f
  have c2 : ∀ {hh : H}, Ext h3 hh → cellH hh ⟨n, 2, none⟩ = some (.int .i64 c.Start) := fun e => (e3.trans e).cell (Blk.cells b1 2 _ rfl) fun f => f
  have j1 : ∀ (key : ByteArray) (hh : H), Ext h3 hh → key = fewKey c.Key → F.spatelaw7_few.j1 Q ⟨n, 0, none⟩ ⟨n3, 0, none⟩ key hh := fun key hh e hk => by
    unfold F.spatelaw7_few.j1
    simp only [add_lit, Nat.zero_add, Nat.add_zero]
    refine ldI_of (c0 e) (ldI_of (c2 e) ⟨by omega, within_spec (by omega) (by omega) ⟨c2 e, ?_⟩⟩)
    have b3e : Blk hh n3 zeroC.cells.toArray tn_api_Cell := e.block b3' fun f => f
    refine st_cel b3e (d := ⟨withinM c.View 2, key, Int.tmod c.Start 3⟩) fun h5 b5 o5 s5 => ⟨_, b5.cells, ?_⟩
    rw [hk]
    exact k h5 (((e1.trans e3).trans e).step o5 fun x hx hb => by omega)
  simp only [add_lit, Nat.zero_add, Nat.add_zero]
  rw [ldS_iff (c1 (.refl _))]
  refine ⟨fun g => ldS_of (c1 (.refl _)) ?_, fun g => j1 _ h3 (.refl _) ?_⟩
  · have g := of_decide_eq_true g
    obtain ⟨b, r, hbr⟩ : ∃ b r, c.Key.data.toList = b :: r := by
      cases hl : c.Key.data.toList with
      | nil => exact absurd hl (key_some (by omega))
      | cons b r => exact ⟨b, r, rfl⟩
    refine idxS_of (i := 0) (b := b) (by rw [hbr]; rfl) rfl ⟨by omega, ?_⟩
    have hbt := b.toNat_lt
    have hb : IntKind.wrap .u8 (97 + Int.tmod ((b.toNat : Nat) : Int) 4) = (((UInt8.ofNat (97 + b.toNat % 4)).toNat : Nat) : Int) := by
      rw [wrap_u8, Int.tmod_eq_emod_of_nonneg (by omega)]
      simp
    rw [hb]
    refine newL_of fun n5 h5 hn5 b5 e5 s5 => ?_
    have rd : Reads h5 ⟨some ⟨n5, 0, none⟩, 1, 1⟩ 1 ([UInt8.ofNat (97 + b.toNat % 4)].flatMap cU) := blk_reads b5 rfl
    refine cvtT_of (l := [UInt8.ofNat (97 + b.toNat % 4)]) el_Sluint8.slice Try.underlying5 Try.underlying9 rd ?_
    exact j1 _ h5 e5 (by unfold fewKey; rw [hbr])
  · have g := of_decide_eq_false g
    unfold fewKey
    cases hl : c.Key.data.toList with
    | nil => rfl
    | cons b r => have e2 := size_data (s := c.Key); rw [hl] at e2; simp only [List.length_cons] at e2; omega
theorem tk_snoc {α : Type} {L : List α} {i : Nat} {x : α} (h : L[i]? = some x) : L.take (i + 1) = L.take i ++ [x] := by
  obtain ⟨h1, h2⟩ := List.getElem?_eq_some_iff.1 h
  rw [List.take_succ_eq_append_getElem h1, h2]
end Go.Proofs.Ytoccbnhahaoeiaa.V.S
namespace Go.Proofs.Ytoccbnhahaoeiaa.V.S
open Go Go.Proofs.Ytoccbnhahaoeiaa.V
set_option linter.unusedVariables false
set_option linter.unusedSimpArgs false
set_option maxRecDepth 20000
theorem cel_sh : ¬ ShE tn_api_Cell := by unfold ShE; decide
theorem SOnly.blk {R : Nat → Prop} {a b : H} {m : Nat} {cs : Array Value} {e : TypeId} (o : SOnly R a b) (hb : Blk a m cs e) (he : ¬ ShE e) : Blk b m cs e := o.block hb fun ⟨_, e', h1, c, h2⟩ => he (by
  have := hb.symm.trans h2
  simp at this
  rw [this.2]; exact h1)
end Go.Proofs.Ytoccbnhahaoeiaa.V.S
namespace Go.Proofs.Ytoccbnhahaoeiaa.V.S
open Go Go.Proofs.Ytoccbnhahaoeiaa.V
set_option linter.unusedVariables false
set_option linter.unusedSimpArgs false
set_option maxRecDepth 20000
theorem sh32 (a : Nat) : Int.fdiv (a : Int) (2 ^ (min (32 : Int).toNat (IntKind.bits .u64)) : Int) = ((a / 4294967296 : Nat) : Int) := by
  have : (2 ^ (min (32 : Int).toNat (IntKind.bits .u64)) : Int) = ((4294967296 : Nat) : Int) := by decide
  rw [this, Int.fdiv_eq_ediv_of_nonneg _ (by omega)]; rfl
theorem and32 {a : Nat} (h : a < 18446744073709551616) : bitsOf .and .u64 (a : Int) 4294967295 = ((a % 4294967296 : Nat) : Int) := by
  unfold bitsOf
  simp only
  have h1 : (BitVec.ofInt (IntKind.bits .u64) (a : Int)).toNat = a := by
    show (BitVec.ofInt 64 (a : Int)).toNat = a
    rw [BitVec.toNat_ofInt]; omega
  have h2 : (BitVec.ofInt (IntKind.bits .u64) (4294967295 : Int)).toNat = 4294967295 := by decide
  rw [BitVec.toNat_and, h1, h2, show (4294967295 : Nat) = 2 ^ 32 - 1 from rfl, Nat.and_two_pow_sub_one_eq_mod, wrap_u64]
  omega
theorem wU {n : Nat} (h : n < 18446744073709551616) : IntKind.wrap .u64 (n : Int) = (n : Int) := by rw [wrap_u64]; omega
theorem mul_hi {a b x1 x0 y1 y0 : Nat} (ha : a = x1 * 4294967296 + x0) (hb : b = y1 * 4294967296 + y0) (h1 : x1 < 4294967296) (h2 : x0 < 4294967296) (h3 : y1 < 4294967296) (h4 : y0 < 4294967296) :
    x1 * y1 ≤ 18446744065119617025 ∧ x1 * y0 ≤ 18446744065119617025 ∧ x0 * y1 ≤ 18446744065119617025 ∧ x0 * y0 ≤ 18446744065119617025 ∧ a * b = (x1 * y1) * 18446744073709551616 + (x1 * y0 + x0 * y1) * 4294967296 + x0 * y0 := by
  have m : ∀ {p q : Nat}, p < 4294967296 → q < 4294967296 → p * q ≤ 18446744065119617025 := fun {p q} hp hq => Nat.mul_le_mul (show p ≤ 4294967295 by omega) (show q ≤ 4294967295 by omega)
  refine ⟨m h1 h3, m h1 h4, m h2 h3, m h2 h4, ?_⟩
  subst ha; subst hb
  grind
theorem Mul64_spec {a b : Nat} {h : H} {Q : Int → Int → H → Prop} (ha : a < 18446744073709551616) (hb : b < 18446744073709551616) (k : Q ((a * b / 18446744073709551616 : Nat) : Int) ((a * b % 18446744073709551616 : Nat) : Int) h) : F.math_bits_Mul64 (a : Int) (b : Int) h Q := by
  unfold F.math_bits_Mul64
  refine ⟨by omega, by omega, by omega, by omega, by omega, ?_⟩
  rw [and32 ha, and32 hb, sh32, sh32]
  obtain ⟨p1, p2, p3, p4, p5⟩ := mul_hi (a := a) (b := b) (x1 := a / 4294967296) (x0 := a % 4294967296) (y1 := b / 4294967296) (y0 := b % 4294967296) (by omega) (by omega) (by omega) (by omega) (by omega) (by omega)
  have c : ∀ p q : Nat, (p : Int) * (q : Int) = ((p * q : Nat) : Int) := fun p q => (Int.natCast_mul p q).symm
  rw [c, c, c, c, c]
  generalize a / 4294967296 * (b / 4294967296) = P11 at *
  generalize a / 4294967296 * (b % 4294967296) = P10 at *
  generalize a % 4294967296 * (b / 4294967296) = P01 at *
  generalize a % 4294967296 * (b % 4294967296) = P00 at *
  generalize a * b = M at *
  rw [wU (n := P11) (by omega), wU (n := P10) (by omega), wU (n := P01) (by omega), wU (n := P00) (by omega), sh32]
  have d : ∀ p q : Nat, (p : Int) + (q : Int) = ((p + q : Nat) : Int) := fun p q => (Int.natCast_add p q).symm
  rw [d, wU (n := P10 + P00 / 4294967296) (by omega), and32 (by omega), sh32, d, d, wU (n := (P10 + P00 / 4294967296) % 4294967296 + P01) (by omega), wU (n := P11 + (P10 + P00 / 4294967296) / 4294967296) (by omega), sh32, d, wU (by omega)]
  have e1 : P11 + (P10 + P00 / 4294967296) / 4294967296 + ((P10 + P00 / 4294967296) % 4294967296 + P01) / 4294967296 = M / 18446744073709551616 := by omega
  have e2 : IntKind.wrap .u64 (M : Int) = ((M % 18446744073709551616 : Nat) : Int) := by rw [wrap_u64]; omega
  rw [e1, e2]
  exact k
/-- A number of 128 bits. -/
def WD (x : Int) : S_agg_wide := ⟨x / 18446744073709551616, x % 18446744073709551616⟩
theorem wrap_i64e {x : Int} (h0 : -9223372036854775808 ≤ x) (h1 : x < 9223372036854775808) : IntKind.wrap .i64 (IntKind.wrap .u64 x) = x := by
  rw [wrap_u64]
  have : IntKind.wrap .i64 (x % 18446744073709551616) = x := by
    unfold IntKind.wrap
    simp [IntKind.bits, IntKind.signed]
    split <;> omega
  exact this
theorem product_spec {n : Nat} {v : Int} {h : H} {Q : S_agg_wide → H → Prop} (hn : n < 9223372036854775808) (h0 : -9223372036854775808 ≤ v) (h1 : v < 9223372036854775808) (k : ∀ h', Ext h h' → Q (WD ((n : Int) * v)) h') : F.agg_product (n : Int) v h Q := by
  unfold F.agg_product
  refine new_of fun m h1' hm b1 e1 s1 => ?_
  have b1' : Blk h1' m (⟨0, 0⟩ : S_agg_wide).cells.toArray ty_111 := b1
  obtain ⟨w, hw, hw2⟩ : ∃ w : Nat, IntKind.wrap .u64 v = (w : Int) ∧ w < 18446744073709551616 := ⟨(IntKind.wrap .u64 v).toNat, by rw [wrap_u64]; omega, by rw [wrap_u64]; omega⟩
  have hwv : (w : Int) = if v < 0 then v + 18446744073709551616 else v := by
    rw [← hw, wrap_u64]; split <;> omega
  rw [hw, wU (n := n) (by omega)]
  refine Mul64_spec (by omega) hw2 ?_
  have hj : ∀ hi lo : Int, IntKind.wrap .i64 hi = (WD ((n : Int) * v)).hi → lo = (WD ((n : Int) * v)).lo → F.agg_product.j1 Q ⟨m, 0, none⟩ hi lo h1' := fun hi lo e2 e3 => by
    unfold F.agg_product.j1
    rw [e2, e3]
    refine stH_of b1' (by simp [S_agg_wide.cells]) fun h2 b2 o2 s2 => ⟨WD ((n : Int) * v), Blk.cells b2, k h2 (e1.step o2 fun x hx hb => by omega)⟩
  have hprod : ((n * w : Nat) : Int) = if v < 0 then (n : Int) * v + (n : Int) * 18446744073709551616 else (n : Int) * v := by
    rw [Int.natCast_mul, hwv]
    split
    · rw [Int.mul_add]
    · rfl
  have hb1 : (n : Int) * v ≤ 9223372036854775808 * 9223372036854775808 := by
    rcases Int.lt_or_le v 0 with g | g
    · have := Int.mul_nonneg_of_nonpos_of_nonpos (a := -(n : Int)) (b := v) (by omega) (by omega)
      rw [Int.neg_mul] at this; omega
    · exact Int.mul_le_mul (by omega) (by omega) g (by omega)
  have hb2 : -(9223372036854775808 * 9223372036854775808) ≤ (n : Int) * v := by
    rcases Int.lt_or_le v 0 with g | g
    · have h9 : (n : Int) * (-v) ≤ 9223372036854775808 * 9223372036854775808 := Int.mul_le_mul (by omega) (by omega) (by omega) (by omega)
      rw [Int.mul_neg] at h9; omega
    · have := Int.mul_nonneg (a := (n : Int)) (b := v) (by omega) g
      omega
  generalize hP : (n : Int) * v = P at *
  refine ⟨fun g => ?_, fun g => ?_⟩
  · have g := of_decide_eq_true g
    rw [if_pos g] at hprod
    refine hj _ _ ?_ ?_
    · show _ = P / 18446744073709551616
      have e4 : ((n * w / 18446744073709551616 : Nat) : Int) - (n : Int) = P / 18446744073709551616 := by omega
      rw [e4]
      exact wrap_i64e (by omega) (by omega)
    · show _ = P % 18446744073709551616
      omega
  · have g := of_decide_eq_false g
    rw [if_neg g] at hprod
    refine hj _ _ ?_ ?_
    · show _ = P / 18446744073709551616
      have e4 : ((n * w / 18446744073709551616 : Nat) : Int) = P / 18446744073709551616 := by omega
      rw [e4]
      exact w64 (by omega) (by omega)
    · show _ = P % 18446744073709551616
      omega
theorem st_wd {h : H} {n : Nat} {c d : S_agg_wide} {e : TypeId} {K : H → Prop} (b : Blk h n c.cells.toArray e) (k : ∀ h', Blk h' n d.cells.toArray e → Only (· = n) h h' → h'.size = h.size → K h') : stH h ⟨n, 0, none⟩ d.cells K :=
  stH_of b (by simp [S_agg_wide.cells]) fun h' b' o s => k h' b' o s
abbrev B126 (x : Int) : Prop := -(85070591730234615865843651857942052864 + 36893488147419103232) ≤ x ∧ x ≤ 85070591730234615865843651857942052864 + 36893488147419103232
theorem plus_spec {x y : Int} {h : H} {Q : S_agg_wide → H → Prop} (hx : -36893488147419103232 ≤ x ∧ x ≤ 36893488147419103232) (hy : B126 y) (k : ∀ h', Ext h h' → Q (WD (x + y)) h') : F.agg_wide_plus (WD x) (WD y) h Q := by
  unfold F.agg_wide_plus
  refine new_of fun n1 h1 hn1 b1 e1 s1 => new_of fun n3 h3 hn3 b3 e3 s3 => new_of fun n5 h5 hn5 b5 e5 s5 => ?_
  have b1' : Blk h5 n1 (WD x).cells.toArray ty_111 := e5.block (e3.block b1 fun f => f) fun f => f
  have b3' : Blk h5 n3 (WD y).cells.toArray ty_111 := e5.block b3 fun f => f
  have b5' : Blk h5 n5 (⟨0, 0⟩ : S_agg_wide).cells.toArray ty_111 := b5
  have x0 : cellH h5 ⟨n1, 0, none⟩ = some (.int .i64 (x / 18446744073709551616)) := Blk.cells b1' 0 _ rfl
  have x1 : cellH h5 ⟨n1, 1, none⟩ = some (.int .u64 (x % 18446744073709551616)) := Blk.cells b1' 1 _ rfl
  have y0 : cellH h5 ⟨n3, 0, none⟩ = some (.int .i64 (y / 18446744073709551616)) := Blk.cells b3' 0 _ rfl
  have y1 : cellH h5 ⟨n3, 1, none⟩ = some (.int .u64 (y % 18446744073709551616)) := Blk.cells b3' 1 _ rfl
  simp only [add_lit, Nat.zero_add, Nat.add_zero]
  refine ldI_of x1 (ldI_of y1 (ldI_of x0 (ldI_of y0 ?_)))
  have hs : a64s (x % 18446744073709551616) (y % 18446744073709551616) = (x + y) % 18446744073709551616 := by unfold a64s; omega
  have hc : a64c (x % 18446744073709551616) (y % 18446744073709551616) = (x % 18446744073709551616 + y % 18446744073709551616) / 18446744073709551616 := by unfold a64c; omega
  rw [hs, hc]
  have bx := hx
  obtain ⟨bx1, bx2⟩ := bx
  obtain ⟨by1, by2⟩ := hy
  rw [w64 (n := x / 18446744073709551616 + y / 18446744073709551616) (by omega) (by omega), w64 (n := (x % 18446744073709551616 + y % 18446744073709551616) / 18446744073709551616) (by omega) (by omega), w64 (by omega) (by omega)]
  have he : x / 18446744073709551616 + y / 18446744073709551616 + (x % 18446744073709551616 + y % 18446744073709551616) / 18446744073709551616 = (x + y) / 18446744073709551616 := by omega
  rw [he]
  refine st_wd (d := WD (x + y)) b5' fun h6 b6 o6 s6 => ⟨WD (x + y), b6.cells, k h6 (((e1.trans e3).trans e5).step o6 fun z hz hb => by have := e1.size; have := e3.size; omega)⟩
theorem upto_spec {x y : Int} {h : H} {Q : Bool → H → Prop} (k : ∀ h', Ext h h' → Q (decide (x ≤ y)) h') : F.agg_wide_upto (WD x) (WD y) h Q := by
  unfold F.agg_wide_upto
  refine new_of fun n1 h1 hn1 b1 e1 s1 => new_of fun n3 h3 hn3 b3 e3 s3 => ?_
  have b1' : Blk h3 n1 (WD x).cells.toArray ty_111 := e3.block b1 fun f => f
  have b3' : Blk h3 n3 (WD y).cells.toArray ty_111 := b3
  have x0 : cellH h3 ⟨n1, 0, none⟩ = some (.int .i64 (x / 18446744073709551616)) := Blk.cells b1' 0 _ rfl
  have x1 : cellH h3 ⟨n1, 1, none⟩ = some (.int .u64 (x % 18446744073709551616)) := Blk.cells b1' 1 _ rfl
  have y0 : cellH h3 ⟨n3, 0, none⟩ = some (.int .i64 (y / 18446744073709551616)) := Blk.cells b3' 0 _ rfl
  have y1 : cellH h3 ⟨n3, 1, none⟩ = some (.int .u64 (y % 18446744073709551616)) := Blk.cells b3' 1 _ rfl
  have k := k h3 (e1.trans e3)
  simp only [add_lit, Nat.zero_add, Nat.add_zero]
  refine ldI_of x0 (ldI_of y0 ⟨fun g => ?_, fun g => ldI_of x0 (ldI_of y0 ⟨fun g2 => ldI_of x1 (ldI_of y1 ?_), fun g2 => ?_⟩)⟩)
  · have g := of_decide_eq_true g
    rw [decide_eq_true (show x ≤ y by omega)] at k; exact k
  · have g2 : x / 18446744073709551616 = y / 18446744073709551616 := by simpa using g2
    have : decide (x ≤ y) = decide (x % 18446744073709551616 ≤ y % 18446744073709551616) := by
      rw [decide_eq_decide]; omega
    rw [this] at k; exact k
  · have g := of_decide_eq_false g
    have g2 : ¬ x / 18446744073709551616 = y / 18446744073709551616 := by simpa using g2
    rw [decide_eq_false (show ¬ x ≤ y by omega)] at k; exact k
def rightM (a : S_api_Agg) : Bool :=
  if a.Count ≤ 0 then ((a.Count == zA.Count) && ((a.Sum == zA.Sum) && ((a.Min == zA.Min) && ((a.Max == zA.Max) && true))))
  else if a.Count = 1 then decide (a.Min = a.Sum ∧ a.Max = a.Sum)
  else if a.Min > a.Max then false
  else decide (a.Min + a.Max + (a.Count - 2) * a.Min ≤ a.Sum) && decide (a.Sum ≤ a.Min + a.Max + (a.Count - 2) * a.Max)
abbrev I64c (n : Int) : Prop := -9223372036854775808 ≤ n ∧ n < 9223372036854775808
theorem mul_126 {n v : Int} (h0 : 0 ≤ n) (h1 : n < 9223372036854775808) (hv : I64c v) : B126 (n * v) := by
  obtain ⟨v0, v1⟩ := hv
  constructor
  · rcases Int.lt_or_le v 0 with g | g
    · have h9 : n * (-v) ≤ 9223372036854775808 * 9223372036854775808 := Int.mul_le_mul (by omega) (by omega) (by omega) (by omega)
      rw [Int.mul_neg] at h9; omega
    · have := Int.mul_nonneg (a := n) (b := v) (by omega) g
      omega
  · rcases Int.lt_or_le v 0 with g | g
    · have h9 := Int.mul_nonneg (a := n) (b := -v) (by omega) (by omega)
      rw [Int.mul_neg] at h9; omega
    · have h9 : n * v ≤ 9223372036854775808 * 9223372036854775808 := Int.mul_le_mul (by omega) (by omega) g (by omega)
      omega
theorem product_int {n v : Int} {h : H} {Q : S_agg_wide → H → Prop} (h0 : 0 ≤ n) (hn : n < 9223372036854775808) (hv : I64c v) (k : ∀ h', Ext h h' → Q (WD (n * v)) h') : F.agg_product n v h Q := by
  obtain ⟨m, rfl⟩ : ∃ m : Nat, n = (m : Int) := ⟨n.toNat, by omega⟩
  exact product_spec (by omega) hv.1 hv.2 k
theorem right_all {a : S_api_Agg} (hc : I64c a.Count) (hs : I64c a.Sum) (h0 : I64c a.Min) (h1 : I64c a.Max) : RightIs a (rightM a) := fun h Q k => by
  unfold F.agg_Right
  refine new_of fun m h1' hm b1 e1 s1 => ?_
  have c0 : ∀ {hh : H}, Ext h1' hh → cellH hh ⟨m, 0, none⟩ = some (.int .i64 a.Count) := fun e => e.cell (Blk.cells b1 0 _ rfl) fun f => f
  have c1 : ∀ {hh : H}, Ext h1' hh → cellH hh ⟨m, 1, none⟩ = some (.int .i64 a.Sum) := fun e => e.cell (Blk.cells b1 1 _ rfl) fun f => f
  have c2 : ∀ {hh : H}, Ext h1' hh → cellH hh ⟨m, 2, none⟩ = some (.int .i64 a.Min) := fun e => e.cell (Blk.cells b1 2 _ rfl) fun f => f
  have c3 : ∀ {hh : H}, Ext h1' hh → cellH hh ⟨m, 3, none⟩ = some (.int .i64 a.Max) := fun e => e.cell (Blk.cells b1 3 _ rfl) fun f => f
  have r0 : Ext h1' h1' := .refl _
  simp only [add_lit, Nat.zero_add, Nat.add_zero]
  unfold rightM at k
  refine ldI_of (c0 r0) ⟨fun g => ?_, fun g => ldI_of (c0 r0) ⟨fun g2 => ?_, fun g2 => ldI_of (c2 r0) (ldI_of (c3 r0) ⟨fun g3 => ?_, fun g3 => ?_⟩)⟩⟩
  · have g := of_decide_eq_true g
    rw [if_pos g] at k
    exact ⟨a, Blk.cells b1, k h1' e1⟩
  · have g := of_decide_eq_false g
    have g2 : a.Count = 1 := by simpa using g2
    rw [if_neg g, if_pos g2] at k
    have k := k h1' e1
    refine ldI_of (c2 r0) (ldI_of (c1 r0) ⟨fun g3 => ldI_of (c3 r0) (ldI_of (c1 r0) ?_), fun g3 => ?_⟩)
    · have g3 : a.Min = a.Sum := by simpa using g3
      have : decide (a.Min = a.Sum ∧ a.Max = a.Sum) = (a.Max == a.Sum) := by
        by_cases h : a.Max = a.Sum <;> simp [g3, h]
      rw [this] at k; exact k
    · have g3 : ¬ a.Min = a.Sum := by simpa using g3
      rw [decide_eq_false (fun h => g3 h.1)] at k; exact k
  · have g := of_decide_eq_false g
    have g2 : ¬ a.Count = 1 := by simpa using g2
    have g3 := of_decide_eq_true g3
    rw [if_neg g, if_neg g2, if_pos g3] at k
    exact k h1' e1
  · have g := of_decide_eq_false g
    have g2 : ¬ a.Count = 1 := by simpa using g2
    have g3 := of_decide_eq_false g3
    rw [if_neg g, if_neg g2, if_neg g3] at k
    have hc2 : 0 ≤ a.Count - 2 ∧ a.Count - 2 < 9223372036854775808 := by have := hc.2; omega
    have wc : IntKind.wrap .i64 (a.Count - 2) = a.Count - 2 := w64 (by omega) (by omega)
    have bmin := mul_126 hc2.1 hc2.2 h0
    have bmax := mul_126 hc2.1 hc2.2 h1
    have be : -36893488147419103232 ≤ a.Min + a.Max ∧ a.Min + a.Max ≤ 36893488147419103232 := by
      obtain ⟨q1, q2⟩ := h0; obtain ⟨q3, q4⟩ := h1; omega
    have be' : B126 (a.Min + a.Max) := ⟨by omega, by omega⟩
    have i126 : ∀ {x : Int}, I64c x → B126 x := fun h => ⟨by have := h.1; omega, by have := h.2; omega⟩
    have i65 : ∀ {x : Int}, I64c x → -36893488147419103232 ≤ x ∧ x ≤ 36893488147419103232 := fun h => ⟨by have := h.1; omega, by have := h.2; omega⟩
    have j1 : ∀ (hh : H) (e : Nat), Ext h1' hh → Blk hh e (WD (a.Min + a.Max)).cells.toArray ty_111 → F.agg_Right.j1 Q ⟨m, 0, none⟩ ⟨e, 0, none⟩ hh := fun hh e ex be2 => by
      unfold F.agg_Right.j1
      simp only [add_lit, Nat.zero_add, Nat.add_zero]
      refine ldI_of (c1 ex) (product_int (by omega) (by omega) hs fun h27 e27 => ?_)
      rw [Int.one_mul]
      refine new_of fun n h29 hn b29 e29 s29 => ?_
      have b29' : Blk h29 n (⟨0, 0⟩ : S_agg_wide).cells.toArray ty_111 := b29
      refine st_wd (d := WD a.Sum) b29' fun h31 b31 o31 s31 => ?_
      have e31 : Ext hh h31 := (e27.trans e29).step o31 fun z hz hb => by have := e27.size; omega
      have x31 := ex.trans e31
      have be31 := e31.block be2 fun f => f
      refine ⟨_, Blk.cells be31, ldI_of (c0 x31) (ldI_of (c2 x31) ⟨_, Blk.cells b31, ?_⟩)⟩
      rw [wc]
      refine product_int hc2.1 hc2.2 h0 fun h40 e40 => ⟨(Blk.cells b31).ext e40, (Blk.cells be31).ext e40, plus_spec be bmin fun h44 e44 => ⟨(Blk.cells b31).ext (e40.trans e44), upto_spec fun h47 e47 => ?_⟩⟩
      have e47' := (e40.trans e44).trans e47
      have x47 := x31.trans e47'
      refine ⟨fun gt => ?_, fun gf => ?_⟩
      · have gt := of_decide_eq_true gt
        refine ⟨_, (Blk.cells b31).ext e47', _, (Blk.cells be31).ext e47', ldI_of (c0 x47) (ldI_of (c3 x47) ?_)⟩
        rw [wc]
        refine product_int hc2.1 hc2.2 h1 fun h58 e58 => ⟨(Blk.cells be31).ext (e47'.trans e58), (Blk.cells b31).ext (e47'.trans e58), plus_spec be bmax fun h62 e62 => ⟨(Blk.cells b31).ext ((e47'.trans e58).trans e62), upto_spec fun h65 e65 => ?_⟩⟩
        have kk := k h65 (e1.trans (x47.trans ((e58.trans e62).trans e65)))
        rw [decide_eq_true gt, Bool.true_and] at kk
        exact kk
      · have gf := of_decide_eq_false gf
        have kk := k h47 (e1.trans x47)
        rw [decide_eq_false gf, Bool.false_and] at kk
        exact kk
    -- the ends' block, whichever order it was made in
    have fin : ∀ (hh : H) (n : Nat), Ext h1' hh → h1'.size ≤ n → Blk hh n (⟨0, 0⟩ : S_agg_wide).cells.toArray ty_111 → stH hh ⟨n, 0, none⟩ (WD (a.Min + a.Max)).cells fun h80 => F.agg_Right.j1 Q ⟨m, 0, none⟩ ⟨n, 0, none⟩ h80 := fun hh n ex hn b => by
      refine st_wd (d := WD (a.Min + a.Max)) b fun h80 b80 o80 s80 => j1 h80 n (ex.step o80 fun z hz hb => by omega) b80
    have o1 : (0 : Int) ≤ 1 := by omega
    have o2 : (1 : Int) < 9223372036854775808 := by omega
    refine ldI_of (c2 r0) (ldI_of (c3 r0) ⟨product_int o1 o2 h0 fun h71 e71 => ⟨c3 e71, product_int o1 o2 h1 fun h74 e74 => ?_, new_of fun n h86 hn b86 e86 s86 => ⟨c3 (e71.trans e86), product_int o1 o2 h1 fun h89 e89 => ?_⟩⟩, new_of fun n h94 hn b94 e94 s94 => ⟨c3 e94, c2 e94, product_int o1 o2 h0 fun h98 e98 => ⟨c3 (e94.trans e98), product_int o1 o2 h1 fun h101 e101 => ?_⟩⟩⟩)
    · rw [Int.one_mul, Int.one_mul]
      have x74 := e71.trans e74
      have z74 := x74.size
      refine ⟨plus_spec (i65 h0) (i126 h1) fun h76 e76 => new_of fun n h78 hn b78 e78 s78 => fin h78 n ((x74.trans e76).trans e78) (by have := e76.size; omega) b78, new_of fun n h81 hn b81 e81 s81 => plus_spec (i65 h0) (i126 h1) fun h83 e83 => fin h83 n ((x74.trans e81).trans e83) (by omega) (e83.block b81 fun f => f)⟩
    · rw [Int.one_mul, Int.one_mul]
      have z71 := e71.size
      refine plus_spec (i65 h0) (i126 h1) fun h91 e91 => fin h91 n ((e71.trans e86).trans (e89.trans e91)) (by omega) ((e89.trans e91).block b86 fun f => f)
    · rw [Int.one_mul, Int.one_mul]
      refine plus_spec (i65 h0) (i126 h1) fun h103 e103 => fin h103 n (e94.trans ((e98.trans e101).trans e103)) (by omega) (((e98.trans e101).trans e103).block b94 fun f => f)
end Go.Proofs.Ytoccbnhahaoeiaa.V.S
namespace Go.Proofs.Ytoccbnhahaoeiaa.V
open Go
set_option linter.unusedVariables false
set_option linter.unusedSimpArgs false
section
variable {T : Type} {P : Program} {enc : TypeId × Value → T} {w : World} {base : Nat} {spare : Nat → Bool} {held : Bool} {fuel : Nat}
theorem cells_of {a : Addr} {n : Nat} {cs : List Value} (h : w.cells? base a n = some cs) : cs.length = n ∧ ∀ j v, cs[j]? = some v → w.cell? (a.add j) = some v := by
  obtain ⟨h1, h2, h3⟩ := World.cells?_some h
  refine ⟨h2, fun j v hv => ?_⟩
  have hj : j < n := by rw [← h2]; exact (List.getElem?_eq_some_iff.1 hv).1
  rw [h3 j hj, hv]
/-- A slice that came in, each of whose things is asL G says. -/
theorem open_slice {t e : TypeId} {k : Nat} {v : Value} {x : DataW T × List MemPlace} (G : List Value → Prop) (ht : P.underlying t = some (.slice e)) (hk : P.cellsOf e = k) (hk0 : 0 < k) (h : DataW.trod enc P w base spare held fuel t [v] = some x)
    (hG : ∀ n cs y, DataW.trod enc P w base spare held n e cs = some y → cs.length = k → G cs) :
    ∃ s : Sl, v = s.enc ∧ s.len ≤ s.cap ∧ s.cap ≤ maxLen ∧ ∃ CS : List (List Value), CS.length = s.len ∧ (∀ c ∈ CS, c.length = k ∧ G c) ∧ Reads w.heap s k CS.flatten ∧ (CS ≠ [] → ∀ b, s.blk = some b → b < w.heap.size) := by
  rcases DataW.trod_slice ht h with ⟨h0, _⟩ | ⟨a, len, cap, elems, rest, n, _, h0, _, hb, hl, hm, hlen, hel, _, _⟩
  · simp at h0; subst h0
    exact ⟨⟨none, 0, 0⟩, rfl, Nat.le_refl _, Nat.zero_le _, [], rfl, (fun c hc => by cases hc), ⟨by simp, fun _ => ⟨rfl, rfl⟩, fun i v hv => by simp at hv⟩, fun h => absurd rfl h⟩
  · simp at h0; subst h0
    rw [hk] at hel
    have each : ∀ i, i < len → ∃ cs, w.cells? base (a.add (i * k)) k = some cs ∧ G cs := fun i hi => by
      have hx := hel i hi
      rw [List.getElem?_eq_getElem (by omega), Option.bind_eq_some_iff] at hx
      obtain ⟨cs, hc, ht'⟩ := hx
      exact ⟨cs, hc, hG _ _ _ ht' (cells_of hc).1⟩
    obtain ⟨CS, hCS, hall⟩ : ∃ CS : List (List Value), CS.length = len ∧ ∀ i c, CS[i]? = some c → w.cells? base (a.add (i * k)) k = some c ∧ G c := by
      clear hel h
      have : ∀ m, m ≤ len → ∃ CS : List (List Value), CS.length = m ∧ ∀ i c, CS[i]? = some c → w.cells? base (a.add (i * k)) k = some c ∧ G c := fun m => by
        induction m with
        | zero => intro _; exact ⟨[], rfl, fun i c hc => by simp at hc⟩
        | succ m ih =>
          intro hm2
          obtain ⟨CS, h1, h2⟩ := ih (by omega)
          obtain ⟨c, h3, h4⟩ := each m (by omega)
          refine ⟨CS ++ [c], by simp [h1], fun i d hd => ?_⟩
          by_cases hi : i < CS.length
          · rw [List.getElem?_append_left hi] at hd; exact h2 i d hd
          · rw [List.getElem?_append_right (by omega)] at hd
            have hi2 : i - CS.length = 0 := by
              have := (List.getElem?_eq_some_iff.1 hd).1
              simp at this; omega
            rw [hi2] at hd; simp at hd; subst hd
            have : i = m := by omega
            subst this; exact ⟨h3, h4⟩
      exact this len (Nat.le_refl _)
    have hlen' : ∀ c ∈ CS, c.length = k ∧ G c := fun c hc => by
      obtain ⟨i, hi⟩ := List.mem_iff_getElem?.1 hc
      exact ⟨(cells_of (hall i c hi).1).1, (hall i c hi).2⟩
    have hspot : 0 < len → a.spot = none ∧ a.block < w.heap.size := fun h0 => by
      obtain ⟨c, hc⟩ : ∃ c, CS[0]? = some c := ⟨_, List.getElem?_eq_getElem (by omega)⟩
      obtain ⟨h1, h2⟩ := cells_of (hall 0 c hc).1
      obtain ⟨v, hv⟩ : ∃ v, c[0]? = some v := ⟨_, List.getElem?_eq_getElem (by omega)⟩
      have hcell : cellH w.heap ((a.add (0 * k)).add 0) = some v := h2 0 v hv
      have e0 : ∀ p : Addr, p.add 0 = p := fun p => by unfold Addr.add; split <;> simp_all
      rw [Nat.zero_mul, e0, e0] at hcell
      unfold cellH at hcell
      split at hcell
      · rename_i hh
        refine ⟨?_, (Array.getElem?_eq_some_iff.1 hh).1⟩
        cases hs : a.spot with
        | none => rfl
        | some s => rw [hs] at hcell; simp at hcell
      · cases hcell
    refine ⟨⟨some a, len, cap⟩, rfl, hl, hm, CS, hCS, hlen', ⟨?_, (fun h => by cases h), fun i v hv => ?_⟩, fun hne b hb => ?_⟩
    · rw [← hCS]
      have : ∀ (L : List (List Value)), (∀ c ∈ L, c.length = k) → L.flatten.length = L.length * k := fun L => by
        induction L with
        | nil => intro _; simp
        | cons c r ih => intro hL; simp [hL c (by simp), ih fun c hc => hL c (List.mem_cons_of_mem _ hc), Nat.add_mul]; omega
      exact this CS fun c hc => (hlen' c hc).1
    · have : ∀ (L : List (List Value)) (m : Nat), (∀ c ∈ L, c.length = k) → (∀ i c, L[i]? = some c → ∀ j v, c[j]? = some v → w.cell? (a.add ((m + i) * k + j)) = some v) → ∀ i v, L.flatten[i]? = some v → w.cell? (a.add (m * k + i)) = some v := fun L => by
        induction L with
        | nil => intro m _ _ i v hv; simp at hv
        | cons c r ih =>
          intro m hL hc i v hv
          have hcl := hL c (by simp)
          rw [List.flatten_cons] at hv
          by_cases hi : i < c.length
          · rw [List.getElem?_append_left hi] at hv
            exact hc 0 c rfl i v hv
          · rw [List.getElem?_append_right (by omega)] at hv
            have := ih (m + 1) (fun c hc => hL c (List.mem_cons_of_mem _ hc)) (fun i d hd j v hj => by
              have := hc (i + 1) d (by simpa using hd) j v hj
              rwa [show m + (i + 1) = m + 1 + i from by omega] at this) _ v hv
            rwa [show (m + 1) * k + (i - c.length) = m * k + i from by rw [Nat.add_mul]; omega] at this
      have hlt : 0 < len := by
        rcases Nat.eq_zero_or_pos len with h0 | h0
        · have : CS = [] := List.eq_nil_of_length_eq_zero (by omega)
          subst this; simp at hv
        · exact h0
      obtain ⟨hsp, _⟩ := hspot hlt
      refine ⟨a, rfl, hsp, ?_⟩
      have := this CS 0 (fun c hc => (hlen' c hc).1) (fun i c hc j v hj => by
        have h1 := (cells_of (hall i c hc).1).2 j v hj
        obtain ⟨ab, ao, asp⟩ := a
        simp only at hsp; subst hsp
        rw [add_lit, add_lit] at h1
        rw [add_lit, Nat.zero_add, ← Nat.add_assoc]; exact h1) i v hv
      rw [Nat.zero_mul, Nat.zero_add] at this
      exact this
    · simp [Sl.blk] at hb
      subst hb
      have : 0 < len := by
        rw [← hCS]; exact List.length_pos_iff.2 hne
      exact (hspot this).2
end
end Go.Proofs.Ytoccbnhahaoeiaa.V
namespace Go.Proofs.Ytoccbnhahaoeiaa.V.S
open Go Go.Proofs.Ytoccbnhahaoeiaa.V
set_option linter.unusedVariables false
set_option linter.unusedSimpArgs false
abbrev W64 (n : Int) : Prop := -9223372036854775808 ≤ n ∧ n < 9223372036854775808
abbrev CelOk (c : Cel) : Prop := W64 c.View ∧ W64 c.Start ∧ c.Key.size ≤ maxLen
section
variable {T : Type} {enc : TypeId × Value → T} {w : World} {base : Nat} {spare : Nat → Bool} {held : Bool} {fuel : Nat}
theorem gen_open {α : Type} (f : α → List Value) (ok : α → Prop) {t e : TypeId} {k : Nat} {v : Value} {y : DataW T × List MemPlace} (hf : ∀ x, (f x).length = k) (ht : PP.underlying t = some (.slice e)) (hk : PP.cellsOf e = k) (hk0 : 0 < k) (h : DataW.trod enc PP w base spare held fuel t [v] = some y)
    (hG : ∀ n cs y, DataW.trod enc PP w base spare held n e cs = some y → cs.length = k → ∃ x, cs = f x ∧ ok x) :
    ∃ (s : Sl) (L : List α), v = s.enc ∧ Reads w.heap s k (L.flatMap f) ∧ s.len ≤ s.cap ∧ (L ≠ [] → ∀ b, s.blk = some b → b < w.heap.size) ∧ (∀ x ∈ L, ok x) ∧ L.length ≤ 9223372036854775807 := by
  obtain ⟨s, h1, h2, h3, CS, h4, h5, h6, h7⟩ := open_slice (fun cs => ∃ x : α, cs = f x ∧ ok x) ht hk hk0 h fun n cs y hy hl => hG n cs y hy hl
  have : ∀ (L : List (List Value)), (∀ c ∈ L, c.length = k ∧ ∃ x : α, c = f x ∧ ok x) → ∃ S : List α, L = S.map f ∧ ∀ x ∈ S, ok x := fun L => by
    induction L with
    | nil => intro _; exact ⟨[], rfl, fun n hn => by cases hn⟩
    | cons c r ih =>
      intro hL
      obtain ⟨E, h1, h2⟩ := ih fun c hc => hL c (List.mem_cons_of_mem _ hc)
      obtain ⟨_, n, rfl, hn⟩ := hL c (by simp)
      refine ⟨n :: E, by rw [h1]; rfl, fun m hm => ?_⟩
      rcases List.mem_cons.1 hm with e | e
      · subst e; exact hn
      · exact h2 m e
  obtain ⟨S, rfl, hS⟩ := this CS h5
  have hr : Reads w.heap s k (S.flatMap f) := by rw [List.flatMap_def]; exact h6
  refine ⟨s, S, h1, hr, h2, fun hn b hb => h7 (by simpa using hn) b hb, hS, ?_⟩
  have := rd_len hf hk0 hr
  simp only [maxLen] at h3; omega
theorem list3 {β : Type} : ∀ {l : List β}, l.length = 3 → ∃ a b c, l = [a, b, c]
  | [a, b, c], _ => ⟨a, b, c, rfl⟩
theorem cell_open {cs : List Value} {y : DataW T × List MemPlace} (h : DataW.trod enc PP w base spare held fuel tn_api_Cell cs = some y) (hl : cs.length = 3) :
    ∃ c : Cel, cs = c.cells ∧ CelOk c := by
  obtain ⟨xs, n, _, _, _, hlen, hf⟩ := DataW.trod_struct ut_api_Cell h
  have hlen3 : xs.length = 3 := hlen
  have k3 : PP.cellsOf 3 = 1 := by kernel_rfl
  have k9 : PP.cellsOf 9 = 1 := by kernel_rfl
  have k2 : PP.cellsOf 2 = 1 := by kernel_rfl
  obtain ⟨c0, c1, c2, rfl⟩ := list3 hl
  obtain ⟨y0, y1, y2, rfl⟩ := list3 hlen3
  have f0 : DataW.trod enc PP w base spare held n 3 (([c0, c1, c2].drop 0).take (PP.cellsOf 3)) = some y0 := hf 0 _ rfl
  have f1 : DataW.trod enc PP w base spare held n 9 (([c0, c1, c2].drop 1).take (PP.cellsOf 9)) = some y1 := hf 1 _ rfl
  have f2 : DataW.trod enc PP w base spare held n 2 (([c0, c1, c2].drop 2).take (PP.cellsOf 2)) = some y2 := hf 2 _ rfl
  rw [k3] at f0
  rw [k9] at f1
  rw [k2] at f2
  simp only [List.drop_zero, List.drop_succ_cons, List.take_succ_cons, List.take_zero] at f0 f1 f2
  obtain ⟨m0, e0, _, w0⟩ := DataW.trod_int Try.underlying3 f0
  obtain ⟨s1, e1, _, w1⟩ := DataW.trod_string Try.underlying9 f1
  obtain ⟨m2, e2, _, w2⟩ := DataW.trod_int Try.underlying2 f2
  simp only [List.cons.injEq, and_true] at e0 e1 e2
  subst e0; subst e1; subst e2
  exact ⟨⟨m0, s1, m2⟩, rfl, i64_of w0, i64_of w2, w1⟩
theorem ints_open {v : Value} {y : DataW T × List MemPlace} (h : DataW.trod enc PP w base spare held fuel tn_Slint [v] = some y) :
    ∃ (s : Sl) (L : List Int), v = s.enc ∧ Reads w.heap s 1 (L.flatMap cI) ∧ s.len ≤ s.cap ∧ (L ≠ [] → ∀ b, s.blk = some b → b < w.heap.size) ∧ (∀ x ∈ L, W64 x) ∧ L.length ≤ 9223372036854775807 :=
  gen_open cI W64 cI_len ut_Slint (show PP.cellsOf 3 = 1 from by kernel_rfl) (by omega) h fun n cs y hy _ => by
    obtain ⟨m, e1, _, e2⟩ := DataW.trod_int Try.underlying3 hy
    exact ⟨m, e1, i64_of e2⟩
end
end Go.Proofs.Ytoccbnhahaoeiaa.V.S
namespace Go.Proofs.Ytoccbnhahaoeiaa.V.S
open Go Go.Proofs.Ytoccbnhahaoeiaa.V
set_option linter.unusedVariables false
set_option linter.unusedSimpArgs false
set_option maxRecDepth 20000
def cellM (n : Nat) : Cel := ⟨0, ⟨#[UInt8.ofNat (97 + n / 160000 % 20), UInt8.ofNat (97 + n / 8000 % 20), UInt8.ofNat (97 + n / 400 % 20), UInt8.ofNat (97 + n / 20 % 20)]⟩, ((n % 20 : Nat) : Int)⟩
theorem u8lt {x y : Nat} (hx : x < 20) (hy : y < 20) : (UInt8.ofNat (97 + x) < UInt8.ofNat (97 + y)) ↔ x < y := by
  rw [UInt8.lt_iff_toNat_lt]
  simp
  omega
theorem cb_lt {x y : Nat} (hx : x < 20) (hy : y < 20) (h : x < y) (A B : List UInt8) : Lib.compareBytes (UInt8.ofNat (97 + x) :: A) (UInt8.ofNat (97 + y) :: B) = -1 := by
  simp only [Lib.compareBytes]
  rw [if_pos ((u8lt hx hy).2 h)]
theorem cb_eq {x y : Nat} (h : x = y) (A B : List UInt8) : Lib.compareBytes (UInt8.ofNat (97 + x) :: A) (UInt8.ofNat (97 + y) :: B) = Lib.compareBytes A B := by
  subst h
  simp only [Lib.compareBytes, u8_irr, if_false]
theorem cell_lt {a b : Nat} (h : a < b) (hb : b < 3200000) : cmpC (cellM a) (cellM b) = -1 := by
  rw [cC_lt]
  refine .inr ⟨rfl, ?_⟩
  show Lib.compareBytes [UInt8.ofNat (97 + a / 160000 % 20), UInt8.ofNat (97 + a / 8000 % 20), UInt8.ofNat (97 + a / 400 % 20), UInt8.ofNat (97 + a / 20 % 20)] [UInt8.ofNat (97 + b / 160000 % 20), UInt8.ofNat (97 + b / 8000 % 20), UInt8.ofNat (97 + b / 400 % 20), UInt8.ofNat (97 + b / 20 % 20)] = -1 ∨ ([UInt8.ofNat (97 + a / 160000 % 20), UInt8.ofNat (97 + a / 8000 % 20), UInt8.ofNat (97 + a / 400 % 20), UInt8.ofNat (97 + a / 20 % 20)] = [UInt8.ofNat (97 + b / 160000 % 20), UInt8.ofNat (97 + b / 8000 % 20), UInt8.ofNat (97 + b / 400 % 20), UInt8.ofNat (97 + b / 20 % 20)] ∧ ((a % 20 : Nat) : Int) < ((b % 20 : Nat) : Int))
  have ka := Nat.mod_lt (a / 160000) (show 20 > 0 by omega)
  by_cases e1 : a / 160000 % 20 = b / 160000 % 20
  · rw [cb_eq e1]
    by_cases e2 : a / 8000 % 20 = b / 8000 % 20
    · rw [cb_eq e2]
      by_cases e3 : a / 400 % 20 = b / 400 % 20
      · rw [cb_eq e3]
        by_cases e4 : a / 20 % 20 = b / 20 % 20
        · rw [e1, e2, e3, e4]; exact .inr ⟨rfl, by omega⟩
        · exact .inl (cb_lt (by omega) (by omega) (by omega) _ _)
      · exact .inl (cb_lt (by omega) (by omega) (by omega) _ _)
    · exact .inl (cb_lt (by omega) (by omega) (by omega) _ _)
  · exact .inl (cb_lt (by omega) (by omega) (by omega) _ _)
theorem agg_same (a : S_api_Agg) : ((a.Count == a.Count) && ((a.Sum == a.Sum) && ((a.Min == a.Min) && ((a.Max == a.Max) && true)))) = true := by simp
end Go.Proofs.Ytoccbnhahaoeiaa.V.S
namespace Go.Proofs.Ytoccbnhahaoeiaa.V
open Go
set_option linter.unusedVariables false
set_option linter.unusedSimpArgs false
theorem put_at {α : Type} {f : α → List Value} {kk : Nat} {e : TypeId} {h : H} {s : Sl} {D : List α} {i : Nat} {x : α} {K : H → Prop} (hf : ∀ x, (f x).length = kk) (hk : 0 < kk) (w : Owns h s e kk (D.flatMap f)) (hi : i < D.length)
    (k : ∀ h', Owns h' s e kk ((D.set i x).flatMap f) → Only (fun b => s.blk = some b) h h' → K h') : idxA s (i : Int) kk fun a => stH h a (f x) K := by
  obtain ⟨b, p1, p2⟩ := own_at hf hk w (i := i) (x := D[i]) (List.getElem?_eq_getElem hi)
  have hl := own_len hf hk w
  refine idxA_of (i := i) p1 (by rw [hl]; exact hi) rfl ?_
  exact own_setAt (i := i) (x := x) hf w p1 hi fun h' w' o _ => k h' w' o
section
variable {α : Type} {f : α → List Value} {kk : Nat} {e : TypeId} {base h h' : H} {Z : List (Sl × List α)}
end
end Go.Proofs.Ytoccbnhahaoeiaa.V
namespace Go.Proofs.Ytoccbnhahaoeiaa.V.S
open Go Go.Proofs.Ytoccbnhahaoeiaa.V
set_option linter.unusedVariables false
set_option linter.unusedSimpArgs false
set_option maxRecDepth 20000
theorem SH.turn {h : H} {n : Nat} {S : SL} {slots : Nat} {R R' : Nat → Prop} (s : SH h n S slots R) (hr : ∀ b, b < h.size → R b → R' b) : SH h n S slots R' := by
  obtain ⟨tn, rs, es, T, Z, hZ, z⟩ := s
  exact ⟨tn, rs, es, T, Z, hZ, z.turn (fun r hr h => h) hr⟩
end Go.Proofs.Ytoccbnhahaoeiaa.V.S
namespace Go.Proofs.Ytoccbnhahaoeiaa.V.S
open Go Go.Proofs.Ytoccbnhahaoeiaa.V
set_option linter.unusedVariables false
set_option linter.unusedSimpArgs false
set_option maxRecDepth 20000
theorem lay_at {vs : List Ver} {x : Ver} {e : Int} (he : e < x.epoch) : C.atM (C.layM vs x) e = C.atM vs e := by
  unfold C.atM
  have hx : ([x] : List Ver).filter (fun x => decide (x.epoch ≤ e)) = [] := by
    rw [List.filter_eq_nil_iff]; intro y hy; rw [List.mem_singleton.1 hy]; simp only [decide_eq_true_eq]; omega
  have : (C.layM vs x).filter (fun x => decide (x.epoch ≤ e)) = vs.filter (fun x => decide (x.epoch ≤ e)) := by
    unfold C.layM
    split
    · rename_i g
      rw [List.filter_append, hx, List.append_nil]
      have hv := List.dropLast_concat_getLast g.1
      have hl : ([vs.getLast g.1] : List Ver).filter (fun x => decide (x.epoch ≤ e)) = [] := by
        rw [List.filter_eq_nil_iff]; intro y hy; rw [List.mem_singleton.1 hy, ← lastE_get g.1, g.2]; simp only [decide_eq_true_eq]; omega
      conv => rhs; rw [← hv]
      rw [List.filter_append, hl, List.append_nil]
    · rw [List.filter_append, hx, List.append_nil]
  rw [this]
theorem atV_pos {vs : List Ver} {e : Int} (h : 1 ≤ e) : atV vs e = C.atM vs e := by unfold atV; rw [if_neg (by omega)]
end Go.Proofs.Ytoccbnhahaoeiaa.V.S
namespace Go.Proofs.Ytoccbnhahaoeiaa.V.S
open Go Go.Proofs.Ytoccbnhahaoeiaa.V
set_option linter.unusedVariables false
set_option linter.unusedSimpArgs false
set_option maxRecDepth 20000
def mergeA (a : S_api_Agg) (v : Int) : S_api_Agg := if a.Count = 0 then oneA v else ⟨a.Count + 1, a.Sum + v, if v < a.Min then v else a.Min, if a.Max < v then v else a.Max⟩
abbrev B9 (v : Int) : Prop := -9223372036854776 ≤ v ∧ v ≤ 9223372036854776
/-- An aggregate of n values. -/
structure FI (n : Nat) (a : S_api_Agg) : Prop where
  z : n = 0 → a = zA
  c : a.Count = (n : Int)
  s : -((n : Int) * 9223372036854776) ≤ a.Sum ∧ a.Sum ≤ (n : Int) * 9223372036854776
  m0 : B9 a.Min
  m1 : B9 a.Max
  le : a.Min ≤ a.Max
  o : n = 1 → a.Min = a.Sum ∧ a.Max = a.Sum
  lo : 2 ≤ n → a.Max + ((n : Int) - 1) * a.Min ≤ a.Sum
  hi : 2 ≤ n → a.Sum ≤ a.Min + ((n : Int) - 1) * a.Max
theorem FI.zero : FI 0 zA := ⟨fun _ => rfl, rfl, ⟨by show -_ ≤ (0 : Int); omega, by show (0 : Int) ≤ _; omega⟩, ⟨by show _ ≤ (0 : Int); omega, by show (0 : Int) ≤ _; omega⟩, ⟨by show _ ≤ (0 : Int); omega, by show (0 : Int) ≤ _; omega⟩, Int.le_refl _, fun h => by omega, fun h => by omega, fun h => by omega⟩
theorem FI.right {n : Nat} {a : S_api_Agg} (f : FI n a) (h : 1 ≤ n) : rightM a = true := by
  unfold rightM
  have hc := f.c
  rw [if_neg (by omega)]
  by_cases h1 : n = 1
  · rw [if_pos (by omega), decide_eq_true (f.o h1)]
  · have := f.le
    rw [if_neg (by omega), if_neg (by omega), hc]
    have a1 := f.lo (by omega)
    have a2 := f.hi (by omega)
    have e1 : ((n : Int) - 1) * a.Min = ((n : Int) - 2) * a.Min + a.Min := by
      rw [show (n : Int) - 1 = ((n : Int) - 2) + 1 by omega, Int.add_mul, Int.one_mul]
    have e2 : ((n : Int) - 1) * a.Max = ((n : Int) - 2) * a.Max + a.Max := by
      rw [show (n : Int) - 1 = ((n : Int) - 2) + 1 by omega, Int.add_mul, Int.one_mul]
    rw [decide_eq_true (by omega), decide_eq_true (by omega)]; rfl
theorem FI.step {n : Nat} {a : S_api_Agg} {v : Int} (f : FI n a) (hv : B9 v) : FI (n + 1) (mergeA a v) := by
  unfold mergeA
  have hc := f.c
  have hs := f.s
  have h0 := f.m0
  have h1 := f.m1
  have hle := f.le
  by_cases hz : n = 0
  · rw [if_pos (by omega)]
    subst hz
    exact ⟨fun h => by omega, rfl, ⟨by show _ ≤ v; omega, by show v ≤ _; omega⟩, hv, hv, Int.le_refl _, fun _ => ⟨rfl, rfl⟩, fun h => by omega, fun h => by omega⟩
  · rw [if_neg (by omega)]
    have key : ∀ mn mx : Int, mn = (if v < a.Min then v else a.Min) → mx = (if a.Max < v then v else a.Max) → FI (n + 1) ⟨a.Count + 1, a.Sum + v, mn, mx⟩ := fun mn mx e1 e2 => by
      have b1 : mn ≤ a.Min ∧ mn ≤ v ∧ (mn = v ∨ mn = a.Min) := by rw [e1]; split <;> exact ⟨by omega, by omega, by first | exact .inl rfl | exact .inr rfl⟩
      have b2 : a.Max ≤ mx ∧ v ≤ mx ∧ (mx = v ∨ mx = a.Max) := by rw [e2]; split <;> exact ⟨by omega, by omega, by first | exact .inl rfl | exact .inr rfl⟩
      refine ⟨fun h => by omega, by show a.Count + 1 = _; omega, ⟨by show _ ≤ a.Sum + v; omega, by show a.Sum + v ≤ _; omega⟩, ⟨by show _ ≤ mn; omega, by show mn ≤ _; omega⟩, ⟨by show _ ≤ mx; omega, by show mx ≤ _; omega⟩, by show mn ≤ mx; omega, fun h => by omega, fun _ => ?_, fun _ => ?_⟩
      · show mx + (((n + 1 : Nat) : Int) - 1) * mn ≤ a.Sum + v
        by_cases hn1 : n = 1
        · obtain ⟨o1, o2⟩ := f.o hn1
          subst hn1
          rw [show (((1 + 1 : Nat) : Int) - 1) * mn = mn by rw [show ((1 + 1 : Nat) : Int) - 1 = 1 by omega, Int.one_mul]]
          omega
        · have a1 := f.lo (by omega)
          have e3 : (((n + 1 : Nat) : Int) - 1) * mn = ((n : Int) - 1) * mn + mn := by
            rw [show ((n + 1 : Nat) : Int) - 1 = ((n : Int) - 1) + 1 by omega, Int.add_mul, Int.one_mul]
          rw [e3]
          have a2 : ((n : Int) - 1) * mn ≤ ((n : Int) - 1) * a.Min := Int.mul_le_mul_of_nonneg_left b1.1 (by omega)
          omega
      · show a.Sum + v ≤ mn + (((n + 1 : Nat) : Int) - 1) * mx
        by_cases hn1 : n = 1
        · obtain ⟨o1, o2⟩ := f.o hn1
          subst hn1
          rw [show (((1 + 1 : Nat) : Int) - 1) * mx = mx by rw [show ((1 + 1 : Nat) : Int) - 1 = 1 by omega, Int.one_mul]]
          omega
        · have a1 := f.hi (by omega)
          have e3 : (((n + 1 : Nat) : Int) - 1) * mx = ((n : Int) - 1) * mx + mx := by
            rw [show ((n + 1 : Nat) : Int) - 1 = ((n : Int) - 1) + 1 by omega, Int.add_mul, Int.one_mul]
          rw [e3]
          have a2 : ((n : Int) - 1) * a.Max ≤ ((n : Int) - 1) * mx := Int.mul_le_mul_of_nonneg_left b2.1 (by omega)
          omega
    exact key _ _ rfl rfl
/-- The last fold that was told up to an epoch. -/
def lastG : List S_api_Agg → S_api_Agg → S_api_Agg
  | [], z => z
  | a :: r, z => lastG r (if a.Count > 0 then a else z)
theorem lastG_snoc (a : S_api_Agg) : ∀ (L : List S_api_Agg) (z : S_api_Agg), lastG (L ++ [a]) z = if a.Count > 0 then a else lastG L z
  | [], z => rfl
  | b :: r, z => by rw [List.cons_append]; unfold lastG; rw [lastG_snoc a r]
theorem lastG_pad (k : Nat) (L : List S_api_Agg) : lastG (L ++ List.replicate k zA) zA = lastG L zA := by
  induction k with
  | zero => rw [List.replicate_zero, List.append_nil]
  | succ k ih => rw [List.replicate_succ', ← List.append_assoc, lastG_snoc, if_neg (by decide), ih]
/-- One cell alone. -/
def oC (c : Cel) (vs : List Ver) : SL := if vs = [] then [] else [(c, vs)]
theorem oC_get (c : Cel) (vs : List Ver) : (getS (oC c vs) c).getD [] = vs := by
  unfold oC
  split
  · rename_i h; rw [h]; rfl
  · simp [getS, getK, cC_self]
theorem oC_at {c : Cel} (hc : okC c = 0) (vs : List Ver) (e : Int) : atS (oC c vs) c e = (atV vs e).1 := by
  unfold atS
  rw [if_neg (fun h => h hc)]
  by_cases h : vs = []
  · subst h
    show zA = _
    unfold atV
    split <;> rfl
  · have : getS (oC c vs) c = some vs := by
      unfold oC
      rw [if_neg h]
      simp [getS, getK, cC_self]
    rw [this]
theorem oC_put (c : Cel) (vs : List Ver) (e : Int) (a : S_api_Agg) : putS (oC c vs) e c a = oC c (C.layM vs ⟨e, a, false⟩) := by
  unfold putS
  rw [oC_get]
  have hne : C.layM vs ⟨e, a, false⟩ ≠ [] := by unfold C.layM; split <;> simp
  unfold oC
  rw [if_neg hne]
  split
  · rfl
  · simp [setS, setK, cC_self]
theorem oC_units (c : Cel) (vs : List Ver) : unitsS (oC c vs) ≤ vs.length + 1 := by
  unfold oC
  split
  · exact Nat.zero_le _
  · show unitsV vs + 0 ≤ _
    unfold unitsV; split <;> omega
theorem need_le {o : Option (List Ver)} {e : Int} : needV o e ≤ 2 := by
  unfold needV
  split
  · omega
  · split
    · omega
    · split
      · omega
      · split <;> omega
theorem bad_no' {e c : Int} (h1 : 1 ≤ e) (h2 : e ≤ 1099511627776) (hc : c ≠ 0) : ¬ (e < 1 ∨ e > 1099511627776 ∨ c = 0 ∨ true = false) := by
  rintro (h | h | h | h)
  · omega
  · omega
  · exact hc h
  · cases h
theorem oC_putE {c : Cel} (hc : okC c = 0) {vs : List Ver} {e : Int} {a : S_api_Agg} (h1 : 1 ≤ e) (h2 : e ≤ 100) (ha : a.Count ≠ 0) (hn : (C.newestM vs).2.1 ≤ e) (hl : vs.length ≤ 100) : putE (oC c vs) 200 e c a true = 0 := by
  unfold putE
  have hu := oC_units c vs
  have hnd : needS (oC c vs) e c ≤ 2 := by unfold needS; rw [if_neg (fun h => h hc)]; exact need_le
  rw [if_neg (fun h => h hc), if_neg (bad_no' h1 (by omega) ha), oC_get, if_neg (by omega), if_neg (by omega)]
end Go.Proofs.Ytoccbnhahaoeiaa.V.S
namespace Go.Proofs.Ytoccbnhahaoeiaa.V.S
open Go Go.Proofs.Ytoccbnhahaoeiaa.V
set_option linter.unusedVariables false
set_option linter.unusedSimpArgs false
set_option maxRecDepth 20000
theorem add_spec {a b : Int} {h : H} {Q : Int → Value → H → Prop} (h0 : -9223372036854775808 ≤ a + b) (h1 : a + b < 9223372036854775808) (k : Q (a + b) .nilIface h) : F.agg_Add a b h Q := by
  unfold F.agg_Add
  rw [w64 h0 h1]
  have : (decide (a + b > a) == decide (b > 0)) = true := by
    by_cases h : b > 0
    · rw [decide_eq_true h, decide_eq_true (show a + b > a by omega)]; rfl
    · rw [decide_eq_false h, decide_eq_false (show ¬ a + b > a by omega)]; rfl
  rw [this]
  exact ⟨fun _ => k, fun g => by cases g⟩
theorem aggput_spec {a : S_api_Agg} {v : Int} {h : H} {Q : S_api_Agg → Value → H → Prop} (hc : 0 ≤ a.Count ∧ a.Count ≤ 100) (hs : -1000000000000000000 ≤ a.Sum ∧ a.Sum ≤ 1000000000000000000) (hv : B9 v) (k : ∀ h', Ext h h' → Q (mergeA a v) .nilIface h') : F.agg_Put a v h Q := by
  unfold F.agg_Put
  refine new_of fun n1 h1 hn1 b1 e1 s1 => new_of fun n3 h3 hn3 b3 e3 s3 => ⟨a, (Blk.cells b1).ext e3, ?_⟩
  unfold F.agg_Merge
  refine new_of fun m1 g1 hm1 c1 f1 t1 => new_of fun m3 g3 hm3 c3 f3 t3 => new_of fun m5 g5 hm5 c5 f5 t5 => ?_
  have f15 := f3.trans f5
  have f35 := f1.trans f15
  have e05 := (e1.trans e3).trans f35
  have fin : ∀ (g : H) (r : S_api_Agg), Ext g5 g → r = mergeA a v → stH g ⟨n3, 0, none⟩ r.cells fun h10 => ld_S_api_Agg h10 ⟨n3, 0, none⟩ fun y11 => Q y11 .nilIface h10 := fun g r ex hr => by
    have bb : Blk g n3 zA.cells.toArray ty_35 := (f35.trans ex).block b3 fun f => f
    refine C.st_agg bb (d := r) fun h2 b2 o2 s2 => ⟨r, b2.cells, ?_⟩
    rw [hr]
    have z1 := e1.size
    exact k h2 ((e05.trans ex).step o2 fun x hx hb => by omega)
  have res : ∀ (g : H) (r : S_api_Agg), Ext g5 g → r = mergeA a v → stH g ⟨m5, 0, none⟩ r.cells fun h12 => ld_S_api_Agg h12 ⟨m5, 0, none⟩ fun y13 => stH h12 ⟨n3, 0, none⟩ y13.cells fun h10 => ld_S_api_Agg h10 ⟨n3, 0, none⟩ fun y11 => Q y11 .nilIface h10 := fun g r ex hr => by
    have bb : Blk g m5 zA.cells.toArray ty_35 := ex.block c5 fun f => f
    refine C.st_agg bb (d := r) fun h2 b2 o2 s2 => ⟨r, b2.cells, ?_⟩
    have b3' : Blk h2 n3 zA.cells.toArray ty_35 := o2.block ((f35.trans ex).block b3 fun f => f) (by have := f1.size; have := f3.size; omega)
    refine C.st_agg b3' (d := r) fun h4 b4 o4 s4 => ⟨r, b4.cells, ?_⟩
    rw [hr]
    have z1 := e1.size
    have z3 := e3.size
    have y1 := f1.size
    have y3 := f3.size
    exact k h4 (((e05.trans ex).step o2 fun x hx hb => by omega).step o4 fun x hx hb => by omega)
  have x0 : cellH g5 ⟨m1, 0, none⟩ = some (.int .i64 a.Count) := f15.cell (Blk.cells c1 0 _ rfl) fun f => f
  have x1 : cellH g5 ⟨m1, 1, none⟩ = some (.int .i64 a.Sum) := f15.cell (Blk.cells c1 1 _ rfl) fun f => f
  have x2 : cellH g5 ⟨m1, 2, none⟩ = some (.int .i64 a.Min) := f15.cell (Blk.cells c1 2 _ rfl) fun f => f
  have x3 : cellH g5 ⟨m1, 3, none⟩ = some (.int .i64 a.Max) := f15.cell (Blk.cells c1 3 _ rfl) fun f => f
  have y0 : cellH g5 ⟨m3, 0, none⟩ = some (.int .i64 1) := f5.cell (Blk.cells c3 0 _ rfl) fun f => f
  have y1 : cellH g5 ⟨m3, 1, none⟩ = some (.int .i64 v) := f5.cell (Blk.cells c3 1 _ rfl) fun f => f
  have y2 : cellH g5 ⟨m3, 2, none⟩ = some (.int .i64 v) := f5.cell (Blk.cells c3 2 _ rfl) fun f => f
  have y3 : cellH g5 ⟨m3, 3, none⟩ = some (.int .i64 v) := f5.cell (Blk.cells c3 3 _ rfl) fun f => f
  simp only [add_lit, Nat.zero_add, Nat.add_zero]
  refine ldI_of x0 ⟨fun g => ?_, fun g => ldI_of y0 ⟨fun g2 => absurd g2 (by decide), fun _ => ldI_of x0 (ldI_of y0 ?_)⟩⟩
  · have g : a.Count = 0 := by simpa using g
    have b3c : Cells g5 ⟨m3, 0, none⟩ (oneA v).cells := (Blk.cells c3).ext f5
    exact ⟨oneA v, b3c, res g5 (oneA v) (.refl _) (by unfold mergeA; rw [if_pos g])⟩
  · have g : ¬ a.Count = 0 := by simpa using g
    refine add_spec (by omega) (by omega) ⟨.inl rfl, fun h => absurd h (by decide), fun _ => ldI_of x1 (ldI_of y1 (add_spec (by omega) (by omega) ⟨.inl rfl, fun h => absurd h (by decide), fun _ => ldI_of x2 (ldI_of y2 (min_of (ldI_of x3 (ldI_of y3 (max_of ?_)))))⟩))⟩
    exact res g5 _ (.refl _) (by unfold mergeA; rw [if_neg g])
theorem tdiv_b9 {v : Int} (h0 : -9223372036854775808 ≤ v) (h1 : v < 9223372036854775808) : B9 (Int.tdiv v 1000) := by
  rcases Int.lt_or_le v 0 with g | g
  · have : Int.tdiv v 1000 = -(Int.tdiv (-v) 1000) := by rw [Int.neg_tdiv, Int.neg_neg]
    rw [this, Int.tdiv_eq_ediv_of_nonneg (by omega)]
    exact ⟨by omega, by omega⟩
  · rw [Int.tdiv_eq_ediv_of_nonneg g]
    exact ⟨by omega, by omega⟩
theorem aC_len (x : S_api_Agg) : (S_api_Agg.cells x).length = 4 := rfl
theorem aggAt {h : H} {s : Sl} {A : List S_api_Agg} (rd : Reads h s 4 (A.flatMap S_api_Agg.cells)) {i : Nat} {x : S_api_Agg} (hx : A[i]? = some x) {K : Addr → Prop} (k : ∀ a, Cells h a x.cells → K a) : idxA s (i : Int) 4 K := by
  obtain ⟨p, p1, p2, p3⟩ := rd_at aC_len (by omega) rd hx
  have hl := rd_len aC_len (by omega) rd
  exact idxR_of (i := i) p1 (by have := (List.getElem?_eq_some_iff.1 hx).1; omega) rfl (k _ p3)
theorem agg_sh : ¬ ShE tn_api_Agg := by unfold ShE; decide
theorem ints64_open {T : Type} {enc : TypeId × Value → T} {w : World} {base : Nat} {spare : Nat → Bool} {held : Bool} {fuel : Nat} {v : Value} {y : DataW T × List MemPlace} (h : DataW.trod enc PP w base spare held fuel tn_Slint64 [v] = some y) :
    ∃ (s : Sl) (L : List Int), v = s.enc ∧ Reads w.heap s 1 (L.flatMap cI) ∧ s.len ≤ s.cap ∧ (L ≠ [] → ∀ b, s.blk = some b → b < w.heap.size) ∧ (∀ x ∈ L, W64 x) ∧ L.length ≤ 9223372036854775807 :=
  gen_open cI W64 cI_len ut_Slint64 (show PP.cellsOf 2 = 1 from by kernel_rfl) (by omega) h fun n cs y hy _ => by
    obtain ⟨m, e1, _, e2⟩ := DataW.trod_int Try.underlying2 hy
    exact ⟨m, e1, i64_of e2⟩
theorem lay_atM {vs : List Ver} {x : Ver} {e : Int} (h : x.epoch ≤ e) (hd : x.dead = false) : (C.atM (C.layM vs x) e).1 = x.value := by
  have hl := lay_last vs x
  obtain ⟨l, hl⟩ := List.getLast?_eq_some_iff.1 hl
  unfold C.atM
  rw [hl, List.filter_append, List.filter_cons_of_pos (by simpa using h), List.filter_nil, List.getLast?_concat]
  simp only [hd]; rfl
structure FS (h hh : H) (nd m : Nat) (c : Cel) (i : Nat) (ep : Nat) (vs : List Ver) (A : S_api_Agg) (G : List S_api_Agg) (x10 : Sl) : Prop where
  sh : SH hh nd (oC c vs) 200 (fun b => h.size ≤ b)
  e : Ext h hh
  bc : Blk hh m c.cells.toArray tn_api_Cell
  wg : Owns hh x10 tn_api_Agg 4 (G.flatMap S_api_Agg.cells)
  mg : Mine h x10
  ep1 : 1 ≤ ep
  ep2 : ep ≤ i + 1
  gl : G.length ≤ ep
  nw : (C.newestM vs).1 = A ∧ (C.newestM vs).2.1 ≤ (ep : Int)
  vl : vs.length ≤ i
  hist : ∀ e : Nat, 1 ≤ e → (C.atM vs (e : Int)).1 = lastG (G.take e) zA
  all : lastG G zA = A
  fi : FI i A
theorem ShardFolds_spec {c0 : Cel} {l u : Sl} {L U : List Int} {h : H} {Q : Bool → H → Prop} (rl : Reads h l 1 (L.flatMap cI)) (ru : Reads h u 1 (U.flatMap cI)) (hw : ∀ x ∈ L, W64 x) (hL : L.length ≤ 9223372036854775807) (hU : U.length ≤ 9223372036854775807) (k : ∀ h', Ext h h' → Q true h') : F.spatelaw7_ShardFolds c0 l u h Q := by
  unfold F.spatelaw7_ShardFolds
  have hl := rd_len cI_len (by omega) rl
  have hu := rd_len cI_len (by omega) ru
  have hR : ∀ {hh : H}, Ext h hh → ∀ b, hh.size ≤ b → h.size ≤ b := fun e b hb => by have := e.size; omega
  refine new_of fun m h1 hm b1 e1 s1 => ?_
  refine New_spec (R := fun b => h.size ≤ b) (fun g => by omega) (hR e1) fun _ _ h3 nd sh3 e3 hnd => ⟨fun g => by simp at g, fun _ => ?_⟩
  unfold F.spatelaw7_ShardFolds.j15 F.spatelaw7_ShardFolds.j1
  refine ⟨fun g => by simp at g, fun _ => ?_⟩
  have b3 : Blk h3 m c0.cells.toArray tn_api_Cell := e3.block b1 fun f => f
  refine ⟨c0, b3.cells, few_spec fun h8 e8 => ?_⟩
  refine st_cel (e8.block b3 fun f => f) (d := fewC c0) fun h10 b10 o10 s10 => ?_
  have cok := few_ok c0
  generalize fewC c0 = c at b10 cok ⊢
  have e08 := (e1.trans e3).trans e8
  have e010 : Ext h h10 := e08.step o10 fun x hx hb => by omega
  have sh10 : SH h10 nd (oC c []) 200 (fun b => h.size ≤ b) := by
    refine (sh3.ext e8).keep o10 fun b hb ht hbm => ?_
    subst hbm
    exact not_sh (e8.block b3 fun f => f) cel_sh ht
  -- what each epoch tells
  have ends : ∀ (i ep : Nat) (vs : List Ver) (A : S_api_Agg) (G : List S_api_Agg) (x10 : Sl) (hh : H), FS h hh nd m c i ep vs A G x10 → i ≤ 60 → ∀ (C1 : Sl → Sl → Addr → Option Addr → Int → Sl → Int → H → Prop) (x9 x11 : Int), F.spatelaw7_ShardFolds.j11 Q C1 l u ⟨m, 0, none⟩ (some ⟨nd, 0, none⟩) x9 x10 x11 false hh := by
    intro i ep vs A G x10 hh fs hi C1 x9 x11
    unfold F.spatelaw7_ShardFolds.j11
    refine ⟨fun g => (by cases g), fun _ => ?_⟩
    refine new_of fun n h75 hn b75 e75 s75 => ?_
    have b75' : Blk h75 n zA.cells.toArray tn_api_Agg := b75
    refine C.st_agg b75' (d := zA) fun h77 b77 o77 s77 => ?_
    have e77 : Ext hh h77 := e75.step o77 fun x hx hb => by omega
    have hgl := own_len aC_len (by omega) fs.wg
    have hG := fs.gl
    have hep := fs.ep2
    have L12 : ∀ (d q : Nat) (h2 : H), q ≤ G.length → G.length - q < d → Ext hh h2 → Blk h2 n (lastG (G.take q) zA).cells.toArray tn_api_Agg → F.spatelaw7_ShardFolds.l12 Q d ⟨m, 0, none⟩ (some ⟨nd, 0, none⟩) x10 ⟨n, 0, none⟩ (q : Int) h2 := by
      intro d
      induction d with
      | zero => intro q _ _ hm; omega
      | succ d ih =>
        intro q h2 hq hm e2 bn
        unfold F.spatelaw7_ShardFolds.l12
        rw [hgl]
        refine ⟨fun gg => ?_, fun gg => ?_⟩
        · have gg := of_decide_eq_true gg
          obtain ⟨x, hx⟩ : ∃ x, G[q]? = some x := ⟨_, List.getElem?_eq_getElem (by omega)⟩
          have ht : G.take (q + 1) = G.take q ++ [x] := tk_snoc hx
          have hm' : G.length - (q + 1) < d := by omega
          have j14 : ∀ h5, Ext hh h5 → Blk h5 n (lastG (G.take (q + 1)) zA).cells.toArray tn_api_Agg → F.spatelaw7_ShardFolds.j14 Q (F.spatelaw7_ShardFolds.l12 Q d) ⟨m, 0, none⟩ (some ⟨nd, 0, none⟩) x10 ⟨n, 0, none⟩ (q : Int) h5 := fun h5 e5 bn5 => by
            unfold F.spatelaw7_ShardFolds.j14 F.spatelaw7_ShardFolds.j13
            rw [w64s (by omega)]
            refine ⟨c, fs.bc.cells.ext e5, _, bn5.cells, At_spec (fs.sh.ext e5) fun h6 e6 => ⟨bn5.cells.ext e6, ?_⟩⟩
            have hat : atS (oC c vs) c ((q + 1 : Nat) : Int) = lastG (G.take (q + 1)) zA := by
              rw [oC_at cok, atV_pos (by omega)]
              exact fs.hist (q + 1) (by omega)
            rw [hat, agg_same]
            exact ⟨fun g => (by cases g), fun _ => ih (q + 1) h6 (by omega) hm' (e5.trans e6) (e6.block bn5 fun f => f)⟩
          refine aggAt (fs.wg.ext e2).reads hx fun a ca => ?_
          have ca0 : cellH h2 (a.add 0) = some (.int .i64 x.Count) := ca 0 _ rfl
          refine ldI_of ca0 ⟨fun g => ?_, fun g => ?_⟩
          · have g := of_decide_eq_true g
            refine aggAt (fs.wg.ext e2).reads hx fun a' ca' => ⟨x, ca', C.st_agg bn (d := x) fun h5 b5 o5 s5 => j14 h5 (e2.step o5 fun z hz hb => by omega) ?_⟩
            rw [ht, lastG_snoc, if_pos g]; exact b5
          · have g := of_decide_eq_false g
            refine j14 h2 e2 ?_
            rw [ht, lastG_snoc, if_neg g]; exact bn
        · have gg := of_decide_eq_false gg
          have hqe : q = G.length := by omega
          rw [hqe, List.take_length, fs.all] at bn
          refine ⟨c, fs.bc.cells.ext e2, A, bn.cells, Get_spec (fs.sh.ext e2) fun h5 e5 => ⟨bn.cells.ext e5, ?_⟩⟩
          have hat : atS (oC c vs) c 0 = A := by
            rw [oC_at cok]; unfold atV; rw [if_pos rfl]; exact fs.nw.1
          rw [hat, agg_same]
          exact ⟨fun _ => head_spec fun h' e' => k h' (((fs.e.trans e2).trans e5).trans e'), fun g => by cases g⟩
    exact ⟨G.length + 1, L12 _ 0 h77 (by omega) (by omega) e77 b77⟩
  have steps : ∀ (d i ep : Nat) (vs : List Ver) (A : S_api_Agg) (G : List S_api_Agg) (x10 : Sl) (hh : H), i ≤ L.length → L.length - i < d → FS h hh nd m c i ep vs A G x10 → i ≤ 60 → F.spatelaw7_ShardFolds.l2 Q d l u ⟨m, 0, none⟩ (some ⟨nd, 0, none⟩) (ep : Int) x10 (i : Int) hh := by
    intro d
    induction d with
    | zero => intro i _ _ _ _ _ _ _ hm; omega
    | succ d ih =>
      intro i ep vs A G x10 hh hi hm fs hi60
      unfold F.spatelaw7_ShardFolds.l2
      rw [hl]
      refine ⟨fun gg => ?_, fun _ => ends i ep vs A G x10 hh fs hi60 _ _ _⟩
      have gg := of_decide_eq_true gg
      by_cases g60 : i < 60
      · rw [decide_eq_true (by omega)]
        have hm' : L.length - (i + 1) < d := by omega
        have hiL : i + 1 ≤ L.length := by omega
        obtain ⟨v, hv⟩ : ∃ v, L[i]? = some v := ⟨_, List.getElem?_eq_getElem (by omega)⟩
        have hv9 : B9 (Int.tdiv v 1000) := tdiv_b9 (hw v (List.mem_of_getElem? hv)).1 (hw v (List.mem_of_getElem? hv)).2
        have wv : IntKind.wrap .i64 (Int.tdiv v 1000) = Int.tdiv v 1000 := w64 (by omega) (by omega)
        have hep1 := fs.ep1
        have hep2 := fs.ep2
        have hgl := fs.gl
        have hfs := fs.fi.s
        have hfc := fs.fi.c
        have hA : (0 ≤ A.Count ∧ A.Count ≤ 100) ∧ (-1000000000000000000 ≤ A.Sum ∧ A.Sum ≤ 1000000000000000000) := ⟨⟨by omega, by omega⟩, by omega, by omega⟩
        generalize hA' : mergeA A (Int.tdiv v 1000) = A'
        have fi' : FI (i + 1) A' := by rw [← hA']; exact fs.fi.step hv9
        have hat : atS (oC c vs) c 0 = A := by
          rw [oC_at cok]; unfold atV; rw [if_pos rfl]; exact fs.nw.1
        have hvl := fs.vl
        have hfc' := fi'.c
        have hfs' := fi'.s
        have hm0 := fi'.m0
        have hm1 := fi'.m1
        -- it is put, and kept
        have j6 : ∀ (ep' : Nat) (hh' : H) (n : Nat), ep ≤ ep' → ep' ≤ i + 2 → Ext hh hh' → hh.size ≤ n → Blk hh' n A'.cells.toArray tn_api_Agg → F.spatelaw7_ShardFolds.j6 Q (F.spatelaw7_ShardFolds.l2 Q d) l u ⟨m, 0, none⟩ (some ⟨nd, 0, none⟩) (ep' : Int) x10 (i : Int) ⟨n, 0, none⟩ .nilIface hh' := fun ep' hh' n h1 h2 ex hn bn => by
          unfold F.spatelaw7_ShardFolds.j6
          refine ⟨.inl rfl, fun g => absurd g (by decide), fun _ => ⟨c, fs.bc.cells.ext ex, A', bn.cells, ?_⟩⟩
          have rt : RightIs A' true := by
            have := right_all (a := A') ⟨by omega, by omega⟩ ⟨by omega, by omega⟩ ⟨by omega, by omega⟩ ⟨by omega, by omega⟩
            rw [fi'.right (by omega)] at this; exact this
          have pz : putE (oC c vs) 200 (ep' : Int) c A' true = 0 := oC_putE cok (by omega) (by omega) (by omega) (by have := fs.nw.2; omega) (by omega)
          refine Put_spec (x := ⟨c, A'⟩) (fs.sh.ext ex) rt (hR (fs.e.trans ex)) (fun g => absurd pz g) fun _ h29 sh29 o29 => ?_
          rw [oC_put] at sh29
          have e29 := o29.base (fs.e.trans ex) fun b hb => hb
          have bc29 := o29.blk (ex.block fs.bc fun f => f) cel_sh
          have bn29 := o29.blk bn agg_sh
          have wg29 := o29.owns (fs.wg.ext ex) agg_sh
          unfold F.spatelaw7_ShardFolds.j9 F.spatelaw7_ShardFolds.j7
          refine ⟨fun g => absurd g (by decide), fun _ => ?_⟩
          have hnlt : n < h29.size := block_lt bn29
          have L8 : ∀ (d2 q : Nat) (s : Sl) (h2 : H), G.length + q ≤ ep' → ep' - (G.length + q) < d2 → SH h2 nd (oC c (C.layM vs ⟨(ep' : Int), A', false⟩)) 200 (fun b => h.size ≤ b) → Ext h h2 → Blk h2 m c.cells.toArray tn_api_Cell → Blk h2 n A'.cells.toArray tn_api_Agg → Owns h2 s tn_api_Agg 4 ((G ++ List.replicate q zA).flatMap S_api_Agg.cells) → Mine h s → s.blk ≠ some n → F.spatelaw7_ShardFolds.l8 Q (F.spatelaw7_ShardFolds.l2 Q d) d2 l u ⟨m, 0, none⟩ (some ⟨nd, 0, none⟩) (ep' : Int) s (i : Int) ⟨n, 0, none⟩ h2 := by
            intro d2
            induction d2 with
            | zero => intro q _ _ _ hm; omega
            | succ d2 ih2 =>
              intro q s h2 hq hm2 sh2 ee bc2 bn2 ws ms sn
              have hsl := own_len aC_len (by omega) ws
              rw [List.length_append, List.length_replicate] at hsl
              unfold F.spatelaw7_ShardFolds.l8
              rw [hsl]
              refine ⟨fun g2 => ?_, fun g2 => ⟨A', bn2.cells, ?_⟩⟩
              · have g2 := of_decide_eq_true g2
                have hm2' : ep' - (G.length + (q + 1)) < d2 := by omega
                refine push_mine (h0 := h) (x := zA) ee ms aC_len (by omega) el_Slapi_Agg ws (fun x => ones_S_api_Agg x) (by simp only [List.length_append, List.length_replicate]; omega) fun s' h3 ws' e3 ms' o3 n3 => ?_
                have o3' := o3
                refine ih2 (q + 1) s' h3 (by omega) hm2' (sh2.oth o3 ws agg_sh) e3 (o3.block bc2 (own_neG ws bc2 (by decide))) (o3.block bn2 sn) (by rw [List.replicate_succ', ← List.append_assoc]; exact ws') ms' fun hb => ?_
                rcases n3 with n3 | ⟨b, q1, q2⟩
                · exact sn (by rw [← n3]; exact hb)
                · rw [q1] at hb; cases hb; have := block_lt bn2; omega
              · have g2 := of_decide_eq_false g2
                have hge : G.length + q = ep' := by omega
                rw [show IntKind.wrap .i64 ((ep' : Int) - 1) = ((ep' - 1 : Nat) : Int) by rw [w64 (by omega) (by omega)]; omega]
                refine V.put_at (f := S_api_Agg.cells) (x := A') aC_len (by omega) ws (by rw [List.length_append, List.length_replicate]; omega) fun h3 w3 o3 => ?_
                unfold F.spatelaw7_ShardFolds.j4
                rw [w64s (by omega)]
                generalize hP : G ++ List.replicate q zA = P at w3
                have hPl : P.length = ep' := by rw [← hP, List.length_append, List.length_replicate]; omega
                have hPs : P.set (ep' - 1) A' = P.take (ep' - 1) ++ [A'] := by
                  rw [List.set_eq_take_append_cons_drop, if_pos (by omega), List.drop_of_length_le (by omega)]
                have hlast : lastG (P.set (ep' - 1) A') zA = A' := by rw [hPs, lastG_snoc, if_pos (by omega)]
                refine ih (i + 1) ep' (C.layM vs ⟨(ep' : Int), A', false⟩) A' (P.set (ep' - 1) A') s h3 hiL hm' ?_ (by omega)
                refine ⟨sh2.oth o3 ws agg_sh, ee.mine ms o3, o3.block bc2 (own_neG ws bc2 (by decide)), w3, ms, by omega, by omega, by rw [List.length_set]; omega, ?_, ?_, fun e he => ?_, hlast, fi'⟩
                · rw [lay_newest]; exact ⟨rfl, Int.le_refl _⟩
                · have h1 := lay_len vs ⟨(ep' : Int), A', false⟩
                  have h2 := layN_range vs ⟨(ep' : Int), A', false⟩
                  omega
                · rcases Nat.lt_or_ge e ep' with g | g
                  · rw [lay_at (by show (e : Int) < (ep' : Int); omega), fs.hist e he, hPs, List.take_append_of_le_length (by rw [List.length_take]; omega), List.take_take, Nat.min_eq_left (by omega), ← hP]
                    rcases Nat.lt_or_ge G.length e with g3 | g3
                    · rw [List.take_of_length_le (by omega), List.take_append, List.take_of_length_le (by omega), List.take_replicate, lastG_pad]
                    · rw [List.take_append_of_le_length g3]
                  · rw [lay_atM (by show (ep' : Int) ≤ (e : Int); omega) rfl, List.take_of_length_le (by rw [List.length_set]; omega), hlast]
          refine ⟨ep' + 1, L8 _ 0 x10 h29 (by omega) (by omega) sh29 e29 bc29 bn29 (by simpa using wg29) fs.mg fun hb => ?_⟩
          have := fs.wg.blk_lt hb
          omega
        have j5 : ∀ (ep' : Nat), ep ≤ ep' → ep' ≤ i + 2 → F.spatelaw7_ShardFolds.j5 Q (F.spatelaw7_ShardFolds.l2 Q d) l u ⟨m, 0, none⟩ (some ⟨nd, 0, none⟩) (ep' : Int) x10 (i : Int) hh := fun ep' h1 h2 => by
          unfold F.spatelaw7_ShardFolds.j5
          refine ⟨c, fs.bc.cells, ?_⟩
          obtain ⟨p, p1, p2, p3⟩ := rd_at cI_len (by omega) (rl.ext fs.e) hv
          refine idxR_of (i := i) p1 (by omega) rfl (ldI_of p3.one ?_)
          have pc : ∀ {h' : H}, Ext hh h' → cellH h' (p.add (i * 1)) = some (.int .i64 v) := fun e => e.cell p3.one fun f => f
          rw [wv]
          refine ⟨by omega, ⟨Get_spec fs.sh fun h38 e38 => ⟨pc e38, ?_, ?_⟩, new_of fun n h54 hn b54 e54 s54 => ⟨pc e54, fs.bc.cells.ext e54, Get_spec (fs.sh.ext e54) fun h58 e58 => ⟨pc (e54.trans e58), ?_⟩⟩⟩⟩
          · rw [hat]
            refine aggput_spec hA.1 hA.2 hv9 fun h41 e41 => new_of fun n h44 hn b44 e44 s44 => ?_
            rw [hA']
            have b44' : Blk h44 n zA.cells.toArray tn_api_Agg := b44
            have z1 := e38.size
            have z2 := e41.size
            exact C.st_agg b44' (d := A') fun h46 b46 o46 s46 => j6 ep' h46 n h1 h2 (((e38.trans e41).trans e44).step o46 fun x hx hb => by omega) (by omega) b46
          · rw [hat]
            refine new_of fun n h47 hn b47 e47 s47 => ⟨pc (e38.trans e47), aggput_spec hA.1 hA.2 hv9 fun h50 e50 => ?_⟩
            rw [hA']
            have b50 : Blk h50 n zA.cells.toArray tn_api_Agg := e50.block b47 fun f => f
            have z1 := e38.size
            exact C.st_agg b50 (d := A') fun h53 b53 o53 s53 => j6 ep' h53 n h1 h2 (((e38.trans e47).trans e50).step o53 fun x hx hb => by omega) (by omega) b53
          · rw [hat]
            refine aggput_spec hA.1 hA.2 hv9 fun h61 e61 => ?_
            rw [hA']
            have b61 : Blk h61 n zA.cells.toArray tn_api_Agg := (e58.trans e61).block b54 fun f => f
            exact C.st_agg b61 (d := A') fun h64 b64 o64 s64 => j6 ep' h64 n h1 h2 ((e54.trans (e58.trans e61)).step o64 fun x hx hb => by omega) (by omega) b64
        have j10 : ∀ b : Bool, F.spatelaw7_ShardFolds.j10 Q (F.spatelaw7_ShardFolds.l2 Q d) l u ⟨m, 0, none⟩ (some ⟨nd, 0, none⟩) (ep : Int) x10 (i : Int) b hh := fun b => by
          unfold F.spatelaw7_ShardFolds.j10
          refine ⟨fun _ => ?_, fun _ => j5 ep (Nat.le_refl _) (by omega)⟩
          rw [w64s (by omega)]
          exact j5 (ep + 1) (by omega) (by omega)
        unfold F.spatelaw7_ShardFolds.j11 F.spatelaw7_ShardFolds.j3
        rw [hu]
        refine ⟨fun _ => ⟨fun gu => ?_, fun _ => j10 _⟩, fun g => by cases g⟩
        have gu := of_decide_eq_true gu
        refine ⟨by omega, ?_⟩
        have ht : Int.tmod (i : Int) (U.length : Int) = ((i % U.length : Nat) : Int) := by rw [Int.tmod_eq_emod_of_nonneg (by omega)]; rfl
        rw [ht]
        have hlt : i % U.length < U.length := Nat.mod_lt _ (by omega)
        obtain ⟨p, p1, p2, p3⟩ := rd_at cI_len (by omega) (ru.ext fs.e) (List.getElem?_eq_getElem hlt)
        exact idxR_of (i := i % U.length) p1 (by omega) rfl (ldI_of p3.one (within_spec (by omega) (by omega) (j10 _)))
      · rw [decide_eq_false (by omega)]
        exact ends i ep vs A G x10 hh fs hi60 _ _ _
  refine ⟨L.length + 1, steps _ 0 1 [] zA [] _ h10 (by omega) (by omega) ⟨sh10, e010, b10, Owns.nil _ _ _, Mine.nil _ _ _, by omega, by omega, by simp, ⟨rfl, by show (0 : Int) ≤ _; omega⟩, by simp, fun e he => by rw [List.take_nil]; rfl, rfl, FI.zero⟩ (by omega)⟩
end Go.Proofs.Ytoccbnhahaoeiaa.V.S
