/- Three chains side by side in the law ChainPlays: what is told of them; lists lent; no condition. -/
import Derived.Test.YtapomjhjpejimaaPa
namespace Go.Proofs.Ytapomjhjpejimaa.V
open Go
set_option linter.unusedVariables false
set_option linter.unusedSimpArgs false

theorem atW_eq (L : List Ver) (e : Int) : atW L e = if (atM L e).2 then (wideV (atM L e).1, true) else (wide0, false) := by
  unfold atW atM
  cases (L.filter fun x => decide (x.epoch ≤ e)).getLast? with
  | none => rfl
  | some x => cases hd : x.dead <;> simp [hd]
theorem atM_zero {L : List Ver} {e : Int} (h : (atM L e).2 = false) : (atM L e).1 = 0 := by
  unfold atM at *
  cases hx : (L.filter fun x => decide (x.epoch ≤ e)).getLast? with
  | none => rfl
  | some x => rw [hx] at h; cases hd : x.dead <;> simp [hd] at h ⊢
theorem newW_eq (L : List Ver) : newW L = if (newestM L).2.2 then wideV (newestM L).1 else wide0 := by
  unfold newW newestM
  cases L.getLast? with
  | none => rfl
  | some x => cases hd : x.dead <;> simp [verW, hd]
theorem isZero : (wide0.N == (⟨0, (⟨#[]⟩ : ByteArray)⟩ : Wd).N && (wide0.S.toList == (⟨0, (⟨#[]⟩ : ByteArray)⟩ : Wd).S.toList && true)) = true := by simp [wide0]
section
variable {h0 h : H} {w pa pb pr : Nat} {Ba Bb Br : Option Nat} {L : List Ver} {Q : Bool → H → Prop}
theorem asks_new {n : Nat} {c0 : Array Value} (t : PW h0 h w pa pb pr Ba Bb Br L L L) (b0 : Blk h n c0 60) (hc0 : c0.size = 2) (hn : h0.size ≤ n) (hL : L.length < 1073741824) (k : ∀ h', PW h0 h' w pa pb pr Ba Bb Br L L L → Q true h') : F.spatelaw5_World_asks.j1 Q (some ⟨w, 0, none⟩) ⟨n, 0, none⟩ h := by
  unfold F.spatelaw5_World_asks.j1
  simp only [nn_some, add_lit, Nat.zero_add]
  rw [ldP_iff t.ca]
  refine Newest_spec t.a (by omega) fun h1 e1 => ?_
  have t1 := t.ext' e1
  rw [ldP_iff t1.cb]
  refine NewestW_spec t1.b (by omega) fun h2 e2 => ?_
  have t2 := t1.ext' e2
  refine stH_of (e2.block (e1.block b0 (fun f => f)) (fun f => f)) (by rw [wcell_len]; omega) fun h3 g1 g2 g3 => ?_
  rw [writeA_all (by rw [wcell_len]; exact hc0.symm)] at g1
  have hbn2 : WB h2 n 60 := ⟨_, e2.block (e1.block b0 (fun f => f)) (fun f => f)⟩
  have t3 : PW h0 h3 w pa pb pr Ba Bb Br L L L := t2.only g2 fun m e => by subst e; exact ⟨hn, 60, hbn2, by simp⟩
  rw [ldP_iff t3.cr]
  refine NewestR_spec t3.r (by omega) fun h4 e4 => ?_
  have t4 := t3.ext' e4
  have b4 := e4.block g1 (fun f => f)
  refine ⟨newW L, cells_blk b4, ?_⟩
  obtain ⟨s, sb, so, sB, sne⟩ := id t4.r
  -- the tails: how long they are
  have tail : ∀ {h5 : H} (e5 : Ext h4 h5), ∀ (K : Bool → H → Prop), (∀ h', PW h0 h' w pa pb pr Ba Bb Br L L L → K true h') →
      ldP h5 ⟨w, 0, none⟩ fun y70 => ldP h5 ⟨w, 2, none⟩ fun y74 => nn y74 fun a76 => ldL h5 (a76.add 0) fun y78 => F.chain_Chain_int_Len y70 h5 fun r81 h80 => cellH h80 (a76.add 0) = some y78.enc ∧ cellH h80 ⟨w, 2, none⟩ = some (.pointer y74) ∧
        (((r81 == (y78.len : Int))) = true → ldP h80 ⟨w, 1, none⟩ fun y87 => ldP h80 ⟨w, 2, none⟩ fun y91 => nn y91 fun a93 => ldL h80 (a93.add 0) fun y95 => F.chain_Chain_spatelaw5_Wide_Len y87 h80 fun r98 h97 => cellH h97 (a93.add 0) = some y95.enc ∧ cellH h97 ⟨w, 2, none⟩ = some (.pointer y91) ∧ K ((r98 == (y95.len : Int))) h97) ∧
        (((r81 == (y78.len : Int))) = false → K false h80) := fun {h5} e5 K kk => by
    have t5 := t4.ext' e5
    have s5 : Blk h5 pr #[s.enc] 64 := e5.block sb (fun f => f)
    have sc : cellH h5 ⟨pr, 0, none⟩ = some s.enc := s5.cell rfl
    have sl := CR.len so
    rw [ldP_iff t5.ca, ldP_iff t5.cr]
    simp only [nn_some, add_lit, Nat.add_zero]
    rw [ldL_iff sc]
    refine Len_spec t5.a ⟨sc, t5.cr, fun _ => ?_, fun g => ?_⟩
    · rw [ldP_iff t5.cb, ldP_iff t5.cr]
      simp only [nn_some, add_lit, Nat.add_zero]
      rw [ldL_iff sc]
      refine LenW_spec t5.b ⟨sc, t5.cr, ?_⟩
      rw [sl, show ((L.length : Int) == (L.length : Int)) = true from by simp]
      exact kk h5 t5
    · rw [sl] at g; simp at g
  rw [newW_eq]
  cases hc : (newestM L).2.2 with
  | true =>
    rw [if_pos rfl]
    refine number_wide fun h5 e5 => ?_
    have := tail e5 Q k
    simp only [beq_self_eq_true, true_implies, Bool.true_eq_false, false_implies, and_true, Bool.not_true, Bool.not_false, Bool.false_eq_true, and_self, true_and]
    exact this
  | false =>
    rw [if_neg (by simp)]
    refine number_zero fun h5 e5 => ?_
    have := tail e5 Q k
    have c5 : Cells h5 ⟨n, 0, none⟩ wide0.cells := by
      have h1 := cells_blk b4
      rw [newW_eq, hc] at h1
      exact h1.ext e5
    have ld : ld_S_spatelaw5_Wide h5 ⟨n, 0, none⟩ fun y176 => (((y176.N == (⟨0, (⟨#[]⟩ : ByteArray)⟩ : S_spatelaw5_Wide).N) && ((y176.S.toList == (⟨0, (⟨#[]⟩ : ByteArray)⟩ : S_spatelaw5_Wide).S.toList) && true)) = true → _) ∧ (((y176.N == (⟨0, (⟨#[]⟩ : ByteArray)⟩ : S_spatelaw5_Wide).N) && ((y176.S.toList == (⟨0, (⟨#[]⟩ : ByteArray)⟩ : S_spatelaw5_Wide).S.toList) && true)) = false → Q false h5) := ⟨wide0, c5, fun _ => this, fun g => by rw [isZero] at g; cases g⟩
    simp only [beq_self_eq_true, true_implies, Bool.true_eq_false, false_implies, and_true, Bool.not_false, Bool.not_true, Bool.false_eq_true, and_self, true_and]
    exact ld
theorem asks_spec {e : Int} (t : PW h0 h w pa pb pr Ba Bb Br L L L) (hr : Rise L) (hL : L.length < 1073741824) (k : ∀ h', PW h0 h' w pa pb pr Ba Bb Br L L L → Q true h') : F.spatelaw5_World_asks (some ⟨w, 0, none⟩) e h Q := by
  unfold F.spatelaw5_World_asks
  simp only [nn_some, add_lit, Nat.zero_add]
  rw [ldP_iff t.ca]
  refine At_spec t.a hr hL fun h1 e1 => ?_
  have t1 := t.ext' e1
  rw [ldP_iff t1.cb]
  refine AtW_spec t1.b hr hL fun h2 e2 => ?_
  have t2 := t1.ext' e2
  refine new_of fun n h3 f1 f2 f3 f4 => ?_
  have hn : h0.size ≤ n := by have := t2.ext.size; omega
  refine stH_of f2 (by rw [wcell_len]; simp [S_spatelaw5_Wide.cells]) fun h4 g1 g2 g3 => ?_
  rw [writeA_all (by rw [wcell_len]; simp [S_spatelaw5_Wide.cells])] at g1
  have x4 : Ext h2 h4 := f3.step g2 fun m hm e => by omega
  have t4 := t2.ext' x4
  rw [ldP_iff t4.cr]
  refine AtR_spec t4.r hr hL ⟨(atW L e).1, cells_blk g1, ?_⟩
  rw [atW_eq]
  have tail : ∀ {h5 : H}, Ext h4 h5 → F.spatelaw5_World_asks.j2 Q (some ⟨w, 0, none⟩) ⟨n, 0, none⟩ false h5 := fun {h5} e5 => by
    unfold F.spatelaw5_World_asks.j2
    exact ⟨(fun h => by cases h), fun _ => asks_new (t4.ext' e5) (e5.block g1 (fun f => f)) (by simp [wcell_len]) hn hL k⟩
  cases hc : (atM L e).2 with
  | true =>
    simp only [if_true]
    refine number_wide fun h5 e5 => ?_
    have := tail e5
    simp only [bne_self_eq_false, beq_self_eq_true, true_implies, Bool.true_eq_false, false_implies, and_true, Bool.not_true, Bool.not_false, Bool.false_eq_true, and_self, true_and]
    exact this
  | false =>
    simp only [if_false, Bool.false_eq_true]
    refine number_zero fun h5 e5 => ?_
    have := tail e5
    have c5 : Cells h5 ⟨n, 0, none⟩ wide0.cells := by
      have h1 := cells_blk g1
      rw [atW_eq, hc] at h1
      exact h1.ext e5
    have ld : ld_S_spatelaw5_Wide h5 ⟨n, 0, none⟩ fun y223 => F.spatelaw5_World_asks.j2 Q (some ⟨w, 0, none⟩) ⟨n, 0, none⟩ (!((y223.N == (⟨0, (⟨#[]⟩ : ByteArray)⟩ : S_spatelaw5_Wide).N) && ((y223.S.toList == (⟨0, (⟨#[]⟩ : ByteArray)⟩ : S_spatelaw5_Wide).S.toList) && true))) h5 := ⟨wide0, c5, by
      show F.spatelaw5_World_asks.j2 Q (some ⟨w, 0, none⟩) ⟨n, 0, none⟩ (!(wide0.N == (⟨0, (⟨#[]⟩ : ByteArray)⟩ : Wd).N && (wide0.S.toList == (⟨0, (⟨#[]⟩ : ByteArray)⟩ : Wd).S.toList && true))) h5
      rw [isZero]; exact this⟩
    simp only [bne_self_eq_false, beq_self_eq_true, true_implies, Bool.true_eq_false, false_implies, and_true, Bool.not_false, Bool.not_true, Bool.false_eq_true, and_self, true_and]
    exact ld
end
/-! ### Lists lent -/
def marksL (n : Nat) : List Int := [-77 - (n : Int), -77 - ((n : Int) + 1), -77 - ((n : Int) + 2), -77 - ((n : Int) + 3), -77 - ((n : Int) + 4)]
theorem marks_get {n i : Nat} (h1 : n ≤ i) (h2 : i < n + 5) : (marksL n)[i - n]? = some (-77 - (i : Int)) := by
  unfold marksL
  obtain ⟨j, rfl⟩ : ∃ j, i = n + j := ⟨i - n, by omega⟩
  rw [Nat.add_sub_cancel_left]
  match j, h2 with
  | 0, _ => simp
  | 1, _ => simp
  | 2, _ => simp
  | 3, _ => simp
  | 4, _ => simp
  | j + 5, h => omega
theorem lent_loop {h0 : H} {x0 : Sl} {b : Nat} {E : List Int} {Q : Sl → H → Prop} (hx0 : x0.len = E.length) (hE : E.length ≤ 300) (hb : h0.size ≤ b) (k : ∀ h', Owns h' ⟨some ⟨b, 0, none⟩, E.length + 5, E.length + 5⟩ 3 1 ((E ++ marksL E.length).flatMap cI) → Ext h0 h' → Q (slcut ⟨some ⟨b, 0, none⟩, E.length + 5, E.length + 5⟩ 0 E.length 1) h') :
    ∀ (m i : Nat) (h : H) (W : List Int), Owns h ⟨some ⟨b, 0, none⟩, E.length + 5, E.length + 5⟩ 3 1 (W.flatMap cI) → Ext h0 h → W.length = E.length + 5 → (∀ t, t < i → W[t]? = (E ++ marksL E.length)[t]?) → E.length ≤ i → i ≤ E.length + 5 → E.length + 5 - i < m → F.spatelaw5_lent.l1 Q m x0 ⟨some ⟨b, 0, none⟩, E.length + 5, E.length + 5⟩ (i : Int) h
  | 0, i, h, W, _, _, _, _, _, _, hm => by omega
  | m + 1, i, h, W, o, e0, hW, hw, hi, hi2, hm => by
    unfold F.spatelaw5_lent.l1
    simp only [decide_eq_true_eq, decide_eq_false_iff_not]
    refine ⟨fun g => ?_, fun g => ?_⟩
    · refine idxA_of (i := i) rfl (by simp only; omega) rfl ?_
      rw [w64 (n := -77 - (i : Int)) (by omega) (by omega)]
      refine own_setAt (f := cI) (k := 1) (x := -77 - (i : Int)) cI_len o rfl (by omega) fun h1 q1 q2 q3 => ?_
      rw [wrap_succ (by omega)]
      refine lent_loop hx0 hE hb k m (i + 1) h1 _ q1 (e0.step q2 fun n hn e => by simp [Sl.blk] at e; omega) (by simp [hW]) (fun t ht => ?_) (by omega) (by omega) (by omega)
      rw [List.getElem?_set]
      split
      · rename_i hit
        subst hit
        rw [if_pos (by omega), List.getElem?_append_right (by omega), marks_get hi (by omega)]
      · exact hw t (by omega)
    · have hWE : W = E ++ marksL E.length := by
        apply List.ext_getElem?
        intro t
        by_cases ht : t < E.length + 5
        · exact hw t (by omega)
        · rw [List.getElem?_eq_none (by omega), List.getElem?_eq_none (by simp [marksL]; omega)]
      rw [hWE] at o
      refine cutL_of (lo := 0) (hi := E.length) rfl (by rw [hx0]) (by omega) (by simp only; omega) ?_
      exact k h o e0
theorem lent_spec {h : H} {x0 : Sl} {E : List Int} {Q : Sl → H → Prop} (rd : Reads h x0 1 (E.flatMap cI)) (hE : E.length ≤ 300)
    (k : ∀ b h', h.size ≤ b → Owns h' ⟨some ⟨b, 0, none⟩, E.length + 5, E.length + 5⟩ 3 1 ((E ++ marksL E.length).flatMap cI) → Ext h h' → Q (slcut ⟨some ⟨b, 0, none⟩, E.length + 5, E.length + 5⟩ 0 E.length 1) h') : F.spatelaw5_lent x0 h Q := by
  unfold F.spatelaw5_lent
  have hl := rd_len cI_len (by omega) rd
  rw [hl, w64 (n := (E.length : Int) + 5) (by omega) (by omega), show (E.length : Int) + 5 = ((E.length + 5 : Nat) : Int) from by omega]
  refine make_of elI (by omega) (by simp only [maxLen]; omega) fun b h1 n1 n2 n3 => ?_
  rw [show (Value.int IntKind.i64 0).cells = #[.int .i64 0] from rfl, Nat.mul_one, made_one, ← flat_replicate cI 0 (.int .i64 0) rfl] at n2
  refine copy_of cI_len (by omega) elI n2 (rd.ext n3) (fun x => one1 rfl) (by simp) (by omega) fun h3 q1 q2 q3 => ?_
  refine ⟨6, ?_⟩
  have e3 : Ext h h3 := n3.step q2 fun n hn e => by simp [Sl.blk] at e; omega
  refine lent_loop (h0 := h) hl hE (by omega) (fun h' o e => k b h' (by omega) o e) 6 E.length h3 _ q1 e3 (by simp) (fun t ht => ?_) (by omega) (by omega) (by omega)
  rw [List.getElem?_append_left ht, List.getElem?_append_left ht]
theorem kept_loop {h0 : H} {x1 : Sl} {b : Nat} {E : List Int} {Q : Bool → H → Prop} (hE : E.length ≤ 300) (rd : Reads h0 x1 1 (E.flatMap cI)) (hlt : E ≠ [] → x1.blk ≠ some b) (k : ∀ h', Only (· = b) h0 h' → Q true h') :
    ∀ (m i : Nat) (h : H) (W : List Int), Owns h ⟨some ⟨b, 0, none⟩, E.length + 5, E.length + 5⟩ 3 1 (W.flatMap cI) → Only (· = b) h0 h → W.length = E.length + 5 → (∀ t, i ≤ t → W[t]? = (E ++ marksL E.length)[t]?) → i ≤ E.length + 5 → E.length + 5 - i < m → F.spatelaw5_kept.l1 Q m x1 ⟨some ⟨b, 0, none⟩, E.length + 5, E.length + 5⟩ true (i : Int) h
  | 0, i, h, W, _, _, _, _, _, hm => by omega
  | m + 1, i, h, W, o, e0, hW, hw, hi, hm => by
    unfold F.spatelaw5_kept.l1
    have rdh : Reads h x1 1 (E.flatMap cI) := rd.keep e0 fun hn c hc e => hlt hn (by rw [hc, e])
    have hl := rd_len cI_len (by omega) rdh
    rw [hl]
    simp only [decide_eq_true_eq, decide_eq_false_iff_not]
    have j3 : i < E.length + 5 → F.spatelaw5_kept.j3 Q (F.spatelaw5_kept.l1 Q m) x1 ⟨some ⟨b, 0, none⟩, E.length + 5, E.length + 5⟩ true (i : Int) h := fun hi2 => by
      unfold F.spatelaw5_kept.j3 F.spatelaw5_kept.j2
      refine idxA_of (i := i) rfl (by simp only; omega) rfl ?_
      refine own_setAt (f := cI) (k := 1) (x := 3) cI_len o rfl (by omega) fun h1 q1 q2 q3 => ?_
      rw [wrap_succ (by omega)]
      refine kept_loop hE rd hlt k m (i + 1) h1 _ q1 (e0.trans q2 fun n hn e => by simp [Sl.blk] at e; exact e.symm) (by simp [hW]) (fun t ht => ?_) (by omega) (by omega)
      rw [List.getElem?_set, if_neg (by omega)]
      exact hw t (by omega)
    refine ⟨fun g => ⟨fun g2 => ⟨fun _ => ?_, fun h => by cases h⟩, fun g2 => ⟨fun _ => ?_, fun h => by cases h⟩⟩, fun g => k h e0⟩
    · obtain ⟨x, hx⟩ : ∃ x, E[i]? = some x := ⟨_, List.getElem?_eq_getElem (by omega)⟩
      have hWx : W[i]? = some x := by rw [hw i (Nat.le_refl _), List.getElem?_append_left (by omega)]; exact hx
      obtain ⟨b', a1, a2⟩ := own_at cI_len (by omega) o hWx
      refine idxA_of (i := i) a1 (by simp only; omega) rfl ?_
      rw [ldI_iff a2.one]
      obtain ⟨q, r1, r2, r3⟩ := rd_at cI_len (by omega) rdh hx
      refine idxR_of (i := i) r1 (by omega) rfl ?_
      rw [ldI_iff r3.one, show (x == x) = true from by simp]
      exact j3 (by omega)
    · have hi5 : i < E.length + 5 := by omega
      have hWx : W[i]? = some (-77 - (i : Int)) := by rw [hw i (Nat.le_refl _), List.getElem?_append_right (by omega), marks_get (by omega) hi5]
      obtain ⟨b', a1, a2⟩ := own_at cI_len (by omega) o hWx
      refine idxA_of (i := i) a1 (by simp only; omega) rfl ?_
      rw [ldI_iff a2.one, w64 (n := -77 - (i : Int)) (by omega) (by omega), show ((-77 - (i : Int)) == (-77 - (i : Int))) = true from by simp]
      exact j3 hi5
theorem kept_spec {h : H} {x1 : Sl} {b : Nat} {E : List Int} {Q : Bool → H → Prop} (hE : E.length ≤ 300) (rd : Reads h x1 1 (E.flatMap cI)) (hlt : E ≠ [] → x1.blk ≠ some b) (o : Owns h ⟨some ⟨b, 0, none⟩, E.length + 5, E.length + 5⟩ 3 1 ((E ++ marksL E.length).flatMap cI)) (k : ∀ h', Only (· = b) h h' → Q true h') :
    F.spatelaw5_kept (slcut ⟨some ⟨b, 0, none⟩, E.length + 5, E.length + 5⟩ 0 E.length 1) x1 h Q := by
  unfold F.spatelaw5_kept
  have hl := rd_len cI_len (by omega) rd
  rw [hl, w64 (n := (E.length : Int) + 5) (by omega) (by omega)]
  refine cutL_of (lo := 0) (hi := E.length + 5) rfl (by omega) (by omega) (by simp [slcut]) ?_
  have he : slcut (slcut ⟨some ⟨b, 0, none⟩, E.length + 5, E.length + 5⟩ 0 E.length 1) 0 (E.length + 5) 1 = ⟨some ⟨b, 0, none⟩, E.length + 5, E.length + 5⟩ := by
    simp [slcut, add_lit]
  rw [he]
  exact ⟨E.length + 6, kept_loop hE rd hlt k _ 0 h _ o (.refl _) (by simp [marksL]) (fun t _ => rfl) (by omega) (by omega)⟩
theorem lent_reads {h : H} {b : Nat} {E : List Int} (o : Owns h ⟨some ⟨b, 0, none⟩, E.length + 5, E.length + 5⟩ 3 1 ((E ++ marksL E.length).flatMap cI)) : Reads h (slcut ⟨some ⟨b, 0, none⟩, E.length + 5, E.length + 5⟩ 0 E.length 1) 1 (E.flatMap cI) := by
  have := cut_reads cI_len (by omega) o.reads (lo := 0) (hi := E.length) (by omega) (by simp [marksL]) (by simp)
  simpa using this
end Go.Proofs.Ytapomjhjpejimaa.V
