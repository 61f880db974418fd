/- Parts of the proof of ShardRanges; no condition. -/
import Derived.Test.YtoccbnhahaoeiaaGreatQShardRanges5
namespace Go.Proofs.YtoccbnhahaoeiaaGreat.V
open Go
set_option linter.unusedVariables false
set_option linter.unusedSimpArgs false
theorem setCells_heap (b : Nat) : ∀ (vs : List Value) (o i : Nat) (w : World), (w.setCells b (o + i) vs).heap = setHs w.heap ⟨b, o, none⟩ vs i
  | [], _, _, _ => rfl
  | v :: r, o, i, w => by
    show ((w.setCell ⟨b, o + i, none⟩ v).setCells b (o + (i + 1)) r).heap = setHs (setH w.heap ((⟨b, o, none⟩ : Addr).add i) v) ⟨b, o, none⟩ r (i + 1)
    rw [add_lit, setCells_heap b r o (i + 1)]
    rfl
theorem setCells_like (b : Nat) : ∀ (vs : List Value) (o : Nat) (w : World), Like w (w.setCells b o vs)
  | [], _, w => Like.refl w
  | v :: r, o, w => Like.trans (b := w.setCell ⟨b, o, none⟩ v) ⟨rfl, rfl, rfl, Nat.le_refl _⟩ (setCells_like b r (o + 1) _)
theorem flat_take {α : Type} (f : α -> List Value) (k : Nat) (hf : ∀ x, (f x).length = k) : ∀ (L : List α) (i : Nat), i <= L.length -> (L.flatMap f).take (i * k) = (L.take i).flatMap f
  | L, 0, _ => by simp
  | [], i + 1, h => by simp at h
  | x :: r, i + 1, h => by
    have ih := flat_take f k hf r i (by simpa using h)
    rw [List.flatMap_cons, List.take_succ_cons, List.flatMap_cons, ← ih, Nat.add_mul, Nat.one_mul, Nat.add_comm, ← hf x, List.take_length_add_append]
section
variable {P : Program} {α : Type} {f : α -> List Value} {kk : Nat} {e t ty : TypeId} {bytes : Nat} {z : Value} {h : H} {s : Sl} {D : List α}
theorem own_first (hf : ∀ x, (f x).length = kk) (hk : 0 < kk) (w : Owns h s e kk (D.flatMap f)) {i : Nat} (hi : i <= D.length) : Owns h (slcut s 0 i kk) e kk ((D.take i).flatMap f) := by
  have hsl := own_len hf hk w
  have hll : ((D.take i).flatMap f).length = i * kk := by rw [flat_len f kk hf, List.length_take, Nat.min_eq_left hi]
  obtain ⟨hl, ⟨h1, h2, h3⟩ | ⟨b, c, h1, h2, h3, h4, h5, h6⟩⟩ := w
  · refine ⟨by rw [hll]; rfl, .inl ⟨by simp only [slcut]; rw [h1]; split <;> rfl, by simp only [slcut]; omega, by simp only [slcut]; omega⟩⟩
  · refine ⟨by rw [hll]; rfl, .inr ⟨b, c, by simp only [slcut]; rw [h1]; split <;> simp [add_lit], h2, by simp only [slcut]; simpa using h3, by simp only [slcut]; omega, by simp only [slcut]; omega, ?_⟩⟩
    rw [hll, ← flat_take f kk hf D i hi, ← h6, List.take_take, Nat.min_eq_left]
    rw [flat_len f kk hf]
    exact Nat.mul_le_mul_right _ hi
theorem clear_own {K : H -> Prop} (el : El P t e kk bytes z) (hf : ∀ x, (f x).length = kk) (hk : 0 < kk) (one : ∀ v ∈ z.cells.toList, v.oneCell' = true) (w : Owns h s e kk (D.flatMap f)) {i : Nat} (hi : i <= D.length)
    (k : ∀ h', Only (fun b => s.blk = some b) h h' -> Owns h' (slcut s 0 i kk) e kk ((D.take i).flatMap f) -> K h') : RunS P (Builtin.clear_ #[t] ty #[(slcut s i s.len kk).enc]) h fun u h' => u = (.tuple #[]) ∧ K h' := by
  have hsl := own_len hf hk w
  intro w0 hw
  subst hw
  obtain ⟨inf, hinf, hz, hsz, hby⟩ := el.info
  have hzv : (zeroValue e).run P w0 = .ok z w0 := by
    simp [zeroValue, typeInfo, hinf, hz, go_sem]
  by_cases hn : i = D.length
  · refine ⟨.tuple #[], w0, ?_, Like.refl _, rfl, k _ (.refl _) (own_first hf hk w hi)⟩
    rw [hsl, hn]
    simp only [slcut, Sl.enc, Nat.sub_self]
    generalize (if s.cap = D.length then s.ptr else s.ptr.map fun x => x.add (D.length * kk)) = p
    cases p with
    | none => simp [Builtin.clear_, run_underlying el.slice]
    | some a => simp [Builtin.clear_, run_underlying el.slice]
  · have own1 := own_first hf hk w hi
    obtain ⟨hl, ⟨h1, h2, h3⟩ | ⟨b, c, h1, h2, h3, h4, h5, h6⟩⟩ := w
    · omega
    obtain ⟨sp, sl, sc⟩ := s
    simp only at h1 h3 h4 h5 hsl hl
    subst h1
    have hvl : (Builtin.zeroCells z.cells (sl - i)).toList.length = (sl - i) * kk := by simp [Builtin.zeroCells, el.zero]
    have hbound : i * kk + (sl - i) * kk <= c.size := by
      rw [← Nat.add_mul, h3]; exact Nat.mul_le_mul_right _ (by omega)
    have hst := run_storeCells_cells (P := P) b (i * kk) (Builtin.zeroCells z.cells (sl - i)).toList 0 w0 (fun j hj => by
        rw [hvl] at hj
        have : cellH w0.heap ⟨b, i * kk + 0 + j, none⟩ = some c[i * kk + 0 + j] := Blk.cell (h := w0.heap) h2 (Array.getElem?_eq_getElem (by omega))
        show (cellH w0.heap ⟨b, i * kk + 0 + j, none⟩).isSome = true
        rw [this]; rfl) (fun j hj => Blk.frozen (h := w0.heap) h2) (fun v hv => by
        simp only [Builtin.zeroCells, Array.toList_map, List.mem_map, Array.toList_range] at hv
        obtain ⟨j, _, rfl⟩ := hv
        have hm : j % z.cells.size < z.cells.size := Nat.mod_lt _ (by rw [el.zero]; exact hk)
        rw [getElem!_pos z.cells _ hm]
        exact one _ (by rw [Array.mem_toList_iff]; exact Array.getElem_mem hm))
    have hr : (Builtin.clear_ #[t] ty #[(slcut ⟨some ⟨b, 0, none⟩, sl, sc⟩ i sl kk).enc]).run P w0 = .ok (.tuple #[]) (w0.setCells b (i * kk + 0) (Builtin.zeroCells z.cells (sl - i)).toList) := by
      obtain ⟨m, hm⟩ : ∃ m, sl - i = m + 1 := ⟨sl - i - 1, by omega⟩
      simp only [slcut, Sl.enc]
      rw [if_neg (show ¬ sc = i by omega)]
      rw [hm] at hst ⊢
      simp only [Option.map_some, add_lit, Nat.zero_add]
      simp [Builtin.clear_, run_underlying el.slice, hzv, hst]
    obtain ⟨a1, a2, a3⟩ := setHs_blk (h := w0.heap) h2 (i * kk) (Builtin.zeroCells z.cells (sl - i)).toList 0
    refine ⟨_, _, hr, setCells_like b _ _ w0, rfl, k _ ?_ ?_⟩
    · rw [setCells_heap]
      exact a2.mono fun n _ e => by subst e; simp [Sl.blk]
    · rw [setCells_heap]
      obtain ⟨q1, q2⟩ := own1
      refine ⟨q1, .inr ⟨b, _, by simp only [slcut]; split <;> simp [add_lit], a1, by rw [writeA_size]; simp only [slcut]; simpa using h3, by simp only [slcut]; omega, by simp only [slcut]; omega, ?_⟩⟩
      have hll : ((D.take i).flatMap f).length = i * kk := by rw [flat_len f kk hf, List.length_take, Nat.min_eq_left hi]
      rw [hll, ← flat_take f kk hf D i hi, ← h6]
      apply List.ext_getElem?
      intro j
      by_cases hj : j < i * kk
      · have hb2 : i * kk <= (D.flatMap f).length := by rw [flat_len f kk hf]; exact Nat.mul_le_mul_right _ hi
        rw [List.getElem?_take_of_lt hj, List.getElem?_take_of_lt hj, List.getElem?_take_of_lt (by omega), Array.getElem?_toList, Array.getElem?_toList, Nat.add_zero, writeA_get (by rw [hvl]; exact hbound), if_pos hj]
      · rw [List.getElem?_take_eq_none (by omega), List.getElem?_take_eq_none (by omega)]
end
end Go.Proofs.YtoccbnhahaoeiaaGreat.V
namespace Go.Proofs.YtoccbnhahaoeiaaGreat.V.S
open Go Go.Proofs.YtoccbnhahaoeiaaGreat.V
set_option linter.unusedVariables false
set_option linter.unusedSimpArgs false
set_option maxRecDepth 20000
theorem copy8 {α : Type} {f : α -> List Value} {kk : Nat} {t e : TypeId} {bytes : Nat} {z : Value} {h0 h : H} {s : Sl} {D : List α} {K : Sl -> H -> Prop} (el : El PP t e kk bytes z) (hf : ∀ x, (f x).length = kk) (hk : 0 < kk) (one : ∀ x, ∀ v ∈ f x, v.oneCell' = true)
    (e0 : Ext h0 h) (w : Reads h s kk (D.flatMap f)) (hl : (0 + D.length + (0 + D.length) / 4 + 256) * bytes <= 281474976710656)
    (k : ∀ s' h', Owns h' s' e kk (D.flatMap f) -> Mine h s' -> Ext h h' -> K s' h') :
    newL h #[] e 0 fun s7 h6 => runL PP (Builtin.append_ #[t, t] t #[s7.enc, s.enc]) h6 fun s9 h8 => K s9 h8 := by
  refine newL_of fun n6 h6 hn6 b6 e6 sz6 => ?_
  have w6 : Owns h6 ⟨some ⟨n6, 0, none⟩, 0, 0⟩ e kk (([] : List α).flatMap f) := blk_owns (cs := []) b6 (by simp) (by simp [maxLen])
  refine app_list (L := []) (M := D) hf hk el w6 (w.only e6 fun _ _ f => f) one (by simpa using hl) fun r7 h7 q1 q2 q3 => ?_
  refine k r7 h7 (by simpa using q1) (fun b hb => ?_) (e6.mine (fun b hb => by simp [Sl.blk] at hb; omega) q2)
  rcases q3 with q3 | ⟨b', q3, q4⟩
  · rw [q3] at hb; simp [Sl.blk] at hb; omega
  · rw [q3] at hb; cases hb; have := e6.size; omega
theorem cellAt {h : H} {s : Sl} {A : List Cel} (rd : Reads h s 3 (A.flatMap S_api_Cell.cells)) {i : Nat} {x : Cel} (hx : A[i]? = some x) {K : Addr -> Prop} (k : ∀ a, Cells h a x.cells -> K a) : idxA s (i : Int) 3 K := by
  obtain ⟨p, p1, p2, p3⟩ := rd_at cC_len (by omega) rd hx
  have hl := rd_len cC_len (by omega) rd
  exact idxR_of (i := i) p1 (by have := (List.getElem?_eq_some_iff.1 hx).1; omega) rfl (k _ p3)
theorem cel_eq {x y : Cel} : ((x.View == y.View) && ((x.Key.toList == y.Key.toList) && ((x.Start == y.Start) && true))) = true ↔ x = y := by
  obtain ⟨a1, ⟨⟨a2⟩⟩, a3⟩ := x
  obtain ⟨b1, ⟨⟨b2⟩⟩, b3⟩ := y
  simp [toList_data, and_assoc]
theorem clone_spec {h : H} {s : Sl} {L : List Cel} {Q : Sl -> H -> Prop} (rd : Reads h s 3 (L.flatMap S_api_Cell.cells)) (hL : L.length <= 1000000) (k : ∀ r h', Owns h' r tn_api_Cell 3 (L.flatMap S_api_Cell.cells) -> Mine h r -> Ext h h' -> Q r h') : F.xdj s h Q := by
  unfold F.xdj
  refine ⟨fun g => ?_, fun _ => copy8 el_Slapi_Cell cC_len (by omega) (fun x => ones_S_api_Cell x) (.refl h) rd (by omega) k⟩
  have hp : s.ptr = none := by simpa using g
  have := rd_len cC_len (by omega) rd
  have h0 := (rd.2.1 hp).1
  have hL : L = [] := List.eq_nil_of_length_eq_zero (by omega)
  subst hL
  exact k _ h (Owns.nil _ _ _) (Mine.nil _ _ _) (.refl _)
theorem Compact_spec {h : H} {s : Sl} {L : List Cel} {Q : Sl -> H -> Prop} (w : Owns h s tn_api_Cell 3 (L.flatMap S_api_Cell.cells)) (hL : L.length <= 1000000)
    (k : ∀ r h', Reads h' r 3 ((cpN L L.length).flatMap S_api_Cell.cells) -> Only (fun b => s.blk = some b) h h' -> Q r h') : F.xao s h Q := by
  have hl := own_len cC_len (by omega) w
  unfold F.xao
  rw [hl]
  refine ⟨fun g => ?_, fun g => ⟨L.length + 1, ?_⟩⟩
  · have g := of_decide_eq_true g
    have : cpN L L.length = L := by
      match L, g with
      | [], _ => rfl
      | [x], _ => simp [cpN]
      | x :: y :: r, g => simp at g; omega
    refine k s h ?_ (.refl _)
    rw [this]; exact w.reads
  have g := of_decide_eq_false g
  -- the inner loop
  have inner : ∀ (i0 : Nat) (hi0 : 1 <= i0) (hiL : i0 < L.length) (C1 : Sl -> Int -> H -> Prop) (d j c : Nat) (D : List Cel) (hh : H), Owns hh s tn_api_Cell 3 (D.flatMap S_api_Cell.cells) -> Only (fun b => s.blk = some b) h hh -> D.length = L.length -> 1 <= j -> i0 + j <= L.length -> c + 1 <= i0 + j -> D.take c = cpN L (i0 + j) -> (∀ p, i0 + j <= p + 1 -> D[p]? = L[p]?) -> L.length - (i0 + j) < d ->
      F.xao.l2 Q C1 d s (c : Int) (slcut s i0 L.length 3) (j : Int) hh := by
    intro i0 hi0 hiL C1 d
    induction d with
    | zero => intro j c D hh _ _ _ _ _ _ _ _ hm; omega
    | succ d ih =>
      intro j c D hh wD oD hDl hj hij hc htk hrest hm
      have hsl := own_len cC_len (by omega) wD
      unfold F.xao.l2
      have hlen : ((slcut s i0 L.length 3).len : Int) = ((L.length - i0 : Nat) : Int) := rfl
      rw [hlen]
      have rd2 : Reads hh (slcut s i0 L.length 3) 3 (((D.drop i0).take (L.length - i0)).flatMap S_api_Cell.cells) := cut_reads cC_len (by omega) wD.reads (by omega) (by omega) wD.le_cap
      have get2 : ∀ {q : Nat}, q < L.length - i0 -> ((D.drop i0).take (L.length - i0))[q]? = D[i0 + q]? := fun {q} hq => by rw [List.getElem?_take_of_lt hq, List.getElem?_drop]
      refine ⟨fun g2 => ?_, fun g2 => ?_⟩
      · have g2 := of_decide_eq_true g2
        obtain ⟨x, hx⟩ : ∃ x, L[i0 + j]? = some x := ⟨_, List.getElem?_eq_getElem (by omega)⟩
        obtain ⟨y, hy⟩ : ∃ y, L[i0 + j - 1]? = some y := ⟨_, List.getElem?_eq_getElem (by omega)⟩
        have hx2 : ((D.drop i0).take (L.length - i0))[j]? = some x := by rw [get2 (by omega), hrest _ (by omega)]; exact hx
        have hy2 : ((D.drop i0).take (L.length - i0))[j - 1]? = some y := by rw [get2 (by omega), hrest _ (by omega), show i0 + (j - 1) = i0 + j - 1 by omega]; exact hy
        rw [w64 (n := (j : Int) - 1) (by omega) (by omega), show ((j : Int) - 1) = ((j - 1 : Nat) : Int) by omega]
        refine cellAt rd2 hx2 fun a ca => ⟨x, ca, cellAt rd2 hy2 fun a2 ca2 => ⟨y, ca2, fun g3 => ?_, fun g3 => ?_⟩⟩
        · have hne : x ≠ y := fun e => by rw [cel_eq.2 e] at g3; cases g3
          refine cellAt rd2 hx2 fun a3 ca3 => ⟨x, ca3, put_at (D := D) (i := c) (x := x) cC_len (by omega) wD (by omega) fun h30 w30 o30 => ?_⟩
          unfold F.xao.j3
          rw [w64s (by omega), w64s (by omega)]
          refine ih (j + 1) (c + 1) (D.set c x) h30 w30 (oD.trans o30 fun _ _ e => e) (by rw [List.length_set]; exact hDl) (by omega) (by omega) (by omega) ?_ (fun p hp => ?_) (by omega)
          · have : (D.set c x)[c]? = some x := by rw [List.getElem?_set_self (by omega)]
            rw [tk_snoc this, List.take_set_of_le (by omega), htk, show i0 + (j + 1) = i0 + j + 1 by omega]
            exact (cp_new hx (.inr fun e => hne (by rw [hy] at e; cases e; rfl))).symm
          · rw [List.getElem?_set_ne (by omega)]
            exact hrest p (by omega)
        · have he : x = y := cel_eq.1 (by simpa using g3)
          unfold F.xao.j3
          rw [w64s (by omega)]
          refine ih (j + 1) c D hh wD oD hDl (by omega) (by omega) (by omega) ?_ (fun p hp => hrest p (by omega)) (by omega)
          rw [htk, show i0 + (j + 1) = i0 + j + 1 by omega]
          exact (cp_same hx (by omega) (by rw [he]; exact hy)).symm
      · have g2 := of_decide_eq_false g2
        have hall : i0 + j = L.length := by omega
        rw [hall] at htk
        refine cutL_of (lo := c) (hi := s.len) rfl rfl (by omega) wD.le_cap ?_
        refine RunS.mono (clear_own (D := D) (i := c) (K := fun h33 => cutL s 0 (c : Int) 3 fun s36 => Q s36 h33) el_Slapi_Cell cC_len (by omega) (fun v hv => ones_S_api_Cell zeroC v hv) wD (by omega) fun h33 o33 w33 => ?_) fun u h' hu => hu
        refine cutL_of (lo := 0) (hi := c) rfl rfl (by omega) (by have := wD.le_cap; omega) ?_
        rw [htk] at w33
        exact k _ h33 w33.reads (oD.trans o33 fun _ _ e => e)
  have outer : ∀ (d i : Nat), 1 <= i -> i <= L.length -> cpN L i = L.take i -> L.length - i < d -> F.xao.l1 Q d s (i : Int) h := by
    intro d
    induction d with
    | zero => intro i _ _ _ hm; omega
    | succ d ih =>
      intro i h1 hi hcp hm
      unfold F.xao.l1
      rw [hl]
      refine ⟨fun g2 => ?_, fun g2 => ?_⟩
      · have g2 := of_decide_eq_true g2
        obtain ⟨x, hx⟩ : ∃ x, L[i]? = some x := ⟨_, List.getElem?_eq_getElem (by omega)⟩
        obtain ⟨y, hy⟩ : ∃ y, L[i - 1]? = some y := ⟨_, List.getElem?_eq_getElem (by omega)⟩
        rw [w64 (n := (i : Int) - 1) (by omega) (by omega), show ((i : Int) - 1) = ((i - 1 : Nat) : Int) by omega]
        refine cellAt w.reads hx fun a ca => ⟨x, ca, cellAt w.reads hy fun a2 ca2 => ⟨y, ca2, fun g3 => ?_, fun g3 => ?_⟩⟩
        · have he : x = y := cel_eq.1 g3
          refine cutL_of (lo := i) (hi := L.length) rfl rfl (by omega) (by have := w.le_cap; omega) ⟨L.length, ?_⟩
          refine inner i h1 (by omega) _ L.length 1 i L h w (.refl _) rfl (Nat.le_refl _) (by omega) (by omega) ?_ (fun p _ => rfl) (by omega)
          rw [cp_same hx (by omega) (by rw [he]; exact hy), hcp]
        · have hne : x ≠ y := fun e => by rw [cel_eq.2 e] at g3; cases g3
          rw [w64s (by omega)]
          refine ih (i + 1) (by omega) (by omega) ?_ (by omega)
          rw [cp_new hx (.inr fun e => hne (by rw [hy] at e; cases e; rfl)), hcp, tk_snoc hx]
      · have g2 := of_decide_eq_false g2
        have hall : i = L.length := by omega
        subst hall
        refine k s h ?_ (.refl _)
        rw [hcp, List.take_length]; exact w.reads
  refine outer _ 1 (by omega) (by omega) ?_ (by omega)
  obtain ⟨x, hx⟩ : ∃ x, L[0]? = some x := ⟨_, List.getElem?_eq_getElem (by omega)⟩
  rw [cp_new hx (.inl rfl), tk_snoc hx]; simp [cpN]
theorem need_loop {h : H} {n : Nat} {S : SL} {slots : Nat} {R : Nat -> Prop} {ep : Int} {D : List Cel} {s : Sl} {Q : Int -> H -> Prop} (sh : SH h n S slots R) (rd : Reads h s 3 (D.flatMap S_api_Cell.cells)) (hD : D.length <= 1000000) (k : ∀ h', Ext h h' -> Q (needD S ep D) h') : ∃ m, F.xbx.l1 Q m (some ⟨n, 0, none⟩) ep 0 s (s.len : Int) 0 h := by
  have hl := rd_len cC_len (by omega) rd
  rw [hl]
  refine ⟨D.length + 1, ?_⟩
  have loop : ∀ (d i : Nat) (hh : H), i <= D.length -> D.length - i < d -> Ext h hh -> F.xbx.l1 Q d (some ⟨n, 0, none⟩) ep (needD S ep (D.take i)) s (D.length : Int) (i : Int) hh := by
    intro d
    induction d with
    | zero => intro i _ _ hm; omega
    | succ d ih =>
      intro i hh hi hm e
      unfold F.xbx.l1
      refine ⟨fun g => ?_, fun g => ?_⟩
      · have g := of_decide_eq_true g
        obtain ⟨c, hc⟩ : ∃ c, D[i]? = some c := ⟨_, List.getElem?_eq_getElem (by omega)⟩
        refine cellAt (rd.ext e) hc fun a ca => ⟨c, ca, new_of fun m h1 hm b1 e1 s1 => ?_⟩
        have b1' : Blk h1 m zeroC.cells.toArray tn_api_Cell := b1
        refine st_cel b1' (d := c) fun h3 b3 o3 s3 => ⟨c, b3.cells, ?_⟩
        have e3 : Ext hh h3 := e1.step o3 fun x hx hb => by omega
        obtain ⟨tn, rs, es, T, Z, hZ, z⟩ := sh
        refine need_spec (z.ext (e.trans e3)) fun h4 e4 => ?_
        rw [hZ]
        have hr := need_0 S ep c
        have hq := needD_range S ep (D.take i)
        rw [List.length_take] at hq
        rw [w64 (n := needD S ep (D.take i) + needS S ep c) (by omega) (by omega), w64s (by omega)]
        have := ih (i + 1) h4 (by omega) (by omega) ((e.trans e3).trans e4)
        rw [tk_snoc hc, needD_snoc] at this
        exact this
      · have g := of_decide_eq_false g
        have hall : i = D.length := by omega
        subst hall
        rw [List.take_length]; exact k hh e
  have := loop (D.length + 1) 0 h (by omega) (by omega) (.refl _)
  simpa [needD] using this
theorem Need_spec {h : H} {n : Nat} {S : SL} {slots : Nat} {R : Nat -> Prop} {ep : Int} {L : List Cel} {s : Sl} {Q : Int -> H -> Prop} (sh : SH h n S slots R) (rd : Reads h s 3 (L.flatMap S_api_Cell.cells)) (hL : L.length <= 1000000) (k : ∀ h', Ext h h' -> Q (needT S ep L) h') : F.xbx (some ⟨n, 0, none⟩) ep s h Q := by
  unfold F.xbx
  refine clone_spec rd hL fun r h1 w1 m1 e1 => sort_fn rfl w1 (by omega) fun h3 L' hp ha w3 o3 => ⟨rfl, ?_⟩
  have hll := hp.length_eq
  refine Compact_spec w3 (by omega) fun r5 h4 rd4 o4 => ?_
  have e3 := e1.mine m1 o3
  have e4 := e3.mine m1 o4
  refine need_loop (sh.ext e4) rd4 (by have := cp_len L' L'.length; omega) fun h5 e5 => ?_
  have := k h5 (e4.trans e5)
  rw [← needT_of (D := cpN L' L'.length) (cp_nodup ha _ (Nat.le_refl _)) fun c => by rw [cp_mem _ (Nat.le_refl _), List.take_length, hp.mem_iff]] at this
  exact this
theorem Fits_spec {h : H} {n : Nat} {S : SL} {slots : Nat} {R : Nat -> Prop} {ep : Int} {L : List Cel} {s : Sl} {Q : Bool -> H -> Prop} (sh : SH h n S slots R) (rd : Reads h s 3 (L.flatMap S_api_Cell.cells)) (hL : L.length <= 1000000) (k : ∀ h', Ext h h' -> Q (decide ((unitsS S : Int) + needT S ep L <= slots)) h') : F.xdn (some ⟨n, 0, none⟩) ep s h Q := by
  unfold F.xdn
  have us := sh.us
  have sh' := sh
  obtain ⟨tn, rs, es, T, Z, rfl, z⟩ := sh'
  simp only [nn_some, add_lit, Nat.zero_add, Nat.add_zero]
  rw [ldI_iff z.cs0, ldI_iff z.cs2]
  refine Need_spec sh rd hL fun h9 e9 => ⟨e9.cell z.cs2 fun f => f, e9.cell z.cs0 fun f => f, ?_⟩
  have hq := needD_range (toS Z) ep (ddL L)
  have hd : (ddL L).length <= L.length := by
    have : ∀ M : List Cel, (ddL M).length <= M.length := fun M => by
      induction M with
      | nil => simp [ddL]
      | cons x r ih => unfold ddL; split <;> simp <;> omega
    exact this L
  have hn : needT (toS Z) ep L = needD (toS Z) ep (ddL L) := rfl
  rw [w64 (by omega) (by omega)]
  exact k h9 e9
theorem make0 {n : Nat} {h : H} {K : Sl -> H -> Prop} (hn : n <= 1000000)
    (k : ∀ b h', b = h.size -> Owns h' ⟨some ⟨b, 0, none⟩, 0, n⟩ tn_int 1 [] -> Ext h h' -> K ⟨some ⟨b, 0, none⟩, 0, n⟩ h') : runL PP (Instr.makeSlice tn_Slint (.int .i64 0) (.int .i64 (n : Int))) h K := by
  obtain ⟨i, hi, hz, hsz, hby⟩ := el_Slint.info
  intro w hw
  subst hw
  have hr := run_make (P := PP) w tn_Slint 3 i (.int .i64 0) el_Slint.slice hi hz .i64 .i64 0 n (by omega) (by omega) (by rw [hby]; omega) (by omega)
  simp only [Int.toNat_natCast, Int.toNat_zero] at hr
  refine ⟨_, _, hr, ⟨rfl, rfl, rfl, by first | exact Nat.le_refl _ | exact Nat.le_succ _ | exact Nat.le_add_right _ _⟩, ⟨some ⟨w.heap.size, 0, none⟩, 0, n⟩, rfl, k _ _ rfl ⟨by simp, .inr ⟨_, _, rfl, Blk.new _ _ _, ?_, by simp, by simp [maxLen]; omega, by simp⟩⟩ (.push _ _)⟩
  rw [size_madeCells, hsz]
theorem step_cel {h : H} {a : Addr} {x : S_spatelaw7_Step} (c : Cells h a x.cells) : Cells h (a.add 2) x.Cell.cells := fun i v hv => by
  have hi : i < 3 := (List.getElem?_eq_some_iff.1 hv).1
  have e : (a.add 2).add i = a.add (2 + i) := by simp [Addr.add, Nat.add_assoc]
  rw [e]
  exact c (2 + i) v (by
    match i, hi, hv with
    | 0, _, hv => exact hv
    | 1, _, hv => exact hv
    | 2, _, hv => exact hv)
theorem step_num {h0 h : H} {l : Sl} {L : List St} {i : Nat} {y : St} (rd : Reads h0 l 15 (L.flatMap fun y => y.x.cells)) (e : Ext h0 h) (hy : L[i]? = some y) {K : Addr -> Prop} (kk : ∀ a, Cells h a y.x.cells -> K a) : idxA l (i : Int) 15 K := by
  obtain ⟨p, p1, p2, p3⟩ := rd_at (f := fun y : St => y.x.cells) step_len (by omega) (rd.ext e) hy
  have hl := rd_len (f := fun y : St => y.x.cells) step_len (by omega) rd
  exact idxR_of (i := i) p1 (by have := (List.getElem?_eq_some_iff.1 hy).1; omega) rfl (kk _ p3)
theorem make0C {n : Nat} {h : H} {K : Sl -> H -> Prop} (hn : n <= 1000000)
    (k : ∀ b h', b = h.size -> Owns h' ⟨some ⟨b, 0, none⟩, 0, n⟩ tn_api_Cell 3 [] -> Ext h h' -> K ⟨some ⟨b, 0, none⟩, 0, n⟩ h') : runL PP (Instr.makeSlice tn_Slapi_Cell (.int .i64 0) (.int .i64 (n : Int))) h K := by
  obtain ⟨i, hi, hz, hsz, hby⟩ := el_Slapi_Cell.info
  intro w hw
  subst hw
  have hr := run_make (P := PP) w tn_Slapi_Cell tn_api_Cell i _ el_Slapi_Cell.slice hi hz .i64 .i64 0 n (by omega) (by omega) (by rw [hby]; omega) (by omega)
  simp only [Int.toNat_natCast, Int.toNat_zero] at hr
  refine ⟨_, _, hr, ⟨rfl, rfl, rfl, by first | exact Nat.le_refl _ | exact Nat.le_succ _⟩, ⟨some ⟨w.heap.size, 0, none⟩, 0, n⟩, rfl, k _ _ rfl ⟨by simp, .inr ⟨_, _, rfl, Blk.new _ _ _, ?_, by simp, by simp [maxLen]; omega, by simp⟩⟩ (.push _ _)⟩
  rw [size_madeCells, hsz]
section
variable {α : Type} {f : α -> List Value} {k : Nat} {e : TypeId} {h : H} {s : Sl} {D : List α}
theorem own_ptr (hf : ∀ x, (f x).length = k) (hk : 0 < k) (w : Owns h s e k (D.flatMap f)) (hD : D ≠ []) : ∃ b, s = ⟨some ⟨b, 0, none⟩, D.length, s.cap⟩ := by
  have hl := own_len hf hk w
  have := List.length_pos_iff.2 hD
  obtain ⟨_, ⟨h1, h2, h3⟩ | ⟨b, c, h1, h2, h3, h4, h5, h6⟩⟩ := w
  · omega
  · refine ⟨b, ?_⟩
    obtain ⟨sp, sl, sc⟩ := s
    simp only at h1 hl
    rw [h1, hl]
theorem own_pre {b n c : Nat} (hf : ∀ x, (f x).length = k) (hk : 0 < k) (w : Owns h ⟨some ⟨b, 0, none⟩, D.length, c⟩ e k (D.flatMap f)) (hn : n <= D.length) : Owns h ⟨some ⟨b, 0, none⟩, n, c⟩ e k ((D.take n).flatMap f) := by
  have := own_first hf hk w hn
  have he : slcut ⟨some ⟨b, 0, none⟩, D.length, c⟩ 0 n k = ⟨some ⟨b, 0, none⟩, n, c⟩ := by
    simp only [slcut]; split <;> simp [add_lit]
  rwa [he] at this
end
abbrev mkC : Cel := ⟨-77, ⟨#[]⟩, 0⟩
abbrev ovC : Cel := ⟨0, ⟨#[111, 118, 101, 114]⟩, 0⟩
abbrev LentC (h : H) (b c : Nat) (L : List Cel) : Prop := Owns h ⟨some ⟨b, 0, none⟩, (L ++ [mkC]).length, c⟩ tn_api_Cell 3 ((L ++ [mkC]).flatMap S_api_Cell.cells)
abbrev LentI (h : H) (b c : Nat) (L : List Int) : Prop := Owns h ⟨some ⟨b, 0, none⟩, (L ++ [(-77 : Int)]).length, c⟩ tn_int 1 ((L ++ [(-77 : Int)]).flatMap cI)
theorem LentC.reads {h : H} {b c : Nat} {L : List Cel} (w : LentC h b c L) : Owns h ⟨some ⟨b, 0, none⟩, L.length, c⟩ tn_api_Cell 3 (L.flatMap S_api_Cell.cells) := by
  have := own_pre (n := L.length) cC_len (by omega) w (by simp)
  rwa [List.take_left] at this
theorem LentI.reads {h : H} {b c : Nat} {L : List Int} (w : LentI h b c L) : Owns h ⟨some ⟨b, 0, none⟩, L.length, c⟩ tn_int 1 (L.flatMap cI) := by
  have := own_pre (n := L.length) cI_len (by omega) w (by simp)
  rwa [List.take_left] at this
theorem LendCells_spec {h : H} {s : Sl} {L : List Cel} {Q : Sl -> H -> Prop} (rd : Reads h s 3 (L.flatMap S_api_Cell.cells)) (hl : L.length <= 100000) (k : ∀ b c h', LentC h' b c L -> h.size <= b -> Ext h h' -> Q ⟨some ⟨b, 0, none⟩, L.length, c⟩ h') : F.xda s h Q := by
  unfold F.xda
  have hlen := rd_len cC_len (by omega) rd
  rw [hlen, show IntKind.wrap .i64 ((L.length : Int) + 3) = ((L.length + 3 : Nat) : Int) by rw [w64 (by omega) (by omega)]; omega]
  refine make0C (by omega) fun b h1 hb w1 e1 => ?_
  refine app_mine (h0 := h) (L := []) (M := L) e1 (fun x hx => by simp [Sl.blk] at hx; omega) cC_len (by omega) el_Slapi_Cell w1 (rd.ext e1) (fun x => ones_S_api_Cell x) (by simp only [List.length_nil]; omega) fun s4 h3 w4 e3 m4 _ _ => ?_
  refine push_mine (x := mkC) e3 m4 cC_len (by omega) el_Slapi_Cell w4 (fun x => ones_S_api_Cell x) (by rw [List.length_append, List.length_nil]; omega) fun s8 h7 w8 e7 m8 _ _ => ?_
  rw [List.nil_append] at w8
  obtain ⟨b8, hb8⟩ := own_ptr cC_len (by omega) w8 (by simp)
  have hc := w8.le_cap
  have hl8 := own_len cC_len (by omega) w8
  rw [List.length_append] at hl8
  refine cutL_of (lo := 0) (hi := L.length) rfl rfl (Nat.zero_le _) (by simp at hl8; omega) ?_
  have he : slcut s8 0 L.length 3 = ⟨some ⟨b8, 0, none⟩, L.length, s8.cap⟩ := by
    rw [hb8]; simp only [slcut]; split <;> simp [add_lit]
  rw [he]
  refine k b8 s8.cap h7 (by rw [hb8] at w8; exact w8) (m8 b8 (by rw [hb8]; rfl)) e7
theorem LendI_spec {h : H} {s : Sl} {L : List Int} {Q : Sl -> H -> Prop} (rd : Reads h s 1 (L.flatMap cI)) (hl : L.length <= 100000) (k : ∀ b c h', LentI h' b c L -> h.size <= b -> Ext h h' -> Q ⟨some ⟨b, 0, none⟩, L.length, c⟩ h') : F.xdl s h Q := by
  unfold F.xdl
  have hlen := rd_len cI_len (by omega) rd
  rw [hlen, show IntKind.wrap .i64 ((L.length : Int) + 3) = ((L.length + 3 : Nat) : Int) by rw [w64 (by omega) (by omega)]; omega]
  refine make0 (by omega) fun b h1 hb w1 e1 => ?_
  refine app_mine (h0 := h) (L := []) (M := L) e1 (fun x hx => by simp [Sl.blk] at hx; omega) cI_len (by omega) el_Slint w1 (rd.ext e1) (fun x => one1 rfl) (by simp only [List.length_nil]; omega) fun s4 h3 w4 e3 m4 _ _ => ?_
  refine push_mine (x := (-77 : Int)) e3 m4 cI_len (by omega) el_Slint w4 (fun x => one1 rfl) (by rw [List.length_append, List.length_nil]; omega) fun s8 h7 w8 e7 m8 _ _ => ?_
  rw [List.nil_append] at w8
  obtain ⟨b8, hb8⟩ := own_ptr cI_len (by omega) w8 (by simp)
  have hc := w8.le_cap
  have hl8 := own_len cI_len (by omega) w8
  rw [List.length_append] at hl8
  refine cutL_of (lo := 0) (hi := L.length) rfl rfl (Nat.zero_le _) (by simp at hl8; omega) ?_
  have he : slcut s8 0 L.length 1 = ⟨some ⟨b8, 0, none⟩, L.length, s8.cap⟩ := by
    rw [hb8]; simp only [slcut]; split <;> simp [add_lit]
  rw [he]
  refine k b8 s8.cap h7 (by rw [hb8] at w8; exact w8) (m8 b8 (by rw [hb8]; rfl)) e7
theorem intAt {h : H} {s : Sl} {A : List Int} (rd : Reads h s 1 (A.flatMap cI)) {i : Nat} {x : Int} (hx : A[i]? = some x) {K : Int -> Prop} (k : K x) : idxA s (i : Int) 1 fun a => ldI .i64 h a K := by
  obtain ⟨p, p1, p2, p3⟩ := rd_at cI_len (by omega) rd hx
  have hl := rd_len cI_len (by omega) rd
  exact idxR_of (i := i) p1 (by have := (List.getElem?_eq_some_iff.1 hx).1; omega) rfl ((ldI_iff p3.one).2 k)
theorem KeptCells_spec {h : H} {s : Sl} {b c : Nat} {L : List Cel} {Q : Bool -> H -> Prop} (w : LentC h b c L) (rd : Reads h s 3 (L.flatMap S_api_Cell.cells)) (hs : L ≠ [] -> s.blk ≠ some b) (hl : L.length <= 100000) (k : ∀ h', Only (· = b) h h' -> Q true h') : F.xar ⟨some ⟨b, 0, none⟩, L.length, c⟩ s h Q := by
  unfold F.xar
  have hlen := rd_len cC_len (by omega) rd
  have hcap : L.length + 1 <= c := by have := w.le_cap; simpa using this
  rw [hlen, show IntKind.wrap .i64 ((L.length : Int) + 1) = ((L.length + 1 : Nat) : Int) by rw [w64 (by omega) (by omega)]; omega]
  refine cutL_of (lo := 0) (hi := L.length + 1) rfl rfl (Nat.zero_le _) hcap ?_
  have he : slcut ⟨some ⟨b, 0, none⟩, L.length, c⟩ 0 (L.length + 1) 3 = ⟨some ⟨b, 0, none⟩, (L ++ [mkC]).length, c⟩ := by
    simp only [slcut]; split <;> simp [add_lit]
  rw [he]
  refine cellAt (Owns.reads w) (i := L.length) (x := mkC) (by simp) fun a ca => ⟨mkC, ca, ?_⟩
  suffices hsuf : ∀ bb : Bool, bb = true -> ∃ m, F.xar.l1 Q m ⟨some ⟨b, 0, none⟩, L.length, c⟩ s bb 0 h from hsuf _ (cel_eq.2 rfl)
  intro bb hbb
  subst hbb
  refine ⟨L.length + 1, ?_⟩
  have loop : ∀ (d i : Nat) (D : List Cel) (hh : H), i <= L.length -> L.length - i < d -> Owns hh ⟨some ⟨b, 0, none⟩, L.length, c⟩ tn_api_Cell 3 (D.flatMap S_api_Cell.cells) -> D.length = L.length -> D.drop i = L.drop i -> Only (· = b) h hh -> F.xar.l1 Q d ⟨some ⟨b, 0, none⟩, L.length, c⟩ s true (i : Int) hh := by
    intro d
    induction d with
    | zero => intro i _ _ _ hm; omega
    | succ d ih =>
      intro i D hh hi hm wD hD hdr o
      unfold F.xar.l1
      rw [hlen]
      refine ⟨fun g => ⟨fun _ => ?_, fun g2 => by cases g2⟩, fun _ => k hh o⟩
      have g := of_decide_eq_true g
      obtain ⟨x, hx⟩ : ∃ x, L[i]? = some x := ⟨_, List.getElem?_eq_getElem (by omega)⟩
      have hxD : D[i]? = some x := by
        have := congrArg (fun l : List Cel => l[0]?) hdr
        simp only [List.getElem?_drop, Nat.add_zero] at this
        rw [this]; exact hx
      have hne : L ≠ [] := fun e => by rw [e] at hx; cases hx
      refine cellAt wD.reads hxD fun a1 c1 => ⟨x, c1, cellAt (rd.keep o fun hn b' hb' e => hs hn (by rw [hb', e])) hx fun a2 c2 => ⟨x, c2, ?_⟩⟩
      suffices hsuf : ∀ bb : Bool, bb = true -> F.xar.j3 Q (F.xar.l1 Q d) ⟨some ⟨b, 0, none⟩, L.length, c⟩ s bb (i : Int) hh from hsuf _ (cel_eq.2 rfl)
      intro bb hbb
      subst hbb
      unfold F.xar.j3 F.xar.j2
      refine put_at (D := D) (i := i) (x := ovC) cC_len (by omega) wD (by omega) fun h10 w10 o10 => ?_
      rw [w64s (by omega)]
      refine ih (i + 1) _ h10 (by omega) (by omega) w10 (by rw [List.length_set]; exact hD) ?_ (o.trans o10 fun n _ e => by simp [Sl.blk] at e; exact e.symm)
      rw [List.drop_set_of_lt (by omega)]
      have := congrArg (List.drop 1) hdr
      rw [List.drop_drop, List.drop_drop] at this
      exact this
  exact loop _ 0 L h (by omega) (by omega) (LentC.reads w) rfl rfl (.refl _)
theorem KeptInts_spec {h : H} {s : Sl} {b c : Nat} {L : List Int} {Q : Bool -> H -> Prop} (w : LentI h b c L) (rd : Reads h s 1 (L.flatMap cI)) (hs : L ≠ [] -> s.blk ≠ some b) (hl : L.length <= 100000) (k : ∀ h', Only (· = b) h h' -> Q true h') : F.xax ⟨some ⟨b, 0, none⟩, L.length, c⟩ s h Q := by
  unfold F.xax
  have hlen := rd_len cI_len (by omega) rd
  have hcap : L.length + 1 <= c := by have := w.le_cap; simpa using this
  rw [hlen, show IntKind.wrap .i64 ((L.length : Int) + 1) = ((L.length + 1 : Nat) : Int) by rw [w64 (by omega) (by omega)]; omega]
  refine cutL_of (lo := 0) (hi := L.length + 1) rfl rfl (Nat.zero_le _) hcap ?_
  have he : slcut ⟨some ⟨b, 0, none⟩, L.length, c⟩ 0 (L.length + 1) 1 = ⟨some ⟨b, 0, none⟩, (L ++ [(-77 : Int)]).length, c⟩ := by
    simp only [slcut]; split <;> simp [add_lit]
  rw [he]
  refine intAt (Owns.reads w) (i := L.length) (x := (-77 : Int)) (by simp) ?_
  rw [show (((-77 : Int) == (-77))) = true from rfl]
  refine ⟨L.length + 1, ?_⟩
  have loop : ∀ (d i : Nat) (D : List Int) (hh : H), i <= L.length -> L.length - i < d -> Owns hh ⟨some ⟨b, 0, none⟩, L.length, c⟩ tn_int 1 (D.flatMap cI) -> D.length = L.length -> D.drop i = L.drop i -> Only (· = b) h hh -> F.xax.l1 Q d ⟨some ⟨b, 0, none⟩, L.length, c⟩ s true (i : Int) hh := by
    intro d
    induction d with
    | zero => intro i _ _ _ hm; omega
    | succ d ih =>
      intro i D hh hi hm wD hD hdr o
      unfold F.xax.l1
      rw [hlen]
      refine ⟨fun g => ⟨fun _ => ?_, fun g2 => by cases g2⟩, fun _ => k hh o⟩
      have g := of_decide_eq_true g
      obtain ⟨x, hx⟩ : ∃ x, L[i]? = some x := ⟨_, List.getElem?_eq_getElem (by omega)⟩
      have hxD : D[i]? = some x := by
        have := congrArg (fun l : List Int => l[0]?) hdr
        simp only [List.getElem?_drop, Nat.add_zero] at this
        rw [this]; exact hx
      refine intAt wD.reads hxD (intAt (rd.keep o fun hn b' hb' e => hs hn (by rw [hb', e])) hx ?_)
      rw [show ((x == x)) = true from by simp]
      unfold F.xax.j3 F.xax.j2
      refine put_at (D := D) (i := i) (x := (31 : Int)) (f := cI) cI_len (by omega) wD (by omega) fun h10 w10 o10 => ?_
      rw [w64s (by omega)]
      refine ih (i + 1) _ h10 (by omega) (by omega) w10 (by rw [List.length_set]; exact hD) ?_ (o.trans o10 fun n _ e => by simp [Sl.blk] at e; exact e.symm)
      rw [List.drop_set_of_lt (by omega)]
      have := congrArg (List.drop 1) hdr
      rw [List.drop_drop, List.drop_drop] at this
      exact this
  exact loop _ 0 L h (by omega) (by omega) (LentI.reads w) rfl rfl (.refl _)
abbrev tS7 : TypeId := tn_spateref7_Shard
abbrev tH7 : TypeId := tn_spateref7_Held
abbrev tV7 : TypeId := tn_spateref7_Version
def rV (v : Ver) : S_spateref7_Version := ⟨v.epoch, v.value, v.dead⟩
abbrev fV (v : Ver) : List Value := (rV v).cells
theorem fV_len (v : Ver) : (fV v).length = 6 := rfl
theorem fV_one (v : Ver) : ∀ x ∈ fV v, x.oneCell' = true := ones_S_spateref7_Version (rV v)
structure DR where
  c : Cel
  vs : List Ver
  s : Sl
abbrev hR (r : DR) : List Value := (⟨r.c, r.s⟩ : S_spateref7_Held).cells
theorem hR_len (r : DR) : (hR r).length = 4 := rfl
theorem hR_one (r : DR) : ∀ x ∈ hR r, x.oneCell' = true := ones_S_spateref7_Held ⟨r.c, r.s⟩
def toD (Z : List DR) : SL := Z.map fun r => (r.c, r.vs)
theorem toD_len (Z : List DR) : (toD Z).length = Z.length := List.length_map _
structure DZ (h : H) (d : Nat) (Z : List DR) (slots : Nat) (x : Sl) : Prop where
  sb : Blk h d #[.int .i64 (slots : Int), x.enc] tS7
  row : Owns h x tH7 4 (Z.flatMap hR)
  vs : ∀ r ∈ Z, Owns h r.s tV7 6 (r.vs.flatMap fV)
def DH (h : H) (d : Nat) (S : SL) (slots : Nat) : Prop := ∃ x Z, toD Z = S ∧ DZ h d Z slots x
def DTy (h : H) (b : Nat) : Prop := ∃ e c, (e = tS7 ∨ e = tH7 ∨ e = tV7) ∧ Blk h b c e
theorem own_typ {h : H} {s : Sl} {e : TypeId} {k : Nat} {cs : List Value} (w : Owns h s e k cs) {b : Nat} (hb : s.blk = some b) : ∃ c, Blk h b c e := by
  obtain ⟨_, ⟨q1, _, _⟩ | ⟨b', c', q1, q2, _⟩⟩ := w
  · simp [Sl.blk, q1] at hb
  · simp [Sl.blk, q1] at hb
    subst hb; exact ⟨c', q2⟩
section
variable {h h' : H} {d : Nat} {Z : List DR} {S : SL} {slots : Nat} {x : Sl}
theorem DZ.keep {P : Nat -> Prop} (z : DZ h d Z slots x) (o : Only P h h') (hn : ∀ b, DTy h b -> ¬ P b) : DZ h' d Z slots x :=
  ⟨o.block z.sb (hn d ⟨_, _, .inl rfl, z.sb⟩), z.row.only o fun b hb => by
    obtain ⟨c, q⟩ := own_typ z.row hb
    exact hn b ⟨_, c, .inr (.inl rfl), q⟩, fun r hr => (z.vs r hr).only o fun b hb => by
    obtain ⟨c, q⟩ := own_typ (z.vs r hr) hb
    exact hn b ⟨_, c, .inr (.inr rfl), q⟩⟩
theorem DZ.ext (z : DZ h d Z slots x) (e : Ext h h') : DZ h' d Z slots x := z.keep e fun _ _ f => f
theorem DH.keep {P : Nat -> Prop} (z : DH h d S slots) (o : Only P h h') (hn : ∀ b, DTy h b -> ¬ P b) : DH h' d S slots := by
  obtain ⟨x, Z, h1, z⟩ := z
  exact ⟨x, Z, h1, z.keep o hn⟩
theorem DH.ext (z : DH h d S slots) (e : Ext h h') : DH h' d S slots := z.keep e fun _ _ f => f
theorem ty_not {b : Nat} (t : DTy h b) : ¬ ShTy h b := by
  obtain ⟨e, c, he, hb⟩ := t
  refine not_sh hb ?_
  rcases he with rfl | rfl | rfl <;> (unfold ShE; decide)
theorem DH.sonly {R : Nat -> Prop} (z : DH h d S slots) (o : SOnly R h h') : DH h' d S slots := z.keep o fun b hb hh => ty_not hb hh.2
theorem DH.typ (z : DH h d S slots) : ∃ c, Blk h d c tS7 := by
  obtain ⟨x, Z, h1, z⟩ := z
  exact ⟨_, z.sb⟩
theorem DZ.cs0 (z : DZ h d Z slots x) : cellH h ⟨d, 0, none⟩ = some (.int .i64 (slots : Int)) := z.sb.cell rfl
theorem DZ.cs1 (z : DZ h d Z slots x) : cellH h ⟨d, 1, none⟩ = some x.enc := z.sb.cell rfl
theorem SH.doc {n : Nat} {R : Nat -> Prop} {S' : SL} {sl' : Nat} (s : SH h n S slots R) (z : DH h d S' sl') (o : Only (· = d) h h') : SH h' n S slots R := s.keep o fun b _ ht e => by
  subst e
  obtain ⟨c, hc⟩ := z.typ
  exact not_sh hc (by unfold ShE; decide) ht
theorem heldAt {s : Sl} (w : Reads h s 4 (Z.flatMap hR)) {i : Nat} {r : DR} (hr : Z[i]? = some r) {K : Addr -> Prop} (k : ∀ a, Cells h (a.add 0) r.c.cells -> cellH h (a.add 3) = some r.s.enc -> K a) : idxA s (i : Int) 4 K := by
  obtain ⟨p, p1, p2, p3⟩ := rd_at hR_len (by omega) w hr
  have hl := rd_len hR_len (by omega) w
  refine idxR_of (i := i) p1 (by have := (List.getElem?_eq_some_iff.1 hr).1; omega) rfl (k _ (fun j v hv => ?_) (p3 3 _ rfl))
  have hj : j < 3 := (List.getElem?_eq_some_iff.1 hv).1
  have e : ((p.add (i * 4)).add 0).add j = (p.add (i * 4)).add j := by simp [Addr.add]
  rw [e]
  exact p3 j v (by
    match j, hj, hv with
    | 0, _, hv => exact hv
    | 1, _, hv => exact hv
    | 2, _, hv => exact hv)
theorem verAt {s : Sl} {vs : List Ver} (w : Reads h s 6 (vs.flatMap fV)) {i : Nat} {v : Ver} (hv : vs[i]? = some v) {K : Addr -> Prop} (k : ∀ a, cellH h (a.add 0) = some (.int .i64 v.epoch) -> Cells h (a.add 1) v.value.cells -> cellH h (a.add 5) = some (.bool v.dead) -> Cells h a (fV v) -> K a) : idxA s (i : Int) 6 K := by
  obtain ⟨p, p1, p2, p3⟩ := rd_at fV_len (by omega) w hv
  have hl := rd_len fV_len (by omega) w
  refine idxR_of (i := i) p1 (by have := (List.getElem?_eq_some_iff.1 hv).1; omega) rfl (k _ (p3 0 _ rfl) (fun j u hu => ?_) (p3 5 _ rfl) p3)
  have hj : j < 4 := (List.getElem?_eq_some_iff.1 hu).1
  have e : ((p.add (i * 6)).add 1).add j = (p.add (i * 6)).add (1 + j) := by simp [Addr.add, Nat.add_assoc]
  rw [e]
  exact p3 (1 + j) u (by
    match j, hj, hu with
    | 0, _, hu => exact hu
    | 1, _, hu => exact hu
    | 2, _, hu => exact hu
    | 3, _, hu => exact hu)
end
theorem less_bytes : ∀ (a b : List UInt8), Op.bytesLess a b = decide (Lib.compareBytes a b = -1)
  | [], [] => by simp [Op.bytesLess, Lib.compareBytes]
  | _ :: _, [] => by simp [Op.bytesLess, Lib.compareBytes]
  | [], _ :: _ => by simp [Op.bytesLess, Lib.compareBytes]
  | a :: x, b :: y => by
    have ih := less_bytes x y
    rw [Op.bytesLess, ih, Lib.compareBytes]
    by_cases h1 : a < b
    · simp [h1]
    · by_cases h2 : b < a
      · have : ¬ a = b := fun e => by subst e; exact h1 h2
        simp [h1, h2, this]
      · have : a = b := UInt8.le_antisymm (UInt8.not_lt.1 h2) (UInt8.not_lt.1 h1)
        simp [this]
theorem Less_spec {a b : Cel} {h : H} {Q : Bool -> H -> Prop} (k : ∀ h', Ext h h' -> Q (decide (cmpC a b = -1)) h') : F.xcm a b h Q := by
  unfold F.xcm
  refine new_of fun m h1 hm b1 e1 s1 => new_of fun n h3 hn b3 e3 s3 => ?_
  have a0 : cellH h3 ⟨m, 0, none⟩ = some (.int .i64 a.View) := e3.cell (Blk.cells b1 0 _ rfl) fun f => f
  have a1 : cellH h3 ⟨m, 1, none⟩ = some (.string a.Key) := e3.cell (Blk.cells b1 1 _ rfl) fun f => f
  have a2 : cellH h3 ⟨m, 2, none⟩ = some (.int .i64 a.Start) := e3.cell (Blk.cells b1 2 _ rfl) fun f => f
  have b0 : cellH h3 ⟨n, 0, none⟩ = some (.int .i64 b.View) := Blk.cells b3 0 _ rfl
  have b1' : cellH h3 ⟨n, 1, none⟩ = some (.string b.Key) := Blk.cells b3 1 _ rfl
  have b2 : cellH h3 ⟨n, 2, none⟩ = some (.int .i64 b.Start) := Blk.cells b3 2 _ rfl
  have k := k h3 (e1.trans e3)
  have hlt := cC_lt (a := a) (b := b)
  have hI := cI_lt (x := a.View) (y := b.View)
  simp only [add_lit, Nat.zero_add, Nat.add_zero]
  refine ldI_of a0 (ldI_of b0 ⟨fun g => ldI_of a0 (ldI_of b0 ?_), fun g => ldS_of a1 (ldS_of b1' ⟨fun g2 => ldS_of a1 (ldS_of b1' ?_), fun g2 => ldI_of a2 (ldI_of b2 ?_)⟩)⟩)
  · have g : a.View ≠ b.View := by simpa using g
    rw [show decide (cmpC a b = -1) = decide (a.View < b.View) by
      rw [decide_eq_decide, hlt, hI]
      exact ⟨fun h => h.elim id fun h => absurd h.1 g, .inl⟩] at k
    exact k
  · have g : a.View = b.View := by simpa using g
    have g2 : ¬ a.Key.data.toList = b.Key.data.toList := by rw [toList_data, toList_data] at g2; simpa using g2
    rw [toList_data, toList_data, less_bytes]
    rw [show decide (cmpC a b = -1) = decide (Lib.compareBytes a.Key.data.toList b.Key.data.toList = -1) by
      rw [decide_eq_decide, hlt, hI]
      refine ⟨fun h => ?_, fun h => .inr ⟨g, .inl h⟩⟩
      rcases h with h | ⟨_, h | ⟨h, _⟩⟩
      · omega
      · exact h
      · exact absurd h g2] at k
    exact k
  · have g : a.View = b.View := by simpa using g
    have g2 : a.Key.data.toList = b.Key.data.toList := by rw [toList_data, toList_data] at g2; simpa using g2
    have hz : Lib.compareBytes a.Key.data.toList b.Key.data.toList ≠ -1 := by
      have := (cB_zero (x := a.Key.data.toList) (y := b.Key.data.toList)).2 g2
      omega
    rw [show decide (cmpC a b = -1) = decide (a.Start < b.Start) by
      rw [decide_eq_decide, hlt, hI]
      refine ⟨fun h => ?_, fun h => .inr ⟨g, .inr ⟨g2, h⟩⟩⟩
      rcases h with h | ⟨_, h | ⟨_, h⟩⟩
      · omega
      · exact absurd h hz
      · exact h] at k
    exact k
section
variable {h : H} {d : Nat} {Z : List DR} {slots : Nat} {x : Sl}
theorem place_spec {c : Cel} {Q : Int -> Bool -> H -> Prop} (z : DZ h d Z slots x) (hs : SortK DR.c Z) (hZ : Z.length <= 1048576)
    (k1 : ∀ (i : Nat) (r : DR), Z[i]? = some r -> r.c = c -> ∀ h', Ext h h' -> Q (i : Int) true h')
    (k0 : ∀ i, i <= Z.length -> (∀ r ∈ Z.take i, cmpC r.c c = -1) -> (∀ r ∈ Z.drop i, cmpC c r.c = -1) -> ∀ h', Ext h h' -> Q (i : Int) false h') : F.xbr (some ⟨d, 0, none⟩) c h Q := by
  have hl := own_len hR_len (by omega) z.row
  unfold F.xbr
  refine new_of fun m h1 hm b1 e1 s1 => ⟨Z.length + 1, ?_⟩
  have loop : ∀ (n i : Nat) (hh : H), i <= Z.length -> Z.length - i < n -> Ext h1 hh -> (∀ r ∈ Z.take i, cmpC r.c c = -1) -> F.xbr.l1 Q n (some ⟨d, 0, none⟩) ⟨m, 0, none⟩ (i : Int) hh := by
    intro n
    induction n with
    | zero => intro i _ _ hm; omega
    | succ n ih =>
      intro i hh hi hm e hlt
      have eh := e1.trans e
      have z' := z.ext eh
      unfold F.xbr.l1
      simp only [nn_some, add_lit, Nat.zero_add, Nat.add_zero]
      rw [ldL_iff z'.cs1, hl]
      refine ⟨fun g => ?_, fun g => ?_⟩
      · have g := of_decide_eq_true g
        obtain ⟨r, hr⟩ : ∃ r, Z[i]? = some r := ⟨_, List.getElem?_eq_getElem (by omega)⟩
        rw [ldL_iff z'.cs1]
        have bm := e.block b1 fun f => f
        refine heldAt z'.row.reads hr fun a ca _ => ⟨r.c, ca, c, Blk.cells bm, fun g2 => ?_, fun g2 => ⟨c, Blk.cells bm, ?_⟩⟩
        · exact k1 i r hr (cel_eq.1 g2) hh eh
        · have hne : r.c ≠ c := fun e => by rw [cel_eq.2 e] at g2; cases g2
          refine ldL_of z'.cs1 (heldAt z'.row.reads hr fun a2 ca2 _ => ⟨r.c, ca2, Less_spec fun h29 e29 => ⟨fun g3 => ?_, fun g3 => ?_⟩⟩)
          · have g3 := of_decide_eq_true g3
            refine k0 i (by omega) hlt (fun q hq => ?_) h29 (eh.trans e29)
            obtain ⟨j, hj⟩ := List.mem_iff_getElem?.1 hq
            rw [List.getElem?_drop] at hj
            rcases Nat.eq_zero_or_pos j with hj0 | hj0
            · rw [hj0, Nat.add_zero, hr] at hj; cases hj; exact g3
            · obtain ⟨q1, q2⟩ := List.getElem?_eq_some_iff.1 hj
              obtain ⟨q3, q4⟩ := List.getElem?_eq_some_iff.1 hr
              have := List.pairwise_iff_getElem.1 hs i (i + j) q3 q1 (by omega)
              rw [q2, q4] at this
              exact cC_trans g3 this
          · have g3 := of_decide_eq_false g3
            have hrc : cmpC r.c c = -1 := by
              have h1 := cC_anti r.c c
              have h2 := cC_range c r.c
              have h3 : cmpC c r.c ≠ 0 := fun e => hne (cC_zero.1 e).symm
              omega
            rw [w64s (by omega)]
            refine ih (i + 1) h29 (by omega) (by omega) (e.trans e29) fun q hq => ?_
            rw [tk_snoc hr, List.mem_append] at hq
            rcases hq with hq | hq
            · exact hlt q hq
            · rw [List.mem_singleton.1 hq]; exact hrc
      · have g := of_decide_eq_false g
        have hi' : i = Z.length := by omega
        subst hi'
        rw [ldL_iff z'.cs1, hl]
        exact k0 _ (Nat.le_refl _) hlt (fun q hq => by rw [List.drop_length] at hq; cases hq) hh eh
  exact loop _ 0 h1 (by omega) (by omega) (.refl _) fun r hr => by simp at hr
theorem get_toD {c : Cel} : getS (toD Z) c = (getK DR.c Z c).map (·.vs) := by
  show (getK _ (Z.map _) c).map _ = _
  rw [map_get (key := DR.c) (key' := fun x : Cel × List Ver => x.1) (fun r : DR => (r.c, r.vs)) (fun _ => rfl), Option.map_map]
  rfl
theorem sort_toD (h : SortS (toD Z)) : SortK DR.c Z := by
  unfold SortS SortK toD at h
  rw [List.pairwise_map] at h
  exact h
theorem get_at {i : Nat} {r : DR} (hs : SortK DR.c Z) (hr : Z[i]? = some r) : getS (toD Z) r.c = some r.vs := by
  rw [get_toD, getK_mem hs (List.mem_of_getElem? hr)]; rfl
theorem get_no {i : Nat} {c : Cel} (h1 : ∀ r ∈ Z.take i, cmpC r.c c = -1) (h2 : ∀ r ∈ Z.drop i, cmpC c r.c = -1) : getS (toD Z) c = none := by
  rw [get_toD]
  have : getK DR.c Z c = none := by
    unfold getK
    rw [List.find?_eq_none]
    intro r hr
    rw [← List.take_append_drop i Z, List.mem_append] at hr
    rcases hr with hr | hr
    · have := h1 r hr; simp; omega
    · have := h2 r hr
      have h3 := cC_anti r.c c
      simp; omega
  rw [this]; rfl
theorem versions_spec {c : Cel} {Q : Sl -> H -> Prop} (z : DZ h d Z slots x) (hs : SortK DR.c Z) (hZ : Z.length <= 1048576) (k : ∀ s h', Owns h' s tV7 6 (((getS (toD Z) c).getD []).flatMap fV) -> Ext h h' -> Q s h') : F.xcl (some ⟨d, 0, none⟩) c h Q := by
  unfold F.xcl
  refine new_of fun m h1 hm b1 e1 s1 => ⟨c, Blk.cells b1, place_spec (z.ext e1) hs hZ (fun i r hr hc h5 e5 => ⟨fun g => (by cases g), fun _ => ?_⟩) fun i hi q1 q2 h5 e5 => ⟨fun _ => ?_, fun g => by cases g⟩⟩
  · have z5 := (z.ext e1).ext e5
    simp only [nn_some, add_lit, Nat.zero_add, Nat.add_zero]
    rw [ldL_iff z5.cs1]
    refine heldAt z5.row.reads hr fun a _ c3 => ldL_of c3 (k r.s h5 ?_ (e1.trans e5))
    rw [← hc, get_at hs hr]
    exact z5.vs r (List.mem_of_getElem? hr)
  · refine k _ h5 ?_ (e1.trans e5)
    rw [get_no q1 q2]
    exact Owns.nil _ _ _
end
section
variable {h : H} {s : Sl} {vs : List Ver}
theorem newest_spec {Q : Int -> H -> Prop} (w : Owns h s tV7 6 (vs.flatMap fV)) (hv : vs.length <= 1048577) (k : Q (C.newestM vs).2.1 h) : F.xcp s h Q := by
  have hl := own_len fV_len (by omega) w
  unfold F.xcp
  rw [hl]
  refine ⟨fun g => ?_, fun g => ?_⟩
  · have g : vs.length = 0 := by
      have : ((vs.length : Nat) : Int) = 0 := eq_of_beq g
      omega
    have : vs = [] := List.eq_nil_of_length_eq_zero g
    rw [this] at k; exact k
  · have g : ((vs.length : Nat) : Int) ≠ 0 := by simpa using g
    have hne : vs ≠ [] := fun e => g (by rw [e]; rfl)
    have hg := C.last_get hne
    rw [w64 (by omega) (by omega), show (vs.length : Int) - 1 = ((vs.length - 1 : Nat) : Int) by omega]
    refine verAt w.reads hg fun a c0 _ _ _ => ldI_of c0 ?_
    unfold C.newestM at k
    rw [List.getLast?_eq_some_getLast hne] at k
    exact k
theorem units7_spec {Q : Int -> H -> Prop} (w : Owns h s tV7 6 (vs.flatMap fV)) (hv : vs.length <= 1048577) (k : Q ((unitsV vs : Nat) : Int) h) : F.xav s h Q := by
  have hl := own_len fV_len (by omega) w
  unfold F.xav
  rw [hl]
  refine ⟨fun g => ?_, fun g => ?_⟩
  · have g := of_decide_eq_true g
    have hne : vs ≠ [] := fun e => by rw [e] at g; simp at g
    have hg := C.last_get hne
    rw [w64 (n := (vs.length : Int) - 1) (by omega) (by omega), show (vs.length : Int) - 1 = ((vs.length - 1 : Nat) : Int) by omega]
    refine verAt w.reads hg fun a _ _ c5 _ => ldB_of c5 ?_
    have hu : unitsV vs = vs.length + if (vs.getLast hne).dead then 0 else 1 := by
      unfold unitsV alive C.newestM
      rw [List.getLast?_eq_some_getLast hne]
      show vs.length + (if (!(vs.getLast hne).dead) = true then 1 else 0) = _
      cases (vs.getLast hne).dead <;> rfl
    unfold F.xav.j2 F.xav.j1
    rw [hu] at k
    cases hd : (vs.getLast hne).dead with
    | true =>
      rw [hd] at k
      exact ⟨fun g => (by cases g), fun _ => k⟩
    | false =>
      rw [hd] at k
      refine ⟨fun _ => ?_, fun g => by cases g⟩
      rw [w64s (by omega)]; exact k
  · have g := of_decide_eq_false g
    have : vs = [] := List.eq_nil_of_length_eq_zero (by omega)
    subst this
    unfold F.xav.j2 F.xav.j1
    exact ⟨fun g => (by cases g), fun _ => k⟩
theorem lay_list {vs : List Ver} (hne : vs ≠ []) (x : Ver) : vs.set (vs.length - 1) x = vs.dropLast ++ [x] := by
  have hp := List.length_pos_iff.2 hne
  rw [List.set_eq_take_append_cons_drop, if_pos (by omega), List.dropLast_eq_take, List.drop_eq_nil_of_le (by omega)]
theorem with_spec {v : Ver} {Q : Sl -> H -> Prop} (w : Owns h s tV7 6 (vs.flatMap fV)) (hv : vs.length <= 1048576) (k : ∀ r h', Owns h' r tV7 6 ((C.layM vs v).flatMap fV) -> Mine h r -> Ext h h' -> Q r h') : F.xay s (rV v) h Q := by
  unfold F.xay
  refine new_of fun m h1 hm b1 e1 s1 => ?_
  have c0 : cellH h1 ⟨m, 0, none⟩ = some (.int .i64 v.epoch) := Blk.cells b1 0 _ rfl
  refine app_mine (h0 := h) (L := ([] : List Ver)) (M := vs) e1 (Mine.nil _ _ _) fV_len (by omega) el_Slspateref7_Version (Owns.nil _ _ _) (w.ext e1).reads fV_one (by simp only [List.length_nil]; omega) fun r h3 w3 e3 m3 o3 q3 => ?_
  rw [List.nil_append] at w3
  have hl := own_len fV_len (by omega) w3
  rw [hl]
  have e13 : Ext h1 h3 := o3.mono fun b _ hb => by simp [Sl.blk] at hb
  have b3 : Blk h3 m (rV v).cells.toArray tV7 := e13.block b1 fun f => f
  have c03 : cellH h3 ⟨m, 0, none⟩ = some (.int .i64 v.epoch) := Blk.cells b3 0 _ rfl
  have app : ¬ (vs ≠ [] ∧ C.lastE vs = v.epoch) -> F.xay.j2 Q ⟨m, 0, none⟩ r (vs.length : Int) false h3 := fun hno => by
    unfold F.xay.j2 F.xay.j1
    refine ⟨fun g => (by cases g), fun _ => ⟨rV v, Blk.cells b3, ?_⟩⟩
    refine push_mine (x := v) (h0 := h) e3 m3 fV_len (by omega) el_Slspateref7_Version w3 fV_one (by omega) fun r9 h9 w9 e9 m9 _ _ => ?_
    refine k r9 h9 ?_ m9 e9
    rw [show C.layM vs v = vs ++ [v] from if_neg hno]
    exact w9
  refine ⟨fun g => ?_, fun g => ?_⟩
  · have g := of_decide_eq_true g
    have hne : vs ≠ [] := fun e => by rw [e] at g; simp at g
    have hg := C.last_get hne
    rw [w64 (n := (vs.length : Int) - 1) (by omega) (by omega), show (vs.length : Int) - 1 = ((vs.length - 1 : Nat) : Int) by omega]
    simp only [add_lit, Nat.add_zero]
    refine verAt w3.reads hg fun a q0 _ _ _ => ldI_of q0 (ldI_of c03 ?_)
    by_cases he : (vs.getLast hne).epoch = v.epoch
    · rw [show ((vs.getLast hne).epoch == v.epoch) = true from by simpa using he]
      unfold F.xay.j2
      refine ⟨fun _ => ⟨rV v, Blk.cells b3, ?_⟩, fun g => by cases g⟩
      rw [w64 (n := (vs.length : Int) - 1) (by omega) (by omega), show (vs.length : Int) - 1 = ((vs.length - 1 : Nat) : Int) by omega]
      refine put_at (f := fV) (D := vs) (i := vs.length - 1) (x := v) fV_len (by omega) w3 (by omega) fun h16 w16 o16 => ?_
      refine k r h16 ?_ m3 (e3.mine m3 o16)
      rw [show C.layM vs v = vs.dropLast ++ [v] from if_pos ⟨hne, by rw [lastE_get hne]; exact he⟩, ← lay_list hne]
      exact w16
    · rw [show ((vs.getLast hne).epoch == v.epoch) = false from by simpa using he]
      exact app fun hh => he (by rw [← lastE_get hne]; exact hh.2)
  · have g := of_decide_eq_false g
    have : vs = [] := List.eq_nil_of_length_eq_zero (by omega)
    exact app fun hh => hh.1 this
end
theorem sh32 (a : Nat) : Int.fdiv (a : Int) (2 ^ (min (32 : Int).toNat (IntKind.bits .u64)) : Int) = ((a / 4294967296 : Nat) : Int) := by
  have : (2 ^ (min (32 : Int).toNat (IntKind.bits .u64)) : Int) = ((4294967296 : Nat) : Int) := by decide
  rw [this, Int.fdiv_eq_ediv_of_nonneg _ (by omega)]; rfl
theorem and32 {a : Nat} (h : a < 18446744073709551616) : bitsOf .and .u64 (a : Int) 4294967295 = ((a % 4294967296 : Nat) : Int) := by
  unfold bitsOf
  simp only
  have h1 : (BitVec.ofInt (IntKind.bits .u64) (a : Int)).toNat = a := by
    show (BitVec.ofInt 64 (a : Int)).toNat = a
    rw [BitVec.toNat_ofInt]; omega
  have h2 : (BitVec.ofInt (IntKind.bits .u64) (4294967295 : Int)).toNat = 4294967295 := by decide
  rw [BitVec.toNat_and, h1, h2, show (4294967295 : Nat) = 2 ^ 32 - 1 from rfl, Nat.and_two_pow_sub_one_eq_mod, wrap_u64]
  omega
theorem wU {n : Nat} (h : n < 18446744073709551616) : IntKind.wrap .u64 (n : Int) = (n : Int) := by rw [wrap_u64]; omega
theorem mul_hi {a b x1 x0 y1 y0 : Nat} (ha : a = x1 * 4294967296 + x0) (hb : b = y1 * 4294967296 + y0) (h1 : x1 < 4294967296) (h2 : x0 < 4294967296) (h3 : y1 < 4294967296) (h4 : y0 < 4294967296) :
    x1 * y1 <= 18446744065119617025 ∧ x1 * y0 <= 18446744065119617025 ∧ x0 * y1 <= 18446744065119617025 ∧ x0 * y0 <= 18446744065119617025 ∧ a * b = (x1 * y1) * 18446744073709551616 + (x1 * y0 + x0 * y1) * 4294967296 + x0 * y0 := by
  have m : ∀ {p q : Nat}, p < 4294967296 -> q < 4294967296 -> p * q <= 18446744065119617025 := fun {p q} hp hq => Nat.mul_le_mul (show p <= 4294967295 by omega) (show q <= 4294967295 by omega)
  refine ⟨m h1 h3, m h1 h4, m h2 h3, m h2 h4, ?_⟩
  subst ha; subst hb
  grind
theorem Mul64_spec {a b : Nat} {h : H} {Q : Int -> Int -> H -> Prop} (ha : a < 18446744073709551616) (hb : b < 18446744073709551616) (k : Q ((a * b / 18446744073709551616 : Nat) : Int) ((a * b % 18446744073709551616 : Nat) : Int) h) : F.xdi (a : Int) (b : Int) h Q := by
  unfold F.xdi
  refine ⟨by omega, by omega, by omega, by omega, by omega, ?_⟩
  rw [and32 ha, and32 hb, sh32, sh32]
  obtain ⟨p1, p2, p3, p4, p5⟩ := mul_hi (a := a) (b := b) (x1 := a / 4294967296) (x0 := a % 4294967296) (y1 := b / 4294967296) (y0 := b % 4294967296) (by omega) (by omega) (by omega) (by omega) (by omega) (by omega)
  have c : ∀ p q : Nat, (p : Int) * (q : Int) = ((p * q : Nat) : Int) := fun p q => (Int.natCast_mul p q).symm
  rw [c, c, c, c, c]
  generalize a / 4294967296 * (b / 4294967296) = P11 at *
  generalize a / 4294967296 * (b % 4294967296) = P10 at *
  generalize a % 4294967296 * (b / 4294967296) = P01 at *
  generalize a % 4294967296 * (b % 4294967296) = P00 at *
  generalize a * b = M at *
  rw [wU (n := P11) (by omega), wU (n := P10) (by omega), wU (n := P01) (by omega), wU (n := P00) (by omega), sh32]
  have d : ∀ p q : Nat, (p : Int) + (q : Int) = ((p + q : Nat) : Int) := fun p q => (Int.natCast_add p q).symm
  rw [d, wU (n := P10 + P00 / 4294967296) (by omega), and32 (by omega), sh32, d, d, wU (n := (P10 + P00 / 4294967296) % 4294967296 + P01) (by omega), wU (n := P11 + (P10 + P00 / 4294967296) / 4294967296) (by omega), sh32, d, wU (by omega)]
  have e1 : P11 + (P10 + P00 / 4294967296) / 4294967296 + ((P10 + P00 / 4294967296) % 4294967296 + P01) / 4294967296 = M / 18446744073709551616 := by omega
  have e2 : IntKind.wrap .u64 (M : Int) = ((M % 18446744073709551616 : Nat) : Int) := by rw [wrap_u64]; omega
  rw [e1, e2]
  exact k
def WD (x : Int) : S_agg_wide := ⟨x / 18446744073709551616, x % 18446744073709551616⟩
theorem wrap_i64e {x : Int} (h0 : -9223372036854775808 <= x) (h1 : x < 9223372036854775808) : IntKind.wrap .i64 (IntKind.wrap .u64 x) = x := by
  rw [wrap_u64]
  have : IntKind.wrap .i64 (x % 18446744073709551616) = x := by
    unfold IntKind.wrap
    simp [IntKind.bits, IntKind.signed]
    split <;> omega
  exact this
theorem product_spec {n : Nat} {v : Int} {h : H} {Q : S_agg_wide -> H -> Prop} (hn : n < 9223372036854775808) (h0 : -9223372036854775808 <= v) (h1 : v < 9223372036854775808) (k : ∀ h', Ext h h' -> Q (WD ((n : Int) * v)) h') : F.xaw (n : Int) v h Q := by
  unfold F.xaw
  refine new_of fun m h1' hm b1 e1 s1 => ?_
  have b1' : Blk h1' m (⟨0, 0⟩ : S_agg_wide).cells.toArray tn_agg_wide := b1
  obtain ⟨w, hw, hw2⟩ : ∃ w : Nat, IntKind.wrap .u64 v = (w : Int) ∧ w < 18446744073709551616 := ⟨(IntKind.wrap .u64 v).toNat, by rw [wrap_u64]; omega, by rw [wrap_u64]; omega⟩
  have hwv : (w : Int) = if v < 0 then v + 18446744073709551616 else v := by
    rw [← hw, wrap_u64]; split <;> omega
  rw [hw, wU (n := n) (by omega)]
  refine Mul64_spec (by omega) hw2 ?_
  have hj : ∀ hi lo : Int, IntKind.wrap .i64 hi = (WD ((n : Int) * v)).hi -> lo = (WD ((n : Int) * v)).lo -> F.xaw.j1 Q ⟨m, 0, none⟩ hi lo h1' := fun hi lo e2 e3 => by
    unfold F.xaw.j1
    rw [e2, e3]
    refine stH_of b1' (by simp [S_agg_wide.cells]) fun h2 b2 o2 s2 => ⟨WD ((n : Int) * v), Blk.cells b2, k h2 (e1.step o2 fun x hx hb => by omega)⟩
  have hprod : ((n * w : Nat) : Int) = if v < 0 then (n : Int) * v + (n : Int) * 18446744073709551616 else (n : Int) * v := by
    rw [Int.natCast_mul, hwv]
    split
    · rw [Int.mul_add]
    · rfl
  have hb1 : (n : Int) * v <= 9223372036854775808 * 9223372036854775808 := by
    rcases Int.lt_or_le v 0 with g | g
    · have := Int.mul_nonneg_of_nonpos_of_nonpos (a := -(n : Int)) (b := v) (by omega) (by omega)
      rw [Int.neg_mul] at this; omega
    · exact Int.mul_le_mul (by omega) (by omega) g (by omega)
  have hb2 : -(9223372036854775808 * 9223372036854775808) <= (n : Int) * v := by
    rcases Int.lt_or_le v 0 with g | g
    · have h9 : (n : Int) * (-v) <= 9223372036854775808 * 9223372036854775808 := Int.mul_le_mul (by omega) (by omega) (by omega) (by omega)
      rw [Int.mul_neg] at h9; omega
    · have := Int.mul_nonneg (a := (n : Int)) (b := v) (by omega) g
      omega
  generalize hP : (n : Int) * v = P at *
  refine ⟨fun g => ?_, fun g => ?_⟩
  · have g := of_decide_eq_true g
    rw [if_pos g] at hprod
    refine hj _ _ ?_ ?_
    · show _ = P / 18446744073709551616
      have e4 : ((n * w / 18446744073709551616 : Nat) : Int) - (n : Int) = P / 18446744073709551616 := by omega
      rw [e4]
      exact wrap_i64e (by omega) (by omega)
    · show _ = P % 18446744073709551616
      omega
  · have g := of_decide_eq_false g
    rw [if_neg g] at hprod
    refine hj _ _ ?_ ?_
    · show _ = P / 18446744073709551616
      have e4 : ((n * w / 18446744073709551616 : Nat) : Int) = P / 18446744073709551616 := by omega
      rw [e4]
      exact w64 (by omega) (by omega)
    · show _ = P % 18446744073709551616
      omega
theorem st_wd {h : H} {n : Nat} {c d : S_agg_wide} {e : TypeId} {K : H -> Prop} (b : Blk h n c.cells.toArray e) (k : ∀ h', Blk h' n d.cells.toArray e -> Only (· = n) h h' -> h'.size = h.size -> K h') : stH h ⟨n, 0, none⟩ d.cells K :=
  stH_of b (by simp [S_agg_wide.cells]) fun h' b' o s => k h' b' o s
abbrev B126 (x : Int) : Prop := -(85070591730234615865843651857942052864 + 36893488147419103232) <= x ∧ x <= 85070591730234615865843651857942052864 + 36893488147419103232
theorem plus_spec {x y : Int} {h : H} {Q : S_agg_wide -> H -> Prop} (hx : -36893488147419103232 <= x ∧ x <= 36893488147419103232) (hy : B126 y) (k : ∀ h', Ext h h' -> Q (WD (x + y)) h') : F.xbw (WD x) (WD y) h Q := by
  unfold F.xbw
  refine new_of fun n1 h1 hn1 b1 e1 s1 => new_of fun n3 h3 hn3 b3 e3 s3 => new_of fun n5 h5 hn5 b5 e5 s5 => ?_
  have b1' : Blk h5 n1 (WD x).cells.toArray tn_agg_wide := e5.block (e3.block b1 fun f => f) fun f => f
  have b3' : Blk h5 n3 (WD y).cells.toArray tn_agg_wide := e5.block b3 fun f => f
  have b5' : Blk h5 n5 (⟨0, 0⟩ : S_agg_wide).cells.toArray tn_agg_wide := b5
  have x0 : cellH h5 ⟨n1, 0, none⟩ = some (.int .i64 (x / 18446744073709551616)) := Blk.cells b1' 0 _ rfl
  have x1 : cellH h5 ⟨n1, 1, none⟩ = some (.int .u64 (x % 18446744073709551616)) := Blk.cells b1' 1 _ rfl
  have y0 : cellH h5 ⟨n3, 0, none⟩ = some (.int .i64 (y / 18446744073709551616)) := Blk.cells b3' 0 _ rfl
  have y1 : cellH h5 ⟨n3, 1, none⟩ = some (.int .u64 (y % 18446744073709551616)) := Blk.cells b3' 1 _ rfl
  simp only [add_lit, Nat.zero_add, Nat.add_zero]
  refine ldI_of x1 (ldI_of y1 (ldI_of x0 (ldI_of y0 ?_)))
  have hs : a64s (x % 18446744073709551616) (y % 18446744073709551616) = (x + y) % 18446744073709551616 := by unfold a64s; omega
  have hc : a64c (x % 18446744073709551616) (y % 18446744073709551616) = (x % 18446744073709551616 + y % 18446744073709551616) / 18446744073709551616 := by unfold a64c; omega
  rw [hs, hc]
  have bx := hx
  obtain ⟨bx1, bx2⟩ := bx
  obtain ⟨by1, by2⟩ := hy
  rw [w64 (n := x / 18446744073709551616 + y / 18446744073709551616) (by omega) (by omega), w64 (n := (x % 18446744073709551616 + y % 18446744073709551616) / 18446744073709551616) (by omega) (by omega), w64 (by omega) (by omega)]
  have he : x / 18446744073709551616 + y / 18446744073709551616 + (x % 18446744073709551616 + y % 18446744073709551616) / 18446744073709551616 = (x + y) / 18446744073709551616 := by omega
  rw [he]
  refine st_wd (d := WD (x + y)) b5' fun h6 b6 o6 s6 => ⟨WD (x + y), b6.cells, k h6 (((e1.trans e3).trans e5).step o6 fun z hz hb => by have := e1.size; have := e3.size; omega)⟩
theorem upto_spec {x y : Int} {h : H} {Q : Bool -> H -> Prop} (k : ∀ h', Ext h h' -> Q (decide (x <= y)) h') : F.xcr (WD x) (WD y) h Q := by
  unfold F.xcr
  refine new_of fun n1 h1 hn1 b1 e1 s1 => new_of fun n3 h3 hn3 b3 e3 s3 => ?_
  have b1' : Blk h3 n1 (WD x).cells.toArray tn_agg_wide := e3.block b1 fun f => f
  have b3' : Blk h3 n3 (WD y).cells.toArray tn_agg_wide := b3
  have x0 : cellH h3 ⟨n1, 0, none⟩ = some (.int .i64 (x / 18446744073709551616)) := Blk.cells b1' 0 _ rfl
  have x1 : cellH h3 ⟨n1, 1, none⟩ = some (.int .u64 (x % 18446744073709551616)) := Blk.cells b1' 1 _ rfl
  have y0 : cellH h3 ⟨n3, 0, none⟩ = some (.int .i64 (y / 18446744073709551616)) := Blk.cells b3' 0 _ rfl
  have y1 : cellH h3 ⟨n3, 1, none⟩ = some (.int .u64 (y % 18446744073709551616)) := Blk.cells b3' 1 _ rfl
  have k := k h3 (e1.trans e3)
  simp only [add_lit, Nat.zero_add, Nat.add_zero]
  refine ldI_of x0 (ldI_of y0 ⟨fun g => ?_, fun g => ldI_of x0 (ldI_of y0 ⟨fun g2 => ldI_of x1 (ldI_of y1 ?_), fun g2 => ?_⟩)⟩)
  · have g := of_decide_eq_true g
    rw [decide_eq_true (show x <= y by omega)] at k; exact k
  · have g2 : x / 18446744073709551616 = y / 18446744073709551616 := by simpa using g2
    have : decide (x <= y) = decide (x % 18446744073709551616 <= y % 18446744073709551616) := by
      rw [decide_eq_decide]; omega
    rw [this] at k; exact k
  · have g := of_decide_eq_false g
    have g2 : ¬ x / 18446744073709551616 = y / 18446744073709551616 := by simpa using g2
    rw [decide_eq_false (show ¬ x <= y by omega)] at k; exact k
def rightM (a : S_api_Agg) : Bool :=
  if a.Count <= 0 then ((a.Count == zA.Count) && ((a.Sum == zA.Sum) && ((a.Min == zA.Min) && ((a.Max == zA.Max) && true))))
  else if a.Count = 1 then decide (a.Min = a.Sum ∧ a.Max = a.Sum)
  else if a.Min > a.Max then false
  else decide (a.Min + a.Max + (a.Count - 2) * a.Min <= a.Sum) && decide (a.Sum <= a.Min + a.Max + (a.Count - 2) * a.Max)
abbrev I64c (n : Int) : Prop := -9223372036854775808 <= n ∧ n < 9223372036854775808
theorem mul_126 {n v : Int} (h0 : 0 <= n) (h1 : n < 9223372036854775808) (hv : I64c v) : B126 (n * v) := by
  obtain ⟨v0, v1⟩ := hv
  constructor
  · rcases Int.lt_or_le v 0 with g | g
    · have h9 : n * (-v) <= 9223372036854775808 * 9223372036854775808 := Int.mul_le_mul (by omega) (by omega) (by omega) (by omega)
      rw [Int.mul_neg] at h9; omega
    · have := Int.mul_nonneg (a := n) (b := v) (by omega) g
      omega
  · rcases Int.lt_or_le v 0 with g | g
    · have h9 := Int.mul_nonneg (a := n) (b := -v) (by omega) (by omega)
      rw [Int.mul_neg] at h9; omega
    · have h9 : n * v <= 9223372036854775808 * 9223372036854775808 := Int.mul_le_mul (by omega) (by omega) g (by omega)
      omega
theorem product_int {n v : Int} {h : H} {Q : S_agg_wide -> H -> Prop} (h0 : 0 <= n) (hn : n < 9223372036854775808) (hv : I64c v) (k : ∀ h', Ext h h' -> Q (WD (n * v)) h') : F.xaw n v h Q := by
  obtain ⟨m, rfl⟩ : ∃ m : Nat, n = (m : Int) := ⟨n.toNat, by omega⟩
  exact product_spec (by omega) hv.1 hv.2 k
theorem right_all {a : S_api_Agg} (hc : I64c a.Count) (hs : I64c a.Sum) (h0 : I64c a.Min) (h1 : I64c a.Max) : RightIs a (rightM a) := fun h Q k => by
  unfold F.xbt
  refine new_of fun m h1' hm b1 e1 s1 => ?_
  have c0 : ∀ {hh : H}, Ext h1' hh -> cellH hh ⟨m, 0, none⟩ = some (.int .i64 a.Count) := fun e => e.cell (Blk.cells b1 0 _ rfl) fun f => f
  have c1 : ∀ {hh : H}, Ext h1' hh -> cellH hh ⟨m, 1, none⟩ = some (.int .i64 a.Sum) := fun e => e.cell (Blk.cells b1 1 _ rfl) fun f => f
  have c2 : ∀ {hh : H}, Ext h1' hh -> cellH hh ⟨m, 2, none⟩ = some (.int .i64 a.Min) := fun e => e.cell (Blk.cells b1 2 _ rfl) fun f => f
  have c3 : ∀ {hh : H}, Ext h1' hh -> cellH hh ⟨m, 3, none⟩ = some (.int .i64 a.Max) := fun e => e.cell (Blk.cells b1 3 _ rfl) fun f => f
  have r0 : Ext h1' h1' := .refl _
  simp only [add_lit, Nat.zero_add, Nat.add_zero]
  unfold rightM at k
  refine ldI_of (c0 r0) ⟨fun g => ?_, fun g => ldI_of (c0 r0) ⟨fun g2 => ?_, fun g2 => ldI_of (c2 r0) (ldI_of (c3 r0) ⟨fun g3 => ?_, fun g3 => ?_⟩)⟩⟩
  · have g := of_decide_eq_true g
    rw [if_pos g] at k
    exact ⟨a, Blk.cells b1, k h1' e1⟩
  · have g := of_decide_eq_false g
    have g2 : a.Count = 1 := by simpa using g2
    rw [if_neg g, if_pos g2] at k
    have k := k h1' e1
    refine ldI_of (c2 r0) (ldI_of (c1 r0) ⟨fun g3 => ldI_of (c3 r0) (ldI_of (c1 r0) ?_), fun g3 => ?_⟩)
    · have g3 : a.Min = a.Sum := by simpa using g3
      have : decide (a.Min = a.Sum ∧ a.Max = a.Sum) = (a.Max == a.Sum) := by
        by_cases h : a.Max = a.Sum <;> simp [g3, h]
      rw [this] at k; exact k
    · have g3 : ¬ a.Min = a.Sum := by simpa using g3
      rw [decide_eq_false (fun h => g3 h.1)] at k; exact k
  · have g := of_decide_eq_false g
    have g2 : ¬ a.Count = 1 := by simpa using g2
    have g3 := of_decide_eq_true g3
    rw [if_neg g, if_neg g2, if_pos g3] at k
    exact k h1' e1
  · have g := of_decide_eq_false g
    have g2 : ¬ a.Count = 1 := by simpa using g2
    have g3 := of_decide_eq_false g3
    rw [if_neg g, if_neg g2, if_neg g3] at k
    have hc2 : 0 <= a.Count - 2 ∧ a.Count - 2 < 9223372036854775808 := by have := hc.2; omega
    have wc : IntKind.wrap .i64 (a.Count - 2) = a.Count - 2 := w64 (by omega) (by omega)
    have bmin := mul_126 hc2.1 hc2.2 h0
    have bmax := mul_126 hc2.1 hc2.2 h1
    have be : -36893488147419103232 <= a.Min + a.Max ∧ a.Min + a.Max <= 36893488147419103232 := by
      obtain ⟨q1, q2⟩ := h0; obtain ⟨q3, q4⟩ := h1; omega
    have be' : B126 (a.Min + a.Max) := ⟨by omega, by omega⟩
    have i126 : ∀ {x : Int}, I64c x -> B126 x := fun h => ⟨by have := h.1; omega, by have := h.2; omega⟩
    have i65 : ∀ {x : Int}, I64c x -> -36893488147419103232 <= x ∧ x <= 36893488147419103232 := fun h => ⟨by have := h.1; omega, by have := h.2; omega⟩
    have j1 : ∀ (hh : H) (e : Nat), Ext h1' hh -> Blk hh e (WD (a.Min + a.Max)).cells.toArray tn_agg_wide -> F.xbt.j1 Q ⟨m, 0, none⟩ ⟨e, 0, none⟩ hh := fun hh e ex be2 => by
      unfold F.xbt.j1
      simp only [add_lit, Nat.zero_add, Nat.add_zero]
      refine ldI_of (c1 ex) (product_int (by omega) (by omega) hs fun h27 e27 => ?_)
      rw [Int.one_mul]
      refine new_of fun n h29 hn b29 e29 s29 => ?_
      have b29' : Blk h29 n (⟨0, 0⟩ : S_agg_wide).cells.toArray tn_agg_wide := b29
      refine st_wd (d := WD a.Sum) b29' fun h31 b31 o31 s31 => ?_
      have e31 : Ext hh h31 := (e27.trans e29).step o31 fun z hz hb => by have := e27.size; omega
      have x31 := ex.trans e31
      have be31 := e31.block be2 fun f => f
      refine ⟨_, Blk.cells be31, ldI_of (c0 x31) (ldI_of (c2 x31) ⟨_, Blk.cells b31, ?_⟩)⟩
      rw [wc]
      refine product_int hc2.1 hc2.2 h0 fun h40 e40 => ⟨(Blk.cells b31).ext e40, (Blk.cells be31).ext e40, plus_spec be bmin fun h44 e44 => ⟨(Blk.cells b31).ext (e40.trans e44), upto_spec fun h47 e47 => ?_⟩⟩
      have e47' := (e40.trans e44).trans e47
      have x47 := x31.trans e47'
      refine ⟨fun gt => ?_, fun gf => ?_⟩
      · have gt := of_decide_eq_true gt
        refine ⟨_, (Blk.cells b31).ext e47', _, (Blk.cells be31).ext e47', ldI_of (c0 x47) (ldI_of (c3 x47) ?_)⟩
        rw [wc]
        refine product_int hc2.1 hc2.2 h1 fun h58 e58 => ⟨(Blk.cells be31).ext (e47'.trans e58), (Blk.cells b31).ext (e47'.trans e58), plus_spec be bmax fun h62 e62 => ⟨(Blk.cells b31).ext ((e47'.trans e58).trans e62), upto_spec fun h65 e65 => ?_⟩⟩
        have kk := k h65 (e1.trans (x47.trans ((e58.trans e62).trans e65)))
        rw [decide_eq_true gt, Bool.true_and] at kk
        exact kk
      · have gf := of_decide_eq_false gf
        have kk := k h47 (e1.trans x47)
        rw [decide_eq_false gf, Bool.false_and] at kk
        exact kk
    -- the ends' block, whichever order it was made in
    have fin : ∀ (hh : H) (n : Nat), Ext h1' hh -> h1'.size <= n -> Blk hh n (⟨0, 0⟩ : S_agg_wide).cells.toArray tn_agg_wide -> stH hh ⟨n, 0, none⟩ (WD (a.Min + a.Max)).cells fun h80 => F.xbt.j1 Q ⟨m, 0, none⟩ ⟨n, 0, none⟩ h80 := fun hh n ex hn b => by
      refine st_wd (d := WD (a.Min + a.Max)) b fun h80 b80 o80 s80 => j1 h80 n (ex.step o80 fun z hz hb => by omega) b80
    have o1 : (0 : Int) <= 1 := by omega
    have o2 : (1 : Int) < 9223372036854775808 := by omega
    refine ldI_of (c2 r0) (ldI_of (c3 r0) ⟨product_int o1 o2 h0 fun h71 e71 => ⟨c3 e71, product_int o1 o2 h1 fun h74 e74 => ?_, new_of fun n h86 hn b86 e86 s86 => ⟨c3 (e71.trans e86), product_int o1 o2 h1 fun h89 e89 => ?_⟩⟩, new_of fun n h94 hn b94 e94 s94 => ⟨c3 e94, c2 e94, product_int o1 o2 h0 fun h98 e98 => ⟨c3 (e94.trans e98), product_int o1 o2 h1 fun h101 e101 => ?_⟩⟩⟩)
    · rw [Int.one_mul, Int.one_mul]
      have x74 := e71.trans e74
      have z74 := x74.size
      refine ⟨plus_spec (i65 h0) (i126 h1) fun h76 e76 => new_of fun n h78 hn b78 e78 s78 => fin h78 n ((x74.trans e76).trans e78) (by have := e76.size; omega) b78, new_of fun n h81 hn b81 e81 s81 => plus_spec (i65 h0) (i126 h1) fun h83 e83 => fin h83 n ((x74.trans e81).trans e83) (by omega) (e83.block b81 fun f => f)⟩
    · rw [Int.one_mul, Int.one_mul]
      have z71 := e71.size
      refine plus_spec (i65 h0) (i126 h1) fun h91 e91 => fin h91 n ((e71.trans e86).trans (e89.trans e91)) (by omega) ((e89.trans e91).block b86 fun f => f)
    · rw [Int.one_mul, Int.one_mul]
      refine plus_spec (i65 h0) (i126 h1) fun h103 e103 => fin h103 n (e94.trans ((e98.trans e101).trans e103)) (by omega) (((e98.trans e101).trans e103).block b94 fun f => f)
def RW (x : Int) : S_spateref3_Wide := ⟨decide (x < 0), ((x.natAbs / 18446744073709551616 : Nat) : Int), ((x.natAbs % 18446744073709551616 : Nat) : Int)⟩
theorem st_rw {h : H} {n : Nat} {c d : S_spateref3_Wide} {e : TypeId} {K : H -> Prop} (b : Blk h n c.cells.toArray e) (k : ∀ h', Blk h' n d.cells.toArray e -> Only (· = n) h h' -> h'.size = h.size -> K h') : stH h ⟨n, 0, none⟩ d.cells K :=
  stH_of b (by simp [S_spateref3_Wide.cells]) fun h' b' o s => k h' b' o s
theorem size_spec {a : Int} {h : H} {Q : Int -> H -> Prop} (ha : I64c a) (k : Q ((a.natAbs : Nat) : Int) h) : F.xcs a h Q := by
  obtain ⟨h0, h1⟩ := ha
  unfold F.xcs
  refine ⟨fun g => ?_, fun g => ?_⟩
  · have g := of_decide_eq_true g
    rw [show IntKind.wrap .u64 (0 - IntKind.wrap .u64 a) = ((a.natAbs : Nat) : Int) by rw [wrap_u64, wrap_u64]; omega]
    exact k
  · have g := of_decide_eq_false g
    rw [show IntKind.wrap .u64 a = ((a.natAbs : Nat) : Int) by rw [wrap_u64]; omega]
    exact k
theorem mul_sign {a b : Int} : decide (a * b < 0) = (!(decide (a < 0) == decide (b < 0)) && decide (a * b ≠ 0)) := by
  by_cases ha : a < 0 <;> by_cases hb : b < 0
  · have := Int.mul_pos_of_neg_of_neg ha hb
    rw [decide_eq_false (show ¬ a * b < 0 by omega)]; simp [ha, hb]
  · by_cases hz : b = 0
    · subst hz; simp
    · have := Int.mul_neg_of_neg_of_pos ha (show 0 < b by omega)
      rw [decide_eq_true this, decide_eq_true (show a * b ≠ 0 by omega)]; simp [ha, hb]
  · by_cases hz : a = 0
    · subst hz; simp
    · have := Int.mul_neg_of_pos_of_neg (show 0 < a by omega) hb
      rw [decide_eq_true this, decide_eq_true (show a * b ≠ 0 by omega)]; simp [ha, hb]
  · have := Int.mul_nonneg (show 0 <= a by omega) (show 0 <= b by omega)
    rw [decide_eq_false (show ¬ a * b < 0 by omega)]; simp [ha, hb]
theorem times_spec {a b : Int} {h : H} {Q : S_spateref3_Wide -> H -> Prop} (ha : I64c a) (hb : I64c b) (k : ∀ h', Ext h h' -> Q (RW (a * b)) h') : F.xau a b h Q := by
  unfold F.xau
  refine new_of fun m h1 hm b1 e1 s1 => size_spec ha (size_spec hb ⟨by omega, by omega, by omega, by omega, by omega, new_of fun n h2 hn b2 e2 s2 => ?_⟩)
  have hA : a.natAbs < 18446744073709551616 := by obtain ⟨q1, q2⟩ := ha; omega
  have hB : b.natAbs < 18446744073709551616 := by obtain ⟨q1, q2⟩ := hb; omega
  have hab : (a * b).natAbs = a.natAbs * b.natAbs := Int.natAbs_mul a b
  have hsg := mul_sign (a := a) (b := b)
  have hz : a * b ≠ 0 ↔ a.natAbs * b.natAbs ≠ 0 := by rw [← hab]; omega
  generalize hx : a.natAbs = x at hA hab hz ⊢
  generalize hy : b.natAbs = y at hB hab hz ⊢
  obtain ⟨p1, p2, p3, p4, p5⟩ := mul_hi (a := x) (b := y) (x1 := x / 4294967296) (x0 := x % 4294967296) (y1 := y / 4294967296) (y0 := y % 4294967296) (by omega) (by omega) (by omega) (by omega) (by omega) (by omega)
  rw [and32 hA, and32 hB, sh32, sh32]
  have c : ∀ p q : Nat, (p : Int) * (q : Int) = ((p * q : Nat) : Int) := fun p q => (Int.natCast_mul p q).symm
  rw [c, c, c, c, c]
  have k' : ∀ h', Ext h h' -> Q ⟨decide (a * b < 0), ((x * y / 18446744073709551616 : Nat) : Int), ((x * y % 18446744073709551616 : Nat) : Int)⟩ h' := fun h' e' => by
    have := k h' e'
    unfold RW at this
    rw [hab] at this; exact this
  generalize x / 4294967296 * (y / 4294967296) = P11 at *
  generalize x / 4294967296 * (y % 4294967296) = P10 at *
  generalize x % 4294967296 * (y / 4294967296) = P01 at *
  generalize x % 4294967296 * (y % 4294967296) = P00 at *
  generalize x * y = M at *
  rw [wU (n := P11) (by omega), wU (n := P10) (by omega), wU (n := P01) (by omega), wU (n := P00) (by omega), sh32]
  have d : ∀ p q : Nat, (p : Int) + (q : Int) = ((p + q : Nat) : Int) := fun p q => (Int.natCast_add p q).symm
  rw [d, wU (n := P10 + P00 / 4294967296) (by omega), and32 (by omega), sh32, d, d, wU (n := P01 + (P10 + P00 / 4294967296) % 4294967296) (by omega), wU (n := P11 + (P10 + P00 / 4294967296) / 4294967296) (by omega), sh32, d, wU (by omega)]
  have e1' : P11 + (P10 + P00 / 4294967296) / 4294967296 + (P01 + (P10 + P00 / 4294967296) % 4294967296) / 4294967296 = M / 18446744073709551616 := by omega
  have e2' : IntKind.wrap .u64 (M : Int) = ((M % 18446744073709551616 : Nat) : Int) := by rw [wrap_u64]; omega
  rw [e1', e2']
  generalize hsn : (!(decide (a < 0) == decide (b < 0))) = sg at *
  have b2' : Blk h2 n (⟨false, 0, 0⟩ : S_spateref3_Wide).cells.toArray tn_spateref3_Wide := b2
  refine st_rw (d := ⟨sg, ((M / 18446744073709551616 : Nat) : Int), ((M % 18446744073709551616 : Nat) : Int)⟩) b2' fun h3 b3 o3 s3 => ?_
  have e3 : Ext h1 h3 := e2.step o3 fun z hz hb => by omega
  have b13 : Blk h3 m (⟨false, 0, 0⟩ : S_spateref3_Wide).cells.toArray tn_spateref3_Wide := e3.block b1 fun f => f
  have c1 : cellH h3 ⟨n, 1, none⟩ = some (.int .u64 ((M / 18446744073709551616 : Nat) : Int)) := Blk.cells b3 1 _ rfl
  have c2 : cellH h3 ⟨n, 2, none⟩ = some (.int .u64 ((M % 18446744073709551616 : Nat) : Int)) := Blk.cells b3 2 _ rfl
  have fin : ∀ (hh : H) (s : Bool), Ext h1 hh -> Blk hh n (⟨s, ((M / 18446744073709551616 : Nat) : Int), ((M % 18446744073709551616 : Nat) : Int)⟩ : S_spateref3_Wide).cells.toArray tn_spateref3_Wide -> s = decide (a * b < 0) -> F.xau.j1 Q ⟨m, 0, none⟩ ⟨n, 0, none⟩ hh := fun hh s ex bn hs => by
    unfold F.xau.j1
    have bm : Blk hh m (⟨false, 0, 0⟩ : S_spateref3_Wide).cells.toArray tn_spateref3_Wide := ex.block b1 fun f => f
    refine ⟨_, Blk.cells bn, st_rw (d := ⟨s, ((M / 18446744073709551616 : Nat) : Int), ((M % 18446744073709551616 : Nat) : Int)⟩) bm fun h4 b4 o4 s4 => ⟨_, Blk.cells b4, ?_⟩⟩
    rw [hs]
    exact k' h4 ((e1.trans ex).step o4 fun z hz hb => by omega)
  have j2f : M ≠ 0 -> F.xau.j2 Q ⟨m, 0, none⟩ ⟨n, 0, none⟩ false h3 := fun hM => by
    unfold F.xau.j2
    refine ⟨fun g => (by cases g), fun _ => fin h3 sg e3 b3 ?_⟩
    rw [hsg, decide_eq_true (hz.2 hM), Bool.and_true]
  simp only [add_lit, Nat.zero_add]
  rw [ldI_iff c1]
  refine ⟨fun g => ?_, fun g => ?_⟩
  · rw [ldI_iff c2]
    have g0 : ((M / 18446744073709551616 : Nat) : Int) = 0 := eq_of_beq g
    have g : M / 18446744073709551616 = 0 := by omega
    by_cases g2 : M % 18446744073709551616 = 0
    · have hM : M = 0 := by omega
      have hb0 : ((((M % 18446744073709551616 : Nat) : Int)) == 0) = true := by rw [g2]; rfl
      rw [hb0]
      unfold F.xau.j2
      refine ⟨fun _ => ?_, fun g => by cases g⟩
      simp only [add_lit, Nat.zero_add]
      refine stH_of b3 (by simp [S_spateref3_Wide.cells]) fun h5 b5 o5 s5 => ?_
      refine fin h5 false (e3.step o5 fun z hz hb => by omega) b5 ?_
      rw [hsg, decide_eq_false (fun h => hz.1 h hM), Bool.and_false]
    · have hb0 : ((((M % 18446744073709551616 : Nat) : Int)) == 0) = false := by rw [beq_eq_false_iff_ne]; omega
      rw [hb0]
      exact j2f (by omega)
  · have g : ¬ ((M / 18446744073709551616 : Nat) : Int) = 0 := by simpa using g
    exact j2f (by intro e; subst e; omega)
theorem one_rw {a : Int} {h : H} {Q : S_spateref3_Wide -> H -> Prop} (ha : I64c a) (k : ∀ h', Ext h h' -> Q (RW a) h') : F.xbo a h Q := by
  unfold F.xbo
  refine new_of fun m h1 hm b1 e1 s1 => times_spec ha ⟨by omega, by omega⟩ fun h3 e3 => ?_
  rw [Int.mul_one]
  have b3 : Blk h3 m (⟨false, 0, 0⟩ : S_spateref3_Wide).cells.toArray tn_spateref3_Wide := e3.block b1 fun f => f
  exact st_rw (d := RW a) b3 fun h4 b4 o4 s4 => ⟨_, Blk.cells b4, k h4 ((e1.trans e3).step o4 fun z hz hb => by omega)⟩
theorem above_spec {x y : Int} {h : H} {Q : Bool -> H -> Prop} (k : ∀ h', Ext h h' -> Q (decide (x.natAbs > y.natAbs)) h') : F.xco (RW x) (RW y) h Q := by
  unfold F.xco
  refine new_of fun m h1 hm b1 e1 s1 => new_of fun n h3 hn b3 e3 s3 => ?_
  have b1' : Blk h3 m (RW x).cells.toArray tn_spateref3_Wide := e3.block b1 fun f => f
  have b3' : Blk h3 n (RW y).cells.toArray tn_spateref3_Wide := b3
  have x1 : cellH h3 ⟨m, 1, none⟩ = some (.int .u64 ((x.natAbs / 18446744073709551616 : Nat) : Int)) := Blk.cells b1' 1 _ rfl
  have x2 : cellH h3 ⟨m, 2, none⟩ = some (.int .u64 ((x.natAbs % 18446744073709551616 : Nat) : Int)) := Blk.cells b1' 2 _ rfl
  have y1 : cellH h3 ⟨n, 1, none⟩ = some (.int .u64 ((y.natAbs / 18446744073709551616 : Nat) : Int)) := Blk.cells b3' 1 _ rfl
  have y2 : cellH h3 ⟨n, 2, none⟩ = some (.int .u64 ((y.natAbs % 18446744073709551616 : Nat) : Int)) := Blk.cells b3' 2 _ rfl
  have k := k h3 (e1.trans e3)
  simp only [add_lit, Nat.zero_add]
  refine ldI_of x1 (ldI_of y1 ⟨fun g => ?_, fun g => ldI_of x1 (ldI_of y1 ⟨fun g2 => ldI_of x2 (ldI_of y2 ?_), fun g2 => ?_⟩)⟩)
  · have g := of_decide_eq_true g
    rw [decide_eq_true (show x.natAbs > y.natAbs by omega)] at k; exact k
  · have g2 : ((x.natAbs / 18446744073709551616 : Nat) : Int) = ((y.natAbs / 18446744073709551616 : Nat) : Int) := by simpa using g2
    have : decide (x.natAbs > y.natAbs) = decide (((x.natAbs % 18446744073709551616 : Nat) : Int) > ((y.natAbs % 18446744073709551616 : Nat) : Int)) := by
      rw [decide_eq_decide]; omega
    rw [this] at k; exact k
  · have g := of_decide_eq_false g
    have g2 : ¬ ((x.natAbs / 18446744073709551616 : Nat) : Int) = ((y.natAbs / 18446744073709551616 : Nat) : Int) := by simpa using g2
    rw [decide_eq_false (show ¬ x.natAbs > y.natAbs by omega)] at k; exact k
theorem less_rw {x y : Int} {h : H} {Q : Bool -> H -> Prop} (k : ∀ h', Ext h h' -> Q (decide (x <= y)) h') : F.xcu (RW x) (RW y) h Q := by
  unfold F.xcu
  refine new_of fun m h1 hm b1 e1 s1 => new_of fun n h3 hn b3 e3 s3 => ?_
  have b1' : Blk h3 m (RW x).cells.toArray tn_spateref3_Wide := e3.block b1 fun f => f
  have b3' : Blk h3 n (RW y).cells.toArray tn_spateref3_Wide := b3
  have x0 : cellH h3 ⟨m, 0, none⟩ = some (.bool (decide (x < 0))) := Blk.cells b1' 0 _ rfl
  have y0 : cellH h3 ⟨n, 0, none⟩ = some (.bool (decide (y < 0))) := Blk.cells b3' 0 _ rfl
  have e13 := e1.trans e3
  simp only [add_lit, Nat.zero_add, Nat.add_zero]
  refine ldB_of x0 (ldB_of y0 ⟨fun g => ldB_of x0 ?_, fun g => ldB_of x0 ⟨fun g2 => ⟨_, Blk.cells b3', _, Blk.cells b1', above_spec fun h5 e5 => ?_⟩, fun g2 => ⟨_, Blk.cells b1', _, Blk.cells b3', above_spec fun h5 e5 => ?_⟩⟩⟩)
  · have := k h3 e13
    rw [show decide (x <= y) = decide (x < 0) by
      rw [decide_eq_decide]
      by_cases hx : x < 0 <;> by_cases hy : y < 0 <;> simp [hx, hy] at g <;> omega] at this
    exact this
  · have := k h5 (e13.trans e5)
    have g2 := of_decide_eq_true g2
    have hy : y < 0 := by
      rw [decide_eq_true g2] at g
      simpa using g
    rw [show decide (x <= y) = !decide (y.natAbs > x.natAbs) by
      rw [← decide_not, decide_eq_decide]; omega] at this
    exact this
  · have := k h5 (e13.trans e5)
    have g2 := of_decide_eq_false g2
    have hy : ¬ y < 0 := by
      rw [decide_eq_false g2] at g
      simpa using g
    rw [show decide (x <= y) = !decide (x.natAbs > y.natAbs) by
      rw [← decide_not, decide_eq_decide]; omega] at this
    exact this
abbrev B127 (x : Int) : Prop := -170141183460469231731687303715884105728 < x ∧ x < 170141183460469231731687303715884105728
theorem plus_fu {m0 : Nat} {x y : Int} {h : H} {Q : S_spateref3_Wide -> H -> Prop} (hx : B127 x) (hy : B127 y) (hrec : x.natAbs < y.natAbs -> ∀ (hh : H) (K : S_spateref3_Wide -> H -> Prop), (∀ h', Ext hh h' -> K (RW (x + y)) h') -> F.xad.fu m0 (RW y) (RW x) hh K)
    (k : ∀ h', Ext h h' -> Q (RW (x + y)) h') : F.xad.fu (m0 + 1) (RW x) (RW y) h Q := by
  unfold F.xad.fu
  refine new_of fun m h1 hm b1 e1 s1 => new_of fun n h3 hn b3 e3 s3 => new_of fun p h5 hp b5 e5 s5 => ?_
  have e35 := e3.trans e5
  have b1' : ∀ {hh : H}, Ext h5 hh -> Blk hh m (RW x).cells.toArray tn_spateref3_Wide := fun e => (e35.trans e).block b1 fun f => f
  have b3' : ∀ {hh : H}, Ext h5 hh -> Blk hh n (RW y).cells.toArray tn_spateref3_Wide := fun e => (e5.trans e).block b3 fun f => f
  have b5' : ∀ {hh : H}, Ext h5 hh -> Blk hh p (⟨false, 0, 0⟩ : S_spateref3_Wide).cells.toArray tn_spateref3_Wide := fun e => e.block b5 fun f => f
  have x0 : ∀ {hh : H}, Ext h5 hh -> cellH hh ⟨m, 0, none⟩ = some (.bool (decide (x < 0))) := fun e => Blk.cells (b1' e) 0 _ rfl
  have x1 : ∀ {hh : H}, Ext h5 hh -> cellH hh ⟨m, 1, none⟩ = some (.int .u64 ((x.natAbs / 18446744073709551616 : Nat) : Int)) := fun e => Blk.cells (b1' e) 1 _ rfl
  have x2 : ∀ {hh : H}, Ext h5 hh -> cellH hh ⟨m, 2, none⟩ = some (.int .u64 ((x.natAbs % 18446744073709551616 : Nat) : Int)) := fun e => Blk.cells (b1' e) 2 _ rfl
  have y0 : ∀ {hh : H}, Ext h5 hh -> cellH hh ⟨n, 0, none⟩ = some (.bool (decide (y < 0))) := fun e => Blk.cells (b3' e) 0 _ rfl
  have y1 : ∀ {hh : H}, Ext h5 hh -> cellH hh ⟨n, 1, none⟩ = some (.int .u64 ((y.natAbs / 18446744073709551616 : Nat) : Int)) := fun e => Blk.cells (b3' e) 1 _ rfl
  have y2 : ∀ {hh : H}, Ext h5 hh -> cellH hh ⟨n, 2, none⟩ = some (.int .u64 ((y.natAbs % 18446744073709551616 : Nat) : Int)) := fun e => Blk.cells (b3' e) 2 _ rfl
  have e15 := e1.trans e35
  have r5 : Ext h5 h5 := .refl _
  have hmp : p = h3.size := hp
  have hs13 : h.size <= p := by have := (e1.trans e3).size; omega
  have fin : ∀ (hh : H), Ext h5 hh -> ∀ d : S_spateref3_Wide, d = RW (x + y) -> stH hh ⟨p, 0, none⟩ d.cells fun h24 => ld_S_spateref3_Wide h24 ⟨p, 0, none⟩ fun y25 => Q y25 h24 := fun hh ex d hd => by
    refine st_rw (d := d) (b5' ex) fun h24 b24 o24 s24 => ⟨d, Blk.cells b24, ?_⟩
    rw [hd]
    exact k h24 ((e15.trans ex).step o24 fun z hz hb => by omega)
  obtain ⟨bx1, bx2⟩ := hx
  obtain ⟨by1, by2⟩ := hy
  have sgn : ∀ (hi lo : Int), hi = (((x + y).natAbs / 18446744073709551616 : Nat) : Int) -> lo = (((x + y).natAbs % 18446744073709551616 : Nat) : Int) -> ∀ b : Bool, b = decide (x + y < 0) -> (⟨b, hi, lo⟩ : S_spateref3_Wide) = RW (x + y) := fun hi lo q1 q2 b q3 => by
    subst q1; subst q2; subst q3; rfl
  have j1 : ∀ (R : S_spateref3_Wide -> S_spateref3_Wide -> H -> (S_spateref3_Wide -> H -> Prop) -> Prop) (hh : H), Ext h5 hh -> ∀ (hi lo : Int), hi = (((x + y).natAbs / 18446744073709551616 : Nat) : Int) -> lo = (((x + y).natAbs % 18446744073709551616 : Nat) : Int) -> (x < 0 -> x + y <= 0) -> (¬ x < 0 -> 0 <= x + y) -> F.xad.j1 R Q ⟨m, 0, none⟩ ⟨p, 0, none⟩ lo hi hh := fun R hh ex hi lo q1 q2 q3 q4 => by
    unfold F.xad.j1
    simp only [add_lit, Nat.add_zero]
    refine ldB_of (x0 ex) ⟨fun g => ⟨fun g2 => fin hh ex _ (sgn hi lo q1 q2 _ ?_), fun g2 => fin hh ex _ (sgn hi lo q1 q2 _ ?_)⟩, fun g => fin hh ex _ (sgn hi lo q1 q2 _ ?_)⟩
    · have g := of_decide_eq_true g
      have g2 : hi ≠ 0 := by simpa using g2
      have := q3 g
      rw [decide_eq_true (show x + y < 0 by omega)]
    · have g := of_decide_eq_true g
      have g2 : hi = 0 := by simpa using g2
      have := q3 g
      by_cases hz : x + y = 0
      · have : lo = 0 := by rw [q2, hz]; rfl
        rw [this, decide_eq_false (show ¬ x + y < 0 by omega)]; rfl
      · have : lo ≠ 0 := by omega
        rw [decide_eq_true (show x + y < 0 by omega)]; simpa using this
    · have g := of_decide_eq_false g
      have := q4 g
      rw [decide_eq_false (show ¬ x + y < 0 by omega)]
  have j2 : ∀ (R : S_spateref3_Wide -> S_spateref3_Wide -> H -> (S_spateref3_Wide -> H -> Prop) -> Prop) (hh : H), Ext h5 hh -> ∀ (hi lo : Int), hi = (((x + y).natAbs / 18446744073709551616 : Nat) : Int) -> lo = (((x + y).natAbs % 18446744073709551616 : Nat) : Int) -> (x < 0 -> x + y <= 0) -> (¬ x < 0 -> 0 <= x + y) -> F.xad.j2 R Q ⟨m, 0, none⟩ ⟨p, 0, none⟩ lo hi hh := fun R hh ex hi lo q1 q2 q3 q4 => by
    have := j1 R hh ex hi lo q1 q2 q3 q4
    unfold F.xad.j1 at this
    unfold F.xad.j2
    exact this
  simp only [add_lit, Nat.zero_add, Nat.add_zero] at j1 j2 ⊢
  refine ldB_of (x0 r5) (ldB_of (y0 r5) ⟨fun g => ?_, fun g => ?_⟩)
  · -- of one sign
    have hs : (x < 0 ∧ y < 0) ∨ (¬ x < 0 ∧ ¬ y < 0) := by
      by_cases h1 : x < 0 <;> by_cases h2 : y < 0 <;> simp [h1, h2] at g ⊢
    have hab : (x + y).natAbs = x.natAbs + y.natAbs := by omega
    refine ldI_of (x2 r5) (ldI_of (y2 r5) (ldI_of (x1 r5) (ldI_of (y1 r5) (ldI_of (x2 r5) ⟨fun g2 => ?_, fun g2 => ?_⟩))))
    · have g2 := of_decide_eq_true g2
      rw [wrap_u64] at g2
      refine j1 _ h5 r5 _ _ ?_ ?_ (fun _ => by omega) (fun _ => by omega)
      · rw [wrap_u64, wrap_u64, hab]; omega
      · rw [wrap_u64, hab]; omega
    · have g2 := of_decide_eq_false g2
      rw [wrap_u64] at g2
      refine j1 _ h5 r5 _ _ ?_ ?_ (fun _ => by omega) (fun _ => by omega)
      · rw [wrap_u64, hab]; omega
      · rw [wrap_u64, hab]; omega
  · have hs : (x < 0 ∧ ¬ y < 0) ∨ (¬ x < 0 ∧ y < 0) := by
      by_cases h1 : x < 0 <;> by_cases h2 : y < 0 <;> simp [h1, h2] at g ⊢
    refine ⟨_, Blk.cells (b3' r5), _, Blk.cells (b1' r5), above_spec fun h40 e40 => ⟨fun g2 => ?_, fun g2 => ?_⟩⟩
    · have g2 := of_decide_eq_true g2
      refine ⟨_, Blk.cells (b3' e40), _, Blk.cells (b1' e40), hrec (by omega) h40 _ fun h47 e47 => ?_⟩
      exact fin h47 (e40.trans e47) _ rfl
    · have g2 := of_decide_eq_false g2
      have hab : (x + y).natAbs = x.natAbs - y.natAbs := by omega
      refine ldI_of (x2 e40) (ldI_of (y2 e40) (ldI_of (x1 e40) (ldI_of (y1 e40) (ldI_of (x2 e40) (ldI_of (y2 e40) ⟨fun g3 => ?_, fun g3 => ?_⟩)))))
      · have g3 := of_decide_eq_true g3
        refine j2 _ h40 e40 _ _ ?_ ?_ (fun _ => by omega) (fun _ => by omega)
        · rw [wrap_u64, wrap_u64, hab]; omega
        · rw [wrap_u64, hab]; omega
      · have g3 := of_decide_eq_false g3
        refine j2 _ h40 e40 _ _ ?_ ?_ (fun _ => by omega) (fun _ => by omega)
        · rw [wrap_u64, hab]; omega
        · rw [wrap_u64, hab]; omega
theorem plus_rw {x y : Int} {h : H} {Q : S_spateref3_Wide -> H -> Prop} (hx : B127 x) (hy : B127 y) (k : ∀ h', Ext h h' -> Q (RW (x + y)) h') : F.xad (RW x) (RW y) h Q := by
  unfold F.xad
  refine ⟨2, plus_fu hx hy (fun hlt hh K kk => plus_fu hy hx (fun h2 => by omega) fun h' e' => ?_) k⟩
  rw [Int.add_comm]; exact kk h' e'
theorem right_ref {a : S_api_Agg} {h : H} {Q : Bool -> H -> Prop} (hc : I64c a.Count) (hs : I64c a.Sum) (h0 : I64c a.Min) (h1 : I64c a.Max) (k : ∀ h', Ext h h' -> Q (rightM a) h') : F.xan a h Q := by
  unfold F.xan
  refine new_of fun m h1' hm b1 e1 s1 => ?_
  have c0 : ∀ {hh : H}, Ext h1' hh -> cellH hh ⟨m, 0, none⟩ = some (.int .i64 a.Count) := fun e => e.cell (Blk.cells b1 0 _ rfl) fun f => f
  have c1 : ∀ {hh : H}, Ext h1' hh -> cellH hh ⟨m, 1, none⟩ = some (.int .i64 a.Sum) := fun e => e.cell (Blk.cells b1 1 _ rfl) fun f => f
  have c2 : ∀ {hh : H}, Ext h1' hh -> cellH hh ⟨m, 2, none⟩ = some (.int .i64 a.Min) := fun e => e.cell (Blk.cells b1 2 _ rfl) fun f => f
  have c3 : ∀ {hh : H}, Ext h1' hh -> cellH hh ⟨m, 3, none⟩ = some (.int .i64 a.Max) := fun e => e.cell (Blk.cells b1 3 _ rfl) fun f => f
  have r0 : Ext h1' h1' := .refl _
  simp only [add_lit, Nat.zero_add, Nat.add_zero]
  unfold rightM at k
  refine ldI_of (c0 r0) ⟨fun g => ?_, fun g => ldI_of (c0 r0) ⟨fun g2 => ?_, fun g2 => ldI_of (c2 r0) (ldI_of (c3 r0) ⟨fun g3 => ?_, fun g3 => ?_⟩)⟩⟩
  · have g := of_decide_eq_true g
    rw [if_pos g] at k
    exact ⟨a, Blk.cells b1, k h1' e1⟩
  · have g := of_decide_eq_false g
    have g2 : a.Count = 1 := by simpa using g2
    rw [if_neg g, if_pos g2] at k
    have k := k h1' e1
    refine ldI_of (c1 r0) (ldI_of (c2 r0) ⟨fun g3 => ldI_of (c1 r0) (ldI_of (c3 r0) ?_), fun g3 => ?_⟩)
    · have g3 : a.Sum = a.Min := by simpa using g3
      have : decide (a.Min = a.Sum ∧ a.Max = a.Sum) = (a.Sum == a.Max) := by
        by_cases h : a.Sum = a.Max
        · simp [← g3, h]
        · have h' : ¬ a.Max = a.Sum := fun e => h e.symm
          simp [h, h']
      rw [this] at k; exact k
    · have g3 : ¬ a.Sum = a.Min := by simpa using g3
      rw [decide_eq_false (fun h => g3 h.1.symm)] at k; exact k
  · have g := of_decide_eq_false g
    have g2 : ¬ a.Count = 1 := by simpa using g2
    have g3 := of_decide_eq_true g3
    rw [if_neg g, if_neg g2, if_pos g3] at k
    exact k h1' e1
  · have g := of_decide_eq_false g
    have g2 : ¬ a.Count = 1 := by simpa using g2
    have g3 := of_decide_eq_false g3
    rw [if_neg g, if_neg g2, if_neg g3] at k
    have hc2 : I64c (a.Count - 2) := ⟨by omega, by have := hc.2; omega⟩
    have wc : IntKind.wrap .i64 (a.Count - 2) = a.Count - 2 := w64 hc2.1 hc2.2
    have b127 : ∀ {x : Int}, B126 x -> B127 x := fun h => ⟨by have := h.1; omega, by have := h.2; omega⟩
    have hn0 : 0 <= a.Count - 2 ∧ a.Count - 2 < 9223372036854775808 := ⟨by omega, hc2.2⟩
    have bmin := b127 (mul_126 hn0.1 hn0.2 h0)
    have bmax := b127 (mul_126 hn0.1 hn0.2 h1)
    have i127 : ∀ {x : Int}, I64c x -> B127 x := fun h => ⟨by have := h.1; omega, by have := h.2; omega⟩
    have be : B127 (a.Min + a.Max) := ⟨by have := h0.1; have := h1.1; omega, by have := h0.2; have := h1.2; omega⟩
    have z3 : ∀ {hh : H} {e : Nat} {d : S_spateref3_Wide} {K : H -> Prop}, Ext h1' hh -> h1'.size <= e -> Blk hh e (⟨false, 0, 0⟩ : S_spateref3_Wide).cells.toArray tn_spateref3_Wide -> (∀ h', Ext h1' h' -> Only (· = e) hh h' -> Blk h' e d.cells.toArray tn_spateref3_Wide -> K h') -> stH hh ⟨e, 0, none⟩ d.cells K := fun {hh e d K} ex he b kk =>
      st_rw (d := d) b fun h' b' o' s' => kk h' (ex.step o' fun z hz hb => by omega) o' b'
    have j3 : ∀ (hh : H) (l u : Nat), Ext h1' hh -> Blk hh l (RW (a.Min + a.Max + (a.Count - 2) * a.Min)).cells.toArray tn_spateref3_Wide -> Blk hh u (RW (a.Min + a.Max + (a.Count - 2) * a.Max)).cells.toArray tn_spateref3_Wide -> F.xan.j3 Q ⟨m, 0, none⟩ ⟨l, 0, none⟩ ⟨u, 0, none⟩ hh := fun hh l u ex bl bu => by
      unfold F.xan.j3
      simp only [add_lit, Nat.zero_add, Nat.add_zero]
      refine ⟨_, Blk.cells bl, ldI_of (c1 ex) (one_rw hs fun h29 e29 => ⟨(Blk.cells bl).ext e29, less_rw fun h32 e32 => ⟨fun g5 => ?_, fun g5 => ?_⟩⟩)⟩
      · have g5 := of_decide_eq_true g5
        have ex32 := (ex.trans e29).trans e32
        have bu32 : Blk h32 u (RW (a.Min + a.Max + (a.Count - 2) * a.Max)).cells.toArray tn_spateref3_Wide := (e29.trans e32).block bu fun f => f
        refine ldI_of (c1 ex32) ⟨_, Blk.cells bu32, one_rw hs fun h39 e39 => ⟨(Blk.cells bu32).ext e39, less_rw fun h42 e42 => ?_⟩⟩
        have := k h42 (e1.trans ((ex32.trans e39).trans e42))
        rw [decide_eq_true g5, Bool.true_and] at this
        exact this
      · have g5 := of_decide_eq_false g5
        have := k h32 (e1.trans ((ex.trans e29).trans e32))
        rw [decide_eq_false g5, Bool.false_and] at this
        exact this
    have j2 : ∀ (hh : H) (b l : Nat), Ext h1' hh -> Blk hh b (RW (a.Min + a.Max)).cells.toArray tn_spateref3_Wide -> Blk hh l (RW (a.Min + a.Max + (a.Count - 2) * a.Min)).cells.toArray tn_spateref3_Wide -> F.xan.j2 Q ⟨m, 0, none⟩ ⟨b, 0, none⟩ ⟨l, 0, none⟩ hh := fun hh b l ex bb bl => by
      unfold F.xan.j2
      simp only [add_lit, Nat.zero_add, Nat.add_zero]
      have last : ∀ (h57 h57' : H) (e : Nat), Ext hh h57 -> hh.size <= e -> Blk h57 e (⟨false, 0, 0⟩ : S_spateref3_Wide).cells.toArray tn_spateref3_Wide -> stH h57 ⟨e, 0, none⟩ (RW (a.Min + a.Max + (a.Count - 2) * a.Max)).cells fun h => F.xan.j3 Q ⟨m, 0, none⟩ ⟨l, 0, none⟩ ⟨e, 0, none⟩ h := fun h57 _ e ex2 he be2 => by
        have hle := ex.size
        refine z3 (d := RW (a.Min + a.Max + (a.Count - 2) * a.Max)) (ex.trans ex2) (by omega) be2 fun h' ex' o' b' => j3 h' l e ex' (o'.block (ex2.block bl fun f => f) ?_) b'
        have := block_lt bl
        omega
      refine ⟨_, Blk.cells bb, ldI_of (c0 ex) (ldI_of (c3 ex) ?_)⟩
      rw [wc]
      refine ⟨times_spec hc2 h1 fun h50 e50 => ⟨(Blk.cells bb).ext e50, plus_rw be bmax fun h53 e53 => new_of fun n h55 hn bn en sn => ?_, new_of fun n h58 hn bn en sn => ⟨(Blk.cells bb).ext (e50.trans en), plus_rw be bmax fun h61 e61 => ?_⟩⟩, new_of fun n h64 hn bn en sn => ⟨c3 (ex.trans en), c0 (ex.trans en), (Blk.cells bb).ext en, times_spec hc2 h1 fun h69 e69 => ⟨(Blk.cells bb).ext (en.trans e69), plus_rw be bmax fun h72 e72 => ?_⟩⟩⟩
      · have q := (e50.trans e53).size
        exact last h55 h55 n ((e50.trans e53).trans en) (by omega) bn
      · have q := e50.size
        exact last h61 h61 n ((e50.trans en).trans e61) (by omega) (e61.block bn fun f => f)
      · exact last h72 h72 n (en.trans (e69.trans e72)) (by omega) ((e69.trans e72).block bn fun f => f)
    have j1 : ∀ (hh : H) (b : Nat), Ext h1' hh -> Blk hh b (RW (a.Min + a.Max)).cells.toArray tn_spateref3_Wide -> F.xan.j1 Q ⟨m, 0, none⟩ ⟨b, 0, none⟩ hh := fun hh b ex bb => by
      unfold F.xan.j1
      simp only [add_lit, Nat.zero_add, Nat.add_zero]
      have last : ∀ (h57 : H) (e : Nat), Ext hh h57 -> hh.size <= e -> Blk h57 e (⟨false, 0, 0⟩ : S_spateref3_Wide).cells.toArray tn_spateref3_Wide -> stH h57 ⟨e, 0, none⟩ (RW (a.Min + a.Max + (a.Count - 2) * a.Min)).cells fun h => F.xan.j2 Q ⟨m, 0, none⟩ ⟨b, 0, none⟩ ⟨e, 0, none⟩ h := fun h57 e ex2 he be2 => by
        have hle := ex.size
        refine z3 (d := RW (a.Min + a.Max + (a.Count - 2) * a.Min)) (ex.trans ex2) (by omega) be2 fun h' ex' o' b' => j2 h' b e ex' (o'.block (ex2.block bb fun f => f) ?_) b'
        have := block_lt bb
        omega
      refine ⟨_, Blk.cells bb, ldI_of (c0 ex) (ldI_of (c2 ex) ?_)⟩
      rw [wc]
      refine ⟨times_spec hc2 h0 fun h50 e50 => ⟨(Blk.cells bb).ext e50, plus_rw be bmin fun h53 e53 => new_of fun n h55 hn bn en sn => ?_, new_of fun n h58 hn bn en sn => ⟨(Blk.cells bb).ext (e50.trans en), plus_rw be bmin fun h61 e61 => ?_⟩⟩, new_of fun n h64 hn bn en sn => ⟨c2 (ex.trans en), c0 (ex.trans en), (Blk.cells bb).ext en, times_spec hc2 h0 fun h69 e69 => ⟨(Blk.cells bb).ext (en.trans e69), plus_rw be bmin fun h72 e72 => ?_⟩⟩⟩
      · have q := (e50.trans e53).size
        exact last h55 n ((e50.trans e53).trans en) (by omega) bn
      · have q := e50.size
        exact last h61 n ((e50.trans en).trans e61) (by omega) (e61.block bn fun f => f)
      · exact last h72 n (en.trans (e69.trans e72)) (by omega) ((e69.trans e72).block bn fun f => f)
    have first : ∀ (h57 : H) (e : Nat), Ext h1' h57 -> h1'.size <= e -> Blk h57 e (⟨false, 0, 0⟩ : S_spateref3_Wide).cells.toArray tn_spateref3_Wide -> stH h57 ⟨e, 0, none⟩ (RW (a.Min + a.Max)).cells fun h => F.xan.j1 Q ⟨m, 0, none⟩ ⟨e, 0, none⟩ h := fun h57 e ex2 he be2 =>
      z3 (d := RW (a.Min + a.Max)) ex2 he be2 fun h' ex' o' b' => j1 h' e ex' b'
    refine ldI_of (c2 r0) (ldI_of (c3 r0) ⟨one_rw h0 fun h110 e110 => ⟨c3 e110, one_rw h1 fun h113 e113 => ⟨plus_rw (i127 h0) (i127 h1) fun h115 e115 => new_of fun n h117 hn bn en sn => ?_, new_of fun n h120 hn bn en sn => plus_rw (i127 h0) (i127 h1) fun h122 e122 => ?_⟩, new_of fun n h125 hn bn en sn => ⟨c3 (e110.trans en), one_rw h1 fun h128 e128 => plus_rw (i127 h0) (i127 h1) fun h130 e130 => ?_⟩⟩, new_of fun n h133 hn bn en sn => ⟨c3 en, c2 en, one_rw h0 fun h137 e137 => ⟨c3 (en.trans e137), one_rw h1 fun h140 e140 => plus_rw (i127 h0) (i127 h1) fun h142 e142 => ?_⟩⟩⟩)
    · have q := ((e110.trans e113).trans e115).size
      exact first h117 n (((e110.trans e113).trans e115).trans en) (by omega) bn
    · have q := (e110.trans e113).size
      exact first h122 n (((e110.trans e113).trans en).trans e122) (by omega) (e122.block bn fun f => f)
    · have q := e110.size
      exact first h130 n ((e110.trans en).trans (e128.trans e130)) (by omega) ((e128.trans e130).block bn fun f => f)
    · exact first h142 n (en.trans ((e137.trans e140).trans e142)) (by omega) (((e137.trans e140).trans e142).block bn fun f => f)
section
variable {α : Type} {key : α -> Cel}
theorem setK_mid {x : α} : ∀ {A B : List α}, (∀ y ∈ A, cmpC (key y) (key x) = -1) -> (∀ y ∈ B, cmpC (key x) (key y) = -1) -> setK key (A ++ B) x = A ++ x :: B
  | [], [], _, _ => rfl
  | [], y :: B, _, hB => by
    show (if cmpC (key x) (key y) = -1 then x :: y :: B else if cmpC (key x) (key y) = 0 then x :: B else y :: setK key B x) = _
    rw [if_pos (hB y (by simp))]; rfl
  | y :: A, B, hA, hB => by
    have h1 := hA y (by simp)
    have h2 := cC_anti (key x) (key y)
    show (if cmpC (key x) (key y) = -1 then x :: y :: (A ++ B) else if cmpC (key x) (key y) = 0 then x :: (A ++ B) else y :: setK key (A ++ B) x) = _
    rw [if_neg (by omega), if_neg (by omega), setK_mid (fun z hz => hA z (by simp [hz])) hB]; rfl
theorem setK_at {x y : α} (hy : key y = key x) : ∀ {A B : List α}, (∀ z ∈ A, cmpC (key z) (key x) = -1) -> setK key (A ++ y :: B) x = A ++ x :: B
  | [], B, _ => by
    show (if cmpC (key x) (key y) = -1 then x :: y :: B else if cmpC (key x) (key y) = 0 then x :: B else y :: setK key B x) = _
    have : cmpC (key x) (key y) = 0 := cC_zero.2 hy.symm
    rw [if_neg (by omega), if_pos this]; rfl
  | z :: A, B, hA => by
    have h1 := hA z (by simp)
    have h2 := cC_anti (key x) (key z)
    show (if cmpC (key x) (key z) = -1 then x :: z :: (A ++ y :: B) else if cmpC (key x) (key z) = 0 then x :: (A ++ y :: B) else z :: setK key (A ++ y :: B) x) = _
    rw [if_neg (by omega), if_neg (by omega), setK_at hy (fun z hz => hA z (by simp [hz]))]; rfl
end
theorem set_toD {Z : List DR} (x : DR) : toD (setK DR.c Z x) = setS (toD Z) x.c x.vs := map_set (key := DR.c) (key' := fun x : Cel × List Ver => x.1) (fun r : DR => (r.c, r.vs)) (fun _ => rfl) Z
theorem lt_take {Z : List DR} (hs : SortK DR.c Z) {i : Nat} {r : DR} (hr : Z[i]? = some r) : ∀ z ∈ Z.take i, cmpC z.c r.c = -1 := fun z hz => by
  obtain ⟨j, hj⟩ := List.mem_iff_getElem?.1 hz
  have hji : j < i := by
    have := (List.getElem?_eq_some_iff.1 hj).1
    rw [List.length_take] at this; omega
  rw [List.getElem?_take_of_lt hji] at hj
  obtain ⟨q1, q2⟩ := List.getElem?_eq_some_iff.1 hj
  obtain ⟨q3, q4⟩ := List.getElem?_eq_some_iff.1 hr
  have := List.pairwise_iff_getElem.1 hs j i q1 q3 hji
  rw [q2, q4] at this; exact this
section
variable {h : H} {d : Nat} {Z : List DR} {slots : Nat} {x : Sl}
theorem lay7_spec {c : Cel} {s : Sl} {vs : List Ver} {Q : H -> Prop} (z : DZ h d Z slots x) (hs : SortK DR.c Z) (hZ : Z.length <= 1048576) (w : Owns h s tV7 6 (vs.flatMap fV))
    (k : ∀ h', DH h' d (setS (toD Z) c vs) slots -> Only (· = d) h h' -> Q h') : F.xbq (some ⟨d, 0, none⟩) c s h Q := by
  have hd : d < h.size := block_lt z.sb
  have hl := own_len hR_len (by omega) z.row
  unfold F.xbq
  refine new_of fun m h1 hm b1 e1 s1 => ⟨c, Blk.cells b1, ?_⟩
  -- behind the place
  have go : ∀ (i hi2 : Nat) (f : Bool) (h5 : H), i <= Z.length -> hi2 <= Z.length -> (f = true -> hi2 = i + 1) -> (f = false -> hi2 = i) -> Ext h1 h5 -> Z.take i ++ (⟨c, vs, s⟩ : DR) :: Z.drop hi2 = setK DR.c Z ⟨c, vs, s⟩ ->
      cutL x 0 (i : Int) 4 fun s13 => runL PP (Builtin.append_ #[89, 89] 89 #[(⟨none, 0, 0⟩ : Sl).enc, s13.enc]) h5 fun s15 h14 => ld_S_api_Cell h14 ⟨m, 0, none⟩ fun y16 =>
        newL h14 (((⟨y16, s⟩ : S_spateref7_Held).cells).toArray) ty_106 1 fun s19 h18 => runL PP (Builtin.append_ #[89, 89] 89 #[s15.enc, s19.enc]) h18 fun s21 h20 =>
        (f = true -> F.xbq.j1 Q (some ⟨d, 0, none⟩) (IntKind.wrap .i64 ((i : Int) + 1)) s21 h20) ∧ (f = false -> F.xbq.j1 Q (some ⟨d, 0, none⟩) (i : Int) s21 h20) := fun i hi2 f h5 hi hi2' ft ff e5 hset => by
    have e05 := e1.trans e5
    have z5 := z.ext e05
    refine cutL_of (lo := 0) (hi := i) rfl rfl (Nat.zero_le _) (by have := z5.row.le_cap; omega) ?_
    have rd5 : Reads h5 (slcut x 0 i 4) 4 ((Z.take i).flatMap hR) := by
      have := cut_reads (lo := 0) (hi := i) hR_len (by omega) z5.row.reads (Nat.zero_le _) hi z5.row.le_cap
      simpa using this
    have hti : (Z.take i).length <= 1048576 := by rw [List.length_take]; omega
    refine app_mine (h0 := h) (L := ([] : List DR)) (M := Z.take i) e05 (Mine.nil _ _ _) hR_len (by omega) el_Slspateref7_Held (Owns.nil _ _ _) rd5 hR_one (by simp only [List.length_nil]; omega) fun r h14 w14 e14 m14 o14 _ => ?_
    rw [List.nil_append] at w14
    have x14 : Ext h5 h14 := o14.mono fun b _ hb => by simp [Sl.blk] at hb
    have b14 : Blk h14 m c.cells.toArray tn_api_Cell := (e5.trans x14).block b1 fun f => f
    refine ⟨c, Blk.cells b14, ?_⟩
    refine push_mine (x := (⟨c, vs, s⟩ : DR)) (h0 := h) e14 m14 hR_len (by omega) el_Slspateref7_Held w14 hR_one (by omega) fun r2 h20 w20 e20 m20 o20 _ => ?_
    have j1 : F.xbq.j1 Q (some ⟨d, 0, none⟩) (hi2 : Int) r2 h20 := by
      unfold F.xbq.j1
      have z20 := z.ext e20
      simp only [nn_some, add_lit, Nat.zero_add]
      rw [ldL_iff z20.cs1]
      refine cutL_of (lo := hi2) (hi := x.len) rfl rfl (by omega) z20.row.le_cap ?_
      have rd20 : Reads h20 (slcut x hi2 x.len 4) 4 ((Z.drop hi2).flatMap hR) := by
        have := cut_reads (lo := hi2) (hi := x.len) hR_len (by omega) z20.row.reads (by omega) (by omega) z20.row.le_cap
        rwa [List.take_of_length_le (by rw [List.length_drop]; omega)] at this
      have hdl : (Z.drop hi2).length <= 1048576 := by rw [List.length_drop]; omega
      refine app_mine (h0 := h) (M := Z.drop hi2) e20 m20 hR_len (by omega) el_Slspateref7_Held w20 rd20 hR_one (by rw [List.length_append]; simp only [List.length_singleton]; omega) fun r3 h28 w28 e28 m28 o28 _ => ?_
      have z28 := z.ext e28
      have hne : r3.blk ≠ some d := fun e => by have := m28 d e; omega
      refine stH_of z28.sb (by simp) fun h' b' o' s' => k h' ?_ ?_
      · refine ⟨r3, setK DR.c Z ⟨c, vs, s⟩, set_toD _, ⟨?_, ?_, fun q hq => ?_⟩⟩
        · exact b'
        · rw [← hset]
          have : Z.take i ++ [(⟨c, vs, s⟩ : DR)] ++ Z.drop hi2 = Z.take i ++ (⟨c, vs, s⟩ : DR) :: Z.drop hi2 := by simp
          rw [this] at w28
          exact w28.only o' fun b hb e => hne (by rw [hb, e])
        · have ow : Owns h28 q.s tV7 6 (q.vs.flatMap fV) := by
            rcases (mem_set hs).1 hq with e | ⟨e, _⟩
            · subst e; exact w.ext e28
            · exact z28.vs q e
          exact ow.only o' fun b hb e => by
            subst e
            exact own_neG ow z28.sb (by decide) hb
      · exact (e28.only (S := (· = d))).trans o' fun _ _ e => e
    refine ⟨fun g => ?_, fun g => ?_⟩
    · rw [show IntKind.wrap .i64 ((i : Int) + 1) = (hi2 : Int) by rw [w64s (by omega), ft g]]
      exact j1
    · rw [show (i : Int) = (hi2 : Int) by rw [ff g]]
      exact j1
  refine place_spec (z.ext e1) hs hZ (fun i r hr hc h5 e5 => ?_) fun i hi q1 q2 h5 e5 => ?_
  · have z5 := (z.ext e1).ext e5
    have hil : i < Z.length := (List.getElem?_eq_some_iff.1 hr).1
    rw [nn_some, add_lit, Nat.zero_add, ldL_iff z5.cs1]
    refine go i (i + 1) true h5 (by omega) (by omega) (fun _ => rfl) (fun g => by cases g) e5 ?_
    have hsp : Z = Z.take i ++ r :: Z.drop (i + 1) := by
      obtain ⟨q1, q2⟩ := List.getElem?_eq_some_iff.1 hr
      rw [← q2, ← List.drop_eq_getElem_cons q1, List.take_append_drop]
    have := setK_at (key := DR.c) (x := (⟨c, vs, s⟩ : DR)) (y := r) hc (A := Z.take i) (B := Z.drop (i + 1)) fun z hz => by rw [← hc]; exact lt_take hs hr z hz
    rw [← hsp] at this
    exact this.symm
  · have z5 := (z.ext e1).ext e5
    rw [nn_some, add_lit, Nat.zero_add, ldL_iff z5.cs1]
    refine go i i false h5 hi hi (fun g => by cases g) (fun _ => rfl) e5 ?_
    have := setK_mid (key := DR.c) (x := (⟨c, vs, s⟩ : DR)) (A := Z.take i) (B := Z.drop i) q1 q2
    rw [List.take_append_drop] at this
    exact this.symm
theorem unitsS_snoc {A : SL} {y : Cel × List Ver} : unitsS (A ++ [y]) = unitsS A + unitsV y.2 := by
  unfold unitsS; rw [List.map_append, List.sum_append]; simp
theorem toD_snoc {i : Nat} {r : DR} (hr : Z[i]? = some r) : toD (Z.take (i + 1)) = toD (Z.take i) ++ [(r.c, r.vs)] := by
  rw [tk_snoc hr]; unfold toD; rw [List.map_append]; rfl
theorem units7_take (i : Nat) : unitsS (toD (Z.take i)) <= unitsS (toD Z) := by
  have : toD Z = toD (Z.take i) ++ toD (Z.drop i) := by unfold toD; rw [← List.map_append, List.take_append_drop]
  rw [this]; unfold unitsS; rw [List.map_append, List.sum_append]; omega
theorem DZ.vlen (hu : unitsS (toD Z) <= 1048576) {r : DR} (hr : r ∈ Z) : r.vs.length <= 1048576 := by
  have := ver_units (S := toD Z) (x := (r.c, r.vs)) (List.mem_map.2 ⟨r, hr, rfl⟩)
  simp only at this; omega
theorem Units7_spec {Q : Int -> H -> Prop} (z : DZ h d Z slots x) (hZ : Z.length <= 1048576) (hu : unitsS (toD Z) <= 1048576) (k : Q ((unitsS (toD Z) : Nat) : Int) h) : F.xbm (some ⟨d, 0, none⟩) h Q := by
  have hl := own_len hR_len (by omega) z.row
  unfold F.xbm
  refine ⟨Z.length + 1, ?_⟩
  have loop : ∀ (n i : Nat), i <= Z.length -> Z.length - i < n -> F.xbm.l1 Q n (some ⟨d, 0, none⟩) ((unitsS (toD (Z.take i)) : Nat) : Int) (i : Int) h := by
    intro n
    induction n with
    | zero => intro i _ hm; omega
    | succ n ih =>
      intro i hi hm
      unfold F.xbm.l1
      simp only [nn_some, add_lit, Nat.zero_add]
      rw [ldL_iff z.cs1, hl]
      refine ⟨fun g => ?_, fun g => ?_⟩
      · have g := of_decide_eq_true g
        obtain ⟨r, hr⟩ : ∃ r, Z[i]? = some r := ⟨_, List.getElem?_eq_getElem (by omega)⟩
        have hrz := List.mem_of_getElem? hr
        have hvl := DZ.vlen hu hrz
        rw [ldL_iff z.cs1]
        refine heldAt z.row.reads hr fun a _ c3 => ldL_of c3 (units7_spec (z.vs r hrz) (by omega) ?_)
        have h1 := units7_take (Z := Z) (i + 1)
        rw [toD_snoc hr, unitsS_snoc] at h1
        simp only at h1
        rw [w64 (by omega) (by omega), w64s (by omega), show ((unitsS (toD (Z.take i)) : Nat) : Int) + ((unitsV r.vs : Nat) : Int) = ((unitsS (toD (Z.take (i + 1))) : Nat) : Int) by rw [toD_snoc hr, unitsS_snoc]; simp]
        exact ih (i + 1) (by omega) (by omega)
      · have g := of_decide_eq_false g
        have : i = Z.length := by omega
        subst this
        rw [List.take_length]; exact k
  exact loop _ 0 (by omega) (by omega)
end
theorem Cell7_spec {h : H} {c : Cel} {Q : Int -> H -> Prop} (k : ∀ h', Ext h h' -> Q (okC c) h') : F.xal c h Q := by
  unfold F.xal
  refine new_of fun n h1 hn b1 e1 s1 => ?_
  have c0 : cellH h1 ⟨n, 0, none⟩ = some (.int .i64 c.View) := Blk.cells b1 0 _ rfl
  have c1 : cellH h1 ⟨n, 1, none⟩ = some (.string c.Key) := Blk.cells b1 1 _ rfl
  have c2 : cellH h1 ⟨n, 2, none⟩ = some (.int .i64 c.Start) := Blk.cells b1 2 _ rfl
  have k := k h1 e1
  unfold F.xal.j5 F.xal.j1 F.xal.j4 F.xal.j2 F.xal.j3
  unfold okC at k
  simp only [add_lit, Nat.zero_add, Nat.add_zero]
  have j2 : ¬ (c.View < 0 ∨ c.View >= 4) -> ¬ ((c.Key.size : Int) < 1 ∨ (c.Key.size : Int) > 32) -> ∀ b : Bool, b = true ∧ (c.Start < -2305843009213693952 ∨ c.Start > 2305843009213693952) ∨ b = false ∧ ¬ (c.Start < -2305843009213693952 ∨ c.Start > 2305843009213693952) -> (b = true -> Q 22 h1) ∧ (b = false -> Q 0 h1) := fun q1 q2 b q3 => by
    rw [if_neg q1, if_neg q2] at k
    rcases q3 with ⟨q3, q4⟩ | ⟨q3, q4⟩
    · subst q3; rw [if_pos q4] at k; exact ⟨fun _ => k, fun g => by cases g⟩
    · subst q3; rw [if_neg q4] at k; exact ⟨fun g => (by cases g), fun _ => k⟩
  have j1 : ¬ (c.View < 0 ∨ c.View >= 4) -> ¬ ((c.Key.size : Int) < 1 ∨ (c.Key.size : Int) > 32) -> ldI .i64 h1 ⟨n, 2, none⟩ fun y4 => ((decide (y4 < (-2305843009213693952))) = true -> (True -> Q 22 h1) ∧ (true = false -> Q 0 h1)) ∧ ((decide (y4 < (-2305843009213693952))) = false -> ldI .i64 h1 ⟨n, 2, none⟩ fun y7 => ((decide (y7 > 2305843009213693952)) = true -> Q 22 h1) ∧ ((decide (y7 > 2305843009213693952)) = false -> Q 0 h1)) := fun q1 q2 => by
    refine ldI_of c2 ⟨fun g => ⟨fun _ => (j2 q1 q2 true (.inl ⟨rfl, .inl (of_decide_eq_true g)⟩)).1 rfl, fun g => (by cases g)⟩, fun g => ldI_of c2 (j2 q1 q2 _ ?_)⟩
    have g := of_decide_eq_false g
    by_cases hg : c.Start > 2305843009213693952
    · exact .inl ⟨decide_eq_true hg, .inr hg⟩
    · exact .inr ⟨decide_eq_false hg, by omega⟩
  have v23 : (c.View < 0 ∨ c.View >= 4) -> Q 23 h1 := fun g => by rw [if_pos g] at k; exact k
  have v21 : ¬ (c.View < 0 ∨ c.View >= 4) -> ((c.Key.size : Int) < 1 ∨ (c.Key.size : Int) > 32) -> Q 21 h1 := fun g g2 => by rw [if_neg g, if_pos g2] at k; exact k
  refine ldI_of c0 ⟨fun g => ⟨fun _ => v23 (.inl (of_decide_eq_true g)), fun h => by cases h⟩, fun g => ldI_of c0 ⟨fun g2 => v23 (.inr (of_decide_eq_true g2)), fun g2 => ?_⟩⟩
  have g := of_decide_eq_false g
  have g2 := of_decide_eq_false g2
  have hv : ¬ (c.View < 0 ∨ c.View >= 4) := by omega
  refine ldS_of c1 ⟨fun g3 => ⟨fun _ => v21 hv (.inl (of_decide_eq_true g3)), fun h => by cases h⟩, fun g3 => ldS_of c1 ⟨fun g4 => v21 hv (.inr (of_decide_eq_true g4)), fun g4 => ?_⟩⟩
  have g3 := of_decide_eq_false g3
  have g4 := of_decide_eq_false g4
  exact j1 hv (by omega)
theorem New7_spec {h : H} {m : Int} {Q : Option Addr -> Int -> H -> Prop} (k0 : (m < 2 ∨ m > 1048576) -> Q none 1 h) (k1 : 2 <= m -> m <= 1048576 -> ∀ h' d, DH h' d [] m.toNat -> Ext h h' -> h.size <= d -> Q (some ⟨d, 0, none⟩) 0 h') : F.xbs m h Q := by
  unfold F.xbs F.xbs.j2 F.xbs.j1
  have go : 2 <= m -> m <= 1048576 -> new h ((⟨m, (⟨none, 0, 0⟩ : Sl)⟩ : S_spateref7_Shard).cells.toArray) ty_91 fun a2 h1 => Q (some a2) 0 h1 := fun h1 h2 =>
    new_of fun n h3 hn b3 e3 s3 => k1 h1 h2 h3 n ⟨⟨none, 0, 0⟩, [], rfl, ⟨by
      have hm : ((m.toNat : Nat) : Int) = m := by omega
      rw [hm]; exact b3, Owns.nil _ _ _, fun r hr => by cases hr⟩⟩ e3 (by omega)
  refine ⟨fun g => ⟨fun _ => k0 (.inl (of_decide_eq_true g)), fun h => by cases h⟩, fun g => ⟨fun g2 => k0 (.inr (of_decide_eq_true g2)), fun g2 => ?_⟩⟩
  exact go (by have := of_decide_eq_false g; omega) (by have := of_decide_eq_false g2; omega)
theorem filt_last {vs : List Ver} {p : Ver -> Bool} {i : Nat} {v : Ver} (hv : vs[i]? = some v) (hp : p v = true) (hr : ∀ j u, i < j -> vs[j]? = some u -> p u = false) : (vs.filter p).getLast? = some v := by
  obtain ⟨q1, q2⟩ := List.getElem?_eq_some_iff.1 hv
  have hsp : vs = vs.take i ++ v :: vs.drop (i + 1) := by rw [← q2, ← List.drop_eq_getElem_cons q1, List.take_append_drop]
  have hd : (vs.drop (i + 1)).filter p = [] := by
    rw [List.filter_eq_nil_iff]
    intro u hu
    obtain ⟨j, hj⟩ := List.mem_iff_getElem?.1 hu
    rw [List.getElem?_drop] at hj
    rw [hr (i + 1 + j) u (by omega) hj]; simp
  rw [hsp, List.filter_append, List.filter_cons, if_pos hp, hd]
  simp
theorem at7_spec {h : H} {s : Sl} {vs : List Ver} {e : Int} {Q : S_api_Agg -> Bool -> H -> Prop} (w : Owns h s tV7 6 (vs.flatMap fV)) (hv : vs.length <= 1048576) (hd : ∀ v ∈ vs, v.dead = true -> v.value = zA) (k : ∀ h', Ext h h' -> Q (atV vs e).1 (atV vs e).2 h') : F.xaq s e h Q := by
  have hl := own_len fV_len (by omega) w
  unfold F.xaq
  refine new_of fun m h1 hm b1 e1 s1 => ⟨vs.length + 1, ?_⟩
  have b1' : Blk h1 m zA.cells.toArray tn_api_Agg := b1
  have w1 := w.ext e1
  rw [hl]
  have loop : ∀ (n i : Nat), i <= vs.length -> i < n -> (∀ j u, i <= j -> vs[j]? = some u -> ¬ (e = 0 ∨ u.epoch <= e)) -> F.xaq.l1 Q n s e ⟨m, 0, none⟩ (IntKind.wrap .i64 ((i : Int) - 1)) h1 := by
    intro n
    induction n with
    | zero => intro i _ hm; omega
    | succ n ih =>
      intro i hi hm hno
      unfold F.xaq.l1
      rw [w64 (n := (i : Int) - 1) (by omega) (by omega)]
      refine ⟨fun g => ?_, fun g => ?_⟩
      · have g := of_decide_eq_true g
        have hi1 : (i : Int) - 1 = ((i - 1 : Nat) : Int) := by omega
        rw [hi1]
        obtain ⟨v, hv'⟩ : ∃ v, vs[i - 1]? = some v := ⟨_, List.getElem?_eq_getElem (by omega)⟩
        have found : (e = 0 ∨ v.epoch <= e) -> F.xaq.j3 Q (F.xaq.l1 Q n) s e ⟨m, 0, none⟩ ((i - 1 : Nat) : Int) true h1 := fun hc => by
          have hat : (atV vs e).1 = v.value ∧ (atV vs e).2 = !v.dead := by
            unfold atV alive C.newestM C.atM
            by_cases h0 : e = 0
            · rw [if_pos h0]
              have hlast : i = vs.length := by
                rcases Nat.lt_or_ge i vs.length with g | g
                · exact absurd (.inl h0) (hno i vs[i] (Nat.le_refl _) (List.getElem?_eq_getElem g))
                · omega
              rw [hlast] at hv'
              rw [List.getLast?_eq_getElem?, hv']
              exact ⟨rfl, rfl⟩
            · rw [if_neg h0]
              have hve : v.epoch <= e := hc.resolve_left h0
              rw [filt_last hv' (decide_eq_true hve) fun j u hj hu => decide_eq_false fun g => hno j u (by omega) hu (.inr g)]
              simp only
              cases hdv : v.dead with
              | true => rw [if_pos rfl]; exact ⟨(hd v (List.mem_of_getElem? hv') hdv).symm, rfl⟩
              | false => rw [if_neg (by decide)]; exact ⟨rfl, rfl⟩
          unfold F.xaq.j3
          refine ⟨fun _ => ?_, fun g => by cases g⟩
          refine verAt w1.reads hv' fun a _ c1 _ _ => ⟨v.value, c1, verAt w.reads hv' fun a2 _ _ c5 call => ldB_of (e1.cell c5 fun f => f) (C.st_agg b1' fun h13 b13 o13 s13 => ⟨?_, v.value, Blk.cells b13, ?_⟩)⟩
          · have e13 : Ext h h13 := e1.step o13 fun x hx hb => by omega
            exact e13.cell c5 fun f => f
          · have := k h13 (e1.step o13 fun x hx hb => by omega)
            rw [hat.1, hat.2] at this
            exact this
        refine ⟨fun g2 => found (.inl (eq_of_beq g2)), fun g2 => verAt w1.reads hv' fun a c0 _ _ _ => ldI_of c0 ?_⟩
        have g2 : e ≠ 0 := by simpa using g2
        by_cases hve : v.epoch <= e
        · rw [decide_eq_true hve]; exact found (.inr hve)
        · rw [decide_eq_false hve]
          unfold F.xaq.j3 F.xaq.j2
          refine ⟨fun g => (by cases g), fun _ => ih (i - 1) (by omega) (by omega) fun j u hj hu => ?_⟩
          by_cases hji : j = i - 1
          · rw [hji, hv'] at hu; cases hu
            rintro (g | g)
            · exact g2 g
            · exact hve g
          · exact hno j u (by omega) hu
      · have g := of_decide_eq_false g
        have hi0 : i = 0 := by omega
        subst hi0
        have hat : (atV vs e).1 = zA ∧ (atV vs e).2 = false := by
          unfold atV alive C.newestM C.atM
          by_cases h0 : e = 0
          · rw [if_pos h0]
            have : vs = [] := by
              cases vs with
              | nil => rfl
              | cons a r => exact absurd (.inl h0) (hno 0 a (Nat.le_refl _) rfl)
            rw [this]; exact ⟨rfl, rfl⟩
          · rw [if_neg h0]
            have : vs.filter (fun x => decide (x.epoch <= e)) = [] := by
              rw [List.filter_eq_nil_iff]
              intro u hu
              obtain ⟨j, hj⟩ := List.mem_iff_getElem?.1 hu
              have := hno j u (Nat.zero_le _) hj
              simp; omega
            rw [this]; exact ⟨rfl, rfl⟩
        refine C.st_agg (d := zA) b1' fun h13 b13 o13 s13 => ⟨zA, Blk.cells b13, ?_⟩
        have := k h13 (e1.step o13 fun x hx hb => by omega)
        rw [hat.1, hat.2] at this
        exact this
  exact loop _ vs.length (Nat.le_refl _) (by omega) fun j u hj hu => by
    have := (List.getElem?_eq_some_iff.1 hu).1
    omega
section
variable {h : H} {d : Nat} {Z : List DR} {slots : Nat} {x : Sl}
theorem atS_no {S : SL} (hok : SOk S) {c : Cel} {e : Int} (h : getS S c = none) : atS S c e = zA := by
  unfold atS; rw [h]; split <;> rfl
theorem atS_some {S : SL} (hok : SOk S) {c : Cel} {e : Int} {vs : List Ver} (h : getS S c = some vs) : atS S c e = (atV vs e).1 := by
  have : okC c = 0 := by
    unfold getS at h
    obtain ⟨y, hy, _⟩ := Option.map_eq_some_iff.1 h
    obtain ⟨q1, q2⟩ := getK_some hy
    have := (hok.ok y q1).1
    rw [q2] at this; exact this
  unfold atS
  rw [if_neg (fun g => g this), h]
theorem At7_spec {c : Cel} {e : Int} {Q : S_api_Agg -> H -> Prop} (z : DZ h d Z slots x) (hok : SOk (toD Z)) (hZ : Z.length <= 1048576) (hu : unitsS (toD Z) <= 1048576) (k : ∀ h', Ext h h' -> Q (atS (toD Z) c e) h') : F.xcy (some ⟨d, 0, none⟩) c e h Q := by
  have hs := sort_toD hok.sort
  unfold F.xcy
  refine new_of fun m h1 hm b1 e1 s1 => new_of fun n h3 hn b3 e3 s3 => ⟨c, (Blk.cells b1).ext e3, ?_⟩
  have e13 := e1.trans e3
  have b3' : Blk h3 n zA.cells.toArray tn_api_Agg := b3
  refine place_spec (z.ext e13) hs hZ (fun i r hr hc h7 e7 => ⟨fun g => (by cases g), fun _ => ?_⟩) fun i hi q1 q2 h7 e7 => ⟨fun _ => ?_, fun g => by cases g⟩
  · have hrz := List.mem_of_getElem? hr
    have z7 := (z.ext e13).ext e7
    have hr2 := (hok.ok (r.c, r.vs) (List.mem_map.2 ⟨r, hrz, rfl⟩)).2
    rw [nn_some, add_lit, Nat.zero_add, ldL_iff z7.cs1]
    refine heldAt z7.row.reads hr fun a _ c3 => ldL_of c3 (at7_spec (z7.vs r hrz) (DZ.vlen hu hrz) hr2.dead fun h22 e22 => new_of fun p h25 hp b25 e25 s25 => ?_)
    have b25' : Blk h25 p zA.cells.toArray tn_api_Agg := b25
    refine C.st_agg (d := (atV r.vs e).1) b25' fun h27 b27 o27 s27 => ?_
    have e322 := e7.trans e22
    have hs22 := e322.size
    have hnl : n < h3.size := by omega
    have e27 : Ext h3 h27 := (e322.trans e25).step o27 fun y hy hb => by omega
    have bn : Blk h27 n zA.cells.toArray tn_api_Agg := e27.block b3' fun f => f
    have hat := atS_some hok (c := c) (e := e) (by rw [← hc]; exact get_at hs hr)
    have fin : ∀ (a : S_api_Agg), a = (atV r.vs e).1 -> stH h27 ⟨n, 0, none⟩ a.cells fun h34 => ld_S_api_Agg h34 ⟨n, 0, none⟩ fun y35 => Q y35 h34 := fun a ha => by
      refine C.st_agg (d := a) bn fun h34 b34 o34 s34 => ⟨a, Blk.cells b34, ?_⟩
      have := k h34 ((e13.trans e27).step o34 fun y hy hb => by have := e1.size; omega)
      rw [hat, ← ha] at this; exact this
    refine ⟨fun g => fin _ ?_, fun g => ⟨_, Blk.cells b27, fin _ rfl⟩⟩
    -- a dead one
    have g : (atV r.vs e).2 = false := by simpa using g
    unfold atV alive C.newestM C.atM at g ⊢
    by_cases h0 : e = 0
    · rw [if_pos h0] at g ⊢
      rw [List.getLast?_eq_some_getLast hr2.ne] at g ⊢
      have g : (!(r.vs.getLast hr2.ne).dead) = false := g
      exact (hr2.dead _ (List.getLast_mem hr2.ne) (by simpa using g)).symm
    · rw [if_neg h0] at g ⊢
      split at g
      · rename_i v hv
        split at g
        · rename_i hdv
          rw [if_pos hdv]
        · cases g
      · rfl
  · refine C.st_agg (d := zA) (e7.block b3' fun f => f) fun h11 b11 o11 s11 => ⟨zA, Blk.cells b11, ?_⟩
    have := k h11 ((e13.trans e7).step o11 fun y hy hb => by have := e1.size; omega)
    rw [atS_no hok (get_no q1 q2)] at this
    exact this
theorem need_units {S : SL} (hok : SOk S) {e : Int} {c : Cel} {a : S_api_Agg} (hc : okC c = 0) (hn : ¬ (C.newestM ((getS S c).getD [])).2.1 > e) :
    needS S e c = ((unitsV (C.layM ((getS S c).getD []) ⟨e, a, false⟩) : Nat) : Int) - ((unitsV ((getS S c).getD []) : Nat) : Int) := by
  have h1 := (put_units hok (a := a) hc hn).2.2
  have h2 := lay_units ((getS S c).getD []) ⟨e, a, false⟩
  have h3 := units_eq ((getS S c).getD [])
  rw [h1, h2, h3]
  simp
  omega
theorem get_len {S : SL} (hu : unitsS S <= 1048576) (c : Cel) : ((getS S c).getD []).length <= 1048576 ∧ unitsV ((getS S c).getD []) <= 1048577 := by
  cases hg : getS S c with
  | none => exact ⟨by simp, by decide⟩
  | some vs =>
    unfold getS at hg
    obtain ⟨y, hy, rfl⟩ := Option.map_eq_some_iff.1 hg
    have := ver_units (getK_some hy).1
    show y.2.length <= _ ∧ unitsV y.2 <= _
    unfold unitsV
    split <;> omega
theorem Put7_spec {e : Int} {r : S_api_Row} {Q : Int -> H -> Prop} (z : DZ h d Z slots x) (hok : SOk (toD Z)) (hu : unitsS (toD Z) <= slots) (hsl : slots <= 1048576) (hc : I64c r.Agg.Count) (hs : I64c r.Agg.Sum) (h0 : I64c r.Agg.Min) (h1 : I64c r.Agg.Max)
    (k0 : putE (toD Z) slots e r.Cell r.Agg (rightM r.Agg) ≠ 0 -> ∀ h', Ext h h' -> Q (putE (toD Z) slots e r.Cell r.Agg (rightM r.Agg)) h')
    (k1 : putE (toD Z) slots e r.Cell r.Agg (rightM r.Agg) = 0 -> ∀ h', DH h' d (putS (toD Z) e r.Cell r.Agg) slots -> Only (· = d) h h' -> Q 0 h') : F.xbh (some ⟨d, 0, none⟩) e r h Q := by
  have hZ : Z.length <= 1048576 := by have := len_units hok; rw [toD_len] at this; omega
  have hd : d < h.size := block_lt z.sb
  unfold F.xbh
  refine new_of fun m h1' hm b1 e1 s1 => ⟨r.Cell, row_cell (Blk.cells b1), Cell7_spec fun h5 e5 => ?_⟩
  unfold putE at k0 k1
  have e15 := e1.trans e5
  have b5 : Blk h5 m (cW r).toArray tn_api_Row := e5.block b1 fun f => f
  refine ⟨fun g => ?_, fun g => ?_⟩
  · have g : okC r.Cell ≠ 0 := by simpa using g
    rw [if_pos g] at k0
    exact k0 g h5 e15
  have g : okC r.Cell = 0 := by simpa using g
  rw [if_neg (fun h => h g)] at k0 k1
  have bad : (e < 1 ∨ e > 1099511627776 ∨ r.Agg.Count = 0 ∨ rightM r.Agg = false) -> ∀ h', Ext h h' -> Q 1 h' := fun hb h' e' => by
    rw [if_pos hb] at k0
    exact k0 (by decide) h' e'
  have j1 : ¬ (e < 1 ∨ e > 1099511627776 ∨ r.Agg.Count = 0 ∨ rightM r.Agg = false) -> ∀ hh, Ext h5 hh -> F.xbh.j1 Q (some ⟨d, 0, none⟩) e ⟨m, 0, none⟩ hh := fun hb hh ex => by
    rw [if_neg hb] at k0 k1
    unfold F.xbh.j1
    have exx := e15.trans ex
    have zz := z.ext exx
    have bm : Blk hh m (cW r).toArray tn_api_Row := ex.block b5 fun f => f
    refine ⟨r.Cell, row_cell (Blk.cells bm), versions_spec zz (sort_toD hok.sort) hZ fun s h10 w10 e10 => newest_spec w10 (by have := (get_len (S := toD Z) (by omega) r.Cell).1; omega) ?_⟩
    have e010 := exx.trans e10
    have bm10 : Blk h10 m (cW r).toArray tn_api_Row := e10.block bm fun f => f
    refine ⟨fun g2 => ?_, fun g2 => ?_⟩
    · have g2 := of_decide_eq_true g2
      rw [if_pos g2] at k0
      exact k0 (by decide) h10 e010
    · have g2 := of_decide_eq_false g2
      rw [if_neg g2] at k0 k1
      have hgl := get_len (S := toD Z) (by omega) r.Cell
      have hnu := need_units hok (a := r.Agg) g g2
      have hn02 := need_0 (toD Z) e r.Cell
      have hll := lay_len ((getS (toD Z) r.Cell).getD []) ⟨e, r.Agg, false⟩
      have hlr := layN_range ((getS (toD Z) r.Cell).getD []) ⟨e, r.Agg, false⟩
      refine ⟨r.Agg, row_agg (Blk.cells bm10), with_spec (v := ⟨e, r.Agg, false⟩) w10 hgl.1 fun r18 h17 w17 m17 e17 => ?_⟩
      have e017 := e010.trans e17
      have z17 := z.ext e017
      have w10' := w10.ext e17
      simp only [nn_some, add_lit, Nat.zero_add, Nat.add_zero]
      rw [ldI_iff z17.cs0]
      refine Units7_spec z17 hZ (by omega) ⟨z17.cs0, units7_spec w10' (by omega) ⟨z17.cs0, units7_spec w17 (by omega) ⟨z17.cs0, ?_⟩⟩⟩
      have hunit : IntKind.wrap .i64 (IntKind.wrap .i64 (((unitsS (toD Z) : Nat) : Int) - ((unitsV ((getS (toD Z) r.Cell).getD []) : Nat) : Int)) + ((unitsV (C.layM ((getS (toD Z) r.Cell).getD []) ⟨e, r.Agg, false⟩) : Nat) : Int)) = (unitsS (toD Z) : Int) + needS (toD Z) e r.Cell := by
        rw [w64 (n := ((unitsS (toD Z) : Nat) : Int) - ((unitsV ((getS (toD Z) r.Cell).getD []) : Nat) : Int)) (by omega) (by omega), w64 (by omega) (by omega)]
        omega
      rw [hunit]
      have bm17 : Blk h17 m (cW r).toArray tn_api_Row := e17.block bm10 fun f => f
      refine ⟨fun g3 => ?_, fun g3 => ⟨r.Cell, ?_, lay7_spec z17 (sort_toD hok.sort) hZ w17 fun h' dh' o' => ?_⟩⟩
      · have g3 := of_decide_eq_true g3
        rw [if_pos g3] at k0
        exact k0 (by decide) h17 e017
      · have := row_cell (Blk.cells bm17)
        rw [add_lit, Nat.add_zero] at this; exact this
      · have g3 := of_decide_eq_false g3
        rw [if_neg g3] at k1
        exact k1 rfl h' dh' ((e017.only (S := (· = d))).trans o' fun _ _ e => e)
  unfold F.xbh.j2
  have c0 : ∀ {hh : H}, Ext h5 hh -> cellH hh ⟨m, 3, none⟩ = some (.int .i64 r.Agg.Count) := fun e => e.cell (Blk.cells b5 3 _ rfl) fun f => f
  refine ⟨fun g2 => ⟨fun _ => bad (.inl (of_decide_eq_true g2)) h5 e15, fun h => by cases h⟩, fun g2 => ⟨fun g3 => ⟨fun _ => bad (.inr (.inl (of_decide_eq_true g3))) h5 e15, fun h => by cases h⟩, fun g3 => ⟨r.Agg, row_agg (Blk.cells b5), right_ref hc hs h0 h1 fun h41 e41 => ⟨fun g4 => ⟨fun _ => bad (.inr (.inr (.inr (by simpa using g4)))) h41 (e15.trans e41), fun h => by cases h⟩, fun g4 => ?_⟩⟩⟩⟩
  simp only [add_lit, Nat.zero_add, Nat.add_zero]
  refine ldI_of (c0 e41) ⟨fun g5 => bad (.inr (.inr (.inl (by simpa using g5)))) h41 (e15.trans e41), fun g5 => j1 ?_ h41 e41⟩
  have g2 := of_decide_eq_false g2
  have g3 := of_decide_eq_false g3
  have g4 : rightM r.Agg = true := by simpa using g4
  have g5 : r.Agg.Count ≠ 0 := by simpa using g5
  rintro (q | q | q | q)
  · omega
  · omega
  · exact g5 q
  · rw [g4] at q; cases q
theorem Kill7_spec {e : Int} {c : Cel} {Q : Int -> H -> Prop} (z : DZ h d Z slots x) (hok : SOk (toD Z)) (hu : unitsS (toD Z) <= slots) (hsl : slots <= 1048576)
    (k0 : killE (toD Z) e c ≠ 0 -> ∀ h', Ext h h' -> Q (killE (toD Z) e c) h')
    (k1 : killE (toD Z) e c = 0 -> ∀ h', DH h' d (killS (toD Z) e c) slots -> Only (· = d) h h' -> Q 0 h') : F.xat (some ⟨d, 0, none⟩) e c h Q := by
  have hZ : Z.length <= 1048576 := by have := len_units hok; rw [toD_len] at this; omega
  unfold F.xat
  refine new_of fun m h1' hm b1 e1 s1 => ⟨c, Blk.cells b1, Cell7_spec fun h5 e5 => ?_⟩
  unfold killE at k0 k1
  have e15 := e1.trans e5
  have b5 : Blk h5 m c.cells.toArray tn_api_Cell := e5.block b1 fun f => f
  refine ⟨fun g => ?_, fun g => ?_⟩
  · have g : okC c ≠ 0 := by simpa using g
    rw [if_pos g] at k0
    exact k0 g h5 e15
  have g : okC c = 0 := by simpa using g
  rw [if_neg (fun h => h g)] at k0 k1
  have bad : (e < 1 ∨ e > 1099511627776) -> ∀ h', Ext h h' -> Q 1 h' := fun hb h' e' => by
    rw [if_pos hb] at k0
    exact k0 (by decide) h' e'
  have j1 : ¬ (e < 1 ∨ e > 1099511627776) -> F.xat.j1 Q (some ⟨d, 0, none⟩) e ⟨m, 0, none⟩ h5 := fun hb => by
    rw [if_neg hb] at k0 k1
    unfold F.xat.j1
    have zz := z.ext e15
    have hgl := get_len (S := toD Z) (by omega) c
    refine ⟨c, Blk.cells b5, versions_spec zz (sort_toD hok.sort) hZ fun s h10 w10 e10 => newest_spec w10 (by omega) ?_⟩
    have e010 := e15.trans e10
    have b10 : Blk h10 m c.cells.toArray tn_api_Cell := e10.block b5 fun f => f
    have hlen := own_len fV_len (by omega) w10
    have j2 : ∀ vs, getS (toD Z) c = some vs -> ¬ (C.newestM vs).2.1 > e -> ¬ alive vs = false -> F.xat.j2 Q (some ⟨d, 0, none⟩) e ⟨m, 0, none⟩ s h10 := fun vs hg hn ha => by
      rw [hg] at w10 hgl k1
      simp only at k1
      rw [if_neg hn, if_neg ha] at k1
      unfold F.xat.j2
      refine ⟨c, Blk.cells b10, with_spec (v := ⟨e, zA, true⟩) w10 hgl.1 fun r18 h17 w17 m17 e17 => ⟨(Blk.cells b10).ext e17, ?_⟩⟩
      have e017 := e010.trans e17
      refine lay7_spec (z.ext e017) (sort_toD hok.sort) hZ w17 fun h' dh' o' => k1 rfl h' ?_ ((e017.only (S := (· = d))).trans o' fun _ _ e => e)
      unfold killS
      rw [hg]; exact dh'
    refine ⟨fun g2 => ?_, fun g2 => ?_⟩
    · have g2 := of_decide_eq_true g2
      cases hg : getS (toD Z) c with
      | none =>
        rw [hg] at g2
        have g2 : (0 : Int) > e := g2
        omega
      | some vs =>
        rw [hg] at g2 k0
        have g2 : (C.newestM vs).2.1 > e := g2
        simp only at k0
        rw [if_pos g2] at k0
        exact k0 (by decide) h10 e010
    · have g2 := of_decide_eq_false g2
      unfold F.xat.j3
      rw [hlen]
      cases hg : getS (toD Z) c with
      | none =>
        rw [hg] at k0
        simp only at k0
        exact ⟨fun _ => ⟨fun _ => k0 (by decide) h10 e010, fun h => by cases h⟩, fun g3 => by simp at g3⟩
      | some vs =>
        have j2' := j2 vs hg
        rw [hg] at g2 k0 w10 hgl
        have g2 : ¬ (C.newestM vs).2.1 > e := g2
        simp only at k0
        rw [if_neg g2] at k0
        have hne : vs ≠ [] := by
          unfold getS at hg
          obtain ⟨y, hy, rfl⟩ := Option.map_eq_some_iff.1 hg
          exact (hok.ok y (getK_some hy).1).2.ne
        have hp := List.length_pos_iff.2 hne
        have hgl1 : vs.length <= 1048576 := hgl.1
        rw [show (some vs).getD [] = vs from rfl]
        refine ⟨fun g3 => ?_, fun g3 => ?_⟩
        · have : ((vs.length : Nat) : Int) = 0 := eq_of_beq g3
          omega
        · rw [w64 (n := (vs.length : Int) - 1) (by omega) (by omega), show (vs.length : Int) - 1 = ((vs.length - 1 : Nat) : Int) by omega]
          have hal : alive vs = !(vs.getLast hne).dead := by
            unfold alive C.newestM
            rw [List.getLast?_eq_some_getLast hne]
          refine verAt (vs := vs) w10.reads (C.last_get hne) fun a _ _ c5 _ => ldB_of c5 ?_
          cases hd : (vs.getLast hne).dead with
          | true =>
            rw [hd] at hal
            rw [if_pos (show alive vs = false from hal)] at k0
            exact ⟨fun _ => k0 (by decide) h10 e010, fun h => by cases h⟩
          | false =>
            rw [hd] at hal
            exact ⟨fun h => (by cases h), fun _ => j2' g2 (by rw [hal]; decide)⟩
  unfold F.xat.j4
  refine ⟨fun g2 => ⟨fun _ => bad (.inl (of_decide_eq_true g2)) h5 e15, fun h => by cases h⟩, fun g2 => ⟨fun g3 => bad (.inr (of_decide_eq_true g3)) h5 e15, fun g3 => j1 ?_⟩⟩
  have g2 := of_decide_eq_false g2
  have g3 := of_decide_eq_false g3
  omega
end
theorem mark_iff (L : List Ver) {i : Nat} (hi : i < L.length) : ∀ (E : List Int) (S : List Bool), S.length = L.length -> ((E.foldl (C.markM L) S)[i]? = some true ↔ S[i]? = some true ∨ ∃ e ∈ E, C.cntM L e = i + 1)
  | [], S, _ => by simp
  | e :: r, S, h => by
    rw [List.foldl_cons, mark_iff L hi r _ (by rw [C.markM_len]; exact h)]
    have h1 : (C.markM L S e)[i]? = some true ↔ S[i]? = some true ∨ C.cntM L e = i + 1 := by
      unfold C.markM
      split
      · rename_i h0
        constructor
        · exact fun h => .inl h
        · rintro (h | h); exact h; omega
      · rename_i h0
        rw [List.getElem?_set]
        by_cases he : C.cntM L e - 1 = i
        · rw [if_pos he, if_pos (by omega)]
          exact ⟨fun _ => .inr (by omega), fun _ => rfl⟩
        · rw [if_neg he]
          constructor
          · exact fun h => .inl h
          · rintro (h | h); exact h; omega
    rw [h1]
    constructor
    · rintro ((h | h) | ⟨e', h2, h3⟩)
      · exact .inl h
      · exact .inr ⟨e, by simp, h⟩
      · exact .inr ⟨e', by simp [h2], h3⟩
    · rintro (h | ⟨e', h2, h3⟩)
      · exact .inl (.inl h)
      · rcases List.mem_cons.1 h2 with h2 | h2
        · subst h2; exact .inl (.inr h3)
        · exact .inr ⟨e', h2, h3⟩
theorem stay_iff (L : List Ver) {i : Nat} (hi : i < L.length) (E : List Int) : (C.stayM L E)[i]? = some true ↔ i + 1 = L.length ∨ ∃ e ∈ E, C.cntM L e = i + 1 := by
  unfold C.stayM
  rw [mark_iff L hi E _ (by simp)]
  have : ((List.replicate L.length false).set (L.length - 1) true)[i]? = some true ↔ i + 1 = L.length := by
    rw [List.getElem?_set]
    by_cases h : L.length - 1 = i
    · rw [if_pos h, if_pos (by simp; omega)]
      exact ⟨fun _ => by omega, fun _ => rfl⟩
    · rw [if_neg h, List.getElem?_replicate, if_pos hi]
      simp; omega
  rw [this]
theorem cnt_iff {vs : List Ver} (hr : C.Rise vs) {i : Nat} {v : Ver} (hv : vs[i]? = some v) (e : Int) : C.cntM vs e = i + 1 ↔ v.epoch <= e ∧ (i + 1 = vs.length ∨ ∃ u, vs[i + 1]? = some u ∧ u.epoch > e) := by
  have hi := (List.getElem?_eq_some_iff.1 hv).1
  have hcnt : C.cntM vs e = vs.countP (fun x => decide (x.epoch <= e)) := rfl
  constructor
  · intro hc
    rw [hcnt] at hc
    refine ⟨?_, ?_⟩
    · refine Classical.byContradiction fun hn => ?_
      have hle : vs.countP (fun x => decide (x.epoch <= e)) <= i := by
        have h1 : vs.countP (fun x => decide (x.epoch <= e)) = (vs.take i).countP (fun x => decide (x.epoch <= e)) + (vs.drop i).countP (fun x => decide (x.epoch <= e)) := by
          rw [← List.countP_append, List.take_append_drop]
        have h2 : (vs.drop i).countP (fun x => decide (x.epoch <= e)) = 0 := by
          rw [List.countP_eq_zero]
          intro u hu
          obtain ⟨j, hj⟩ := List.mem_iff_getElem?.1 hu
          rw [List.getElem?_drop] at hj
          rcases Nat.eq_zero_or_pos j with h0 | h0
          · rw [h0, Nat.add_zero, hv] at hj; cases hj; simpa using hn
          · have := hr.lt (show i < i + j by omega) hv hj
            simp; omega
        have h3 := List.countP_le_length (p := fun x : Ver => decide (x.epoch <= e)) (l := vs.take i)
        rw [List.length_take] at h3
        omega
      omega
    · by_cases hl : i + 1 = vs.length
      · exact .inl hl
      · obtain ⟨u, hu⟩ : ∃ u, vs[i + 1]? = some u := ⟨_, List.getElem?_eq_getElem (by omega)⟩
        refine .inr ⟨u, hu, Classical.byContradiction fun hn => ?_⟩
        have hge : i + 2 <= vs.countP (fun x => decide (x.epoch <= e)) := by
          have h1 : vs.countP (fun x => decide (x.epoch <= e)) = (vs.take (i + 2)).countP (fun x => decide (x.epoch <= e)) + (vs.drop (i + 2)).countP (fun x => decide (x.epoch <= e)) := by
            rw [← List.countP_append, List.take_append_drop]
          have h2 : (vs.take (i + 2)).countP (fun x => decide (x.epoch <= e)) = (vs.take (i + 2)).length := by
            rw [List.countP_eq_length]
            intro w hw
            obtain ⟨j, hj⟩ := List.mem_iff_getElem?.1 hw
            have hji : j < i + 2 := by
              have := (List.getElem?_eq_some_iff.1 hj).1
              rw [List.length_take] at this; omega
            rw [List.getElem?_take_of_lt hji] at hj
            by_cases hj1 : j = i + 1
            · rw [hj1, hu] at hj; cases hj; simp; omega
            · have := hr.lt (show j < i + 1 by omega) hj hu
              simp; omega
          rw [List.length_take] at h2
          omega
        omega
  · rintro ⟨h1, h2⟩
    refine C.cnt_eq _ vs (i + 1) (by omega) (fun t w ht hw => ?_) fun t w ht hw => ?_
    · by_cases hti : t = i
      · rw [hti, hv] at hw; cases hw; exact decide_eq_true h1
      · have := hr.lt (show t < i by omega) hw hv
        exact decide_eq_true (by omega)
    · have htl := (List.getElem?_eq_some_iff.1 hw).1
      rcases h2 with h2 | ⟨u, hu, h3⟩
      · omega
      · by_cases hti : t = i + 1
        · rw [hti, hu] at hw; cases hw; exact decide_eq_false (by omega)
        · have := hr.lt (show i + 1 < t by omega) hu hw
          exact decide_eq_false (by omega)
def Stay (vs : List Ver) (E : List Int) (i : Nat) : Prop := i + 1 = vs.length ∨ ∃ e ∈ E, ∃ v, vs[i]? = some v ∧ v.epoch <= e ∧ (i + 1 = vs.length ∨ ∃ u, vs[i + 1]? = some u ∧ u.epoch > e)
theorem stay_at {vs : List Ver} (hr : C.Rise vs) {i : Nat} (hi : i < vs.length) (E : List Int) : (C.stayM vs E)[i]? = some true ↔ Stay vs E i := by
  rw [stay_iff vs hi]
  obtain ⟨v, hv⟩ : ∃ v, vs[i]? = some v := ⟨_, List.getElem?_eq_getElem hi⟩
  unfold Stay
  constructor
  · rintro (h | ⟨e, he, hc⟩)
    · exact .inl h
    · have := (cnt_iff hr hv e).1 hc
      exact .inr ⟨e, he, v, hv, this⟩
  · rintro (h | ⟨e, he, w, hw, hc⟩)
    · exact .inl h
    · rw [hv] at hw; cases hw
      exact .inr ⟨e, he, (cnt_iff hr hv e).2 hc⟩
theorem stay_is {vs : List Ver} (hr : C.Rise vs) {E : List Int} {B : List Bool} (hB : B.length = vs.length) (h : ∀ (i : Nat) b, B[i]? = some b -> (b = true ↔ Stay vs E i)) : B = C.stayM vs E := by
  have hl : (C.stayM vs E).length = vs.length := by unfold C.stayM; rw [C.stay_len]; simp
  apply List.ext_getElem?
  intro i
  by_cases hi : i < vs.length
  · obtain ⟨b, hb⟩ : ∃ b, B[i]? = some b := ⟨_, List.getElem?_eq_getElem (by omega)⟩
    obtain ⟨b2, hb2⟩ : ∃ b, (C.stayM vs E)[i]? = some b := ⟨_, List.getElem?_eq_getElem (by omega)⟩
    have h1 := h i b hb
    have h2 := stay_at hr hi E
    rw [hb2] at h2
    rw [hb, hb2]
    have h2 : b2 = true ↔ Stay vs E i := by rw [← h2]; simp
    have : b = true ↔ b2 = true := h1.trans h2.symm
    cases b <;> cases b2 <;> simp_all
  · rw [List.getElem?_eq_none (by omega), List.getElem?_eq_none (by omega)]
theorem boolAt {h : H} {s : Sl} {A : List Bool} (rd : Reads h s 1 (A.flatMap cB)) {i : Nat} {x : Bool} (hx : A[i]? = some x) {K : Bool -> Prop} (k : K x) : idxA s (i : Int) 1 fun a => ldB h a K := by
  obtain ⟨p, p1, p2, p3⟩ := rd_at cB_len (by omega) rd hx
  have hl := rd_len cB_len (by omega) rd
  exact idxR_of (i := i) p1 (by have := (List.getElem?_eq_some_iff.1 hx).1; omega) rfl (ldB_of p3.one k)
theorem kept_spec {h : H} {s hd : Sl} {vs : List Ver} {E : List Int} {Q : Sl -> H -> Prop} (w : Owns h s tV7 6 (vs.flatMap fV)) (hr : C.Rise vs) (hv : vs.length <= 1048576) (rd : Reads h hd 1 (E.flatMap cI)) (hE : E.length <= 1000000)
    (k : ∀ r h', Owns h' r tV7 6 ((C.pruneM vs E).flatMap fV) -> Mine h r -> Ext h h' -> Q r h') : F.xaa s hd h Q := by
  have hl := own_len fV_len (by omega) w
  have hel := rd_len cI_len (by omega) rd
  unfold F.xaa
  rw [hl]
  refine make_of el_Slbool (by omega) (by simp only [maxLen]; omega) fun nb h1 hnb w1 e1 => ?_
  have wB0 : Owns h1 ⟨some ⟨nb, 0, none⟩, vs.length, vs.length⟩ 4 1 ((List.replicate vs.length false).flatMap cB) := by
    rw [flat_replicate cB false (.bool false) rfl, ← made_one]
    rw [Nat.mul_one] at w1
    exact w1
  have nbh : h.size <= nb := by omega
  generalize hbs : (⟨some ⟨nb, 0, none⟩, vs.length, vs.length⟩ : Sl) = bs at wB0 ⊢
  have hbb : ∀ x, bs.blk = some x -> h.size <= x := fun x hx => by rw [← hbs] at hx; simp [Sl.blk] at hx; omega
  have step : ∀ {hh h' : H}, Ext h hh -> Only (fun b => bs.blk = some b) hh h' -> Ext h h' := fun e o => e.step o fun x hx hb => by have := hbb x hb; omega
  -- out of what stays
  have l5 : ∀ (hh0 : H) (B : List Bool), B = C.stayM vs E -> Ext h hh0 -> Owns hh0 bs 4 1 (B.flatMap cB) -> ∃ m, F.xaa.l5 Q m s bs (⟨none, 0, 0⟩ : Sl) 0 hh0 := fun hh0 B hB e0 wB0 => by
    have hBl : B.length = vs.length := by rw [hB]; unfold C.stayM; rw [C.stay_len]; simp
    have hfin : C.pruneM vs E = C.oneM (C.keepM vs B) := by rw [hB]; rfl
    have loop : ∀ (n i : Nat) (o : Sl) (hh : H), i <= vs.length -> vs.length - i < n -> Ext h hh -> Owns hh bs 4 1 (B.flatMap cB) -> Owns hh o tV7 6 ((C.keepM (vs.take i) (B.take i)).flatMap fV) -> Mine h o -> (∀ x, o.blk = some x -> bs.blk ≠ some x) -> F.xaa.l5 Q n s bs o (i : Int) hh := by
      intro n
      induction n with
      | zero => intro i _ _ _ hm; omega
      | succ n ih =>
        intro i o hh hi hm e wB wo mo hob
        unfold F.xaa.l5
        rw [hl]
        refine ⟨fun g => ?_, fun g => ?_⟩
        · have g := of_decide_eq_true g
          obtain ⟨v, hv'⟩ : ∃ v, vs[i]? = some v := ⟨_, List.getElem?_eq_getElem (by omega)⟩
          obtain ⟨b, hb⟩ : ∃ b, B[i]? = some b := ⟨_, List.getElem?_eq_getElem (by omega)⟩
          have hkt := C.keep_take hBl hv' hb
          have hkl : (C.keepM (vs.take i) (B.take i)).length <= vs.length := Nat.le_trans (C.keep_le _ _) (by rw [List.length_take]; omega)
          refine boolAt wB.reads hb ⟨fun g2 => ?_, fun g2 => ?_⟩
          · subst g2
            refine verAt (w.ext e).reads hv' fun a _ _ _ call => ⟨rV v, call, ?_⟩
            refine push_mine (x := v) (h0 := h) e mo fV_len (by omega) el_Slspateref7_Version wo fV_one (by omega) fun r h43 w43 e43 m43 o43 q43 => ?_
            unfold F.xaa.j6
            rw [w64s (by omega)]
            refine ih (i + 1) r h43 (by omega) (by omega) e43 (wB.only o43 fun x hx hb' => hob x hb' hx) ?_ m43 fun x hx hbx => ?_
            · rw [hkt]; exact w43
            · rcases q43 with q | ⟨b', q, q2⟩
              · exact hob x (by rw [← q]; exact hx) hbx
              · rw [q] at hx; cases hx
                have := wB.blk_lt hbx; omega
          · subst g2
            unfold F.xaa.j6
            rw [w64s (by omega)]
            refine ih (i + 1) o hh (by omega) (by omega) e wB ?_ mo hob
            rw [hkt]; simpa using wo
        · have g := of_decide_eq_false g
          have hil : i = vs.length := by omega
          rw [hil, List.take_length, show vs.length = B.length from hBl.symm, List.take_length] at wo
          have hol := own_len fV_len (by omega) wo
          have hkl := C.keep_le vs B
          have endN : C.oneM (C.keepM vs B) = [] -> F.xaa.j8 Q o true hh := fun h0 => by
            unfold F.xaa.j8
            refine ⟨fun _ => k _ hh ?_ (Mine.nil _ _ _) e, fun g => by cases g⟩
            rw [hfin, h0]; exact Owns.nil _ _ _
          have endO : C.oneM (C.keepM vs B) = C.keepM vs B -> F.xaa.j8 Q o false hh := fun h0 => by
            unfold F.xaa.j8 F.xaa.j7
            refine ⟨fun g => (by cases g), fun _ => k o hh ?_ mo e⟩
            rw [hfin, h0]; exact wo
          rw [hol]
          refine ⟨fun g2 => ?_, fun g2 => ?_⟩
          · have g2 : ((C.keepM vs B).length : Int) = 1 := eq_of_beq g2
            obtain ⟨y, hy⟩ := List.length_eq_one_iff.1 (show (C.keepM vs B).length = 1 by omega)
            refine verAt (i := 0) (v := y) wo.reads (by rw [hy]; rfl) fun a _ _ c5 _ => ldB_of c5 ?_
            cases hyd : y.dead with
            | true => exact endN (by rw [hy]; show (if y.dead = true then [] else [y]) = []; rw [if_pos hyd])
            | false => exact endO (by rw [hy]; show (if y.dead = true then [] else [y]) = [y]; rw [if_neg (by rw [hyd]; decide)])
          · have g2 : ((C.keepM vs B).length : Int) ≠ 1 := by simpa using g2
            refine endO ?_
            unfold C.oneM
            split
            · rename_i y hy; rw [hy] at g2; simp at g2
            · rfl
    exact ⟨vs.length + 1, loop _ 0 _ hh0 (by omega) (by omega) e0 wB0 (by simpa [C.keepM] using Owns.nil hh0 tV7 6) (Mine.nil _ _ _) fun x hx => by simp [Sl.blk] at hx⟩
  have outer : ∀ (n i : Nat) (B : List Bool) (hh : H), i <= vs.length -> vs.length - i < n -> Ext h hh -> Owns hh bs 4 1 (B.flatMap cB) -> B.length = vs.length -> (∀ (j : Nat) b, j < i -> B[j]? = some b -> (b = true ↔ Stay vs E j)) -> F.xaa.l1 Q n s hd bs (i : Int) hh := by
    intro n
    induction n with
    | zero => intro i _ _ _ hm; omega
    | succ n ih =>
      intro i B hh hi hm e wB hBl hst
      unfold F.xaa.l1
      rw [hl]
      refine ⟨fun g => ?_, fun g => ?_⟩
      · have g := of_decide_eq_true g
        obtain ⟨v, hv'⟩ : ∃ v, vs[i]? = some v := ⟨_, List.getElem?_eq_getElem (by omega)⟩
        rw [w64 (n := (vs.length : Int) - 1) (by omega) (by omega)]
        refine put_at (f := cB) (D := B) (i := i) (x := ((i : Int) == (vs.length : Int) - 1)) cB_len (by omega) wB (by omega) fun h6 w6 o6 => ⟨E.length + 1, ?_⟩
        have e6 := step e o6
        have inner : ∀ (n2 q : Nat) (B2 : List Bool) (h2 : H), q <= E.length -> E.length - q < n2 -> Ext h h2 -> Owns h2 bs 4 1 (B2.flatMap cB) -> B2.length = vs.length -> (∀ (j : Nat) b, j < i -> B2[j]? = some b -> (b = true ↔ Stay vs E j)) -> (∀ b, B2[i]? = some b -> (b = true ↔ Stay vs (E.take q) i)) -> F.xaa.l2 Q (F.xaa.l1 Q n) n2 s hd bs (i : Int) (q : Int) h2 := by
          intro n2
          induction n2 with
          | zero => intro q _ _ _ hm; omega
          | succ n2 ih2 =>
            intro q B2 h2 hq hm2 e2 w2 hB2 hs1 hs2
            unfold F.xaa.l2
            rw [hel]
            refine ⟨fun g2 => ?_, fun g2 => ?_⟩
            · have g2 := of_decide_eq_true g2
              obtain ⟨x, hx⟩ : ∃ x, E[q]? = some x := ⟨_, List.getElem?_eq_getElem (by omega)⟩
              have rd2 := rd.ext e2
              have ws2 := w.ext e2
              have hq1 : q + 1 <= E.length ∧ E.length - (q + 1) < n2 ∧ q < 9000000000000000000 ∧ i < B2.length := by omega
              -- it is looked at
              have nx : ∀ (bb : Bool), (bb = true ↔ x >= v.epoch ∧ (i + 1 = vs.length ∨ ∃ u, vs[i + 1]? = some u ∧ u.epoch > x)) -> F.xaa.j4 Q (F.xaa.l1 Q n) (F.xaa.l2 Q (F.xaa.l1 Q n) n2) s hd bs (i : Int) (q : Int) bb h2 := fun bb hbb => by
                have hstay : Stay vs (E.take (q + 1)) i ↔ Stay vs (E.take q) i ∨ bb = true := by
                  rw [hbb, tk_snoc hx]
                  unfold Stay
                  constructor
                  · rintro (h | ⟨y, hy, u, hu, h3, h4⟩)
                    · exact .inl (.inl h)
                    · rw [List.mem_append, List.mem_singleton] at hy
                      rcases hy with hy | hy
                      · exact .inl (.inr ⟨y, hy, u, hu, h3, h4⟩)
                      · subst hy
                        rw [hv'] at hu; cases hu
                        exact .inr ⟨h3, h4⟩
                  · rintro ((h | ⟨y, hy, h3⟩) | ⟨h3, h4⟩)
                    · exact .inl h
                    · exact .inr ⟨y, List.mem_append.2 (.inl hy), h3⟩
                    · exact .inr ⟨x, by simp, v, hv', h3, h4⟩
                unfold F.xaa.j4 F.xaa.j3
                refine ⟨fun gb => ?_, fun gb => ?_⟩
                · refine put_at (f := cB) (D := B2) (i := i) (x := true) cB_len (by decide) w2 hq1.2.2.2 fun h11 w11 o11 => ?_
                  rw [w64s hq1.2.2.1]
                  refine ih2 (q + 1) _ h11 hq1.1 hq1.2.1 (step e2 o11) w11 (by rw [List.length_set]; exact hB2) (fun j b hj hb => ?_) fun b hb => ?_
                  · rw [List.getElem?_set_ne (Nat.ne_of_gt hj)] at hb
                    exact hs1 j b hj hb
                  · rw [List.getElem?_set_self hq1.2.2.2] at hb
                    cases hb
                    exact ⟨fun _ => hstay.2 (.inr gb), fun _ => rfl⟩
                · rw [w64s hq1.2.2.1]
                  refine ih2 (q + 1) B2 h2 hq1.1 hq1.2.1 e2 w2 hB2 hs1 fun b hb => ?_
                  rw [hs2 b hb, hstay]
                  exact ⟨.inl, fun h => h.elim id fun h => by rw [gb] at h; cases h⟩
              refine verAt ws2.reads hv' fun a c0 _ _ _ => ldI_of c0 (intAt rd2 hx ⟨fun g3 => ?_, fun g3 => ?_⟩)
              · have g3 := of_decide_eq_true g3
                rw [hl, w64 (n := (vs.length : Int) - 1) (by omega) (by omega)]
                refine ⟨fun g4 => nx true ⟨fun _ => ⟨g3, .inl ?_⟩, fun _ => rfl⟩, fun g4 => ?_⟩
                · have : (i : Int) = (vs.length : Int) - 1 := eq_of_beq g4
                  omega
                · have g4 : (i : Int) ≠ (vs.length : Int) - 1 := by simpa using g4
                  obtain ⟨u, hu⟩ : ∃ u, vs[i + 1]? = some u := ⟨_, List.getElem?_eq_getElem (by omega)⟩
                  rw [w64s (by omega)]
                  refine verAt ws2.reads hu fun a2 c02 _ _ _ => ldI_of c02 (intAt rd2 hx (nx _ ?_))
                  rw [decide_eq_true_iff]
                  constructor
                  · intro h; exact ⟨g3, .inr ⟨u, hu, h⟩⟩
                  · rintro ⟨_, h | ⟨u', hu', h⟩⟩
                    · omega
                    · rw [hu] at hu'; cases hu'; exact h
              · have g3 := of_decide_eq_false g3
                exact nx false ⟨fun h => (by cases h), fun h => absurd h.1 (by omega)⟩
            · have g2 := of_decide_eq_false g2
              have hqe : q = E.length := by omega
              rw [hqe, List.take_length] at hs2
              rw [w64s (by omega)]
              refine ih (i + 1) B2 h2 (by omega) (by omega) e2 w2 hB2 fun j b hj hb => ?_
              by_cases hji : j = i
              · rw [hji] at hb ⊢; exact hs2 b hb
              · exact hs1 j b (by omega) hb
        refine inner _ 0 _ h6 (by omega) (by omega) e6 w6 (by rw [List.length_set]; exact hBl) (fun j b hj hb => ?_) fun b hb => ?_
        · rw [List.getElem?_set_ne (by omega)] at hb
          exact hst j b hj hb
        · rw [List.getElem?_set_self (by omega)] at hb
          cases hb
          unfold Stay
          simp only [List.take_zero, List.not_mem_nil, false_and, exists_false, or_false, beq_iff_eq]
          omega
      · have g := of_decide_eq_false g
        have hil : i = vs.length := by omega
        refine l5 hh B (stay_is hr hBl fun j b hb => hst j b ?_ hb) e wB
        have := (List.getElem?_eq_some_iff.1 hb).1
        omega
  exact ⟨vs.length + 1, outer _ 0 _ h1 (by omega) (by omega) e1 wB0 (by simp) fun j b hj => by omega⟩
theorem pruneS_snoc {A : SL} {y : Cel × List Ver} (E : List Int) : pruneS (A ++ [y]) E = pruneS A E ++ (if C.pruneM y.2 E = [] then [] else [(y.1, C.pruneM y.2 E)]) := by
  unfold pruneS
  rw [List.map_append, List.filter_append]
  congr 1
  cases hp : C.pruneM y.2 E with
  | nil => simp [hp]
  | cons a r => simp [hp]
theorem prune_le {S : SL} (hok : SOk S) (E : List Int) : unitsS (pruneS S E) <= unitsS S ∧ (pruneS S E).length <= S.length := by
  have : ∀ (S : SL), (∀ x ∈ S, VOk x.2) -> unitsS (pruneS S E) <= unitsS S ∧ (pruneS S E).length <= S.length := fun S => by
    induction S with
    | nil => intro _; exact ⟨Nat.le_refl _, Nat.le_refl _⟩
    | cons x r ih =>
      intro h
      obtain ⟨i1, i2⟩ := ih fun y hy => h y (by simp [hy])
      have hu := prune_units (h x (by simp)) E
      rw [prune_cons]
      unfold unitsS at i1 ⊢
      rw [List.map_append, List.sum_append, List.map_cons, List.sum_cons, List.length_append, List.length_cons]
      split <;> simp <;> omega
  exact this S fun x hx => (hok.ok x hx).2
section
variable {h : H} {d : Nat} {Z : List DR} {slots : Nat} {x : Sl}
theorem Prune7_spec {hd : Sl} {E : List Int} {Q : Int -> H -> Prop} (z : DZ h d Z slots x) (hok : SOk (toD Z)) (hu : unitsS (toD Z) <= slots) (hsl : slots <= 1048576) (rd : Reads h hd 1 (E.flatMap cI)) (hE : E.length <= 1000000)
    (k : ∀ h', DH h' d (pruneS (toD Z) E) slots -> Only (· = d) h h' -> Q ((unitsS (toD Z) : Int) - unitsS (pruneS (toD Z) E)) h') : F.xba (some ⟨d, 0, none⟩) hd h Q := by
  have hZ : Z.length <= 1048576 := by have := len_units hok; rw [toD_len] at this; omega
  have hd0 : d < h.size := block_lt z.sb
  have hl := own_len hR_len (by omega) z.row
  unfold F.xba
  refine Units7_spec z hZ (by omega) ⟨Z.length + 1, ?_⟩
  have loop : ∀ (n i : Nat) (o : Sl) (W : List DR) (hh : H), i <= Z.length -> Z.length - i < n -> Ext h hh -> toD W = pruneS (toD (Z.take i)) E -> W.length <= i -> Owns hh o tH7 4 (W.flatMap hR) -> Mine h o -> (∀ r ∈ W, Owns hh r.s tV7 6 (r.vs.flatMap fV)) ->
      F.xba.l1 Q n (some ⟨d, 0, none⟩) hd ((unitsS (toD Z) : Nat) : Int) o (i : Int) hh := by
    intro n
    induction n with
    | zero => intro i _ _ _ _ hm; omega
    | succ n ih =>
      intro i o W hh hi hm e hW hWl wo mo hws
      have zz := z.ext e
      unfold F.xba.l1
      simp only [nn_some, add_lit, Nat.zero_add]
      rw [ldL_iff zz.cs1, hl]
      refine ⟨fun g => ?_, fun g => ?_⟩
      · have g := of_decide_eq_true g
        obtain ⟨r, hr⟩ : ∃ r, Z[i]? = some r := ⟨_, List.getElem?_eq_getElem (by omega)⟩
        have hrz := List.mem_of_getElem? hr
        have hvo := (hok.ok (r.c, r.vs) (List.mem_map.2 ⟨r, hrz, rfl⟩)).2
        have hsn : pruneS (toD (Z.take (i + 1))) E = pruneS (toD (Z.take i)) E ++ (if C.pruneM r.vs E = [] then [] else [(r.c, C.pruneM r.vs E)]) := by rw [toD_snoc hr, pruneS_snoc]
        rw [ldL_iff zz.cs1]
        refine heldAt zz.row.reads hr fun a _ c3 => ldL_of c3 (kept_spec (zz.vs r hrz) hvo.rise (DZ.vlen (by omega) hrz) (rd.ext e) hE fun s h16 w16 m16 e16 => ?_)
        have hsl16 := own_len fV_len (by omega) w16
        have e016 := e.trans e16
        have z16 := z.ext e016
        rw [hsl16]
        unfold F.xba.j2
        refine ⟨fun g2 => ?_, fun g2 => ?_⟩
        · have g2 := of_decide_eq_true g2
          have hne : C.pruneM r.vs E ≠ [] := fun e => by rw [e] at g2; simp at g2
          rw [if_neg hne] at hsn
          rw [ldL_iff z16.cs1]
          refine heldAt z16.row.reads hr fun a2 ca2 _ => ⟨r.c, ca2, ?_⟩
          refine push_mine (x := (⟨r.c, C.pruneM r.vs E, s⟩ : DR)) (h0 := h) e016 mo hR_len (by omega) el_Slspateref7_Held (wo.ext e16) hR_one (by omega) fun r2 h29 w29 e29 m29 o29 _ => ?_
          rw [w64s (by omega)]
          refine ih (i + 1) r2 (W ++ [⟨r.c, C.pruneM r.vs E, s⟩]) h29 (by omega) (by omega) e29 ?_ (by simp; omega) w29 m29 fun q hq => ?_
          · rw [hsn, ← hW]; unfold toD; rw [List.map_append]; rfl
          · have tyd : ∀ {t : Sl} {cs : List Value}, Owns h16 t tV7 6 cs -> Owns h29 t tV7 6 cs := fun {t cs} wt => wt.only o29 fun b hb hob => by
              obtain ⟨c1, q1⟩ := own_typ wt hb
              exact own_neG (wo.ext e16) q1 (by decide) hob
            rcases List.mem_append.1 hq with hq | hq
            · exact tyd ((hws q hq).ext e16)
            · rw [List.mem_singleton.1 hq]; exact tyd w16
        · have g2 := of_decide_eq_false g2
          have he : C.pruneM r.vs E = [] := List.eq_nil_of_length_eq_zero (by omega)
          rw [if_pos he, List.append_nil] at hsn
          rw [w64s (by omega)]
          exact ih (i + 1) o W h16 (by omega) (by omega) e016 (by rw [hsn]; exact hW) (by omega) (wo.ext e16) mo fun q hq => (hws q hq).ext e16
      · have g := of_decide_eq_false g
        have hil : i = Z.length := by omega
        rw [hil, List.take_length] at hW
        have hne : o.blk ≠ some d := fun e => by have := mo d e; omega
        refine stH_of zz.sb (by simp) fun h' b' o' s' => ?_
        have hpl := prune_le hok E
        have z' : DZ h' d W slots o := ⟨b', wo.only o' fun b hb e => hne (by rw [hb, e]), fun r hr => (hws r hr).only o' fun b hb e => by
          subst e
          exact own_neG (hws r hr) zz.sb (by decide) hb⟩
        have hWl' : W.length <= 1048576 := by omega
        refine Units7_spec z' hWl' (by rw [hW]; omega) ?_
        rw [hW, w64 (by omega) (by omega)]
        exact k h' ⟨o, W, hW, z'⟩ ((e.only (S := (· = d))).trans o' fun _ _ e => e)
  exact loop _ 0 _ [] h (by omega) (by omega) (.refl _) rfl (Nat.le_refl _) (Owns.nil _ _ _) (Mine.nil _ _ _) fun r hr => by cases hr
end
theorem needT_snoc (S : SL) (e : Int) (A : List Cel) (c : Cel) : (c ∈ A -> needT S e (A ++ [c]) = needT S e A) ∧ (c ∉ A -> needT S e (A ++ [c]) = needT S e A + needS S e c) := by
  refine ⟨fun h => needT_congr fun x => ?_, fun h => ?_⟩
  · rw [List.mem_append, List.mem_singleton]
    exact ⟨fun g => g.elim id fun g => by rw [g]; exact h, .inl⟩
  · rw [← needT_of (D := ddL A ++ [c]) (L := A ++ [c]) (List.nodup_append.2 ⟨dd_nodup A, by simp, fun a ha b hb e => h (by rw [List.mem_singleton] at hb; rw [← hb, ← e]; exact dd_mem.1 ha)⟩) fun x => by rw [List.mem_append, List.mem_append, dd_mem], needD_snoc]
    rfl
theorem need_bad {S : SL} {e : Int} {c : Cel} (h : okC c ≠ 0) : needS S e c = 0 := by unfold needS; rw [if_pos h]
theorem need_old {S : SL} {e : Int} {c : Cel} (he : 0 <= e) (h : (C.newestM ((getS S c).getD [])).2.1 > e) : needS S e c = 0 := by
  unfold needS
  split
  · rfl
  · unfold needV
    cases hg : getS S c with
    | none =>
      rw [hg] at h
      have : (0 : Int) > e := h
      omega
    | some vs =>
      rw [hg] at h
      have h : (C.newestM vs).2.1 > e := h
      simp only
      rw [if_pos h]
theorem dd_len {α : Type} : ∀ M : List α, (ddL M).length <= M.length
  | [] => Nat.le_refl _
  | x :: r => by
    have := dd_len r
    unfold ddL; split <;> simp <;> omega
section
variable {h : H} {d : Nat} {Z : List DR} {slots : Nat} {x : Sl}
theorem Need7_spec {e : Int} {s : Sl} {L : List Cel} {Q : Int -> H -> Prop} (z : DZ h d Z slots x) (hok : SOk (toD Z)) (hu : unitsS (toD Z) <= slots) (hsl : slots <= 1048576) (he : 0 <= e) (rd : Reads h s 3 (L.flatMap S_api_Cell.cells)) (hL : L.length <= 1000000)
    (k : ∀ h', Ext h h' -> Q (needT (toD Z) e L) h') : F.xac (some ⟨d, 0, none⟩) e s h Q := by
  have hZ : Z.length <= 1048576 := by have := len_units hok; rw [toD_len] at this; omega
  have hl := rd_len cC_len (by omega) rd
  unfold F.xac
  refine ⟨L.length + 1, ?_⟩
  have loop : ∀ (n i : Nat) (hh : H), i <= L.length -> L.length - i < n -> Ext h hh -> F.xac.l1 Q n (some ⟨d, 0, none⟩) e s (needT (toD Z) e (L.take i)) (i : Int) hh := by
    intro n
    induction n with
    | zero => intro i _ _ hm; omega
    | succ n ih =>
      intro i hh hi hm ex
      unfold F.xac.l1
      rw [hl]
      refine ⟨fun g => ?_, fun g => ?_⟩
      · have g := of_decide_eq_true g
        obtain ⟨c, hc⟩ : ∃ c, L[i]? = some c := ⟨_, List.getElem?_eq_getElem (by omega)⟩
        refine cellAt (rd.ext ex) hc fun a ca => ⟨c, ca, new_of fun m h6 hm6 b6 e6 s6 => ?_⟩
        have b6' : Blk h6 m zeroC.cells.toArray tn_api_Cell := b6
        refine st_cel b6' (d := c) fun h8 b8 o8 s8 => ⟨c, Blk.cells b8, Cell7_spec fun h11 e11 => ⟨i + 1, ?_⟩⟩
        have e8 : Ext hh h8 := e6.step o8 fun y hy hb => by omega
        have b11 : Blk h11 m c.cells.toArray tn_api_Cell := e11.block b8 fun f => f
        have e011 := ex.trans (e8.trans e11)
        have z11 := z.ext e011
        have hsn := needT_snoc (toD Z) e (L.take i) c
        rw [← tk_snoc hc] at hsn
        have hr1 := needD_range (toD Z) e (ddL (L.take i))
        have hdl := dd_len (L.take i)
        rw [List.length_take] at hdl
        have hnT : needT (toD Z) e (L.take i) = needD (toD Z) e (ddL (L.take i)) := rfl
        have hn2 := need_0 (toD Z) e c
        have next : ∀ (v : Int) (h' : H), v = needT (toD Z) e (L.take (i + 1)) -> Ext h11 h' -> F.xac.j2 Q (F.xac.l1 Q n) (some ⟨d, 0, none⟩) e s v (i : Int) h' := fun v h' hv e' => by
          unfold F.xac.j2
          rw [w64s (by omega), hv]
          exact ih (i + 1) h' (by omega) (by omega) (e011.trans e')
        have inner : ∀ (n2 q : Nat) (bb : Bool), q <= i -> i - q < n2 -> (bb = true ↔ okC c ≠ 0 ∨ c ∈ L.take q) -> F.xac.l3 Q (F.xac.l1 Q n) n2 (some ⟨d, 0, none⟩) e s (needT (toD Z) e (L.take i)) (i : Int) ⟨m, 0, none⟩ bb (q : Int) h11 := by
          intro n2
          induction n2 with
          | zero => intro q _ _ hm; omega
          | succ n2 ih2 =>
            intro q bb hq hm2 hbb
            unfold F.xac.l3
            refine ⟨fun g2 => ?_, fun g2 => ?_⟩
            · have g2 := of_decide_eq_true g2
              obtain ⟨u, hu'⟩ : ∃ u, L[q]? = some u := ⟨_, List.getElem?_eq_getElem (by omega)⟩
              have hn1 : q + 1 <= i ∧ i - (q + 1) < n2 ∧ q < 9000000000000000000 := by omega
              unfold F.xac.j4
              refine ⟨fun g3 => ?_, fun g3 => cellAt (rd.ext e011) hu' fun a1 c1 => ⟨u, c1, c, Blk.cells b11, ?_⟩⟩
              · rw [w64s hn1.2.2]
                refine ih2 (q + 1) true hn1.1 hn1.2.1 ⟨fun _ => ?_, fun _ => rfl⟩
                rw [tk_snoc hu', List.mem_append]
                exact (hbb.1 g3).imp id .inl
              · rw [w64s hn1.2.2]
                refine ih2 (q + 1) _ hn1.1 hn1.2.1 ?_
                rw [cel_eq, tk_snoc hu', List.mem_append, List.mem_singleton]
                constructor
                · intro e; exact .inr (.inr e.symm)
                · rintro (e | e | e)
                  · rw [hbb.2 (.inl e)] at g3; cases g3
                  · rw [hbb.2 (.inr e)] at g3; cases g3
                  · exact e.symm
            · have g2 := of_decide_eq_false g2
              have hqi : q = i := by omega
              subst hqi
              have hgl := get_len (S := toD Z) (by omega) c
              refine ⟨c, Blk.cells b11, versions_spec z11 (sort_toD hok.sort) hZ fun r h23 w23 e23 => ⟨fun g3 => ?_, fun g3 => newest_spec w23 (by omega) ?_⟩⟩
              · unfold F.xac.j6
                refine ⟨fun _ => next _ h23 ?_ e23, fun g => by cases g⟩
                by_cases hm : c ∈ L.take q
                · rw [hsn.1 hm]
                · rw [hsn.2 hm, need_bad ((hbb.1 g3).resolve_right hm)]; omega
              · have hno : ¬ (okC c ≠ 0 ∨ c ∈ L.take q) := fun h => by rw [hbb.2 h] at g3; cases g3
                have hok0 : okC c = 0 := Classical.not_not.1 fun h => hno (.inl h)
                have hnm : c ∉ L.take q := fun h => hno (.inr h)
                have hsn2 := hsn.2 hnm
                unfold F.xac.j6
                refine ⟨fun g4 => next _ h23 ?_ e23, fun g4 => ?_⟩
                · have g4 := of_decide_eq_true g4
                  rw [hsn2, need_old he g4]; omega
                · have g4 := of_decide_eq_false g4
                  have hnu := need_units hok (a := zA) hok0 g4
                  have hll := lay_len ((getS (toD Z) c).getD []) ⟨e, zA, false⟩
                  have hlr := layN_range ((getS (toD Z) c).getD []) ⟨e, zA, false⟩
                  unfold F.xac.j5
                  refine with_spec (v := ⟨e, zA, false⟩) w23 hgl.1 fun r25 h25 w25 m25 e25 => units7_spec w25 (by omega) (units7_spec (w23.ext e25) (by omega) ?_)
                  refine next _ h25 ?_ (e23.trans e25)
                  have hub : unitsV (C.layM ((getS (toD Z) c).getD []) ⟨e, zA, false⟩) <= 1048579 := by unfold unitsV; split <;> omega
                  rw [w64 (n := needT (toD Z) e (L.take q) + ((unitsV (C.layM ((getS (toD Z) c).getD []) ⟨e, zA, false⟩) : Nat) : Int)) (by omega) (by omega), w64 (by omega) (by omega), hsn2]
                  omega
        refine inner _ 0 _ (by omega) (by omega) ?_
        simp
      · have g := of_decide_eq_false g
        have : i = L.length := by omega
        subst this
        rw [List.take_length]; exact k hh ex
  have := loop (L.length + 1) 0 h (by omega) (by omega) (.refl _)
  rw [List.take_zero, needT_nil] at this
  exact this
theorem Fits7_spec {e : Int} {s : Sl} {L : List Cel} {Q : Bool -> H -> Prop} (z : DZ h d Z slots x) (hok : SOk (toD Z)) (hu : unitsS (toD Z) <= slots) (hsl : slots <= 1048576) (he : 0 <= e) (rd : Reads h s 3 (L.flatMap S_api_Cell.cells)) (hL : L.length <= 1000000)
    (k : ∀ h', Ext h h' -> Q (decide ((unitsS (toD Z) : Int) + needT (toD Z) e L <= slots)) h') : F.xdr (some ⟨d, 0, none⟩) e s h Q := by
  have hZ : Z.length <= 1048576 := by have := len_units hok; rw [toD_len] at this; omega
  unfold F.xdr
  simp only [nn_some, add_lit, Nat.zero_add, Nat.add_zero]
  rw [ldI_iff z.cs0]
  refine Units7_spec z hZ (by omega) ⟨z.cs0, Need7_spec z hok hu hsl he rd hL fun h8 e8 => ⟨(z.ext e8).cs0, ?_⟩⟩
  have hr1 := needD_range (toD Z) e (ddL L)
  have hdl := dd_len L
  have hnT : needT (toD Z) e L = needD (toD Z) e (ddL L) := rfl
  rw [w64 (by omega) (by omega)]
  exact k h8 e8
theorem range_snoc7 {i : Nat} {r : DR} (hr : Z[i]? = some r) (e : Int) (fr to : Cel) : rangeS (toD (Z.take (i + 1))) e fr to = rangeS (toD (Z.take i)) e fr to ++ (if inS e fr to (r.c, r.vs) then [rowS e (r.c, r.vs)] else []) := by
  rw [toD_snoc hr]
  unfold rangeS
  rw [List.filter_append, List.map_append]
  congr 1
  cases hi : inS e fr to (r.c, r.vs) <;> simp [hi]
theorem range_pre7 (Z : List DR) (e : Int) (fr to : Cel) (i : Nat) : ∃ t, rangeS (toD (Z.take i)) e fr to ++ t = rangeS (toD Z) e fr to := by
  refine ⟨rangeS (toD (Z.drop i)) e fr to, ?_⟩
  unfold rangeS toD
  rw [← List.map_append, ← List.filter_append, ← List.map_append, List.take_append_drop]
theorem range_len7 (S : SL) (e : Int) (fr to : Cel) : (rangeS S e fr to).length <= S.length := by
  unfold rangeS
  rw [List.length_map]
  exact List.length_filter_le _ _
theorem Range7_spec {e most : Int} {fr to : Cel} {Q : Sl -> H -> Prop} (z : DZ h d Z slots x) (hok : SOk (toD Z)) (hu : unitsS (toD Z) <= slots) (hsl : slots <= 1048576)
    (k : ∀ r h', Owns h' r tn_api_Row 7 (((rangeS (toD Z) e fr to).take most.toNat).flatMap cW) -> Mine h r -> Ext h h' -> Q r h') : F.xag (some ⟨d, 0, none⟩) e fr to most h Q := by
  have hZ : Z.length <= 1048576 := by have := len_units hok; rw [toD_len] at this; omega
  have hl := own_len hR_len (by omega) z.row
  unfold F.xag
  refine new_of fun m2 h1 hm2 b2 e1 s1 => new_of fun m4 h3 hm4 b4 e3 s3 => ⟨Z.length + 1, ?_⟩
  have e13 := e1.trans e3
  have b23 : Blk h3 m2 fr.cells.toArray tn_api_Cell := e3.block b2 fun f => f
  have b43 : Blk h3 m4 to.cells.toArray tn_api_Cell := b4
  have loop : ∀ (n i : Nat) (o : Sl) (hh : H), i <= Z.length -> Z.length - i < n -> Ext h3 hh -> Owns hh o tn_api_Row 7 ((rangeS (toD (Z.take i)) e fr to).flatMap cW) -> Mine h3 o -> (rangeS (toD (Z.take i)) e fr to).length <= most.toNat -> F.xag.l1 Q n (some ⟨d, 0, none⟩) e most ⟨m2, 0, none⟩ ⟨m4, 0, none⟩ o (i : Int) hh := by
    intro n
    induction n with
    | zero => intro i _ _ _ hm; omega
    | succ n ih =>
      intro i o hh hi hm ex wo mo hmo
      have e0 := e13.trans ex
      have zz := z.ext e0
      have hol := own_len cW_len (by omega) wo
      have hrl := range_len7 (toD (Z.take i)) e fr to
      rw [toD_len, List.length_take] at hrl
      have mh : Mine h o := mo.older e13
      unfold F.xag.l1
      simp only [nn_some, add_lit, Nat.zero_add]
      rw [ldL_iff zz.cs1, hl, hol]
      have stop : ((rangeS (toD (Z.take i)) e fr to).take most.toNat = (rangeS (toD Z) e fr to).take most.toNat) -> ∀ (C1 : (Option Addr) -> Int -> Int -> Addr -> Addr -> Sl -> Int -> H -> Prop), F.xag.j5 Q C1 (some ⟨d, 0, none⟩) e most ⟨m2, 0, none⟩ ⟨m4, 0, none⟩ o (i : Int) false hh := fun hst C1 => by
        unfold F.xag.j5
        refine ⟨fun g => (by cases g), fun _ => k o hh ?_ mh e0⟩
        rw [← hst, List.take_of_length_le hmo]; exact wo
      refine ⟨fun g => ?_, fun g => ?_⟩
      · have g := of_decide_eq_true g
        by_cases hmost : ((rangeS (toD (Z.take i)) e fr to).length : Int) < most
        · rw [decide_eq_true hmost]
          obtain ⟨r, hr⟩ : ∃ r, Z[i]? = some r := ⟨_, List.getElem?_eq_getElem (by omega)⟩
          have hrz := List.mem_of_getElem? hr
          have hvo := (hok.ok (r.c, r.vs) (List.mem_map.2 ⟨r, hrz, rfl⟩)).2
          have hsn := range_snoc7 hr e fr to
          unfold F.xag.j5 F.xag.j2
          refine ⟨fun _ => ?_, fun g => by cases g⟩
          simp only [nn_some, add_lit, Nat.zero_add]
          rw [ldL_iff zz.cs1]
          refine heldAt zz.row.reads hr fun a ca _ => ⟨r.c, ca, new_of fun p h13 hp b13 e13' s13 => ?_⟩
          have b13' : Blk h13 p zeroC.cells.toArray tn_api_Cell := b13
          refine st_cel b13' (d := r.c) fun h15 b15 o15 s15 => ?_
          have e15 : Ext hh h15 := e13'.step o15 fun y hy hb => by omega
          have z15 := zz.ext e15
          refine ldL_of z15.cs1 (heldAt z15.row.reads hr fun a2 _ c32 => ldL_of c32 (at7_spec (z15.vs r hrz) (DZ.vlen (by omega) hrz) hvo.dead fun h24 e24 => new_of fun q h27 hq b27 e27 s27 => ?_))
          have b27' : Blk h27 q zA.cells.toArray tn_api_Agg := b27
          refine C.st_agg (d := (atV r.vs e).1) b27' fun h29 b29 o29 s29 => ?_
          have e29 : Ext h15 h29 := (e24.trans e27).step o29 fun y hy hb => by have := e24.size; omega
          have e0029 := e15.trans e29
          have bc : Blk h29 p r.c.cells.toArray tn_api_Cell := e29.block b15 fun f => f
          have x29 := ex.trans e0029
          have bfr : Blk h29 m2 fr.cells.toArray tn_api_Cell := x29.block b23 fun f => f
          have bto : Blk h29 m4 to.cells.toArray tn_api_Cell := x29.block b43 fun f => f
          have wo29 := wo.ext e0029
          have j4 : ∀ (bb : Bool) (h' : H), Ext h29 h' -> bb = inS e fr to (r.c, r.vs) -> F.xag.j4 Q (F.xag.l1 Q n) (some ⟨d, 0, none⟩) e most ⟨m2, 0, none⟩ ⟨m4, 0, none⟩ o (i : Int) ⟨p, 0, none⟩ ⟨q, 0, none⟩ bb h' := fun bb h' e' hbb => by
            unfold F.xag.j4 F.xag.j3
            have xx := x29.trans e'
            refine ⟨fun gb => ?_, fun gb => ?_⟩
            · have bc' : Blk h' p r.c.cells.toArray tn_api_Cell := e'.block bc fun f => f
              have ba' : Blk h' q (atV r.vs e).1.cells.toArray tn_api_Agg := e'.block b29 fun f => f
              refine ⟨r.c, Blk.cells bc', (atV r.vs e).1, Blk.cells ba', ?_⟩
              refine push_mine (x := rowS e (r.c, r.vs)) (h0 := h3) xx mo cW_len (by omega) el_Slapi_Row (wo29.ext e') (fun x => ones_S_api_Row x) (by omega) fun r2 h37 w37 e37 m37 _ _ => ?_
              rw [w64s (by omega)]
              rw [← hbb, gb, if_pos rfl] at hsn
              refine ih (i + 1) r2 h37 (by omega) (by omega) e37 (by rw [hsn]; exact w37) m37 ?_
              rw [hsn, List.length_append, List.length_singleton]; omega
            · rw [← hbb, gb] at hsn
              simp only [Bool.false_eq_true, if_false, List.append_nil] at hsn
              rw [w64s (by omega)]
              exact ih (i + 1) o h' (by omega) (by omega) xx (by rw [hsn]; exact wo29.ext e') mo (by rw [hsn]; exact hmo)
          have hin : inS e fr to (r.c, r.vs) = ((atV r.vs e).2 && (decide (cmpC fr r.c <= 0) && decide (cmpC r.c to < 0))) := rfl
          have hng : ∀ {a b : Cel}, (!decide (cmpC a b = -1)) = decide (cmpC b a <= 0) := fun {a b} => by
            rw [← decide_not, decide_eq_decide]
            have := cC_anti a b; have := cC_range a b
            omega
          have hlt : ∀ {a b : Cel}, decide (cmpC a b = -1) = decide (cmpC a b < 0) := fun {a b} => by
            rw [decide_eq_decide]
            have := cC_range a b
            omega
          refine ⟨fun g2 => ⟨r.c, Blk.cells bc, fr, Blk.cells bfr, Less_spec fun h44 e44 => ⟨fun g3 => ?_, fun g3 => j4 _ h44 e44 ?_⟩⟩, fun g2 => j4 _ h29 (.refl _) ?_⟩
          · have bc44 : Blk h44 p r.c.cells.toArray tn_api_Cell := e44.block bc fun f => f
            have bto44 : Blk h44 m4 to.cells.toArray tn_api_Cell := e44.block bto fun f => f
            refine ⟨r.c, Blk.cells bc44, to, Blk.cells bto44, Less_spec fun h51 e51 => j4 _ h51 (e44.trans e51) ?_⟩
            rw [hng] at g3
            rw [hin, g2, g3, hlt, Bool.true_and, Bool.true_and]
          · rw [hng] at g3
            rw [hin, g3, Bool.false_and, Bool.and_false]
          · rw [hin, g2, Bool.false_and]
        · rw [decide_eq_false hmost]
          refine stop ?_ _
          obtain ⟨t, ht⟩ := range_pre7 Z e fr to i
          rw [← ht, List.take_append_of_le_length (by omega)]
      · have g := of_decide_eq_false g
        have hil : i = Z.length := by omega
        refine stop ?_ _
        rw [hil, List.take_length]
  exact loop _ 0 _ h3 (by omega) (by omega) (.refl _) (by simpa [rangeS, toD] using Owns.nil h3 tn_api_Row 7) (Mine.nil _ _ _) (by simp [rangeS, toD])
end
theorem step_agg {h : H} {a : Addr} {x : S_spatelaw7_Step} (c : Cells h a x.cells) : Cells h (a.add 5) x.Agg.cells := fun i v hv => by
  have hi : i < 4 := (List.getElem?_eq_some_iff.1 hv).1
  have e : (a.add 5).add i = a.add (5 + i) := by simp [Addr.add, Nat.add_assoc]
  rw [e]
  exact c (5 + i) v (by
    match i, hi, hv with
    | 0, _, hv => exact hv
    | 1, _, hv => exact hv
    | 2, _, hv => exact hv
    | 3, _, hv => exact hv)
theorem step_to {h : H} {a : Addr} {x : S_spatelaw7_Step} (c : Cells h a x.cells) : Cells h (a.add 11) x.To.cells := fun i v hv => by
  have hi : i < 3 := (List.getElem?_eq_some_iff.1 hv).1
  have e : (a.add 11).add i = a.add (11 + i) := by simp [Addr.add, Nat.add_assoc]
  rw [e]
  exact c (11 + i) v (by
    match i, hi, hv with
    | 0, _, hv => exact hv
    | 1, _, hv => exact hv
    | 2, _, hv => exact hv)
theorem SOnly.kp {R : Nat -> Prop} {h h' : H} (o : SOnly R h h') {m : Nat} {c : Array Value} {e : TypeId} (b : Blk h m c e) (he : ¬ ShE e) : Blk h' m c e := o.block b fun hh => not_sh b he hh.2
theorem step_sh : ¬ ShE tn_spatelaw7_Step := by unfold ShE; decide
theorem small_spec {h0 h : H} {y : St} {Q : Bool -> H -> Prop} (yok : StOk h0 y) (k : ∀ h', Ext h h' -> Q (decide (y.C.length <= 100 ∧ y.E.length <= 100)) h') : F.xcx y.x h Q := by
  have hc := rd_len cC_len (by omega) yok.rc
  have he := rd_len cI_len (by omega) yok.re
  unfold F.xcx
  refine new_of fun m h1 hm b1 e1 s1 => ?_
  have c9 : cellH h1 ⟨m, 9, none⟩ = some y.x.Cells.enc := Blk.cells b1 9 _ rfl
  have c10 : cellH h1 ⟨m, 10, none⟩ = some y.x.Held.enc := Blk.cells b1 10 _ rfl
  have k := k h1 e1
  simp only [add_lit, Nat.zero_add]
  rw [ldL_iff c9, hc]
  refine ⟨fun g => ?_, fun g => ?_⟩
  · rw [ldL_iff c10, he]
    have g := of_decide_eq_true g
    rw [show decide (y.C.length <= 100 ∧ y.E.length <= 100) = decide ((y.E.length : Int) <= 100) by rw [decide_eq_decide]; omega] at k
    exact k
  · have g := of_decide_eq_false g
    rw [decide_eq_false (by omega)] at k
    exact k
section
variable {base h : H} {n d : Nat} {S : SL} {slots : Nat}
structure PR (base h : H) (n d : Nat) (S : SL) (slots : Nat) : Prop where
  sh : SH h n S slots (fun b => base.size <= b)
  dh : DH h d S slots
  hd : base.size <= d
  e : Ext base h
theorem PR.ext {h' : H} (p : PR base h n d S slots) (x : Ext h h') : PR base h' n d S slots := ⟨p.sh.ext x, p.dh.ext x, p.hd, p.e.trans x⟩
theorem PR.fresh (p : PR base h n d S slots) : ∀ b, h.size <= b -> base.size <= b := fun b hb => by have := p.e.size; omega
theorem PR.turn {h' : H} {S' : SL} (p : PR base h n d S slots) (s : SH h' n S' slots (fun b => base.size <= b)) (o : SOnly (fun b => base.size <= b) h h') : DH h' d S slots ∧ Ext base h' := ⟨p.dh.sonly o, p.e.step o fun b hb hh => by have := hh.1; omega⟩
theorem PR.doc {h' : H} {S' : SL} (s : SH h n S' slots (fun b => base.size <= b)) (z : DH h d S slots) (z' : DH h' d S' slots) (hd : base.size <= d) (e : Ext base h) (o : Only (· = d) h h') : PR base h' n d S' slots :=
  ⟨s.doc z o, z', hd, e.step o fun b hb hh => by omega⟩
theorem PR.oth {h' : H} (p : PR base h n d S slots) {b : Nat} {c : Array Value} {t : TypeId} (o : Only (· = b) h h') (hb : Blk h b c t) (h1 : ¬ ShE t) (h2 : t ≠ tS7 ∧ t ≠ tH7 ∧ t ≠ tV7) (hbb : base.size <= b) : PR base h' n d S slots :=
  ⟨p.sh.keep o fun x _ ht e => by subst e; exact not_sh hb h1 ht, p.dh.keep o fun x ht e => by
    subst e
    obtain ⟨e', c', he', hb'⟩ := ht
    have := hb.symm.trans hb'
    simp at this
    rcases he' with rfl | rfl | rfl
    · exact h2.1 this.2
    · exact h2.2.1 this.2
    · exact h2.2.2 this.2, p.hd, p.e.step o fun x hx e => by omega⟩
theorem asked_spec {y : St} {Q : Bool -> H -> Prop} (p : PR base h n d S slots) (yok : StOk base y) (hc100 : y.C.length <= 100) (he100 : y.E.length <= 100) (k : ∀ h' S', PR base h' n d S' slots -> Q true h') : F.xap (some ⟨n, 0, none⟩) (some ⟨d, 0, none⟩) y.x h Q := by
  have us := p.sh.us
  have hok := p.sh.ok
  unfold F.xap
  refine new_of fun m h1 hm b1 e1 s1 => ?_
  have p1 := p.ext e1
  have cs1 := Blk.cells b1
  have hmb : ∀ {hh : H}, Ext h1 hh -> Blk hh m y.x.cells.toArray tn_spatelaw7_Step := fun e => e.block b1 fun f => f
  have k0 : cellH h1 ⟨m, 0, none⟩ = some (.int .i64 y.x.Kind) := cs1 0 _ rfl
  have num : ∀ {hh : H}, Blk hh m y.x.cells.toArray tn_spatelaw7_Step -> cellH hh ⟨m, 1, none⟩ = some (.int .i64 y.x.Epoch) ∧ cellH hh ⟨m, 9, none⟩ = some y.x.Cells.enc ∧ cellH hh ⟨m, 10, none⟩ = some y.x.Held.enc ∧ cellH hh ⟨m, 14, none⟩ = some (.int .i64 y.x.Most) ∧ Cells hh ⟨m, 2, none⟩ y.x.Cell.cells ∧ Cells hh ⟨m, 5, none⟩ y.x.Agg.cells ∧ Cells hh ⟨m, 11, none⟩ y.x.To.cells := fun b =>
    have cs := Blk.cells b
    ⟨cs 1 _ rfl, cs 9 _ rfl, cs 10 _ rfl, cs 14 _ rfl, by have := step_cel cs; rwa [add_lit, Nat.zero_add] at this, by have := step_agg cs; rwa [add_lit, Nat.zero_add] at this, by have := step_to cs; rwa [add_lit, Nat.zero_add] at this⟩
  simp only [add_lit, Nat.zero_add, Nat.add_zero]
  refine ldI_of k0 ⟨fun _ => ?_, fun _ => ⟨fun _ => ?_, fun _ => ⟨fun _ => ?_, fun _ => ⟨fun _ => ?_, fun _ => ⟨fun _ => ?_, fun _ => ⟨fun _ => ?_, fun _ => k h1 S p1⟩⟩⟩⟩⟩⟩
  · -- put
    obtain ⟨q1, q9, q10, q14, q2, q5, q11⟩ := num b1
    refine ⟨y.x.Cell, q2, y.x.Agg, q5, new_of fun r h10 hr b10 e10 s10 => ?_⟩
    have b10' : Blk h10 r (cW (⟨zeroC, zA⟩ : Rw)).toArray tn_api_Row := b10
    refine stH_of (vs := cW (⟨y.x.Cell, y.x.Agg⟩ : Rw)) b10' (Nat.le_refl 7) fun h12 b12 o12 s12 => ?_
    rw [writeA_all (by rfl)] at b12
    have e12 : Ext h1 h12 := e10.step o12 fun x hx hb => by omega
    have p12 := p1.ext e12
    have m12 := hmb e12
    obtain ⟨w1, _⟩ := num m12
    refine ldI_of w1 ⟨(⟨y.x.Cell, y.x.Agg⟩ : Rw), Blk.cells b12, ldI_of w1 ⟨(⟨y.x.Cell, y.x.Agg⟩ : Rw), Blk.cells b12, ?_⟩⟩
    obtain ⟨a1, a2, a3, a4⟩ := yok.agg
    have rt := right_all (a := y.x.Agg) a1 a2 a3 a4
    refine Put_spec (x := ⟨y.x.Cell, y.x.Agg⟩) p12.sh rt p12.fresh (fun hne h21 e21 => ⟨(Blk.cells b12).ext e21, e21.cell w1 fun f => f, ?_⟩) fun h0 h21 s21 o21 => ⟨?_, ?_, ?_⟩
    · have p21 := p12.ext e21
      obtain ⟨x, Z, hZS, z⟩ := id p21.dh
      subst hZS
      refine Put7_spec (r := ⟨y.x.Cell, y.x.Agg⟩) z hok us.1 us.2 a1 a2 a3 a4 (fun _ h25 e25 => ?_) fun h0 => absurd h0 hne
      have := k h25 _ (p21.ext e25)
      simpa using this
    · exact Blk.cells (o21.kp b12 row_sh)
    · exact (num (o21.kp m12 step_sh)).1
    · obtain ⟨dh21, e021⟩ := p12.turn s21 o21
      have hd := p.hd
      obtain ⟨x, Z, hZS, z⟩ := id dh21
      subst hZS
      refine Put7_spec (r := ⟨y.x.Cell, y.x.Agg⟩) z hok us.1 us.2 a1 a2 a3 a4 (fun hne => absurd h0 hne) fun _ h25 dh25 o25 => ?_
      exact k h25 _ (PR.doc s21 dh21 dh25 hd e021 o25)
  · -- kill
    obtain ⟨q1, q9, q10, q14, q2, q5, q11⟩ := num b1
    refine ldI_of q1 ⟨y.x.Cell, q2, ldI_of q1 ⟨y.x.Cell, q2, ?_⟩⟩
    refine Kill_spec p1.sh p1.fresh (fun hne h36 e36 => ⟨q2.ext e36, e36.cell q1 fun f => f, ?_⟩) fun h0 h36 s36 o36 => ⟨?_, ?_, ?_⟩
    · have p36 := p1.ext e36
      obtain ⟨x, Z, hZS, z⟩ := id p36.dh
      subst hZS
      refine Kill7_spec z hok us.1 us.2 (fun _ h40 e40 => ?_) fun h0 => absurd h0 hne
      have := k h40 _ (p36.ext e40)
      simpa using this
    · exact (num (o36.kp b1 step_sh)).2.2.2.2.1
    · exact (num (o36.kp b1 step_sh)).1
    · obtain ⟨dh36, e036⟩ := p1.turn s36 o36
      have hd := p.hd
      obtain ⟨x, Z, hZS, z⟩ := id dh36
      subst hZS
      refine Kill7_spec z hok us.1 us.2 (fun hne => absurd h0 hne) fun _ h40 dh40 o40 => ?_
      exact k h40 _ (PR.doc s36 dh36 dh40 hd e036 o40)
  · -- pruned
    obtain ⟨q1, q9, q10, q14, q2, q5, q11⟩ := num b1
    rw [ldL_iff q10]
    refine LendI_spec (yok.re.ext p1.e) (by omega) fun b c h45 w45 hb45 e45 => ?_
    have p45 := p1.ext e45
    have hsz := p1.e.size
    have bl45 : ∃ c', Blk h45 b c' tn_int := own_typ w45 rfl
    obtain ⟨c', bl45⟩ := bl45
    refine Prune_spec p45.sh (LentI.reads w45).reads (by omega) (fun _ x hx => ?_) p45.fresh fun h47 s47 o47 => ?_
    · have hx : b = x := by simpa [Sl.blk] using hx
      subst hx
      exact ⟨block_lt bl45, fun hh => not_sh bl45 int_sh hh.2⟩
    obtain ⟨dh47, e047⟩ := p45.turn s47 o47
    have hd := p.hd
    have m47 := o47.kp (hmb e45) step_sh
    rw [ldL_iff (num m47).2.2.1]
    obtain ⟨x, Z, hZS, z⟩ := id dh47
    subst hZS
    refine Prune7_spec z hok us.1 us.2 (yok.re.ext e047) (by omega) fun h51 dh51 o51 => ⟨fun _ => ?_, fun g => by simp at g⟩
    have p51 := PR.doc s47 dh47 dh51 hd e047 o51
    have hdl := dh47.typ
    obtain ⟨cd, hcd⟩ := hdl
    have m51 : Blk h51 m y.x.cells.toArray tn_spatelaw7_Step := o51.block m47 fun e => by
      subst e
      have := hcd.symm.trans m47
      simp at this
      exact absurd this.2 (by decide)
    rw [ldL_iff (num m51).2.2.1]
    have w47 := o47.owns w45 int_sh
    have w51 : LentI h51 b c y.E := w47.only o51 fun b' hb' e => by
      subst e
      exact own_neG w47 hcd (by decide) hb'
    obtain ⟨c51, bl51⟩ : ∃ c', Blk h51 b c' tn_int := own_typ w51 rfl
    refine KeptInts_spec w51 (yok.re.ext p51.e) (fun hne hb' => ?_) (by omega) fun h56 o56 => ?_
    · have := yok.be hne b hb'
      omega
    · exact k h56 _ (p51.oth o56 bl51 int_sh (by decide) (by omega))
  · -- told
    obtain ⟨q1, q9, q10, q14, q2, q5, q11⟩ := num b1
    refine ⟨y.x.Cell, q2, y.x.Cell, q2, Get_spec p1.sh fun h63 e63 => ⟨q2.ext e63, ?_⟩⟩
    have p63 := p1.ext e63
    obtain ⟨x, Z, hZS, z⟩ := id p63.dh
    subst hZS
    have hZ : Z.length <= 1048576 := by have := len_units hok; rw [toD_len] at this; omega
    refine At7_spec z hok hZ (by omega) fun h66 e66 => ⟨fun _ => ?_, fun g => by rw [agg_same] at g; cases g⟩
    have p66 := p63.ext e66
    obtain ⟨v1, v9, v10, v14, v2, v5, v11⟩ := num (hmb (e63.trans e66))
    refine ⟨y.x.Cell, v2, ldI_of v1 ⟨y.x.Cell, v2, ldI_of v1 (At_spec p66.sh fun h77 e77 => ⟨e77.cell v1 fun f => f, v2.ext e77, At7_spec ((z.ext e66).ext e77) hok hZ (by omega) fun h81 e81 => ?_⟩)⟩⟩
    rw [agg_same]
    exact k h81 _ ((p66.ext e77).ext e81)
  · -- what cells would take
    obtain ⟨q1, q9, q10, q14, q2, q5, q11⟩ := num b1
    have hsz := p1.e.size
    have go : (1 <= y.x.Epoch) -> F.xap.j1 Q (some ⟨n, 0, none⟩) (some ⟨d, 0, none⟩) ⟨m, 0, none⟩ h1 := fun hep => by
      unfold F.xap.j1
      simp only [add_lit, Nat.zero_add]
      rw [ldL_iff q9]
      refine LendCells_spec (yok.rc.ext p1.e) (by omega) fun b c h86 w86 hb86 e86 => ?_
      have p86 := p1.ext e86
      obtain ⟨v1, _⟩ := num (hmb e86)
      refine ldI_of v1 (Need_spec p86.sh (LentC.reads w86).reads (by omega) fun h90 e90 => ?_)
      have p90 := p86.ext e90
      have m90 := hmb (e86.trans e90)
      rw [ldL_iff (num m90).2.1]
      have w90 : LentC h90 b c y.C := Owns.ext w86 e90
      obtain ⟨c90, bl90⟩ : ∃ c', Blk h90 b c' tn_api_Cell := own_typ w90 rfl
      refine KeptCells_spec w90 (yok.rc.ext p90.e) (fun hne hb' => by have := yok.bc hne b hb'; omega) (by omega) fun h116 o116 => ⟨fun g => (by cases g), fun _ => ?_⟩
      have p116 := p90.oth o116 bl90 cel_sh (by decide) (by omega)
      have hmne : ∀ {hh : H} {b' : Nat} {c' : Array Value}, Blk hh m y.x.cells.toArray tn_spatelaw7_Step -> Blk hh b' c' tn_api_Cell -> m ≠ b' := fun h1 h2 e => by
        subst e
        have := h1.symm.trans h2
        simp at this
        exact absurd this.2 (by decide)
      have m116 : Blk h116 m y.x.cells.toArray tn_spatelaw7_Step := o116.block m90 (hmne m90 bl90)
      refine ldI_of (num m116).1 ?_
      rw [ldL_iff (num m116).2.1]
      obtain ⟨x, Z, hZS, z⟩ := id p116.dh
      subst hZS
      refine Need7_spec z hok us.1 us.2 (by omega) (yok.rc.ext p116.e) (by omega) fun h123 e123 => ?_
      have p123 := p116.ext e123
      have m123 : Blk h123 m y.x.cells.toArray tn_spatelaw7_Step := e123.block m116 fun f => f
      unfold F.xap.j3
      refine ⟨fun g => by simp at g, fun _ => ?_⟩
      unfold F.xap.j2
      simp only [add_lit, Nat.zero_add]
      rw [ldL_iff (num m123).2.1]
      refine LendCells_spec (yok.rc.ext p123.e) (by omega) fun b2 c2 h94 w94 hb94 e94 => ?_
      have p94 := p123.ext e94
      have m94 : Blk h94 m y.x.cells.toArray tn_spatelaw7_Step := e94.block m123 fun f => f
      refine ldI_of (num m94).1 (ldI_of (num m94).1 ?_)
      rw [ldL_iff (num m94).2.1]
      refine Fits_spec p94.sh (LentC.reads w94).reads (by omega) fun h102 e102 => ⟨e102.cell (num m94).2.1 fun f => f, e102.cell (num m94).1 fun f => f, ?_⟩
      have p102 := p94.ext e102
      refine Fits7_spec (((z.ext e123).ext e94).ext e102) hok us.1 us.2 (by omega) (yok.rc.ext p102.e) (by omega) fun h106 e106 => ⟨fun _ => ?_, fun g => by simp at g⟩
      have p106 := p102.ext e106
      have m106 : Blk h106 m y.x.cells.toArray tn_spatelaw7_Step := (e102.trans e106).block m94 fun f => f
      rw [ldL_iff (num m106).2.1]
      have w106 : LentC h106 b2 c2 y.C := Owns.ext w94 (e102.trans e106)
      obtain ⟨c106, bl106⟩ : ∃ c', Blk h106 b2 c' tn_api_Cell := own_typ w106 rfl
      have hsz2 := p123.e.size
      refine KeptCells_spec w106 (yok.rc.ext p106.e) (fun hne hb' => by have := yok.bc hne b2 hb'; omega) (by omega) fun h111 o111 => ?_
      exact k h111 _ (p106.oth o111 bl106 cel_sh (by decide) (by omega))
    refine ldI_of q1 ⟨fun g => ?_, fun g => ldI_of q1 ?_⟩
    · unfold F.xap.j4
      exact ⟨fun _ => k h1 S p1, fun g => by cases g⟩
    · have g := of_decide_eq_false g
      unfold F.xap.j4
      exact ⟨fun _ => k h1 S p1, fun _ => go (by omega)⟩
  · -- a range
    obtain ⟨q1, q9, q10, q14, q2, q5, q11⟩ := num b1
    refine ldI_of q1 ⟨y.x.Cell, q2, y.x.To, q11, ldI_of q14 (ldI_of q1 ⟨y.x.Cell, q2, y.x.To, q11, ldI_of q14 (Range_spec p1.sh fun r h148 w148 m148 e148 => ⟨e148.cell q14 fun f => f, q11.ext e148, q2.ext e148, e148.cell q1 fun f => f, ?_⟩)⟩)⟩
    have p148 := p1.ext e148
    obtain ⟨x, Z, hZS, z⟩ := id p148.dh
    subst hZS
    refine Range7_spec z hok us.1 us.2 fun r2 h154 w154 m154 e154 => ?_
    have hrl := range_len7 (toD Z) y.x.Epoch y.x.Cell y.x.To
    have hlu := len_units hok
    refine SameRows_spec (w148.ext e154).reads w154.reads (by rw [List.length_take]; omega) (fun _ => k h154 _ (p148.ext e154)) fun hne => absurd rfl hne
end
theorem ShardRanges_spec {slots0 : Int} {l l2 : Sl} {L L2 : List St} {h : H} {Q : Bool -> H -> Prop} (rd : Reads h l 15 (L.flatMap fun y => y.x.cells)) (ok : ∀ y ∈ L, StOk h y) (hL : L.length <= 9223372036854775807)
    (rd2 : Reads h l2 15 (L2.flatMap fun y => y.x.cells)) (ok2 : ∀ y ∈ L2, StOk h y) (hL2 : L2.length <= 9223372036854775807) (k : ∀ h', Ext h h' -> Q true h') : F.xab slots0 l l2 h Q := by
  have hl := rd_len (f := fun y : St => y.x.cells) step_len (by omega) rd
  have hl2 := rd_len (f := fun y : St => y.x.cells) step_len (by omega) rd2
  -- made, of them both
  have made : ∀ {K : (Option Addr) -> (Option Addr) -> H -> Prop}, K none none h -> (∀ h' n d S slots, PR h h' n d S slots -> K (some ⟨n, 0, none⟩) (some ⟨d, 0, none⟩) h') -> F.xaf slots0 l h K := fun {K} kn ks => by
    unfold F.xaf
    refine New_spec (R := fun b => h.size <= b) (fun g => ?_) (fun b hb => hb) fun g1 g2 h1 nd sh1 e1 hnd => ?_
    · refine New7_spec (fun _ => ⟨1, ?_⟩) fun g1 g2 => by omega
      unfold F.xaf.l1 F.xaf.j5
      exact ⟨fun _ => ⟨fun _ => ⟨fun g => by simp at g, fun _ => kn⟩, fun _ => ⟨fun g => (by cases g), fun _ => kn⟩⟩, fun _ => ⟨fun g => (by cases g), fun _ => kn⟩⟩
    refine New7_spec (fun g => by omega) fun _ _ h4 d dh4 e4 hd => ⟨L.length + 1, ?_⟩
    have hz1 := e1.size
    generalize slots0.toNat = slots at sh1 dh4
    have steps : ∀ (fu i : Nat) (S : SL) (hh : H), i <= L.length -> L.length - i < fu -> PR h hh nd d S slots -> F.xaf.l1 K fu l (some ⟨nd, 0, none⟩) (some ⟨d, 0, none⟩) (i : Int) hh := by
      intro fu
      induction fu with
      | zero => intro i _ _ _ hm; omega
      | succ fu ih =>
        intro i S hh hi hm p
        unfold F.xaf.l1
        rw [hl]
        have done : ∀ (C1 : Sl -> (Option Addr) -> (Option Addr) -> Int -> H -> Prop), F.xaf.j5 K C1 l (some ⟨nd, 0, none⟩) (some ⟨d, 0, none⟩) (i : Int) false hh := fun C1 => by
          unfold F.xaf.j5
          exact ⟨fun g => (by cases g), fun _ => ks hh nd d S slots p⟩
        refine ⟨fun gg => ⟨fun g100 => ?_, fun _ => done _⟩, fun _ => done _⟩
        have gg := of_decide_eq_true gg
        have g100 := of_decide_eq_true g100
        obtain ⟨y, hy⟩ : ∃ y, L[i]? = some y := ⟨_, List.getElem?_eq_getElem (by omega)⟩
        have yok := ok y (List.mem_of_getElem? hy)
        have next : ∀ (h' : H) (S' : SL), PR h h' nd d S' slots -> F.xaf.j3 K (F.xaf.l1 K fu) l (some ⟨nd, 0, none⟩) (some ⟨d, 0, none⟩) (i : Int) h' := fun h' S' p' => by
          unfold F.xaf.j3
          rw [w64s (by omega)]
          exact ih (i + 1) S' h' (by omega) (by omega) p'
        unfold F.xaf.j5 F.xaf.j2 F.xaf.j4
        refine ⟨fun _ => step_num rd p.e hy fun a ca => ldI_of (show cellH hh (a.add 0) = some (.int .i64 y.x.Kind) from ca 0 _ rfl) ⟨fun _ => ?_, fun _ => ⟨fun g => (by cases g), fun _ => next hh S p⟩⟩, fun g => by simp at g⟩
        refine step_num rd p.e hy fun a1 ca1 => ⟨y.x, ca1, small_spec yok fun h12 e12 => ⟨fun g => ?_, fun g => next h12 S (p.ext e12)⟩⟩
        have g := of_decide_eq_true g
        have p12 := p.ext e12
        exact step_num rd p12.e hy fun a2 ca2 => ⟨y.x, ca2, asked_spec p12 yok g.1 g.2 fun h19 S' p19 => next h19 S' p19⟩
    exact steps _ 0 [] h4 (by omega) (by omega) ⟨sh1.ext e4, dh4, by omega, e1.trans e4⟩
  unfold F.xab
  refine made ⟨fun _ => ?_, fun g => by simp at g⟩ fun h1 nd d S slots p => ⟨fun g => by simp at g, fun _ => ?_⟩
  · unfold F.xab.j9
    exact ⟨fun _ => head_spec fun h' e' => k h' e', fun g => by cases g⟩
  unfold F.xab.j9 F.xab.j1
  refine ⟨fun g => by simp at g, fun _ => ?_⟩
  -- what is asked behind it
  have asks : ∀ (fu i : Nat) (S : SL) (hh : H), i <= L2.length -> L2.length - i < fu -> PR h hh nd d S slots -> F.xab.l4 Q fu l2 (some ⟨nd, 0, none⟩) (some ⟨d, 0, none⟩) (i : Int) hh := by
    intro fu
    induction fu with
    | zero => intro i _ _ _ hm; omega
    | succ fu ih =>
      intro i S hh hi hm p
      unfold F.xab.l4
      rw [hl2]
      have done : ∀ (C1 : Sl -> (Option Addr) -> (Option Addr) -> Int -> H -> Prop), F.xab.j8 Q C1 l2 (some ⟨nd, 0, none⟩) (some ⟨d, 0, none⟩) (i : Int) false hh := fun C1 => by
        unfold F.xab.j8
        exact ⟨fun g => (by cases g), fun _ => head_spec fun h' e' => k h' (p.e.trans e')⟩
      refine ⟨fun gg => ?_, fun _ => done _⟩
      have gg := of_decide_eq_true gg
      by_cases g30 : i < 30
      · rw [decide_eq_true (by omega)]
        obtain ⟨y, hy⟩ : ∃ y, L2[i]? = some y := ⟨_, List.getElem?_eq_getElem (by omega)⟩
        have yok := ok2 y (List.mem_of_getElem? hy)
        have next : ∀ (h' : H) (S' : SL), PR h h' nd d S' slots -> F.xab.j7 Q (F.xab.l4 Q fu) l2 (some ⟨nd, 0, none⟩) (some ⟨d, 0, none⟩) (i : Int) false h' := fun h' S' p' => by
          unfold F.xab.j7 F.xab.j6
          refine ⟨fun g => (by cases g), fun _ => ?_⟩
          rw [w64s (by omega)]
          exact ih (i + 1) S' h' (by omega) (by omega) p'
        unfold F.xab.j8 F.xab.j5
        refine ⟨fun _ => step_num rd2 p.e hy fun a ca => ldI_of (show cellH hh (a.add 0) = some (.int .i64 y.x.Kind) from ca 0 _ rfl) ⟨fun _ => ?_, fun _ => next hh S p⟩, fun g => by cases g⟩
        refine step_num rd2 p.e hy fun a1 ca1 => ⟨y.x, ca1, small_spec yok fun h12 e12 => ⟨fun g => ?_, fun g => next h12 S (p.ext e12)⟩⟩
        have g := of_decide_eq_true g
        have p12 := p.ext e12
        exact step_num rd2 p12.e hy fun a2 ca2 => ⟨y.x, ca2, asked_spec p12 yok g.1 g.2 fun h19 S' p19 => next h19 S' p19⟩
      · rw [decide_eq_false (by omega)]
        exact done _
  have us := p.sh.us
  have hok := p.sh.ok
  have epochs : ∀ (fu j : Nat) (hh : H), j <= 10 -> 10 - j < fu -> PR h hh nd d S slots -> F.xab.l2 Q fu l2 (some ⟨nd, 0, none⟩) (some ⟨d, 0, none⟩) (j : Int) hh := by
    intro fu
    induction fu with
    | zero => intro j _ _ hm; omega
    | succ fu ih =>
      intro j hh hj hm p
      unfold F.xab.l2
      refine ⟨fun g => ?_, fun _ => ⟨L2.length + 1, asks _ 0 S hh (by omega) (by omega) p⟩⟩
      have g := of_decide_eq_true g
      obtain ⟨x, Z, hZS, z⟩ := id p.dh
      subst hZS
      refine Range7_spec z hok us.1 us.2 fun r h5 w5 m5 e5 => ?_
      have p5 := p.ext e5
      refine Range_spec p5.sh fun r2 h7 w7 m7 e7 => ?_
      have hrl := range_len7 (toD Z) (j : Int) loC hiC
      have hlu := len_units hok
      have p7 := p5.ext e7
      have w57 := w5.ext e7
      refine SameRows_spec w7.reads w57.reads (by rw [List.length_take]; omega) (fun _ => ⟨fun g => (by cases g), fun _ => ?_⟩) fun hne => absurd rfl hne
      have hrow : ∀ r ∈ (rangeS (toD Z) (j : Int) loC hiC).take (1000 : Int).toNat, atS (toD Z) r.Cell (j : Int) = r.Agg := fun r hr => by
        have hr := List.mem_of_mem_take hr
        unfold rangeS at hr
        obtain ⟨y, hy, rfl⟩ := List.mem_map.1 hr
        have hy := (List.mem_filter.1 hy).1
        have : getS (toD Z) y.1 = some y.2 := by
          have := getK_mem (key := fun x : Cel × List Ver => x.1) hok.sort hy
          unfold getS; rw [this]; rfl
        exact atS_some hok this
      generalize hRR : (rangeS (toD Z) (j : Int) loC hiC).take (1000 : Int).toNat = RR at w57 hrow
      have hRl : RR.length <= 1048576 := by rw [← hRR, List.length_take]; omega
      have hlr := own_len cW_len (by omega) w57
      have rows : ∀ (fu2 i : Nat) (h2 : H), i <= RR.length -> RR.length - i < fu2 -> Ext h7 h2 -> F.xab.l3 Q (F.xab.l2 Q fu) fu2 l2 (some ⟨nd, 0, none⟩) (some ⟨d, 0, none⟩) (j : Int) r (i : Int) h2 := by
        intro fu2
        induction fu2 with
        | zero => intro i _ _ hm; omega
        | succ fu2 ih2 =>
          intro i h2 hi2 hm2 e2
          unfold F.xab.l3
          rw [hlr]
          refine ⟨fun g2 => ?_, fun g2 => ?_⟩
          · have g2 := of_decide_eq_true g2
            obtain ⟨q, hq⟩ : ∃ q, RR[i]? = some q := ⟨_, List.getElem?_eq_getElem (by omega)⟩
            have w2 := w57.ext e2
            refine rowAt w2.reads hq fun a ca => ⟨q.Cell, row_cell ca, rowAt w2.reads hq fun a2 ca2 => ⟨q.Agg, row_agg ca2, At_spec (p7.ext e2).sh fun h21 e21 => ⟨(row_agg ca2).ext e21, ?_⟩⟩⟩
            rw [hrow q (List.mem_of_getElem? hq), agg_same]
            refine ⟨fun g => (by cases g), fun _ => ?_⟩
            rw [w64s (by omega)]
            exact ih2 (i + 1) h21 (by omega) (by omega) (e2.trans e21)
          · rw [w64s (by omega)]
            exact ih (j + 1) h2 (by omega) (by omega) (p7.ext e2)
      exact ⟨RR.length + 1, rows _ 0 h7 (by omega) (by omega) (.refl _)⟩
  exact ⟨11, epochs _ 0 h1 (by omega) (by omega) p⟩
end Go.Proofs.YtoccbnhahaoeiaaGreat.V.S
