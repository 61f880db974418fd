/- The keys of a map with whole numbers as keys, gathered and sorted; a map copied into another; a map's clone; no condition. -/
import Derived.Test.YtgcmojbajjajgaaGreatGl
import Derived.Test.YtgcmojbajjajgaaGreatVx
import Derived.Test.YtgcmojbajjajgaaGreatVy
namespace Go.Proofs.YtgcmojbajjajgaaGreat.V
open Go Go.Proofs.YtgcmojbajjajgaaGreat.V.N
set_option linter.unusedVariables false
set_option linter.unusedSimpArgs false

theorem put_only (h : H) (l : Nat) (o : Obj) : Only (· = l) h (put h l o) := ⟨by simp [put], fun b hb hn => by
  unfold put
  rw [Array.getElem?_setIfInBounds_ne (fun e => hn e.symm)]⟩
theorem put_at {h : H} {l : Nat} {o o' : Obj} (hl : h[l]? = some o') : (put h l o)[l]? = some o := by
  have := (Array.getElem?_eq_some_iff.1 hl).1
  unfold put
  rw [Array.getElem?_setIfInBounds_self_of_lt this]
theorem nodup_len {α : Type} [DecidableEq α] : ∀ {E L : List α}, E.Nodup → (∀ e ∈ E, e ∈ L) → E.length ≤ L.length
  | [], L, _, _ => Nat.zero_le _
  | e :: E, L, h, hs => by
    rw [List.nodup_cons] at h
    have he := hs e (by simp)
    have := nodup_len (E := E) (L := L.erase e) h.2 fun x hx => (List.mem_erase_of_ne (show x ≠ e from fun hxe => h.1 (by rw [← hxe]; exact hx))).2 (hs x (by simp [hx]))
    rw [List.length_erase_of_mem he] at this
    have hpos : 0 < L.length := List.length_pos_of_mem he
    simp only [List.length_cons]; omega
theorem intT : PP.underlying 3 = some (.int .i64) := Tryz.underlying3
/-- What holds while keys are gathered: o: the heap's size when it began. -/
structure KG (h : H) (o b : Nat) (L : KL) (D : List Int) (h' : H) : Prop where
  ext : Ext h h'
  box : ∃ s : Sl, Blk h' o #[s.enc] tn_Slint ∧ Owns h' s 3 1 (D.flatMap cI) ∧ ∀ n, s.blk = some n → o + 4 ≤ n
  dfr : h'[o + 1]? = some (.deferred (some []))
  it : ItS h' (o + 3) b L D
  nd : D.Nodup
  sub : ∀ k ∈ D, k ∈ L.map (·.1)
  size : o + 3 < h'.size
theorem KG.only {h h' h'' : H} {o b : Nat} {L : KL} {D : List Int} (k : KG h o b L D h') (ho : h.size ≤ o) (hb : b < o) (e : Only (· = o + 2) h' h'') : KG h o b L D h'' := by
  obtain ⟨s, s1, s2, s3⟩ := k.box
  exact ⟨k.ext.step e fun n hn hf => by omega, ⟨s, e.block s1 (by omega), s2.only e fun n hn hf => by have := s3 n hn; omega, s3⟩, e.block k.dfr (by omega), k.it.only e (by omega) (by omega), k.nd, k.sub, by have := k.size; have := e.size; omega⟩

theorem keys_ii_loop {h : H} {o b : Nat} {L : KL} {R : LoopState → Option Code → Obj} {Q : Sl → H → Prop} (ho : h.size ≤ o) (hb : b < o) (hM : L.length < 1073741824) (hv : ∀ p ∈ L, ∃ y : Int, p.2 = .int .i64 y)
    (k : ∀ (r : Sl) (h' : H) (D : List Int), D.Perm (L.map (·.1)) → Owns h' r 3 1 (D.flatMap cI) → Ext h h' → (∀ n, r.blk = some n → h.size ≤ n) → Q r h')
    (hy : yields PP R (o + 2) [] (fun bg1 l1 args h K1 J1 => ∃ (y1_7 : Int), args = [(.int .i64 y1_7)] ∧
      bg1 h fun h3 => ldL h3 ⟨o, 0, none⟩ fun y4 => newL h3 #[(.int .i64 y1_7)] tn_int 1 fun s7 h6 => runL PP (Builtin.append_ #[tn_Slint, tn_Slint] tn_Slint #[y4.enc, s7.enc]) h6 fun s9 h8 => stH h8 ⟨o, 0, none⟩ [s9.enc] fun h10 => K1 h10)) :
    ∀ (m : Nat) (D : List Int) (h' : H), KG h o b L D h' → h'[o + 2]? = some (R .ready none) → D.length ≤ L.length → L.length - D.length < m →
      F.maps_Keys_map_int_int_int_int_1.l1 (rngEnd R (o + 2) [] (fun h11 => ldL h11 ⟨o, 0, none⟩ fun y12 => shuts ((o + 1) :: ([] : List Nat)) h11 fun h14 => Q y12 h14) (fun jj h15 => True)) m (.func (.yield (o + 2)) #[] #[]) ⟨o + 3, 0, none⟩ h'
  | 0, D, h', kg, hrd, hl, hm => by omega
  | m + 1, D, h', kg, hrd, hl, hm => by
    unfold F.maps_Keys_map_int_int_int_int_1.l1
    refine nextS_of kg.it (fun hp => ?_) (fun h5 kk v it5 hpM hkD e5 sz5 hen => ?_)
    · refine ⟨false, #[], rfl, (fun h => by cases h), fun _ => .inl ⟨hrd, ?_⟩⟩
      have kg2 := kg.only ho hb (put_only h' (o + 2) (R .exhausted none))
      obtain ⟨s, s1, s2, s3⟩ := kg2.box
      refine (ldL_iff (s1.cell (i := 0) rfl)).2 ?_
      refine ⟨kg2.dfr, ?_⟩
      have e6 := put_only (put h' (o + 2) (R .exhausted none)) (o + 1) (.deferred none)
      have hpm : D.Perm (L.map (·.1)) := (List.perm_ext_iff_of_nodup kg.nd kg.it.map.sk.nodup).2 fun x => ⟨kg.sub x, fun hx => by
        obtain ⟨p, hp1, rfl⟩ := List.mem_map.1 hx
        exact hp p hp1⟩
      exact k s _ D hpm (s2.only e6 fun n hn hf => by have := s3 n hn; omega) (kg2.ext.step e6 fun n hn hf => by omega) fun n hn => by have := s3 n hn; omega
    · refine ⟨true, #[.int .i64 kk, v], rfl, fun _ => ?_, fun h => by cases h⟩
      obtain ⟨y, hpv⟩ := hv _ hpM
      simp only at hpv
      refine hen _ ⟨kk, y, by rw [hpv], ?_⟩
      have hrd5 : h5[o + 2]? = some (R .ready none) := e5.block hrd (by omega)
      refine hy h5 _ _ hrd5 ⟨kk, rfl, hrd5, ?_⟩
      obtain ⟨s, s1, s2, s3⟩ := kg.box
      have ep := put_only h5 (o + 2) (R .busy none)
      have e56 : Only (fun n => n = o + 2 ∨ n = o + 3) h' (put h5 (o + 2) (R .busy none)) := (e5.mono fun n _ e => .inr e).trans (ep.mono fun n _ e => .inl e) fun _ _ e => e
      have s1' : Blk _ o #[s.enc] tn_Slint := e56.block s1 (by omega)
      have s2' := s2.only e56 fun n hn hf => by have := s3 n hn; omega
      refine (ldL_iff (s1'.cell (i := 0) rfl)).2 ?_
      have hkp : kk ∈ L.map (·.1) := List.mem_map.2 ⟨_, hpM, rfl⟩
      have hnd : (D ++ [kk]).Nodup := by
        rw [List.nodup_append]
        refine ⟨kg.nd, by simp, fun a ha c hc => ?_⟩
        simp at hc; subst hc
        exact fun e => hkD (e ▸ ha)
      have hsub : ∀ x ∈ D ++ [kk], x ∈ L.map (·.1) := fun x hx => by
        rcases List.mem_append.1 hx with hx | hx
        · exact kg.sub x hx
        · simp at hx; subst hx; exact hkp
      have hlen : (D ++ [kk]).length ≤ L.length := by
        have := nodup_len hnd hsub
        simpa using this
      refine newL_of fun n6 h6 hn6 b6 e6 sz6 => ?_
      have r6 : Reads h6 ⟨some ⟨n6, 0, none⟩, 1, 1⟩ 1 ([kk].flatMap cI) := blk_reads b6 rfl
      have hDl : D.length + 1 ≤ L.length := by simpa using hlen
      refine app_list (L := D) (M := [kk]) cI_len (by omega) el_Slint (s2'.ext e6) r6 (fun x => one1 rfl) (by simp only [List.length_singleton]; omega) fun r7 h7 q1 q2 q3 => ?_
      have hr7 : ∀ n, r7.blk = some n → o + 4 ≤ n := fun n hn => by
        rcases q3 with q3 | ⟨b', q3, q4⟩
        · exact s3 n (by rw [← q3]; exact hn)
        · rw [q3] at hn; cases hn
          have := e6.size; have := e56.size; have := kg.size; omega
      have b7 : Blk h7 o #[s.enc] tn_Slint := q2.block (e6.block s1' (fun f => f)) fun e => by have := s3 o e; omega
      refine stH_of b7 (by simp) fun h8 b8 e8 _ => ?_
      rw [writeA_all (by simp)] at b8
      have oall : Only (fun n => n = o ∨ n = o + 2 ∨ n = o + 3 ∨ s.blk = some n) h' h8 :=
        ((e56.mono fun n _ e => e.elim (fun e => .inr (.inl e)) fun e => .inr (.inr (.inl e))).trans ((e6.only (S := fun b => s.blk = some b)).trans q2 fun _ _ e => e) fun n _ e => .inr (.inr (.inr e))).trans e8 fun n _ e => .inl e
      have oit : Only (fun n => n = o ∨ n = o + 2 ∨ s.blk = some n) h5 h8 :=
        ((ep.mono fun n _ e => .inr (.inl e)).trans ((e6.only (S := fun b => s.blk = some b)).trans q2 fun _ _ e => e) fun n _ e => .inr (.inr e)).trans e8 fun n _ e => .inl e
      have hrd8 : h8[o + 2]? = some (R .busy none) := e8.block (q2.block (e6.block (put_at hrd5) (fun f => f)) fun e => by have := s3 _ e; omega) (by omega)
      have kg8 : KG h o b L (D ++ [kk]) h8 := ⟨kg.ext.step oall fun n hn hf => by
          rcases hf with hf | hf | hf | hf
          · omega
          · omega
          · omega
          · have := s3 n hf; omega, ⟨r7, b8, q1.only e8 fun n hn hf => by have := hr7 n hn; omega, hr7⟩, oall.block kg.dfr (by
          intro hf
          rcases hf with hf | hf | hf | hf
          · omega
          · omega
          · omega
          · have := s3 _ hf; omega), it5.only oit (by
          intro hf
          rcases hf with hf | hf | hf
          · omega
          · omega
          · have := s3 _ hf; omega) (by
          intro hf
          rcases hf with hf | hf | hf
          · omega
          · omega
          · have := s3 _ hf; omega), hnd, hsub, by have := oall.size; have := kg.size; omega⟩
      refine ⟨hrd8, true, rfl, (fun h => by cases h), fun _ => ?_⟩
      exact keys_ii_loop ho hb hM hv k hy m (D ++ [kk]) _ (kg8.only ho hb (put_only h8 (o + 2) (R .ready none))) (put_at hrd8) hlen (by simp only [List.length_append, List.length_singleton] at hlen ⊢; omega)
/-- slices.Collect of a map's keys. -/
theorem collect_ii {h : H} {b : Nat} {L : KL} {Q : Sl → H → Prop} (mp : MS h b L) (hM : L.length < 1073741824) (hv : ∀ p ∈ L, ∃ y : Int, p.2 = .int .i64 y)
    (k : ∀ (r : Sl) (h' : H) (D : List Int), D.Perm (L.map (·.1)) → Owns h' r 3 1 (D.flatMap cI) → Ext h h' → Mine h r → Q r h') :
    F.maps_Keys_map_int_int_int_int (some b) h fun v h1 => F.slices_Collect_int v h1 Q := by
  unfold F.maps_Keys_map_int_int_int_int
  refine new_of fun a h0 ha ba e0 sz0 => ?_
  subst ha
  unfold F.slices_Collect_int F.slices_AppendSeq_Slint_int
  refine new_of fun o h1 ho b1 e1 sz1 => ?_
  subst ho
  rw [show h1.size = h0.size + 1 from sz1]
  intro R hR hy
  rw [sz1] at hy ⊢
  refine ⟨no_maps_Keys_map_int_int_int_int_1, #[], #[.pointer (some ⟨h.size, 0, none⟩)], rfl, no_maps_Keys_map_int_int_int_int_1_call, ?_⟩
  have mp0 := mp.ext e0
  have hblt := mp0.lt
  have d1 : Ext h1 (h1.push (.deferred (some []))) := .push _ _
  have d2 : Ext (h1.push (.deferred (some []))) ((h1.push (.deferred (some []))).push (R .ready none)) := .push _ _
  have e3 : Ext h0 ((h1.push (.deferred (some []))).push (R .ready none)) := (e1.trans d1).trans d2
  have key : F.maps_Keys_map_int_int_int_int_1 (.func (.yield (h0.size + 2)) #[] #[]) ⟨h.size, 0, none⟩ ((h1.push (.deferred (some []))).push (R .ready none)) (rngEnd R (h0.size + 2) [] (fun h11 => ldL h11 ⟨h0.size, 0, none⟩ fun y12 => shuts ((h0.size + 1) :: ([] : List Nat)) h11 fun h14 => Q y12 h14) (fun jj h15 => True)) := by
    unfold F.maps_Keys_map_int_int_int_int_1
    refine (ldM_iff ((show Blk _ h.size #[.map (some b)] tn_map_int_int from e3.block ba (fun f => f)).cell (i := 0) rfl)).2 ?_
    refine rangeS_of mt_map_int_int (mp0.ext e3) fun rr h4 hrr it4 e4 sz4 => ?_
    have hsz : ((h1.push (.deferred (some []))).push (R .ready none)).size = h0.size + 3 := by simp; omega
    rw [hsz] at sz4 hrr
    subst hrr
    refine ⟨_, rfl, L.length + 1, ?_⟩
    refine keys_ii_loop (h := h0) (Nat.le_refl _) hblt hM hv (fun r h' D a1 a2 a3 a4 => k r h' D a1 a2 (e0.trans a3) fun n hn => by have := a4 n hn; have := e0.size; omega) hy (L.length + 1) [] h4 ⟨e3.trans e4, ⟨⟨none, 0, 0⟩, e4.block (d2.block (d1.block b1 (fun f => f)) (fun f => f)) (fun f => f), Owns.nil _ _ _, fun n hn => by simp [Sl.blk] at hn⟩, e4.block (d2.block (by rw [← sz1]; simp) (fun f => f)) (fun f => f), it4, by simp, by simp, by omega⟩ (e4.block (by
      have : h0.size + 2 = (h1.push (.deferred (some []))).size := by simp; omega
      rw [this, Array.getElem?_push, if_pos rfl]) (fun f => f)) (by simp) (by simp)
  exact (F.maps_Keys_map_int_int_int_int_1_ok key).mono fun r h' ⟨_, q⟩ => q
/-- slices.Sorted of a map's keys. -/
theorem sorted_ii {h : H} {b : Nat} {L : KL} {Q : Sl → H → Prop} (mp : MS h b L) (hM : L.length < 1073741824) (hv : ∀ p ∈ L, ∃ y : Int, p.2 = .int .i64 y)
    (k : ∀ (r : Sl) (h' : H), Owns h' r 3 1 ((L.map (·.1)).flatMap cI) → Ext h h' → Mine h r → Q r h') :
    F.maps_Keys_map_int_int_int_int (some b) h fun v h1 => F.slices_Sorted_int v h1 Q := by
  unfold F.slices_Sorted_int
  refine collect_ii mp hM hv fun r h1 D hp o1 e1 m1 => ?_
  refine sortI_fn rfl o1 (by have := hp.length_eq; simp at this; omega) fun h2 o2 e2 => ⟨rfl, ?_⟩
  rw [sortI_perm hp (by rw [List.pairwise_map]; exact mp.sk)] at o2
  exact k r h2 o2 (e1.mine m1 e2) m1

theorem keys_is_loop {h : H} {o b : Nat} {L : KL} {R : LoopState → Option Code → Obj} {Q : Sl → H → Prop} (ho : h.size ≤ o) (hb : b < o) (hM : L.length < 1073741824) (hv : ∀ p ∈ L, ∃ y : S_sync_noCopy, p.2 = .agg y.cells.toArray)
    (k : ∀ (r : Sl) (h' : H) (D : List Int), D.Perm (L.map (·.1)) → Owns h' r 3 1 (D.flatMap cI) → Ext h h' → (∀ n, r.blk = some n → h.size ≤ n) → Q r h')
    (hy : yields PP R (o + 2) [] (fun bg1 l1 args h K1 J1 => ∃ (y1_7 : Int), args = [(.int .i64 y1_7)] ∧
      bg1 h fun h3 => ldL h3 ⟨o, 0, none⟩ fun y4 => newL h3 #[(.int .i64 y1_7)] tn_int 1 fun s7 h6 => runL PP (Builtin.append_ #[tn_Slint, tn_Slint] tn_Slint #[y4.enc, s7.enc]) h6 fun s9 h8 => stH h8 ⟨o, 0, none⟩ [s9.enc] fun h10 => K1 h10)) :
    ∀ (m : Nat) (D : List Int) (h' : H), KG h o b L D h' → h'[o + 2]? = some (R .ready none) → D.length ≤ L.length → L.length - D.length < m →
      F.maps_Keys_map_int_struct_int_struct_1.l1 (rngEnd R (o + 2) [] (fun h11 => ldL h11 ⟨o, 0, none⟩ fun y12 => shuts ((o + 1) :: ([] : List Nat)) h11 fun h14 => Q y12 h14) (fun jj h15 => True)) m (.func (.yield (o + 2)) #[] #[]) ⟨o + 3, 0, none⟩ h'
  | 0, D, h', kg, hrd, hl, hm => by omega
  | m + 1, D, h', kg, hrd, hl, hm => by
    unfold F.maps_Keys_map_int_struct_int_struct_1.l1
    refine nextS_of kg.it (fun hp => ?_) (fun h5 kk v it5 hpM hkD e5 sz5 hen => ?_)
    · refine ⟨false, #[], rfl, (fun h => by cases h), fun _ => .inl ⟨hrd, ?_⟩⟩
      have kg2 := kg.only ho hb (put_only h' (o + 2) (R .exhausted none))
      obtain ⟨s, s1, s2, s3⟩ := kg2.box
      refine (ldL_iff (s1.cell (i := 0) rfl)).2 ?_
      refine ⟨kg2.dfr, ?_⟩
      have e6 := put_only (put h' (o + 2) (R .exhausted none)) (o + 1) (.deferred none)
      have hpm : D.Perm (L.map (·.1)) := (List.perm_ext_iff_of_nodup kg.nd kg.it.map.sk.nodup).2 fun x => ⟨kg.sub x, fun hx => by
        obtain ⟨p, hp1, rfl⟩ := List.mem_map.1 hx
        exact hp p hp1⟩
      exact k s _ D hpm (s2.only e6 fun n hn hf => by have := s3 n hn; omega) (kg2.ext.step e6 fun n hn hf => by omega) fun n hn => by have := s3 n hn; omega
    · refine ⟨true, #[.int .i64 kk, v], rfl, fun _ => ?_, fun h => by cases h⟩
      obtain ⟨y, hpv⟩ := hv _ hpM
      simp only at hpv
      refine hen _ ⟨kk, y, by rw [hpv], ?_⟩
      have hrd5 : h5[o + 2]? = some (R .ready none) := e5.block hrd (by omega)
      refine hy h5 _ _ hrd5 ⟨kk, rfl, hrd5, ?_⟩
      obtain ⟨s, s1, s2, s3⟩ := kg.box
      have ep := put_only h5 (o + 2) (R .busy none)
      have e56 : Only (fun n => n = o + 2 ∨ n = o + 3) h' (put h5 (o + 2) (R .busy none)) := (e5.mono fun n _ e => .inr e).trans (ep.mono fun n _ e => .inl e) fun _ _ e => e
      have s1' : Blk _ o #[s.enc] tn_Slint := e56.block s1 (by omega)
      have s2' := s2.only e56 fun n hn hf => by have := s3 n hn; omega
      refine (ldL_iff (s1'.cell (i := 0) rfl)).2 ?_
      have hkp : kk ∈ L.map (·.1) := List.mem_map.2 ⟨_, hpM, rfl⟩
      have hnd : (D ++ [kk]).Nodup := by
        rw [List.nodup_append]
        refine ⟨kg.nd, by simp, fun a ha c hc => ?_⟩
        simp at hc; subst hc
        exact fun e => hkD (e ▸ ha)
      have hsub : ∀ x ∈ D ++ [kk], x ∈ L.map (·.1) := fun x hx => by
        rcases List.mem_append.1 hx with hx | hx
        · exact kg.sub x hx
        · simp at hx; subst hx; exact hkp
      have hlen : (D ++ [kk]).length ≤ L.length := by
        have := nodup_len hnd hsub
        simpa using this
      refine newL_of fun n6 h6 hn6 b6 e6 sz6 => ?_
      have r6 : Reads h6 ⟨some ⟨n6, 0, none⟩, 1, 1⟩ 1 ([kk].flatMap cI) := blk_reads b6 rfl
      have hDl : D.length + 1 ≤ L.length := by simpa using hlen
      refine app_list (L := D) (M := [kk]) cI_len (by omega) el_Slint (s2'.ext e6) r6 (fun x => one1 rfl) (by simp only [List.length_singleton]; omega) fun r7 h7 q1 q2 q3 => ?_
      have hr7 : ∀ n, r7.blk = some n → o + 4 ≤ n := fun n hn => by
        rcases q3 with q3 | ⟨b', q3, q4⟩
        · exact s3 n (by rw [← q3]; exact hn)
        · rw [q3] at hn; cases hn
          have := e6.size; have := e56.size; have := kg.size; omega
      have b7 : Blk h7 o #[s.enc] tn_Slint := q2.block (e6.block s1' (fun f => f)) fun e => by have := s3 o e; omega
      refine stH_of b7 (by simp) fun h8 b8 e8 _ => ?_
      rw [writeA_all (by simp)] at b8
      have oall : Only (fun n => n = o ∨ n = o + 2 ∨ n = o + 3 ∨ s.blk = some n) h' h8 :=
        ((e56.mono fun n _ e => e.elim (fun e => .inr (.inl e)) fun e => .inr (.inr (.inl e))).trans ((e6.only (S := fun b => s.blk = some b)).trans q2 fun _ _ e => e) fun n _ e => .inr (.inr (.inr e))).trans e8 fun n _ e => .inl e
      have oit : Only (fun n => n = o ∨ n = o + 2 ∨ s.blk = some n) h5 h8 :=
        ((ep.mono fun n _ e => .inr (.inl e)).trans ((e6.only (S := fun b => s.blk = some b)).trans q2 fun _ _ e => e) fun n _ e => .inr (.inr e)).trans e8 fun n _ e => .inl e
      have hrd8 : h8[o + 2]? = some (R .busy none) := e8.block (q2.block (e6.block (put_at hrd5) (fun f => f)) fun e => by have := s3 _ e; omega) (by omega)
      have kg8 : KG h o b L (D ++ [kk]) h8 := ⟨kg.ext.step oall fun n hn hf => by
          rcases hf with hf | hf | hf | hf
          · omega
          · omega
          · omega
          · have := s3 n hf; omega, ⟨r7, b8, q1.only e8 fun n hn hf => by have := hr7 n hn; omega, hr7⟩, oall.block kg.dfr (by
          intro hf
          rcases hf with hf | hf | hf | hf
          · omega
          · omega
          · omega
          · have := s3 _ hf; omega), it5.only oit (by
          intro hf
          rcases hf with hf | hf | hf
          · omega
          · omega
          · have := s3 _ hf; omega) (by
          intro hf
          rcases hf with hf | hf | hf
          · omega
          · omega
          · have := s3 _ hf; omega), hnd, hsub, by have := oall.size; have := kg.size; omega⟩
      refine ⟨hrd8, true, rfl, (fun h => by cases h), fun _ => ?_⟩
      exact keys_is_loop ho hb hM hv k hy m (D ++ [kk]) _ (kg8.only ho hb (put_only h8 (o + 2) (R .ready none))) (put_at hrd8) hlen (by simp only [List.length_append, List.length_singleton] at hlen ⊢; omega)
/-- slices.Collect of a map's keys. -/
theorem collect_is {h : H} {b : Nat} {L : KL} {Q : Sl → H → Prop} (mp : MS h b L) (hM : L.length < 1073741824) (hv : ∀ p ∈ L, ∃ y : S_sync_noCopy, p.2 = .agg y.cells.toArray)
    (k : ∀ (r : Sl) (h' : H) (D : List Int), D.Perm (L.map (·.1)) → Owns h' r 3 1 (D.flatMap cI) → Ext h h' → Mine h r → Q r h') :
    F.maps_Keys_map_int_struct_int_struct (some b) h fun v h1 => F.slices_Collect_int v h1 Q := by
  unfold F.maps_Keys_map_int_struct_int_struct
  refine new_of fun a h0 ha ba e0 sz0 => ?_
  subst ha
  unfold F.slices_Collect_int F.slices_AppendSeq_Slint_int
  refine new_of fun o h1 ho b1 e1 sz1 => ?_
  subst ho
  rw [show h1.size = h0.size + 1 from sz1]
  intro R hR hy
  rw [sz1] at hy ⊢
  refine ⟨no_maps_Keys_map_int_struct_int_struct_1, #[], #[.pointer (some ⟨h.size, 0, none⟩)], rfl, no_maps_Keys_map_int_struct_int_struct_1_call, ?_⟩
  have mp0 := mp.ext e0
  have hblt := mp0.lt
  have d1 : Ext h1 (h1.push (.deferred (some []))) := .push _ _
  have d2 : Ext (h1.push (.deferred (some []))) ((h1.push (.deferred (some []))).push (R .ready none)) := .push _ _
  have e3 : Ext h0 ((h1.push (.deferred (some []))).push (R .ready none)) := (e1.trans d1).trans d2
  have key : F.maps_Keys_map_int_struct_int_struct_1 (.func (.yield (h0.size + 2)) #[] #[]) ⟨h.size, 0, none⟩ ((h1.push (.deferred (some []))).push (R .ready none)) (rngEnd R (h0.size + 2) [] (fun h11 => ldL h11 ⟨h0.size, 0, none⟩ fun y12 => shuts ((h0.size + 1) :: ([] : List Nat)) h11 fun h14 => Q y12 h14) (fun jj h15 => True)) := by
    unfold F.maps_Keys_map_int_struct_int_struct_1
    refine (ldM_iff ((show Blk _ h.size #[.map (some b)] tn_map_int_struct from e3.block ba (fun f => f)).cell (i := 0) rfl)).2 ?_
    refine rangeS_of mt_map_int_struct (mp0.ext e3) fun rr h4 hrr it4 e4 sz4 => ?_
    have hsz : ((h1.push (.deferred (some []))).push (R .ready none)).size = h0.size + 3 := by simp; omega
    rw [hsz] at sz4 hrr
    subst hrr
    refine ⟨_, rfl, L.length + 1, ?_⟩
    refine keys_is_loop (h := h0) (Nat.le_refl _) hblt hM hv (fun r h' D a1 a2 a3 a4 => k r h' D a1 a2 (e0.trans a3) fun n hn => by have := a4 n hn; have := e0.size; omega) hy (L.length + 1) [] h4 ⟨e3.trans e4, ⟨⟨none, 0, 0⟩, e4.block (d2.block (d1.block b1 (fun f => f)) (fun f => f)) (fun f => f), Owns.nil _ _ _, fun n hn => by simp [Sl.blk] at hn⟩, e4.block (d2.block (by rw [← sz1]; simp) (fun f => f)) (fun f => f), it4, by simp, by simp, by omega⟩ (e4.block (by
      have : h0.size + 2 = (h1.push (.deferred (some []))).size := by simp; omega
      rw [this, Array.getElem?_push, if_pos rfl]) (fun f => f)) (by simp) (by simp)
  exact (F.maps_Keys_map_int_struct_int_struct_1_ok key).mono fun r h' ⟨_, q⟩ => q
/-- slices.Sorted of a map's keys. -/
theorem sorted_is {h : H} {b : Nat} {L : KL} {Q : Sl → H → Prop} (mp : MS h b L) (hM : L.length < 1073741824) (hv : ∀ p ∈ L, ∃ y : S_sync_noCopy, p.2 = .agg y.cells.toArray)
    (k : ∀ (r : Sl) (h' : H), Owns h' r 3 1 ((L.map (·.1)).flatMap cI) → Ext h h' → Mine h r → Q r h') :
    F.maps_Keys_map_int_struct_int_struct (some b) h fun v h1 => F.slices_Sorted_int v h1 Q := by
  unfold F.slices_Sorted_int
  refine collect_is mp hM hv fun r h1 D hp o1 e1 m1 => ?_
  refine sortI_fn rfl o1 (by have := hp.length_eq; simp at this; omega) fun h2 o2 e2 => ⟨rfl, ?_⟩
  rw [sortI_perm hp (by rw [List.pairwise_map]; exact mp.sk)] at o2
  exact k r h2 o2 (e1.mine m1 e2) m1

/-! ### Copy, Clone -/
abbrev uV : Value := .agg #[]
theorem mem_put_or {L : KL} {k : Int} {v : Value} {p : Int × Value} (s : SK L) : p ∈ putS L k v ↔ p = (k, v) ∨ (p ∈ L ∧ p.1 ≠ k) := mem_putS s
def putAll (L : KL) (ks : List Int) : KL := ks.foldl (fun l k => putS l k uV) L
theorem putAll_snoc (L : KL) (ks : List Int) (k : Int) : putAll L (ks ++ [k]) = putS (putAll L ks) k uV := by simp [putAll]
theorem sk_putAll : ∀ {ks : List Int} {L : KL}, SK L → SK (putAll L ks)
  | [], _, s => s
  | k :: r, _, s => sk_putAll (ks := r) (sk_putS s)
theorem mem_putAll {p : Int × Value} : ∀ {ks : List Int} {L : KL}, SK L → (∀ q ∈ L, q.2 = uV) → (p ∈ putAll L ks ↔ p ∈ L ∨ (p.1 ∈ ks ∧ p.2 = uV))
  | [], L, s, hu => by simp [putAll]
  | k :: r, L, s, hu => by
    show p ∈ putAll (putS L k uV) r ↔ _
    rw [mem_putAll (sk_putS s) (fun q hq => by rcases (mem_putS s).1 hq with rfl | ⟨hq, _⟩; rfl; exact hu q hq), mem_putS s]
    obtain ⟨a, b⟩ := p
    simp only [List.mem_cons, Prod.mk.injEq]
    constructor
    · rintro ((⟨rfl, rfl⟩ | ⟨h, _⟩) | ⟨h, rfl⟩)
      · exact .inr ⟨.inl rfl, rfl⟩
      · exact .inl h
      · exact .inr ⟨.inr h, rfl⟩
    · rintro (h | ⟨rfl | h, rfl⟩)
      · by_cases e : a = k
        · subst e; exact .inl (.inl ⟨rfl, hu _ h⟩)
        · exact .inl (.inr ⟨h, e⟩)
      · exact .inl (.inl ⟨rfl, rfl⟩)
      · exact .inr ⟨h, rfl⟩
theorem sk_ext {L M : KL} (a : SK L) (b : SK M) (h : ∀ p, p ∈ L ↔ p ∈ M) : L = M :=
  (perm_of_mem a.nodup b.nodup h).eq_of_pairwise (le := fun p q : Int × Value => p.1 < q.1) (fun p q _ _ h1 h2 => by omega) a b
theorem putAll_congr {L : KL} {a b : List Int} (s : SK L) (hu : ∀ q ∈ L, q.2 = uV) (h : ∀ x, x ∈ a ↔ x ∈ b) : putAll L a = putAll L b :=
  sk_ext (sk_putAll s) (sk_putAll s) fun p => by rw [mem_putAll s hu, mem_putAll s hu, h]
/-- maps.Copy at sets. -/
theorem copy_spec {h : H} {b c : Nat} {L M : KL} {Q : H → Prop} (md : MS h b L) (ms : MS h c M) (hbc : b ≠ c) (hu : ∀ q ∈ L, q.2 = uV) (hm : ∀ q ∈ M, q.2 = uV)
    (k : ∀ h', MS h' b (putAll L (M.map (·.1))) → Only (· = b) h h' → Q h') : F.maps_Copy_map_int_struct_map_int_struct_int_struct (some b) (some c) h Q := by
  unfold F.maps_Copy_map_int_struct_map_int_struct_int_struct
  refine rangeS_of mt_map_int_struct ms fun r h1 hr it1 e1 sz1 => ⟨_, rfl, M.length + 1, ?_⟩
  have hbl := md.lt
  have key : ∀ (m : Nat) (D : List Int) (h' : H), ItS h' r c M D → D.Nodup → (∀ x ∈ D, x ∈ M.map (·.1)) → MS h' b (putAll L D) → Only (· = b) h h' → D.length ≤ M.length → M.length - D.length < m →
      F.maps_Copy_map_int_struct_map_int_struct_int_struct.l1 Q m (some b) ⟨r, 0, none⟩ h' := by
    intro m
    induction m with
    | zero => intro D h' _ _ _ _ _ _ hm; omega
    | succ m ih =>
      intro D h' it nd sub md' o hl hlt
      unfold F.maps_Copy_map_int_struct_map_int_struct_int_struct.l1
      refine nextS_of it (fun hp => ?_) (fun h5 kk v it5 hpM hkD e5 sz5 hen => ?_)
      · refine ⟨false, #[], rfl, (fun h => by cases h), fun _ => k _ ?_ o⟩
        rw [putAll_congr md.sk hu (b := D) fun x => ⟨fun hx => by obtain ⟨p, hp1, rfl⟩ := List.mem_map.1 hx; exact hp p hp1, fun hx => sub x hx⟩]
        exact md'
      · refine ⟨true, #[.int .i64 kk, v], rfl, fun _ => ?_, fun h => by cases h⟩
        have hv := hm _ hpM
        simp only at hv
        subst hv
        refine hen _ ⟨kk, ⟨⟩, rfl, ?_⟩
        refine new_of fun a h6 ha b6 e6 sz6 => ?_
        refine ⟨fun j hj => absurd hj (by simp [S_sync_noCopy.cells]), ?_⟩
        refine ⟨⟨⟩, fun i v hv => by simp [S_sync_noCopy.cells] at hv, ?_⟩
        have it6 := it5.only (e6.only (S := fun _ => False)) (fun f => f) (fun f => f)
        have hrb : r ≠ b := it.not_map md'
        have md5 := md'.only e5 (fun e => hrb e.symm)
        have md6 := md5.ext e6
        have hkp : kk ∈ M.map (·.1) := List.mem_map.2 ⟨_, hpM, rfl⟩
        have hnd : (D ++ [kk]).Nodup := by
          rw [List.nodup_append]
          refine ⟨nd, by simp, fun a ha c hc => ?_⟩
          simp at hc; subst hc
          exact fun e => hkD (e ▸ ha)
        have hsub : ∀ x ∈ D ++ [kk], x ∈ M.map (·.1) := fun x hx => by
          rcases List.mem_append.1 hx with hx | hx
          · exact sub x hx
          · simp at hx; subst hx; exact hkp
        have hlen : (D ++ [kk]).length ≤ M.length := by
          have := nodup_len hnd hsub
          simpa using this
        refine updS_of mt_map_int_struct intT (show MS (setHs h6 _ _ 0) b _ from md6) fun h7 md7 o7 sz7 => ?_
        have oo : Only (· = b) h h7 := by
          refine ((o.trans (e5.mono (S' := fun n => n = r) fun _ _ e => e) ?_).trans (e6.only (S := fun n => n = b)) fun _ _ e => e).trans o7 fun _ _ e => e
          intro n hn e; have hrs := hr; omega
        refine ih (D ++ [kk]) h7 (it6.only o7 (fun e => hbc e.symm) (fun e => hrb e)) hnd hsub ?_ oo hlen ?_
        · rw [putAll_snoc]; exact md7
        · simp only [List.length_append, List.length_singleton] at hlen ⊢; omega
  exact key _ [] h1 it1 (by simp) (by simp) (md.ext e1) (e1.only (S := fun n => n = b)) (by simp) (by simp)
theorem ms_clone {h : H} {b : Nat} {L : KL} (m : MS h b L) : ∃ es clock, h[b]? = some (.map es clock) ∧ MS (h.push (.map es clock)) h.size L := by
  obtain ⟨M, ⟨es, clock, hb, r⟩, p, s⟩ := m
  exact ⟨es, clock, hb, M, ⟨es, clock, by simp, r⟩, p, s⟩
theorem clone_ii {h : H} {b : Nat} {L : KL} {Q : Option Nat → H → Prop} (m : MS h b L) (k : ∀ c h', c = h.size → MS h' c L → Ext h h' → h'.size = h.size + 1 → Q (some c) h') : F.maps_Clone_map_int_int_int_int (some b) h Q := by
  obtain ⟨es, clock, hb, mc⟩ := ms_clone m
  exact ⟨fun h => by simp at h, fun _ => ⟨b, es, clock, rfl, hb, k _ _ rfl mc (.push _ _) (by simp)⟩⟩
theorem clone_is {h : H} {b : Nat} {L : KL} {Q : Option Nat → H → Prop} (m : MS h b L) (k : ∀ c h', c = h.size → MS h' c L → Ext h h' → h'.size = h.size + 1 → Q (some c) h') : F.maps_Clone_map_int_struct_int_struct (some b) h Q := by
  obtain ⟨es, clock, hb, mc⟩ := ms_clone m
  exact ⟨fun h => by simp at h, fun _ => ⟨b, es, clock, rfl, hb, k _ _ rfl mc (.push _ _) (by simp)⟩⟩
end Go.Proofs.YtgcmojbajjajgaaGreat.V
