/- The law TableWalks answers true: the script, and what is gathered; no condition. -/
import Derived.Test.YtkedkajdiclmjaaTt
namespace Go.Proofs.Ytkedkajdiclmjaa.V
open Go
set_option linter.unusedVariables false
set_option linter.unusedSimpArgs false

theorem elI6 : El PP 38 3 1 8 (.int .i64 0) := ⟨Try.underlying38, ⟨Try.t3, by kernel_rfl, by kernel_rfl, by kernel_rfl, by kernel_rfl⟩, rfl, by omega, by omega⟩
def KZ (T : Tb Int) : Prop := ∀ k v, getM T k = some v → k.size < 4611686018427387904
theorem do_keys {T : Tb Int} (t : TOk T) (x : Step) (hx : x.Key.size < 4611686018427387904) (kz : KZ T) : KZ (doT T x) := by
  unfold doT
  split
  · obtain ⟨T', p1, p2, p3, p4, p5, p6⟩ := put_ok (z := (0 : Int)) t x.Key x.N
    rw [p1]
    intro k v hv
    simp only [Option.getD_some] at hv
    rw [p4] at hv
    by_cases hk : kL k = kL x.Key
    · rw [kL_inj hk]; exact hx
    · rw [if_neg hk] at hv; exact kz k v hv
  · split
    · obtain ⟨T', p1, p2, p3, p4, p5, p6, p7⟩ := drop_ok (z := (0 : Int)) t x.Key
      rw [p1]
      intro k v hv
      simp only [Option.map_some, Option.getD_some] at hv
      rw [p4] at hv
      by_cases hk : kL k = kL x.Key
      · rw [if_pos hk] at hv; cases hv
      · rw [if_neg hk] at hv; exact kz k v hv
    · split
      · obtain ⟨T', p1, p2, p3, p4, p5, p6, p7⟩ := move_ok (z := (0 : Int)) t x.N
        rw [p1]
        intro k v hv
        simp only [Option.getD_some] at hv
        rw [p7] at hv
        exact kz k v hv
      · exact kz
theorem allL_len {T : Tb Int} (t : TOk T) : (allL T).length = T.count := by
  unfold allL
  rw [List.length_map, sortT_len, List.length_map, tk_len t]
/-- While keys and values are gathered. -/
structure KC (hb : H) (o c7 c8 c9 ka ma b : Nat) (rq : Sl) (L : List (ByteArray × Int)) (i : Nat) (h : H) : Prop where
  ext : Ext hb h
  b9 : Blk h c9 #[seqV ka ma] 40
  sq : SeqH h ka ma b rq L
  d : h[o]? = some (.deferred (some []))
  k7 : ∃ sk : Sl, Blk h c7 #[sk.enc] 37 ∧ Owns h sk 9 1 (((L.take i).map (·.1)).flatMap cT) ∧ ∀ m, sk.blk = some m → o + 2 ≤ m
  k8 : ∃ sv : Sl, Blk h c8 #[sv.enc] 38 ∧ Owns h sv 3 1 (((L.take i).map (·.2)).flatMap cI) ∧ ∀ m, sv.blk = some m → o + 2 ≤ m
  sz : o < h.size
section
variable {hb : H} {o c7 c8 c9 ka ma b : Nat} {rq : Sl} {L : List (ByteArray × Int)}
theorem KC.only {i : Nat} {h h' : H} (k : KC hb o c7 c8 c9 ka ma b rq L i h) (ho : hb.size ≤ o) (h7 : c7 < o) (h8 : c8 < o) (h9 : c9 < o) (hs : ∀ m, SQF ka ma b rq m → m < o) (e : Only (· = o + 1) h h') : KC hb o c7 c8 c9 ka ma b rq L i h' := by
  obtain ⟨sk, s1, s2, s3⟩ := k.k7
  obtain ⟨sv, v1, v2, v3⟩ := k.k8
  exact ⟨k.ext.step e fun m hm hf => by omega, e.block k.b9 (by omega), k.sq.only e fun m hm hf => by have := hs m hm; omega, e.block k.d (by omega), ⟨sk, e.block s1 (by omega), s2.only e fun m hm hf => by have := s3 m hm; omega, s3⟩, ⟨sv, e.block v1 (by omega), v2.only e fun m hm hf => by have := v3 m hm; omega, v3⟩, by have := k.sz; have := e.size; omega⟩
theorem gather_step {i : Nat} {h : H} {x : ByteArray × Int} {X : Obj} {K : H → Prop} (k : KC hb o c7 c8 c9 ka ma b rq L i h) (ho : hb.size ≤ o) (h7 : c7 < o) (h8 : c8 < o) (h9 : c9 < o) (h78 : c7 ≠ c8) (h79 : c7 ≠ c9) (h89 : c8 ≠ c9) (hs : ∀ m, SQF ka ma b rq m → m < o ∧ m ≠ c7 ∧ m ≠ c8) (hb7 : hb.size ≤ c7) (hb8 : hb.size ≤ c8) (hx : L[i]? = some x) (hL : L.length ≤ 120) (hl : h[o + 1]? = some X)
    (kk : ∀ h', KC hb o c7 c8 c9 ka ma b rq L (i + 1) h' → h'[o + 1]? = some X → K h') :
    ldL h ⟨c7, 0, none⟩ fun y39 => newL h #[(.string x.1)] ty_9 1 fun s42 h41 => runL PP (Builtin.append_ #[37, 37] 37 #[y39.enc, s42.enc]) h41 fun s44 h43 => stH h43 ⟨c7, 0, none⟩ [s44.enc] fun h45 =>
      ldL h45 ⟨c8, 0, none⟩ fun y46 => newL h45 #[(.int .i64 x.2)] ty_3 1 fun s49 h48 => runL PP (Builtin.append_ #[38, 38] 38 #[y46.enc, s49.enc]) h48 fun s51 h50 => stH h50 ⟨c8, 0, none⟩ [s51.enc] fun h52 => K h52 := by
  obtain ⟨sk, s1, s2, s3⟩ := k.k7
  obtain ⟨sv, v1, v2, v3⟩ := k.k8
  have hi := (List.getElem?_eq_some_iff.1 hx).1
  have htk : L.take (i + 1) = L.take i ++ [x] := by rw [List.take_add_one, hx]; rfl
  have hsz := k.sz
  have hol := (Array.getElem?_eq_some_iff.1 hl).1
  rw [ldL_iff (s1.cell (i := 0) rfl)]
  refine newL_of fun n1 h1 hn1 b1 e1 _ => ?_
  refine app_list (f := cT) (M := [x.1]) cT_len (by omega) elS (s2.ext e1) (blk_reads (size := 1) (m := 1) (show Blk h1 n1 (([x.1] : List ByteArray).flatMap cT).toArray 9 from b1) rfl) (fun x => one1 rfl) (by simp; omega) fun r1 h2 q1 q2 q3 => ?_
  have ne : ∀ m, sk.blk = some m → sv.blk ≠ some m := fun m hm hv => ((s2.typ hm).ne (v2.typ hv) (by decide)) rfl
  have o2 : Only (fun m => sk.blk = some m) h h2 := (e1.only (S := fun m => sk.blk = some m)).trans q2 fun _ _ e => e
  have hr1 : ∀ m, r1.blk = some m → o + 2 ≤ m ∧ sv.blk ≠ some m := fun m hm => by
    rcases q3 with q3 | ⟨b', q3, q4⟩
    · rw [q3] at hm; exact ⟨s3 m hm, ne m hm⟩
    · rw [q3] at hm; cases hm
      have := e1.size
      exact ⟨by omega, fun hv => by have := v2.blk_lt hv; omega⟩
  have b7 : Blk h2 c7 #[sk.enc] 37 := o2.block s1 fun e => by have := s3 _ e; omega
  refine stH_of b7 (by simp) fun h3 b3 e3 _ => ?_
  rw [writeA_all (by simp)] at b3
  have o3 : Only (fun m => m = c7 ∨ sk.blk = some m) h h3 := (o2.mono fun _ _ e => .inr e).trans e3 fun _ _ e => .inl e
  have v1' : Blk h3 c8 #[sv.enc] 38 := o3.block v1 fun e => by
    rcases e with e | e
    · omega
    · have := s3 _ e; omega
  have v2' : Owns h3 sv 3 1 (((L.take i).map (·.2)).flatMap cI) := v2.only o3 fun m hm e => by
    rcases e with e | e
    · have := v3 m hm; omega
    · exact ne m e hm
  rw [ldL_iff (v1'.cell (i := 0) rfl)]
  refine newL_of fun n4 h4 hn4 b4 e4 _ => ?_
  refine app_list (f := cI) (M := [x.2]) cI_len (by omega) elI6 (v2'.ext e4) (blk_reads (size := 1) (m := 1) (show Blk h4 n4 (([x.2] : List Int).flatMap cI).toArray 3 from b4) rfl) (fun x => one1 rfl) (by simp; omega) fun r5 h5 p1 p2 p3 => ?_
  have o5 : Only (fun m => sv.blk = some m) h3 h5 := (e4.only (S := fun m => sv.blk = some m)).trans p2 fun _ _ e => e
  have s3' := o3.size
  have hr5 : ∀ m, r5.blk = some m → o + 2 ≤ m := fun m hm => by
    rcases p3 with p3 | ⟨b', p3, p4⟩
    · rw [p3] at hm; exact v3 m hm
    · rw [p3] at hm; cases hm
      have := e4.size
      omega
  have b8 : Blk h5 c8 #[sv.enc] 38 := o5.block v1' fun e => by have := v3 _ e; omega
  refine stH_of b8 (by simp) fun h6 b6 e6 _ => ?_
  rw [writeA_all (by simp)] at b6
  have o36 : Only (fun m => m = c8 ∨ sv.blk = some m) h3 h6 := (o5.mono fun _ _ e => .inr e).trans e6 fun _ _ e => .inl e
  have oall : Only (fun m => m = c7 ∨ m = c8 ∨ sk.blk = some m ∨ sv.blk = some m) h h6 := (o3.mono fun m _ e => by
      rcases e with e | e
      · exact .inl e
      · exact .inr (.inr (.inl e))).trans o36 fun m _ e => by
      rcases e with e | e
      · exact .inr (.inl e)
      · exact .inr (.inr (.inr e))
  have nk : ∀ m, m ≠ c7 → m ≠ c8 → m < o + 2 → ¬ (m = c7 ∨ m = c8 ∨ sk.blk = some m ∨ sv.blk = some m) := fun m h1 h2 h3 e => by
    rcases e with e | e | e | e
    · exact h1 e
    · exact h2 e
    · have := s3 _ e; omega
    · have := v3 _ e; omega
  refine kk h6 ⟨k.ext.step oall fun m hm e => nk m (by omega) (by omega) (by omega) e, oall.block k.b9 (nk _ (Ne.symm h79) (Ne.symm h89) (by omega)), k.sq.only oall fun m hm => nk m (hs m hm).2.1 (hs m hm).2.2 (by have := (hs m hm).1; omega), oall.block k.d (nk _ (by omega) (by omega) (by omega)), ⟨r1, o36.block b3 (fun e => by
      rcases e with e | e
      · omega
      · have := v3 _ e; omega), ?_, fun m hm => (hr1 m hm).1⟩, ⟨r5, b6, ?_, hr5⟩, by have := oall.size; omega⟩ (oall.block hl (nk _ (by omega) (by omega) (by omega)))
  · rw [htk, List.map_append]
    refine (q1.only e3 fun m hm e => by have := hr1 m hm; omega).only o36 fun m hm e => ?_
    rcases e with e | e
    · have := hr1 m hm; omega
    · exact (hr1 m hm).2 e
  · rw [htk, List.map_append]
    exact p1.only e6 fun m hm e => by have := hr5 m hm; omega
end
section
variable {h0 : H} {Q : Bool → H → Prop} {n c2 c4 c5 : Nat} {stop : Int}
theorem walk_start (k : ∀ h', Ext h0 h' → Q true h') (hl2 : h0.size ≤ c2) (hl4 : h0.size ≤ c4) (hl5 : h0.size ≤ c5) (h24 : c2 ≠ c4) (h25 : c2 ≠ c5) (h45 : c4 ≠ c5) {h : H} {rs es : Sl} {T : Tb Int} {x0 : Sl} {x6 : Int} {C1 : List Nat → Sl → Addr → Addr → Addr → Int → H → Prop} (t : TH h n rs es T) (ok : TOk T) (kp : Kept h0 h n rs es) (b2 : Blk h c2 #[.int .i64 stop] 3) (b4 : Blk h c4 #[.bool false] 4) (b5 : Blk h c5 #[.pointer (some ⟨n, 0, none⟩)] 30)
    (lx : ∀ m, FT n rs es m → m ≠ c2 ∧ m ≠ c4 ∧ m ≠ c5) (bd : Bd 120 T) (kz : KZ T) : F.spatelaw6_TableWalks.j3 Q C1 [] x0 ⟨c2, 0, none⟩ ⟨c4, 0, none⟩ ⟨c5, 0, none⟩ x6 false h := by
  unfold F.spatelaw6_TableWalks.j3
  refine ⟨fun g => (by cases g), fun _ => ?_⟩
  have l2 := block_lt b2
  have l4 := block_lt b4
  have l5 := block_lt b5
  have tl := t.lt
  have k0 := kp.ext.size
  refine new_of fun c7 h1 h7 b7 e1 z1 => ?_
  refine new_of fun c8 h2 h8 b8 e2 z2 => ?_
  have x2 := e1.trans e2
  have t2 := t.ext x2
  have b52 : Blk h2 c5 #[.pointer (some ⟨n, 0, none⟩)] 30 := x2.block b5 (fun f => f)
  rw [ldP_iff (b52.cell (i := 0) rfl)]
  refine All_spec t2 ok (by have := bd.1; omega) fun h3 ka ma b rq sq e3 mine dis => ?_
  refine new_of fun c9 h4 h9 b9 e4 z4 => ?_
  refine ⟨rfl, rfl, ?_⟩
  refine stH_of b9 (by simp) fun h5 b9' e5 z5 => ?_
  rw [writeA_all (by simp)] at b9'
  rw [ldV_iff (b9'.cell (i := 0) rfl)]
  have x35 : Ext h3 h5 := e4.step e5 fun j hj e => by omega
  have x5 : Ext h h5 := (x2.trans e3).trans x35
  have s3 := e3.size
  have hc7 : c7 < h2.size := block_lt (show Blk h2 c7 _ 37 from e2.block b7 (fun f => f))
  have hc8 : c8 < h2.size := block_lt b8
  have hc9 : c9 < h5.size := block_lt b9'
  have hsq : ∀ m, SQF ka ma b rq m → h2.size ≤ m ∧ m < h3.size := fun m hm => ⟨mine m hm, sq.lt m hm⟩
  have hLc := allL_len ok
  have hL : (allL T).length ≤ 120 := by have := bd.1; omega
  have s35 := x35.size
  have x25 : Ext h2 h5 := e3.trans x35
  have step0 : KC h h5.size c7 c8 c9 ka ma b rq (allL T) 0 (h5.push (.deferred (some []))) := by
    have d1 : Ext h5 (h5.push (.deferred (some []))) := .push _ _
    exact ⟨x5.trans d1, d1.block b9' (fun f => f), sq.only (x35.trans d1) fun _ _ f => f, by simp, ⟨⟨none, 0, 0⟩, (x25.trans d1).block (e2.block b7 (fun f => f)) (fun f => f), Owns.nil _ _ _, fun m hm => by simp [Sl.blk] at hm⟩, ⟨⟨none, 0, 0⟩, (x25.trans d1).block b8 (fun f => f), Owns.nil _ _ _, fun m hm => by simp [Sl.blk] at hm⟩, by simp⟩
  refine range_seq (fun i h' => KC h h5.size c7 c8 c9 ka ma b rq (allL T) i h') (fun _ _ => False) (fun i h' h'' t o => t.only (by omega) (by omega) (by omega) hc9 (fun m hm => by have := hsq m hm; omega) o) (fun _ _ _ f _ => f) (fun i h' t => t.sq) step0 (fun X i x hh K J hX hI hll hx kK kJ => ?_) (fun h' kc => ?_) (fun _ _ f => f.elim)
  · exact gather_step hI (by omega) (by omega) (by omega) hc9 (by omega) (by omega) (by omega) (fun m hm => by have := hsq m hm; exact ⟨by omega, by omega, by omega⟩) (by omega) (by omega) hx hL hll kK
  · obtain ⟨sk, s1, s2, s3'⟩ := kc.k7
    obtain ⟨sv, v1, v2, v3⟩ := kc.k8
    rw [List.take_length] at s2 v2
    have th := t.ext kc.ext
    have b5' : Blk h' c5 #[.pointer (some ⟨n, 0, none⟩)] 30 := kc.ext.block b5 (fun f => f)
    rw [ldL_iff (s1.cell (i := 0) rfl), ldP_iff (b5'.cell (i := 0) rfl)]
    refine Len_spec th ⟨s1.cell (i := 0) rfl, ?_⟩
    have hkl := own_len cT_len (by omega) s2
    rw [List.length_map, hLc] at hkl
    rw [hkl]
    simp only [bne_self_eq_false]
    refine ⟨fun g => (by cases g), fun _ => ?_⟩
    let c : WC := ⟨h0, c2, c4, c5, c7, c8, c9, n, ka, ma, b, rq, sk, sv, allL T, stop⟩
    have s' := kc.ext.size
    have hpz : ∀ m, c.pz m → m = c2 ∨ m = c5 ∨ h.size ≤ m := fun m hm => by
      rcases hm with hm | hm | hm | hm | hm | hm | hm | hm
      · exact .inl hm
      · exact .inr (.inl hm)
      · have : m = c7 := hm; exact .inr (.inr (by omega))
      · have : m = c8 := hm; exact .inr (.inr (by omega))
      · have : m = c9 := hm; exact .inr (.inr (by omega))
      · have := hsq m hm; exact .inr (.inr (by omega))
      · have := s3' m hm; exact .inr (.inr (by omega))
      · have := v3 m hm; exact .inr (.inr (by omega))
    have hpo : ∀ m, c.pz m → m ≠ h5.size := fun m hm e => by
      subst e
      rcases hm with hm | hm | hm | hm | hm | hm | hm | hm
      · have : h5.size = c2 := hm; omega
      · have : h5.size = c5 := hm; omega
      · have : h5.size = c7 := hm; omega
      · have : h5.size = c8 := hm; omega
      · have : h5.size = c9 := hm; omega
      · have := hsq _ hm; omega
      · have := s3' _ hm; omega
      · have := v3 _ hm; omega
    have w : WI c [h5.size] [] rs es T h' := by
      refine ⟨kp.add kc.ext, th, ok, kc.ext.block b2 (fun f => f), ⟨false, kc.ext.block b4 (fun f => f)⟩, b5', s1, v1, kc.b9, s2, v2, kc.sq, fun m hm => ⟨fun hp => ?_, (lx m hm).2.1, fun hd => ?_, by simp⟩, fun m hm => ?_, hl4, fun hp => ?_, ⟨by simp, fun d hd => ?_⟩, fun d hd => ?_, fun d hd => by cases hd⟩
      · rcases hpz m hp with e | e | e
        · exact (lx m hm).1 e
        · exact (lx m hm).2.2 e
        · have := tl m hm; omega
      · simp at hd; have := tl m hm; omega
      · rcases hpz m hm with e | e | e
        · subst e; exact hl2
        · subst e; exact hl5
        · show h0.size ≤ m; omega
      · rcases hpz c4 hp with e | e | e
        · exact h24 e.symm
        · exact h45 e
        · omega
      · simp at hd; subst hd
        exact ⟨by show h0.size ≤ _; omega, kc.d⟩
      · simp at hd; subst hd
        exact ⟨fun hp => hpo _ hp rfl, by show h5.size ≠ c4; omega⟩
    refine new_of fun x12 h6 h12 b12 e6 z6 => ?_
    refine stH_of b12 (by simp) fun h7' b12' e7 z7 => ?_
    rw [writeA_all (by simp)] at b12'
    have x7 : Ext h' h7' := e6.step e7 fun j hj e => by omega
    have w7 : WI c [h5.size] [x12] rs es T h7' := w.newz x7 (by omega) (block_lt b12')
    refine ⟨4, ?_⟩
    have bd0 : Bd (200 + 1000 * 0) T := ⟨by have := bd.1; omega, by have := bd.2; omega⟩
    exact walk_turns (c := c) k (fun y hy => kz y.1 y.2 (allL_mem ok hy).1) hL 4 0 h7' [h5.size] rs es T x12 w7 b12' bd0 (by omega) (by omega)
theorem walk_script (k : ∀ h', Ext h0 h' → Q true h') (hl2 : h0.size ≤ c2) (hl4 : h0.size ≤ c4) (hl5 : h0.size ≤ c5) (h24 : c2 ≠ c4) (h25 : c2 ≠ c5) (h45 : c4 ≠ c5) {s0 : Sl} {S : List Step} (r0 : Reads h0 s0 3 (S.flatMap (·.cells))) (hS : S.length ≤ 9223372036854775807) (okS : ∀ x ∈ S, StepOk x) (hz : ∀ x ∈ S, x.Key.size < 4611686018427387904) :
    ∀ (m i : Nat) (h : H) (rs es : Sl) (T : Tb Int), TH h n rs es T → TOk T → Kept h0 h n rs es → Blk h c2 #[.int .i64 stop] 3 → Blk h c4 #[.bool false] 4 → Blk h c5 #[.pointer (some ⟨n, 0, none⟩)] 30 → (∀ m, FT n rs es m → m ≠ c2 ∧ m ≠ c4 ∧ m ≠ c5) → Bd i T → KZ T → i ≤ 120 → 120 - i < m →
      F.spatelaw6_TableWalks.l1 Q m [] s0 ⟨c2, 0, none⟩ ⟨c4, 0, none⟩ ⟨c5, 0, none⟩ (i : Int) h
  | 0, i, h, rs, es, T, t, ok, kp, b2, b4, b5, lx, bd, kz, hi, hm => by omega
  | m + 1, i, h, rs, es, T, t, ok, kp, b2, b4, b5, lx, bd, kz, hi, hm => by
    unfold F.spatelaw6_TableWalks.l1
    have hl := rd_len step_len (by omega) r0
    rw [hl]
    have bd120 : Bd 120 T := ⟨by have := bd.1; omega, by have := bd.2; omega⟩
    have fin : F.spatelaw6_TableWalks.j3 Q (F.spatelaw6_TableWalks.l1 Q m) [] s0 ⟨c2, 0, none⟩ ⟨c4, 0, none⟩ ⟨c5, 0, none⟩ (i : Int) false h := walk_start k hl2 hl4 hl5 h24 h25 h45 t ok kp b2 b4 b5 lx bd120 kz
    simp only [decide_eq_true_eq, decide_eq_false_iff_not]
    refine ⟨fun g => ?_, fun g => fin⟩
    by_cases g2 : (i : Int) < 120
    · rw [decide_eq_true g2]
      unfold F.spatelaw6_TableWalks.j3
      refine ⟨fun _ => ?_, fun g => by cases g⟩
      unfold F.spatelaw6_TableWalks.j2
      obtain ⟨x, hx⟩ : ∃ x, S[i]? = some x := ⟨_, List.getElem?_eq_getElem (by omega)⟩
      have hxm := List.mem_of_getElem? hx
      rw [ldP_iff (b5.cell (i := 0) rfl)]
      refine step_at kp.ext r0 hx ?_
      refine do_spec (N := i) t ok (okS x hxm) bd (by omega) fun h2 r e t2 s2 => ?_
      obtain ⟨d1, d2⟩ := do_ok ok x
      rw [w64 (by omega) (by omega), show (i : Int) + 1 = ((i + 1 : Nat) : Int) from by omega]
      have l2 := block_lt b2
      have l4 := block_lt b4
      have l5 := block_lt b5
      exact walk_script k hl2 hl4 hl5 h24 h25 h45 r0 hS okS hz m (i + 1) h2 r e _ t2 d1 (kp.step s2) (s2.only.block b2 fun hf => (lx _ hf).1 rfl) (s2.only.block b4 fun hf => (lx _ hf).2.1 rfl) (s2.only.block b5 fun hf => (lx _ hf).2.2 rfl) (fun q hq => by
        rcases s2.new q hq with h1 | h1
        · exact lx q h1
        · omega) (d2 i bd) (do_keys ok x (hz x hxm) kz) (by omega) (by omega)
    · rw [decide_eq_false g2]; exact fin
end
theorem TableWalks_spec {h : H} {s0 : Sl} {S : List Step} {stop : Int} {Q : Bool → H → Prop} (r0 : Reads h s0 3 (S.flatMap (·.cells))) (okS : ∀ x ∈ S, StepOk x) (hS : S.length ≤ 9223372036854775807) (hz : ∀ x ∈ S, x.Key.size < 4611686018427387904) (k : ∀ h', Ext h h' → Q true h') : F.spatelaw6_TableWalks s0 stop h Q := by
  unfold F.spatelaw6_TableWalks
  refine new_of fun c2 h1 hc2 b2 e1 z1 => ?_
  refine new_of fun c4 h2 hc4 b4 e2 z2 => ?_
  refine known_spec fun h3 e3 => ?_
  refine ⟨fun g => (by cases g), fun _ => ?_⟩
  refine New_spec fun h4 n rs t4 e4 m4 => ?_
  refine new_of fun c5 h5 hc5 b5 e5 z5 => ?_
  refine stH_of b5 (by simp) fun h6 b6 e6 z6 => ?_
  rw [writeA_all (by simp)] at b6
  have x3 := (e1.trans e2).trans e3
  have x36 : Ext h4 h6 := e5.step e6 fun j hj e => by omega
  have x6 := (x3.trans e4).trans x36
  obtain ⟨n1, n2, n3⟩ := new_ok (0 : Int)
  have s1 := e1.size
  have s2 := e2.size
  have s3 := e3.size
  have s4 := e4.size
  have tl := t4.lt
  have l2 : c2 < h3.size := by omega
  have l4 : c4 < h3.size := by omega
  refine ⟨121, ?_⟩
  exact walk_script (i := 0) k (by omega) (by omega) (by omega) (by omega) (by omega) (by omega) r0 hS okS hz 121 h6 rs _ _ (t4.ext x36) n1 ⟨x6, fun q hq => by have := m4 q hq; omega⟩ ((((e2.trans e3).trans e4).trans x36).block b2 (fun f => f)) (((e3.trans e4).trans x36).block b4 (fun f => f)) b6 (fun q hq => by have := m4 q hq; have := tl q hq; omega) ⟨by simp [newT], by simp [newT]⟩ (fun q v hq => by rw [n3] at hq; cases hq) (by omega) (by omega)
end Go.Proofs.Ytkedkajdiclmjaa.V
