/- Parts of the proof of ShardDeep; no condition. -/
import Derived.ChangeSlices
import Derived.OpenShut
import Derived.Test.YtoccbnhahaoeiaaQShardDeep3
namespace Go.Proofs.Ytoccbnhahaoeiaa.V.S
open Go Go.Proofs.Ytoccbnhahaoeiaa.V
set_option linter.unusedVariables false
set_option linter.unusedSimpArgs false
set_option maxRecDepth 20000
section
variable {W W' : List Ver → Prop} {h h' : H} {n tn : Nat} {rs es : Sl} {T : Tb (Option Addr)} {Z : List Rec} {slots : Nat} {R R' : Nat → Prop} {u t : Int}
theorem SZG.turn (z : SZG W h n tn rs es T Z slots R u t) (hw : ∀ r ∈ Z, W r.vs → W' r.vs) (hr : ∀ b, b < h.size → R b → R' b) : SZG W' h n tn rs es T Z slots R' u t := by
  obtain ⟨l1, l2, l3⟩ := z.f_lt
  exact { z with wf := fun r hr => ⟨(z.wf r hr).1, hw r hr (z.wf r hr).2⟩, rn := hr _ l1 z.rn, rt := hr _ (l2 _ (.inl rfl)) z.rt, rr := fun b hb => hr _ (l2 _ (.inr (.inl hb))) (z.rr b hb), re := fun b hb => hr _ (l2 _ (.inr (.inr hb))) (z.re b hb), rp := fun r hm => ⟨hr _ (l3 r hm).1 (z.rp r hm).1, fun x hx => hr _ ((l3 r hm).2 x hx) ((z.rp r hm).2 x hx)⟩ }
end
abbrev WP (vs : List Ver) : Prop := vs = [] ∨ VOk vs
def ToP (E : List Int) (Z Zi : List Rec) (i : Nat) : Prop := Zi.length = Z.length ∧ ∀ (j : Nat) (r : Rec), Z[j]? = some r → ∃ B, Zi[j]? = some ⟨r.c, if j < i then C.pruneM r.vs E else r.vs, r.p, B⟩
structure PI (h hL h' : H) (n n2 n4 n7 ka ma b tn : Nat) (rs es r : Sl) (T : Tb (Option Addr)) (L : List (ByteArray × Option Addr)) (held : Sl) (E : List Int) (Z : List Rec) (slots : Nat) (R : Nat → Prop) (u t : Int) (i : Nat) : Prop where
  so : SOnly R h h'
  b2 : Blk h' n2 #[held.enc] tn_Slint
  b4 : Blk h' n4 #[.int .i64 (diffN E (Z.take i) : Int)] tn_int
  b7 : ∃ o, Blk h' n7 #[o.enc] tn_Slstring ∧ Owns h' o tn_string 1 ((emptyK E (Z.take i)).flatMap cT) ∧ ∀ x, o.blk = some x → hL.size + 2 ≤ x
  sq : P.SeqH h' ka ma b r L
  dfr : h'[hL.size]? = some (.deferred (some []))
  sz : hL.size + 1 ≤ h'.size
  z : ∃ Zi, SZG WP h' n tn rs es T Zi slots (fun b => R b ∧ b ≠ hL.size + 1) u t ∧ ToP E Z Zi i
  lt : n2 < hL.size ∧ n4 < hL.size ∧ n7 < hL.size ∧ h.size ≤ n2 ∧ h.size ≤ n4 ∧ h.size ≤ n7 ∧ n2 ≠ n4 ∧ n2 ≠ n7 ∧ n4 ≠ n7 ∧ ∀ m, SQF ka ma b r m → m < hL.size ∧ m ≠ n4 ∧ m ≠ n7 ∧ h.size ≤ m
theorem int_ty : ¬ ShE tn_int := by unfold ShE; decide
theorem str_ty : ¬ ShE tn_string := by unfold ShE; decide
theorem slstr_ty : ¬ ShE tn_Slstring := by unfold ShE; decide
theorem units_take (Z : List Rec) (i : Nat) : unitsS (toS (Z.take i)) ≤ unitsS (toS Z) := by
  have : toS Z = toS (Z.take i) ++ toS (Z.drop i) := by unfold toS; rw [← List.map_append, List.take_append_drop]
  rw [this]
  unfold unitsS
  rw [List.map_append, List.sum_append]; omega
theorem Prune_spec {h : H} {n : Nat} {S : SL} {slots : Nat} {R : Nat → Prop} {held : Sl} {E : List Int} {Q : Int → H → Prop} (s : SH h n S slots R) (rd : Reads h held 1 (E.flatMap cI)) (hE : E.length < 1073741824)
    (hlt : E ≠ [] → ∀ b, held.blk = some b → b < h.size ∧ ¬ (R b ∧ ShTy h b)) (hR : ∀ b, h.size ≤ b → R b)
    (k : ∀ h', SH h' n (pruneS S E) slots R → SOnly R h h' → Q ((unitsS S : Int) - unitsS (pruneS S E)) h') : F.shard_Shard_Prune (some ⟨n, 0, none⟩) held h Q := by
  obtain ⟨tn, rs, es, T, Z, hZS, z⟩ := s
  have hvok : ∀ r ∈ Z, VOk r.vs := fun r hr => (z.wf r hr).2
  have hsum := prune_sum E hvok
  rw [hZS] at hsum
  unfold F.shard_Shard_Prune
  refine new_of fun n2 h1 hn2 b2 e1 s1 => new_of fun n4 h3 hn4 b4 e3 s3 => ?_
  refine stH_of b4 (by simp) fun h5 b5 o5 s5 => new_of fun n7 h6 hn7 b7 e6 s6 => ?_
  have b4' : Blk h5 n4 #[.int .i64 0] tn_int := b5
  have e06 : Ext h h6 := ((e1.trans e3).step o5 fun m hm hb => by omega).trans e6
  have x2 : Blk h6 n2 #[held.enc] tn_Slint := e6.block (o5.block (e3.block b2 fun f => f) (by omega)) fun f => f
  have x4 : Blk h6 n4 #[.int .i64 0] tn_int := e6.block b4' fun f => f
  have z6 := z.ext e06
  simp only [nn_some, add_lit, Nat.zero_add, Nat.add_zero]
  rw [ldP_iff z6.cs3]
  have hcnt := z.count
  have hzl := z.len
  have hus := z.us
  have hsl := z.sl
  obtain ⟨f1, f2, f3⟩ := z.f_lt
  refine P.All_spec z6.th z6.ok (by omega) fun hL ka ma b r sq eL hmine _ => ?_
  rw [all_eq z6] at sq
  have hLs := eL.size
  have e06s := e06.size
  have e0L := e06.trans eL
  -- the record's place
  have keepZ : ∀ {a c : H} {Zi : List Rec} {P : Nat → Prop}, SZG WP a n tn rs es T Zi slots (fun b => R b ∧ b ≠ hL.size + 1) (unitsS (toS Z) : Int) (thereS (toS Z) : Int) → Only P a c → (∀ b, P b → b = hL.size + 1 ∨ ¬ ShTy a b) → SZG WP c n tn rs es T Zi slots (fun b => R b ∧ b ≠ hL.size + 1) (unitsS (toS Z) : Int) (thereS (toS Z) : Int) := fun hz o hp => hz.keep o fun b hb ht hP => by
    rcases hp b hP with e | e
    · exact hb.2 e
    · exact e ht
  refine P.range_seq (I := fun i h' => PI h hL h' n n2 n4 n7 ka ma b tn rs es r T (keysZ Z) held E Z slots R (unitsS (toS Z) : Int) (thereS (toS Z) : Int) i) (E := fun j h' => False)
    (fun i h' h'' v o => ?_) (fun j h' h'' v o => v) (fun i h' v => v.sq) ?_ ?_ (fun h' v => ?_) (fun j h' v => v.elim)
  · obtain ⟨l2, l4, l7, g2, g4, g7, d24, d27, d47, lq⟩ := v.lt
    obtain ⟨ou, q1, q2, q3⟩ := v.b7
    obtain ⟨Zi, zi, tp⟩ := v.z
    exact ⟨Only.trans v.so o fun m hm e => by omega, o.block v.b2 (by omega), o.block v.b4 (by omega), ⟨ou, o.block q1 (by omega), q2.only o fun m hm e => by have := q3 m hm; omega, q3⟩, v.sq.only o fun m hm e => by have := (lq m hm).1; omega,
      o.block v.dfr (by omega), by have := o.size; have := v.sz; omega, ⟨Zi, keepZ zi o fun b e => .inl e, tp⟩, v.lt⟩
  · have ep0 : Ext hL (hL.push (.deferred (some []))) := .push _ _
    have eH := eL.trans ep0
    refine ⟨SOnly.of (e06.trans eH), eH.block x2 fun f => f, eH.block x4 fun f => f, ⟨_, eH.block b7 fun f => f, by simpa [emptyK] using Owns.nil _ tn_string 1, fun x hx => by simp [Sl.blk] at hx⟩, sq.only ep0 fun m hm f => f, by simp, by simp, ⟨Z, ?_, rfl, fun j r hj => ⟨r.B, ?_⟩⟩, ?_⟩
    · exact (z.turn (fun r hr hw => .inr hw) fun b hb hr => ⟨hr, by omega⟩).ext (e06.trans eH)
    · rw [if_neg (Nat.not_lt_zero j)]; exact hj
    · exact ⟨by omega, by omega, by omega, by omega, by omega, by omega, by omega, by omega, by omega, fun m hm => ⟨sq.lt m hm, by have := hmine m hm; omega, by have := hmine m hm; omega, by have := hmine m hm; omega⟩⟩
  · intro X i x h5 K J hX v hx hxi kK kJ
    unfold keysZ at hxi
    rw [List.getElem?_map] at hxi
    obtain ⟨q, hq, rfl⟩ : ∃ q, Z[i]? = some q ∧ x = (keyB q.c, some ⟨q.p, 0, none⟩) := by
      cases hy : Z[i]? with
      | none => rw [hy] at hxi; cases hxi
      | some q => rw [hy] at hxi; cases hxi; exact ⟨q, rfl, rfl⟩
    have hqz : q ∈ Z := List.mem_of_getElem? hq
    have lts := v.lt
    obtain ⟨l2, l4, l7, g2, g4, g7, d24, d27, d47, lq⟩ := v.lt
    obtain ⟨o, q1, q2, q3⟩ := v.b7
    obtain ⟨Zi, zi, tl, tp⟩ := v.z
    obtain ⟨B, hB⟩ := tp i q hq
    rw [if_neg (Nat.lt_irrefl i)] at hB
    have hBm := List.mem_of_getElem? hB
    have hqp := (f3 q hqz).1
    have hh5 : hL.size + 1 < h5.size := (Array.getElem?_eq_some_iff.1 hx).1
    have c4 : cellH h5 ⟨n4, 0, none⟩ = some (.int .i64 (diffN E (Z.take i) : Int)) := Blk.cell (i := 0) v.b4 rfl
    refine ldI_of c4 (ldL_of (Blk.cell (i := 0) v.b2 rfl) ?_)
    have rd5 : Reads h5 held 1 (E.flatMap cI) := rd.keep v.so fun hne bb hb hs => (hlt hne bb hb).2 hs
    have hv := hvok q hqz
    have so5 := v.so.size
    have hvl := z.vlen hqz
    have chq : C.Ch h5 q.p q.vs B := zi.ch ⟨q.c, q.vs, q.p, B⟩ hBm
    refine C.Prune_spec chq hv.rise (by omega) hE rd5 (fun hne bb hb => by have := (hlt hne bb hb).1; omega) fun h6 B' c6 o6 kin6 => ?_
    have c46 : cellH h6 ⟨n4, 0, none⟩ = some (.int .i64 (diffN E (Z.take i) : Int)) := o6.cell c4 (by simp only; omega)
    refine ⟨c46, ?_⟩
    have hpu := prune_units hv E
    have hple := C.prune_le q.vs E
    have hsn := diff_snoc E hq
    have hdle := (diff_le E (Z.take (i + 1)) fun r hr => hvok r (List.mem_of_mem_take hr)).1
    have hut := units_take Z (i + 1)
    have hw : IntKind.wrap .i64 ((diffN E (Z.take i) : Int) + ((q.vs.length : Int) - ((C.pruneM q.vs E).length : Int))) = (diffN E (Z.take (i + 1)) : Int) := by rw [w64 (by omega) (by omega)]; omega
    rw [hw]
    have hsetu : unitsS (toS (setK Rec.c Zi ⟨q.c, C.pruneM q.vs E, q.p, B'⟩)) ≤ slots := by
      rw [toS_set]
      show unitsS (setS (toS Zi) q.c (C.pruneM q.vs E)) ≤ slots
      have hs : SortS (toS Zi) := by unfold SortS SortK; rw [List.pairwise_map]; exact zi.srt
      have h1 := set_units hs q.c (C.pruneM q.vs E)
      have h2 : getS (toS Zi) q.c = some q.vs := by
        rw [SZG.getS zi q.c]
        have := getK_mem zi.srt hBm
        simp only at this
        rw [this]; rfl
      rw [h2] at h1
      simp only [Option.getD_some] at h1
      have := zi.us
      omega
    have hwp : WP (C.pruneM q.vs E) := by
      by_cases he : C.pruneM q.vs E = []
      · exact .inl he
      · exact .inr (prune_ok hv E he)
    obtain ⟨z6q, so6⟩ := zi.lay (r := ⟨q.c, q.vs, q.p, B⟩) hBm c6 (o6.mono fun _ _ e => .inl e) kin6 hwp hsetu fun bb hb => ⟨hR bb (by omega), by omega⟩
    have z6' : SZG WP h6 n tn rs es T (setK Rec.c Zi ⟨q.c, C.pruneM q.vs E, q.p, B'⟩) slots (fun b => R b ∧ b ≠ hL.size + 1) (unitsS (toS Z) : Int) (thereS (toS Z) : Int) := z6q
    rw [setK_idx (x := ⟨q.c, C.pruneM q.vs E, q.p, B'⟩) zi.srt hB rfl] at z6'
    have tp6 : ToP E Z (Zi.set i ⟨q.c, C.pruneM q.vs E, q.p, B'⟩) (i + 1) := ⟨by rw [List.length_set]; exact tl, fun j r hj => by
      by_cases hji : j = i
      · subst hji
        rw [hq] at hj; cases hj
        exact ⟨B', by rw [List.getElem?_set_self (by rw [tl]; exact (List.getElem?_eq_some_iff.1 hq).1), if_pos (by omega)]⟩
      · obtain ⟨B2, h2⟩ := tp j r hj
        refine ⟨B2, ?_⟩
        rw [List.getElem?_set_ne (fun e => hji e.symm), h2]
        by_cases hlt' : j < i
        · rw [if_pos hlt', if_pos (by omega)]
        · rw [if_neg hlt', if_neg (by omega)]⟩
    have b46 : Blk h6 n4 #[.int .i64 (diffN E (Z.take i) : Int)] tn_int := o6.block v.b4 (by omega)
    refine stH_of b46 (by simp) fun h7 b47 o7 s7 => ?_
    have z7 := keepZ z6' o7 fun bb e => .inr (by subst e; exact not_sh b46 int_ty)
    have no7 : ∀ m, m ≠ q.p → m ≠ n4 → ∀ y, h5[m]? = some y → h7[m]? = some y := fun m h1 h2 y hy => o7.block (o6.block hy h1) h2
    have so7 : SOnly R h h7 := by
      have a1 : SOnly R h5 h6 := so6.mono fun m hm e => ⟨e.1.1, e.2⟩
      exact Only.trans (v.so.trans a1) o7 fun m hm e => by omega
    have o57 : Only (fun m => m = q.p ∨ m = n4) h5 h7 := (o6.mono fun _ _ e => .inl e).trans o7 fun _ _ e => .inr e
    have q2' : Owns h7 o tn_string 1 ((emptyK E (Z.take i)).flatMap cT) := q2.only o57 fun m hm e => by have := q3 m hm; omega
    have sq7 : P.SeqH h7 ka ma b r (keysZ Z) := v.sq.only o57 fun m hm e => by
      have := lq m hm
      rcases e with e | e <;> omega
    have x7 : h7[hL.size + 1]? = some X := no7 _ (by omega) (by omega) _ hx
    have d7 : h7[hL.size]? = some (.deferred (some [])) := no7 _ (by omega) (by omega) _ v.dfr
    have x72 : Blk h7 n2 #[held.enc] tn_Slint := no7 _ (by omega) (by omega) _ v.b2
    have x77 : Blk h7 n7 #[o.enc] tn_Slstring := no7 _ (by omega) (by omega) _ q1
    have sz7 : h5.size ≤ h7.size := o57.size
    have hmem7 : (⟨q.c, C.pruneM q.vs E, q.p, B'⟩ : Rec) ∈ Zi.set i ⟨q.c, C.pruneM q.vs E, q.p, B'⟩ := List.mem_of_getElem? (List.getElem?_set_self (by rw [tl]; exact (List.getElem?_eq_some_iff.1 hq).1))
    have ch7 : C.Ch h7 q.p (C.pruneM q.vs E) B' := z7.ch ⟨q.c, C.pruneM q.vs E, q.p, B'⟩ hmem7
    refine C.Len_spec ch7 ⟨fun g => ?_, fun g => ?_⟩
    · have h0 : ((C.pruneM q.vs E).length : Int) = 0 := by simpa using g
      have hnil : C.pruneM q.vs E = [] := List.eq_nil_of_length_eq_zero (by omega)
      refine ldL_of (Blk.cell (i := 0) x77 rfl) (newL_of fun n14 h14 hn14 b14 e14 s14 => ?_)
      have hel : (emptyK E (Z.take i)).length ≤ 1048576 := by
        unfold emptyK
        have := List.length_filter_le (fun r : Rec => (C.pruneM r.vs E).isEmpty) (Z.take i)
        rw [List.length_map]
        rw [List.length_take] at this
        omega
      refine app_list (L := emptyK E (Z.take i)) (M := [keyB q.c]) cT_len (by omega) el_Slstring (q2'.ext e14) (blk_reads b14 rfl) (fun x => one1 rfl) (by simp only [List.length_singleton]; omega) fun r15 h15 w15 o15 n15 => ?_
      have x14 : Blk h14 n7 #[o.enc] tn_Slstring := e14.block x77 fun f => f
      have hob : o.blk ≠ some n7 := fun e => by have := q3 _ e; omega
      have x15 : Blk h15 n7 #[o.enc] tn_Slstring := o15.block x14 hob
      refine stH_of x15 (by simp) fun h16 b16 o16 s16 => ?_
      have r15n : ∀ y, r15.blk = some y → hL.size + 2 ≤ y := fun y hy => by
        rcases n15 with n15 | ⟨y', n15, n16⟩
        · exact q3 y (by rw [← n15]; exact hy)
        · rw [n15] at hy; cases hy
          have := e14.size; omega
      have o14 : Only (fun m => o.blk = some m ∨ m = n7) h14 h16 := (o15.mono fun _ _ e => .inl e).trans o16 fun _ _ e => .inr e
      have o716 : Only (fun m => o.blk = some m ∨ m = n7) h7 h16 := (e14.only (S := fun m => o.blk = some m ∨ m = n7)).trans o14 fun _ _ e => e
      have no : ∀ m, m ≤ hL.size + 1 → m ≠ n7 → ¬ (o.blk = some m ∨ m = n7) := fun m hm hne e => by
        rcases e with e | e
        · have := q3 m e; omega
        · exact hne e
      have so16 : SOnly R h h16 := Only.trans so7 o716 fun m hm e => by
        rcases e with e | e
        · have := q3 m e; omega
        · omega
      refine kK h16 ⟨so16, o716.block x72 (no _ (by omega) d27), o716.block b47 (no _ (by omega) d47), ⟨r15, b16, ?_, r15n⟩, sq7.only o716 fun m hm => no m (by have := lq m hm; omega) (lq m hm).2.2.1, o716.block d7 (no _ (by omega) (by omega)), by have := o716.size; omega, ⟨_, keepZ z7 o716 fun bb e => .inr ?_, tp6⟩, lts⟩ (o716.block x7 (no _ (Nat.le_refl _) (by omega)))
      · rw [empty_snoc E hq, if_pos (by rw [hnil]; rfl)]
        exact w15.only o16 fun m hm e => by have := r15n m hm; omega
      · rcases e with e | e
        · obtain ⟨c, hc⟩ := q2'.typ e
          exact not_sh hc str_ty
        · subst e; exact not_sh x77 slstr_ty
    · have hne : (C.pruneM q.vs E).isEmpty = false := by
        cases hp : C.pruneM q.vs E with
        | nil => rw [hp] at g; simp at g
        | cons a b => rfl
      refine kK h7 ⟨so7, x72, b47, ⟨o, x77, ?_, q3⟩, sq7, d7, by omega, ⟨_, z7, tp6⟩, lts⟩ x7
      rw [empty_snoc E hq, hne]
      simpa using q2'
  · obtain ⟨l2, l4, l7, g2, g4, g7, d24, d27, d47, lq⟩ := v.lt
    obtain ⟨o, q1, q2, q3⟩ := v.b7
    obtain ⟨Zn, zn, tl, tp⟩ := v.z
    rw [keysZ_len, List.take_length] at q2
    have b4 := v.b4
    rw [keysZ_len, List.take_length] at b4
    rw [keysZ_len] at tp
    have hek : emptyK E Z = ((Z.filter fun r => (C.pruneM r.vs E).isEmpty).map fun r => r.c).map keyB := by unfold emptyK; rw [List.map_map]; rfl
    rw [hek] at q2
    have hlo := own_len cT_len (by omega) q2
    rw [List.length_map] at hlo
    have so5 := v.so.size
    refine ldL_of (Blk.cell (i := 0) q1 rfl) ⟨((Z.filter fun r : Rec => (C.pruneM r.vs E).isEmpty).map fun r => r.c).length + 1, ?_⟩
    rw [hlo]
    have hfl := List.length_filter_le (fun r : Rec => (C.pruneM r.vs E).isEmpty) Z
    have zR := zn.turn (W' := WP) (R' := R) (fun r hr hw => hw) fun b hb hr => hr.1
    refine drop_loop (hb := h') (fun c hc => ?_) (by rw [List.length_map]; omega) (fun bb hb => hR bb (by omega)) _ 0 h' rs es T Zn (by omega) (by omega) zR q2 (Nat.le_refl _) fun h2 rs2 es2 T2 z2 so2 => ?_
    · obtain ⟨r', hr', rfl⟩ := List.mem_map.1 hc
      exact (z.wf r' (List.mem_filter.1 hr').1).1
    · rw [List.drop_zero] at z2
      unfold F.shard_Shard_Prune.l1
      refine ⟨fun g => by have := of_decide_eq_true g; omega, fun _ => ?_⟩
      simp only [nn_some, add_lit, Nat.zero_add, Nat.add_zero]
      have b42 : Blk h2 n4 #[.int .i64 (diffN E Z : Int)] tn_int := so2.block b4 fun hs => not_sh b4 int_ty hs.2
      rw [ldI_iff z2.cs0, ldI_iff (Blk.cell (i := 0) b42 rfl)]
      rw [hZS] at z2 ⊢
      rw [hZS] at hus
      rw [w64 (by omega) (by omega)]
      refine z2.st0 fun h3 z3 so3 => ?_
      have b43 : Blk h3 n4 #[.int .i64 (diffN E Z : Int)] tn_int := so3.block b42 fun hs => not_sh b42 int_ty hs.2
      rw [ldI_iff (Blk.cell (i := 0) b43 rfl)]
      have nd : ∀ {hh : H}, hh[hL.size]? = some (.deferred (some [])) → ¬ ShTy hh hL.size := fun hd ⟨e, _, c, h2⟩ => by
        have := hd.symm.trans h2
        simp at this
      have d2 := so2.block v.dfr fun hs => nd v.dfr hs.2
      have d3 := so3.block d2 fun hs => nd d2 hs.2
      refine shut1 d3 fun h9 o9 => ?_
      have z9 : SZG WP h9 n tn rs2 es2 T2 _ slots R _ _ := z3.keep o9 fun b hb ht e => by subst e; exact nd d3 ht
      have so9 : SOnly R h h9 := Only.trans ((v.so.trans so2).trans so3) o9 fun m hm e => by have := e0L.size; omega
      -- what is left
      have hidx : ∀ x ∈ Zn, ∃ q ∈ Z, x.c = q.c ∧ x.vs = C.pruneM q.vs E := fun x hx => by
        obtain ⟨j, hj⟩ := List.mem_iff_getElem?.1 hx
        have hjl := (List.getElem?_eq_some_iff.1 hj).1
        obtain ⟨q, hq⟩ : ∃ q, Z[j]? = some q := ⟨_, List.getElem?_eq_getElem (by omega)⟩
        obtain ⟨B, hB⟩ := tp j q hq
        rw [hj, if_pos (by omega)] at hB
        cases hB
        exact ⟨q, List.mem_of_getElem? hq, rfl, rfl⟩
      have htoS : toS Zn = (toS Z).map fun x => (x.1, C.pruneM x.2 E) := by
        apply List.ext_getElem?
        intro j
        unfold toS
        rw [List.map_map, List.getElem?_map, List.getElem?_map]
        cases hq : Z[j]? with
        | none =>
          have : Zn[j]? = none := by rw [List.getElem?_eq_none_iff] at hq ⊢; omega
          rw [this]; rfl
        | some q =>
          obtain ⟨B, hB⟩ := tp j q hq
          rw [if_pos (by have := (List.getElem?_eq_some_iff.1 hq).1; omega)] at hB
          rw [hB]; rfl
      have hout : outZ ((Z.filter fun r : Rec => (C.pruneM r.vs E).isEmpty).map fun r => r.c) Zn = Zn.filter fun r : Rec => !r.vs.isEmpty := by
        unfold outZ
        refine List.filter_congr fun x hx => ?_
        obtain ⟨q, hq, h1, h2⟩ := hidx x hx
        rw [h2]
        cases he : (C.pruneM q.vs E).isEmpty with
        | true =>
          have : ¬ ∀ c ∈ (Z.filter fun r : Rec => (C.pruneM r.vs E).isEmpty).map (fun r => r.c), cmpC x.c c ≠ 0 := fun hall => hall q.c (List.mem_map.2 ⟨q, List.mem_filter.2 ⟨hq, he⟩, rfl⟩) (by rw [h1]; exact cC_self _)
          rw [decide_eq_false this]; rfl
        | false =>
          have : ∀ c ∈ (Z.filter fun r : Rec => (C.pruneM r.vs E).isEmpty).map (fun r => r.c), cmpC x.c c ≠ 0 := fun c hc h0 => by
            obtain ⟨q', hq', rfl⟩ := List.mem_map.1 hc
            obtain ⟨m1, m2⟩ := List.mem_filter.1 hq'
            have hcc := (cC_zero.1 h0).symm.trans h1
            have g1 := getK_mem z.srt m1
            have g2 := getK_mem z.srt hq
            rw [hcc, g2] at g1
            cases g1
            rw [he] at m2; cases m2
          rw [decide_eq_true this]; rfl
      rw [hout] at z9
      have hS' : toS (Zn.filter fun r : Rec => !r.vs.isEmpty) = pruneS S E := by
        rw [← hZS]
        unfold pruneS
        rw [← htoS]
        unfold toS
        rw [List.filter_map]; rfl
      have zz : SZ h9 n tn rs2 es2 T2 _ slots R _ _ := z9.turn (W' := VOk) (R' := R) (fun x hx hw => by
        obtain ⟨m1, m2⟩ := List.mem_filter.1 hx
        obtain ⟨q, hq, h1, h2⟩ := hidx x m1
        rw [h2] at m2 ⊢
        exact prune_ok (hvok q hq) E fun e => by rw [e] at m2; cases m2) fun b hb hr => hr
      have hdiff : ((diffN E Z : Nat) : Int) = (unitsS S : Int) - unitsS (pruneS S E) := by omega
      rw [hdiff]
      refine k h9 ⟨tn, rs2, es2, T2, _, hS', ?_⟩ so9
      rw [hS', hsum.2]
      have : (unitsS S : Int) - (diffN E Z : Int) = unitsS (pruneS S E) := by omega
      rw [this] at zz
      exact zz
end Go.Proofs.Ytoccbnhahaoeiaa.V.S
namespace Go.Proofs.Ytoccbnhahaoeiaa.V.S
open Go Go.Proofs.Ytoccbnhahaoeiaa.V
set_option linter.unusedVariables false
set_option linter.unusedSimpArgs false
set_option maxRecDepth 20000
abbrev oneA (v : Int) : S_api_Agg := ⟨1, v, v, v⟩
theorem one_spec {h : H} {v : Int} {Q : S_api_Agg → H → Prop} (k : ∀ h', Ext h h' → Q (oneA v) h') : F.spatelaw7_one v h Q := by
  unfold F.spatelaw7_one
  refine new_of fun m h1 hm b1 e1 s1 => ?_
  have b1' : Blk h1 m zA.cells.toArray tn_api_Agg := b1
  exact C.st_agg b1' (d := oneA v) fun h2 b2 o2 s2 => ⟨_, b2.cells, k h2 (e1.step o2 fun x hx hb => by omega)⟩
theorem right_one (a b c : Int) : RightIs ⟨1, a, b, c⟩ (decide (b = a ∧ c = a)) := fun h Q k => by
  unfold F.agg_Right
  refine new_of fun m h1 hm b1 e1 s1 => ?_
  have c0 : cellH h1 ⟨m, 0, none⟩ = some (.int .i64 1) := Blk.cells b1 0 _ rfl
  have c1 : cellH h1 ⟨m, 1, none⟩ = some (.int .i64 a) := Blk.cells b1 1 _ rfl
  have c2 : cellH h1 ⟨m, 2, none⟩ = some (.int .i64 b) := Blk.cells b1 2 _ rfl
  have c3 : cellH h1 ⟨m, 3, none⟩ = some (.int .i64 c) := Blk.cells b1 3 _ rfl
  simp only [add_lit, Nat.zero_add, Nat.add_zero]
  rw [ldI_iff c0]
  refine ⟨fun g => by have := of_decide_eq_true g; omega, fun _ => ?_⟩
  rw [ldI_iff c0]
  refine ⟨fun _ => ?_, fun g => by simp at g⟩
  rw [ldI_iff c2, ldI_iff c1]
  have k := k h1 e1
  refine ⟨fun g => ?_, fun g => ?_⟩
  · have g : b = a := by simpa using g
    rw [ldI_iff c3, ldI_iff c1]
    have : decide (b = a ∧ c = a) = (c == a) := by
      by_cases h : c = a <;> simp [g, h]
    rw [this] at k; exact k
  · have g : ¬ b = a := by simpa using g
    have : decide (b = a ∧ c = a) = false := by simp [g]
    rw [this] at k; exact k
theorem right_one' (v : Int) : RightIs (oneA v) true := by
  have := right_one v v v
  simpa using this
theorem agg_eq {a b : S_api_Agg} : ((a.Count == b.Count) && ((a.Sum == b.Sum) && ((a.Min == b.Min) && ((a.Max == b.Max) && true)))) = true ↔ a = b := by
  obtain ⟨a1, a2, a3, a4⟩ := a
  obtain ⟨b1, b2, b3, b4⟩ := b
  simp [and_assoc]
abbrev cA : Cel := ⟨0, ⟨#[97]⟩, 0⟩
theorem head_spec {h : H} {Q : Bool → H → Prop} (k : ∀ h', Ext h h' → Q true h') : F.spatelaw7_head h Q := by
  unfold F.spatelaw7_head
  refine New_spec (R := fun b => h.size ≤ b) (fun g => by omega) (fun b hb => hb) fun _ _ h1 n sh e1 hn => ⟨fun g => by simp at g, fun _ => ?_⟩
  unfold F.spatelaw7_head.j2
  refine ⟨fun g => by simp at g, fun _ => ?_⟩
  unfold F.spatelaw7_head.j1
  refine new_of fun m h4 hm b4 e4 s4 => ?_
  have b4' : Blk h4 m zeroC.cells.toArray tn_api_Cell := b4
  refine st_cel b4' (d := cA) fun h6 b6 o6 s6 => ⟨cA, b6.cells, ?_⟩
  have e16 : Ext h1 h6 := e4.step o6 fun x hx hb => by omega
  refine one_spec fun h9 e9 => ⟨(Blk.cells b6).ext e9, ?_⟩
  have sh9 := (sh.ext e16).ext e9
  have e09 : Ext h h9 := (e1.trans e16).trans e9
  have hR : ∀ {hh : H}, Ext h hh → ∀ b, hh.size ≤ b → h.size ≤ b := fun e b hb => by have := e.size; omega
  have b9 : Blk h9 m cA.cells.toArray tn_api_Cell := e9.block b6 fun f => f
  have mty : ¬ ShE tn_api_Cell := by unfold ShE; decide
  have keep : ∀ {a b : H}, SOnly (fun x => h.size ≤ x) a b → Blk a m cA.cells.toArray tn_api_Cell → Blk b m cA.cells.toArray tn_api_Cell := fun o hb => o.block hb fun ⟨_, e, h1, c, h2⟩ => mty (by
    have := hb.symm.trans h2
    simp at this
    rw [this.2]; exact h1)
  refine Put_spec (x := ⟨cA, oneA 5⟩) sh9 (right_one' 5) (hR e09) (fun g => absurd (by decide) g) fun _ h12 sh12 o12 => ?_
  have e012 : Ext h h12 := o12.base e09 fun b hb => hb
  have b12 := keep o12 b9
  refine ⟨cA, b12.cells, one_spec fun h16 e16' => ⟨(Blk.cells b12).ext e16', ?_⟩⟩
  have e016 := e012.trans e16'
  refine Put_spec (x := ⟨cA, oneA 6⟩) (sh12.ext e16') (right_one' 6) (hR e016) (fun g => absurd (by decide) g) fun _ h19 sh19 o19 => ?_
  have e019 : Ext h h19 := o19.base e016 fun b hb => hb
  have b19 := keep o19 (e16'.block b12 fun f => f)
  refine ⟨fun _ => ⟨fun _ => ?_, fun g => by simp at g⟩, fun g => by simp at g⟩
  simp only [nn_some, add_lit, Nat.zero_add, Nat.add_zero]
  refine Units_spec sh19 ⟨fun _ => ?_, fun g => absurd (show ((unitsS (putS (putS [] 1 cA (oneA 5)) 2 cA (oneA 6)) : Int) == 3) = true from by decide) (by rw [g]; decide)⟩
  refine Cells_spec sh19 ⟨fun _ => ?_, fun g => absurd (show ((thereS (putS (putS [] 1 cA (oneA 5)) 2 cA (oneA 6)) : Int) == 1) = true from by decide) (by rw [g]; decide)⟩
  refine Most_spec sh19 fun h33 e33 => ⟨fun _ => ?_, fun g => absurd (show ((mostS (putS (putS [] 1 cA (oneA 5)) 2 cA (oneA 6)) : Int) == 2) = true from by decide) (by rw [g]; decide)⟩
  refine ⟨cA, (Blk.cells b19).ext e33, Get_spec (sh19.ext e33) fun h38 e38 => one_spec fun h40 e40 => ?_⟩
  have e3340 := e38.trans e40
  refine ⟨fun _ => ?_, fun g => absurd (agg_eq.2 (show atS (putS (putS [] 1 cA (oneA 5)) 2 cA (oneA 6)) cA 0 = oneA 6 from rfl)) (by rw [g]; decide)⟩
  refine ⟨cA, (Blk.cells b19).ext (e33.trans e3340), At_spec (sh19.ext (e33.trans e3340)) fun h45 e45 => one_spec fun h47 e47 => ?_⟩
  have hat : atS (putS (putS [] 1 cA (oneA 5)) 2 cA (oneA 6)) cA 1 = oneA 5 := rfl
  rw [agg_eq.2 hat]
  exact k h47 ((e019.trans e33).trans (e3340.trans (e45.trans e47)))
end Go.Proofs.Ytoccbnhahaoeiaa.V.S
namespace Go.Proofs.Ytoccbnhahaoeiaa.V.S
open Go Go.Proofs.Ytoccbnhahaoeiaa.V
set_option linter.unusedVariables false
set_option linter.unusedSimpArgs false
set_option maxRecDepth 20000
def withinM (a m : Int) : Int := if Int.tmod a m < 0 then Int.tmod a m + m else Int.tmod a m
theorem within_range {a m : Int} (h : 0 < m) : 0 ≤ withinM a m ∧ withinM a m < m := by
  have h1 := Int.tmod_lt_of_pos a h
  have h2 : -m < Int.tmod a m := by
    have := Int.tmod_lt_of_pos (-a) h
    rw [Int.neg_tmod] at this
    omega
  unfold withinM
  split <;> omega
theorem within_spec {a m : Int} {h : H} {Q : Int → H → Prop} (h0 : 0 < m) (h1 : m < 4611686018427387904) (k : Q (withinM a m) h) : F.spatelaw7_within a m h Q := by
  have hr := Int.tmod_lt_of_pos a h0
  have h2 : -m < Int.tmod a m := by
    have := Int.tmod_lt_of_pos (-a) h0
    rw [Int.neg_tmod] at this
    omega
  unfold F.spatelaw7_within F.spatelaw7_within.j1
  unfold withinM at k
  refine ⟨by omega, fun g => ?_, fun g => ?_⟩
  · have g := of_decide_eq_true g
    rw [if_pos g] at k
    rw [w64 (by omega) (by omega)]; exact k
  · have g := of_decide_eq_false g
    rw [if_neg g] at k; exact k
end Go.Proofs.Ytoccbnhahaoeiaa.V.S
namespace Go.Proofs.Ytoccbnhahaoeiaa.V.S
open Go Go.Proofs.Ytoccbnhahaoeiaa.V
set_option linter.unusedVariables false
set_option linter.unusedSimpArgs false
set_option maxRecDepth 20000
theorem cel_sh : ¬ ShE tn_api_Cell := by unfold ShE; decide
theorem SOnly.blk {R : Nat → Prop} {a b : H} {m : Nat} {cs : Array Value} {e : TypeId} (o : SOnly R a b) (hb : Blk a m cs e) (he : ¬ ShE e) : Blk b m cs e := o.block hb fun ⟨_, e', h1, c, h2⟩ => he (by
  have := hb.symm.trans h2
  simp at this
  rw [this.2]; exact h1)
end Go.Proofs.Ytoccbnhahaoeiaa.V.S
namespace Go.Proofs.Ytoccbnhahaoeiaa.V.S
open Go Go.Proofs.Ytoccbnhahaoeiaa.V
set_option linter.unusedVariables false
set_option linter.unusedSimpArgs false
set_option maxRecDepth 20000
def cellM (n : Nat) : Cel := ⟨0, ⟨#[UInt8.ofNat (97 + n / 160000 % 20), UInt8.ofNat (97 + n / 8000 % 20), UInt8.ofNat (97 + n / 400 % 20), UInt8.ofNat (97 + n / 20 % 20)]⟩, ((n % 20 : Nat) : Int)⟩
theorem u8lt {x y : Nat} (hx : x < 20) (hy : y < 20) : (UInt8.ofNat (97 + x) < UInt8.ofNat (97 + y)) ↔ x < y := by
  rw [UInt8.lt_iff_toNat_lt]
  simp
  omega
theorem cb_lt {x y : Nat} (hx : x < 20) (hy : y < 20) (h : x < y) (A B : List UInt8) : Lib.compareBytes (UInt8.ofNat (97 + x) :: A) (UInt8.ofNat (97 + y) :: B) = -1 := by
  simp only [Lib.compareBytes]
  rw [if_pos ((u8lt hx hy).2 h)]
theorem cb_eq {x y : Nat} (h : x = y) (A B : List UInt8) : Lib.compareBytes (UInt8.ofNat (97 + x) :: A) (UInt8.ofNat (97 + y) :: B) = Lib.compareBytes A B := by
  subst h
  simp only [Lib.compareBytes, u8_irr, if_false]
theorem cell_lt {a b : Nat} (h : a < b) (hb : b < 3200000) : cmpC (cellM a) (cellM b) = -1 := by
  rw [cC_lt]
  refine .inr ⟨rfl, ?_⟩
  show Lib.compareBytes [UInt8.ofNat (97 + a / 160000 % 20), UInt8.ofNat (97 + a / 8000 % 20), UInt8.ofNat (97 + a / 400 % 20), UInt8.ofNat (97 + a / 20 % 20)] [UInt8.ofNat (97 + b / 160000 % 20), UInt8.ofNat (97 + b / 8000 % 20), UInt8.ofNat (97 + b / 400 % 20), UInt8.ofNat (97 + b / 20 % 20)] = -1 ∨ ([UInt8.ofNat (97 + a / 160000 % 20), UInt8.ofNat (97 + a / 8000 % 20), UInt8.ofNat (97 + a / 400 % 20), UInt8.ofNat (97 + a / 20 % 20)] = [UInt8.ofNat (97 + b / 160000 % 20), UInt8.ofNat (97 + b / 8000 % 20), UInt8.ofNat (97 + b / 400 % 20), UInt8.ofNat (97 + b / 20 % 20)] ∧ ((a % 20 : Nat) : Int) < ((b % 20 : Nat) : Int))
  have ka := Nat.mod_lt (a / 160000) (show 20 > 0 by omega)
  by_cases e1 : a / 160000 % 20 = b / 160000 % 20
  · rw [cb_eq e1]
    by_cases e2 : a / 8000 % 20 = b / 8000 % 20
    · rw [cb_eq e2]
      by_cases e3 : a / 400 % 20 = b / 400 % 20
      · rw [cb_eq e3]
        by_cases e4 : a / 20 % 20 = b / 20 % 20
        · rw [e1, e2, e3, e4]; exact .inr ⟨rfl, by omega⟩
        · exact .inl (cb_lt (by omega) (by omega) (by omega) _ _)
      · exact .inl (cb_lt (by omega) (by omega) (by omega) _ _)
    · exact .inl (cb_lt (by omega) (by omega) (by omega) _ _)
  · exact .inl (cb_lt (by omega) (by omega) (by omega) _ _)
theorem agg_same (a : S_api_Agg) : ((a.Count == a.Count) && ((a.Sum == a.Sum) && ((a.Min == a.Min) && ((a.Max == a.Max) && true)))) = true := by simp
end Go.Proofs.Ytoccbnhahaoeiaa.V.S
namespace Go.Proofs.Ytoccbnhahaoeiaa.V.S
open Go Go.Proofs.Ytoccbnhahaoeiaa.V
set_option linter.unusedVariables false
set_option linter.unusedSimpArgs false
set_option maxRecDepth 20000
theorem SH.turn {h : H} {n : Nat} {S : SL} {slots : Nat} {R R' : Nat → Prop} (s : SH h n S slots R) (hr : ∀ b, b < h.size → R b → R' b) : SH h n S slots R' := by
  obtain ⟨tn, rs, es, T, Z, hZ, z⟩ := s
  exact ⟨tn, rs, es, T, Z, hZ, z.turn (fun r hr h => h) hr⟩
theorem own_nsh {h : H} {t : Sl} {e : TypeId} {k : Nat} {cs : List Value} (w : Owns h t e k cs) (he : ¬ ShE e) {b : Nat} (hb : t.blk = some b) : ¬ ShTy h b := by
  obtain ⟨_, ⟨q1, _, _⟩ | ⟨b', c', q1, q2, _⟩⟩ := w
  · simp [Sl.blk, q1] at hb
  · simp [Sl.blk, q1] at hb
    subst hb
    exact not_sh q2 he
theorem nb {b : Bool} (h : b = true) {P : Prop} : (!b) = true → P := fun g => by subst h; cases g
end Go.Proofs.Ytoccbnhahaoeiaa.V.S
namespace Go.Proofs.Ytoccbnhahaoeiaa.V.S
open Go Go.Proofs.Ytoccbnhahaoeiaa.V
set_option linter.unusedVariables false
set_option linter.unusedSimpArgs false
set_option maxRecDepth 20000
theorem keep_filter {p : Ver → Bool} : ∀ {L : List Ver} {S : List Bool}, S.length = L.length → (∀ (i : Nat) (x : Ver), L[i]? = some x → S[i]? = some (p x)) → C.keepM L S = L.filter p
  | [], [], _, _ => rfl
  | [], b :: s, h, _ => by simp at h
  | x :: r, [], h, _ => by simp at h
  | x :: r, b :: s, h, k => by
    have h0 : b = p x := by have := k 0 x rfl; simpa using this
    have ih := keep_filter (p := p) (L := r) (S := s) (by simpa using h) fun i y hy => by have := k (i + 1) y (by simpa using hy); simpa using this
    unfold C.keepM
    rw [ih, h0, List.filter_cons]
theorem mark_iff (L : List Ver) {i : Nat} (hi : i < L.length) : ∀ (E : List Int) (S : List Bool), S.length = L.length → ((E.foldl (C.markM L) S)[i]? = some true ↔ S[i]? = some true ∨ ∃ e ∈ E, C.cntM L e = i + 1)
  | [], S, _ => by simp
  | e :: r, S, h => by
    rw [List.foldl_cons, mark_iff L hi r _ (by rw [C.markM_len]; exact h)]
    have h1 : (C.markM L S e)[i]? = some true ↔ S[i]? = some true ∨ C.cntM L e = i + 1 := by
      unfold C.markM
      split
      · rename_i h0
        constructor
        · exact fun h => .inl h
        · rintro (h | h); exact h; omega
      · rename_i h0
        rw [List.getElem?_set]
        by_cases he : C.cntM L e - 1 = i
        · rw [if_pos he, if_pos (by omega)]
          exact ⟨fun _ => .inr (by omega), fun _ => rfl⟩
        · rw [if_neg he]
          constructor
          · exact fun h => .inl h
          · rintro (h | h); exact h; omega
    rw [h1]
    constructor
    · rintro ((h | h) | ⟨e', h2, h3⟩)
      · exact .inl h
      · exact .inr ⟨e, by simp, h⟩
      · exact .inr ⟨e', by simp [h2], h3⟩
    · rintro (h | ⟨e', h2, h3⟩)
      · exact .inl (.inl h)
      · rcases List.mem_cons.1 h2 with h2 | h2
        · subst h2; exact .inl (.inr h3)
        · exact .inr ⟨e', h2, h3⟩
theorem stay_iff (L : List Ver) {i : Nat} (hi : i < L.length) (E : List Int) : (C.stayM L E)[i]? = some true ↔ i + 1 = L.length ∨ ∃ e ∈ E, C.cntM L e = i + 1 := by
  unfold C.stayM
  rw [mark_iff L hi E _ (by simp)]
  have : ((List.replicate L.length false).set (L.length - 1) true)[i]? = some true ↔ i + 1 = L.length := by
    rw [List.getElem?_set]
    by_cases h : L.length - 1 = i
    · rw [if_pos h, if_pos (by simp; omega)]
      exact ⟨fun _ => by omega, fun _ => rfl⟩
    · rw [if_neg h, List.getElem?_replicate, if_pos hi]
      simp; omega
  rw [this]
theorem one_alive {L : List Ver} (h : ∀ x ∈ L, x.dead = false) : C.oneM L = L := by
  unfold C.oneM
  split
  · rename_i x; rw [h x (by simp)]; rfl
  · rfl
/-- What is kept of versions that are alive. -/
theorem prune_filter {L : List Ver} {E : List Int} {p : Ver → Bool} (ha : ∀ x ∈ L, x.dead = false) (hp : ∀ (i : Nat) (x : Ver), L[i]? = some x → (p x = true ↔ i + 1 = L.length ∨ ∃ e ∈ E, C.cntM L e = i + 1)) : C.pruneM L E = L.filter p := by
  unfold C.pruneM
  have hl : (C.stayM L E).length = L.length := by unfold C.stayM; rw [C.stay_len]; simp
  rw [keep_filter (p := p) hl fun i x hx => ?_]
  · exact one_alive fun x hx => ha x (List.mem_filter.1 hx).1
  · have hi := (List.getElem?_eq_some_iff.1 hx).1
    have h1 := (stay_iff L hi E).trans (hp i x hx).symm
    obtain ⟨b, hb⟩ : ∃ b, (C.stayM L E)[i]? = some b := ⟨_, List.getElem?_eq_getElem (by omega)⟩
    rw [hb] at h1 ⊢
    cases b <;> cases h : p x <;> simp_all
theorem cnt_own {L : List Ver} (hr : C.Rise L) {i : Nat} {x : Ver} (hx : L[i]? = some x) : C.cntM L x.epoch = i + 1 := by
  have hi := (List.getElem?_eq_some_iff.1 hx).1
  unfold C.cntM
  refine C.cnt_eq _ L (i + 1) (by omega) (fun t y ht hy => ?_) fun t y ht hy => ?_
  · by_cases h : t = i
    · subst h; rw [hx] at hy; cases hy; simp
    · have := hr.lt (show t < i by omega) hy hx
      simp; omega
  · have := hr.lt (show i < t by omega) hx hy
    simp; omega
abbrev cK : Cel := ⟨0, ⟨#[107]⟩, 0⟩
abbrev cL : Cel := ⟨0, ⟨#[108]⟩, 0⟩
theorem okK : okC cK = 0 := by decide
theorem okL : okC cL = 0 := by decide
theorem neKL : cmpC cK cL = -1 := by decide
def verN (s j : Nat) : Ver := ⟨(((j + 1) * s : Nat) : Int), oneA ((j + 1 : Nat) : Int), false⟩
def vsN (s n : Nat) : List Ver := (List.range n).map (verN s)
theorem vsN_succ (s n : Nat) : vsN s (n + 1) = vsN s n ++ [verN s n] := by unfold vsN; rw [List.range_succ, List.map_append]; rfl
theorem vsN_len (s n : Nat) : (vsN s n).length = n := by simp [vsN]
theorem vsN_mem {s n : Nat} {x : Ver} (h : x ∈ vsN s n) : ∃ j, j < n ∧ x = verN s j := by
  unfold vsN at h
  obtain ⟨j, h1, h2⟩ := List.mem_map.1 h
  exact ⟨j, List.mem_range.1 h1, h2.symm⟩
theorem vsN_at {s n i : Nat} (h : i < n) : (vsN s n)[i]? = some (verN s i) := range_at _ h
theorem vsN_rise {s : Nat} (hs : 0 < s) (n : Nat) : C.Rise (vsN s n) := by
  unfold C.Rise vsN
  rw [List.pairwise_map]
  refine List.Pairwise.imp (fun {a b} h => ?_) List.pairwise_lt_range
  have := Nat.mul_lt_mul_of_pos_right (show a + 1 < b + 1 by omega) hs
  show (((a + 1) * s : Nat) : Int) < (((b + 1) * s : Nat) : Int)
  omega
theorem vsN_filter {s : Nat} (hs : 0 < s) {i : Nat} {e : Int} (h1 : ((i * s : Nat) : Int) ≤ e) (h2 : e < (((i + 1) * s : Nat) : Int)) : ∀ n, i ≤ n → (vsN s n).filter (fun x => decide (x.epoch ≤ e)) = vsN s i
  | 0, h => by obtain rfl : i = 0 := by omega
               rfl
  | n + 1, h => by
    rw [vsN_succ, List.filter_append]
    by_cases hi : i = n + 1
    · subst hi
      have hall : (vsN s n ++ [verN s n]).filter (fun x => decide (x.epoch ≤ e)) = vsN s n ++ [verN s n] := by
        rw [← vsN_succ, List.filter_eq_self]
        intro x hx
        obtain ⟨j, hj, rfl⟩ := vsN_mem hx
        have := Nat.mul_le_mul_right s (show j + 1 ≤ n + 1 by omega)
        simp only [decide_eq_true_eq]
        show (((j + 1) * s : Nat) : Int) ≤ e
        omega
      rw [List.filter_append] at hall
      rw [hall, vsN_succ]
    · rw [vsN_filter hs h1 h2 n (by omega)]
      have : ([verN s n] : List Ver).filter (fun x => decide (x.epoch ≤ e)) = [] := by
        rw [List.filter_eq_nil_iff]
        intro x hx
        rw [List.mem_singleton.1 hx]
        have := Nat.mul_le_mul_right s (show i + 1 ≤ n + 1 by omega)
        simp only [decide_eq_true_eq]
        show ¬ (((n + 1) * s : Nat) : Int) ≤ e
        omega
      rw [this, List.append_nil]
theorem vsN_newest (s n : Nat) : C.newestM (vsN s (n + 1)) = (oneA ((n + 1 : Nat) : Int), (((n + 1) * s : Nat) : Int), true) := by
  rw [vsN_succ]; unfold C.newestM; rw [List.getLast?_concat]; rfl
theorem vsN_atM {s : Nat} (hs : 0 < s) {i n : Nat} (hn : i ≤ n) {e : Int} (h1 : ((i * s : Nat) : Int) ≤ e) (h2 : e < (((i + 1) * s : Nat) : Int)) : (C.atM (vsN s n) e).1 = if i = 0 then zA else oneA (i : Int) := by
  unfold C.atM
  rw [vsN_filter hs h1 h2 n hn]
  cases i with
  | zero => rfl
  | succ i =>
    rw [vsN_succ, List.getLast?_concat]
    rfl
theorem vsN_cnt {s : Nat} (hs : 0 < s) {i n : Nat} (hn : i ≤ n) {e : Int} (h1 : ((i * s : Nat) : Int) ≤ e) (h2 : e < (((i + 1) * s : Nat) : Int)) : C.cntM (vsN s n) e = i := by
  unfold C.cntM
  rw [List.countP_eq_length_filter, vsN_filter hs h1 h2 n hn, vsN_len]
abbrev sK (vs : List Ver) : SL := [(cK, vs)]
theorem sK_get (vs : List Ver) : getS (sK vs) cK = some vs := by simp [getS, getK, cC_self]
theorem sK_set (vs vs' : List Ver) : setS (sK vs) cK vs' = sK vs' := by simp [setS, setK, cC_self]
theorem sK_free (vs : List Ver) : getS (sK vs) cL = none := by simp [getS, getK, neKL]
theorem sK_units (vs : List Ver) : unitsS (sK vs) = unitsV vs := by simp [unitsS]
theorem sK_at (vs : List Ver) (e : Int) : atS (sK vs) cK e = (atV vs e).1 := by
  unfold atS
  rw [if_neg (fun h => h okK), sK_get]
theorem sK_prune {vs : List Ver} {E : List Int} (h : C.pruneM vs E ≠ []) : pruneS (sK vs) E = sK (C.pruneM vs E) := by
  unfold pruneS
  simp only [List.map_cons, List.map_nil]
  rw [List.filter_cons_of_pos (by simpa using h)]; rfl
def sI (s i : Nat) : SL := if i = 0 then [] else sK (vsN s i)
theorem sI_pos {s i : Nat} (h : 0 < i) : sI s i = sK (vsN s i) := if_neg (by omega)
theorem vsN_units (s : Nat) {i : Nat} (h : 0 < i) : unitsV (vsN s i) = i + 1 := by
  obtain ⟨j, rfl⟩ : ∃ j, i = j + 1 := ⟨i - 1, by omega⟩
  unfold unitsV alive
  rw [vsN_newest, vsN_len]; rfl
theorem bad_no {e c : Int} (h1 : 1 ≤ e) (h2 : e ≤ 1099511627776) (hc : c ≠ 0) : ¬ (e < 1 ∨ e > 1099511627776 ∨ c = 0 ∨ true = false) := by
  rintro (h | h | h | h)
  · omega
  · omega
  · exact hc h
  · cases h
theorem put_sI {s n i : Nat} (hs : 0 < s) (hs5 : s ≤ 5) (hi : i < n) (hn : n ≤ 2000) : putE (sI s i) (n + 1) (((i + 1) * s : Nat) : Int) cK (oneA ((i + 1 : Nat) : Int)) true = 0 ∧ putS (sI s i) (((i + 1) * s : Nat) : Int) cK (oneA ((i + 1 : Nat) : Int)) = sI s (i + 1) := by
  have hb : (i + 1) * s ≤ 10000 := Nat.le_trans (Nat.mul_le_mul (show i + 1 ≤ 2000 by omega) hs5) (by omega)
  have hb1 : 1 ≤ (i + 1) * s := Nat.mul_pos (by omega) hs
  rw [sI_pos (show 0 < i + 1 by omega)]
  unfold putE putS needS
  rw [if_neg (fun h => h okK)]
  cases i with
  | zero =>
    refine ⟨?_, by rw [vsN_succ]; rfl⟩
    rw [if_neg (bad_no (by omega) (by omega) (show (1 : Int) ≠ 0 from by decide)), if_neg (by show ¬ (0 : Int) > _; omega), if_neg]
    show ¬ ((0 : Int) + 2 > _)
    omega
  | succ j =>
    rw [sI_pos (show 0 < j + 1 by omega), sK_get]
    have hlt := Nat.mul_lt_mul_of_pos_right (show j + 1 < j + 1 + 1 by omega) hs
    have hnw := vsN_newest s j
    refine ⟨?_, ?_⟩
    · have hnd : needV (some (vsN s (j + 1))) (((j + 1 + 1) * s : Nat) : Int) = 1 := by
        unfold needV alive
        simp only
        rw [hnw]
        simp only
        rw [if_neg (by omega), if_neg (fun h => by have := h.1; omega), if_pos (.inr trivial)]
      rw [if_neg (bad_no (by omega) (by omega) (show (1 : Int) ≠ 0 from by decide)), Option.getD_some, hnw, if_neg (by show ¬ (((j + 1) * s : Nat) : Int) > _; omega), sK_units, vsN_units s (by omega)]
      simp only [if_neg (fun h : okC cK ≠ 0 => h okK)]
      rw [hnd, if_neg (by omega)]
    · rw [sK_set, Option.getD_some]
      have : C.lastE (vsN s (j + 1)) = (((j + 1) * s : Nat) : Int) := by rw [vsN_succ]; unfold C.lastE; rw [List.getLast?_concat]; rfl
      unfold C.layM
      rw [this, if_neg (fun h => by have := h.2; simp only at this; omega), vsN_succ s (j + 1)]; rfl
theorem put_again {s n : Nat} (hs : 0 < s) (hs5 : s ≤ 5) (h1 : 0 < n) (hn : n ≤ 2000) : putE (sI s n) (n + 1) ((n * s : Nat) : Int) cK (oneA (n : Int)) true = 0 ∧ putS (sI s n) ((n * s : Nat) : Int) cK (oneA (n : Int)) = sI s n ∧ putE (sI s n) (n + 1) ((n * s : Nat) : Int) cL (oneA 1) true = 31 ∧ putE (sI s n) (n + 1) (((n * s : Nat) : Int) + 1) cK (oneA 1) true = 31 := by
  obtain ⟨j, rfl⟩ : ∃ j, n = j + 1 := ⟨n - 1, by omega⟩
  have hb : (j + 1) * s ≤ 10000 := Nat.le_trans (Nat.mul_le_mul (show j + 1 ≤ 2000 by omega) hs5) (by omega)
  have hb1 : 1 ≤ (j + 1) * s := Nat.mul_pos (by omega) hs
  have hnw := vsN_newest s j
  rw [sI_pos h1]
  refine ⟨?_, ?_, ?_, ?_⟩
  · have hnd : needS (sK (vsN s (j + 1))) (((j + 1) * s : Nat) : Int) cK = 0 := by
      unfold needS needV alive
      rw [if_neg (fun h => h okK), sK_get]
      simp only
      rw [hnw]
      simp only
      rw [if_neg (by omega), if_pos ⟨trivial, trivial⟩]
    unfold putE
    rw [hnd, if_neg (fun h => h okK), if_neg (bad_no (by omega) (by omega) (show (1 : Int) ≠ 0 from by decide)), sK_get, Option.getD_some, hnw, if_neg (by show ¬ (((j + 1) * s : Nat) : Int) > _; omega), sK_units, vsN_units s (by omega), if_neg (by omega)]
  · unfold putS
    rw [sK_get, Option.getD_some, sK_set]
    have : C.lastE (vsN s (j + 1)) = (((j + 1) * s : Nat) : Int) := by rw [vsN_succ]; unfold C.lastE; rw [List.getLast?_concat]; rfl
    unfold C.layM
    rw [this, if_pos ⟨by rw [vsN_succ]; simp, rfl⟩, vsN_succ, List.dropLast_concat]; rfl
  · have hnd : needS (sK (vsN s (j + 1))) (((j + 1) * s : Nat) : Int) cL = 2 := by
      unfold needS
      rw [if_neg (fun h => h okL), sK_free]; rfl
    unfold putE
    rw [hnd, if_neg (fun h => h okL), if_neg (bad_no (by omega) (by omega) (show (1 : Int) ≠ 0 from by decide)), sK_free, if_neg (by show ¬ (0 : Int) > _; omega), sK_units, vsN_units s (by omega), if_pos (by omega)]
  · have hnd : needS (sK (vsN s (j + 1))) ((((j + 1) * s : Nat) : Int) + 1) cK = 1 := by
      unfold needS needV alive
      rw [if_neg (fun h => h okK), sK_get]
      simp only
      rw [hnw]
      simp only
      rw [if_neg (by omega), if_neg (fun h => by have := h.1; omega), if_pos (.inr trivial)]
    unfold putE
    rw [hnd, if_neg (fun h => h okK), if_neg (bad_no (by omega) (by omega) (show (1 : Int) ≠ 0 from by decide)), sK_get, Option.getD_some, hnw, if_neg (by show ¬ (((j + 1) * s : Nat) : Int) > _; omega), sK_units, vsN_units s (by omega), if_pos (by omega)]
/-- What is kept. -/
def keepP (n kp : Nat) (j : Nat) : Bool := decide (j + 1 = n ∨ (j + 1) % kp = 0)
def keepV (n kp : Nat) (x : Ver) : Bool := keepP n kp (x.value.Sum.toNat - 1)
def kN (n kp m : Nat) : Nat := ((List.range m).filter (keepP n kp)).length
theorem kN_succ (n kp m : Nat) : kN n kp (m + 1) = kN n kp m + if keepP n kp m then 1 else 0 := by
  unfold kN
  rw [List.range_succ, List.filter_append, List.length_append]
  by_cases h : keepP n kp m = true
  · rw [if_pos h, List.filter_cons_of_pos h]; rfl
  · rw [if_neg h, List.filter_cons_of_neg h]; rfl
def pK (s n kp : Nat) : List Ver := (vsN s n).filter (keepV n kp)
theorem keepV_ver (n kp s j : Nat) : keepV n kp (verN s j) = keepP n kp j := by
  unfold keepV verN
  show keepP n kp ((((j + 1 : Nat) : Int)).toNat - 1) = _
  rw [Int.toNat_natCast, Nat.add_sub_cancel]
theorem pK_len (s n kp : Nat) : (pK s n kp).length = kN n kp n := by
  unfold pK vsN kN
  rw [List.filter_map, List.length_map]
  congr 2
/-- Epochs that are held. -/
def HeldE (s n kp : Nat) (E : List Int) : Prop := ∀ e, e ∈ E ↔ ∃ j, j < n ∧ (j + 1) % kp = 0 ∧ (e = (((j + 1) * s : Nat) : Int) ∨ e = (((j + 1) * s : Nat) : Int) + (s : Int) - 1)
theorem prune_one {s n kp : Nat} (hs : 0 < s) {E : List Int} (hE : HeldE s n kp E) : C.pruneM (vsN s n) E = pK s n kp := by
  refine prune_filter (fun x hx => ?_) fun i x hx => ?_
  · obtain ⟨j, _, rfl⟩ := vsN_mem hx; rfl
  · have hi : i < n := by have := (List.getElem?_eq_some_iff.1 hx).1; rwa [vsN_len] at this
    rw [vsN_at hi] at hx
    cases hx
    rw [keepV_ver, vsN_len]
    unfold keepP
    rw [decide_eq_true_eq]
    have cn : ∀ j, j < n → C.cntM (vsN s n) (((j + 1) * s : Nat) : Int) = j + 1 ∧ C.cntM (vsN s n) ((((j + 1) * s : Nat) : Int) + (s : Int) - 1) = j + 1 := fun j hj => by
      have h2 : (j + 1 + 1) * s = (j + 1) * s + s := Nat.succ_mul _ _
      exact ⟨vsN_cnt hs (by omega) (by omega) (by omega), vsN_cnt hs (by omega) (by omega) (by omega)⟩
    constructor
    · rintro (h | h)
      · exact .inl h
      · exact .inr ⟨_, (hE _).2 ⟨i, hi, h, .inl rfl⟩, (cn i hi).1⟩
    · rintro (h | ⟨e, he, hc⟩)
      · exact .inl h
      · obtain ⟨j, hj, hk, h | h⟩ := (hE e).1 he
        · rw [h, (cn j hj).1] at hc
          obtain rfl : j = i := by omega
          exact .inr hk
        · rw [h, (cn j hj).2] at hc
          obtain rfl : j = i := by omega
          exact .inr hk
theorem pK_rise {s n kp : Nat} (hs : 0 < s) : C.Rise (pK s n kp) := C.rise_sub (vsN_rise hs n) List.filter_sublist
theorem pK_mem {s n kp : Nat} {x : Ver} (h : x ∈ pK s n kp) : ∃ j, j < n ∧ x = verN s j ∧ keepP n kp j = true := by
  obtain ⟨h1, h2⟩ := List.mem_filter.1 h
  obtain ⟨j, h3, rfl⟩ := vsN_mem h1
  rw [keepV_ver] at h2
  exact ⟨j, h3, rfl, h2⟩
theorem pK_last {s n kp : Nat} (hn : 0 < n) : ∃ r, pK s n kp = r ++ [verN s (n - 1)] := by
  obtain ⟨j, rfl⟩ : ∃ j, n = j + 1 := ⟨n - 1, by omega⟩
  refine ⟨(vsN s j).filter (keepV (j + 1) kp), ?_⟩
  unfold pK
  rw [vsN_succ, List.filter_append, List.filter_cons_of_pos (by rw [keepV_ver]; unfold keepP; simp)]; rfl
theorem prune_two {s n kp : Nat} (hs : 0 < s) (hn : 0 < n) {E : List Int} (hE : HeldE s n kp E) : C.pruneM (pK s n kp) E = pK s n kp := by
  have hr := pK_rise (s := s) (n := n) (kp := kp) hs
  have : C.pruneM (pK s n kp) E = (pK s n kp).filter fun _ => true := by
    refine prune_filter (fun x hx => ?_) fun i x hx => ?_
    · obtain ⟨j, _, rfl, _⟩ := pK_mem hx; rfl
    · refine ⟨fun _ => ?_, fun _ => rfl⟩
      obtain ⟨j, hj, rfl, hk⟩ := pK_mem (List.mem_of_getElem? hx)
      unfold keepP at hk
      rcases of_decide_eq_true hk with h | h
      · left
        obtain ⟨r, hr2⟩ := pK_last (s := s) (kp := kp) hn
        have hi := (List.getElem?_eq_some_iff.1 hx).1
        refine Classical.byContradiction fun hne => ?_
        have hl : (pK s n kp)[r.length]? = some (verN s (n - 1)) := by rw [hr2]; simp
        have hrl : (pK s n kp).length = r.length + 1 := by rw [hr2]; simp
        have := hr.lt (show i < r.length by omega) hx hl
        rw [show n - 1 = j by omega] at this
        omega
      · right
        exact ⟨_, (hE _).2 ⟨j, hj, h, .inl rfl⟩, cnt_own hr hx⟩
  rw [this]
  exact List.filter_eq_self.2 fun _ _ => rfl
theorem pK_newest {s n kp : Nat} (hn : 0 < n) : C.newestM (pK s n kp) = (oneA (n : Int), ((n * s : Nat) : Int), true) := by
  obtain ⟨r, hr⟩ := pK_last (s := s) (kp := kp) hn
  rw [hr]; unfold C.newestM
  rw [List.getLast?_concat]
  unfold verN
  rw [show n - 1 + 1 = n by omega]; rfl
theorem pK_units {s n kp : Nat} (hn : 0 < n) : unitsV (pK s n kp) = kN n kp n + 1 := by
  unfold unitsV alive
  rw [pK_newest hn, pK_len]; rfl
end Go.Proofs.Ytoccbnhahaoeiaa.V.S
namespace Go.Proofs.Ytoccbnhahaoeiaa.V.S
open Go Go.Proofs.Ytoccbnhahaoeiaa.V
set_option linter.unusedVariables false
set_option linter.unusedSimpArgs false
set_option maxRecDepth 20000
theorem sK_most (vs : List Ver) : mostS (sK vs) = vs.length := by
  show Nat.max 0 vs.length = _
  exact Nat.zero_max _
theorem ShardDeep_spec {n0 step0 keep0 : Int} {h : H} {Q : Bool → H → Prop} (k : ∀ h', Ext h h' → Q true h') : F.spatelaw7_ShardDeep n0 step0 keep0 h Q := by
  unfold F.spatelaw7_ShardDeep
  refine within_spec (by omega) (by omega) (within_spec (by omega) (by omega) (within_spec (by omega) (by omega) ?_))
  have r1 := within_range (a := n0) (m := 2000) (by omega)
  have r2 := within_range (a := step0) (m := 5) (by omega)
  have r3 := within_range (a := keep0) (m := 9) (by omega)
  generalize withinM n0 2000 = N at r1 ⊢
  generalize withinM step0 5 = T at r2 ⊢
  generalize withinM keep0 9 = K at r3 ⊢
  obtain ⟨n, hn⟩ : ∃ n : Nat, 1 + N = (n : Int) := ⟨(1 + N).toNat, by omega⟩
  obtain ⟨s, hs⟩ : ∃ s : Nat, 1 + T = (s : Int) := ⟨(1 + T).toNat, by omega⟩
  obtain ⟨kp, hk⟩ : ∃ kp : Nat, 1 + K = (kp : Int) := ⟨(1 + K).toNat, by omega⟩
  rw [hn, hs, hk, w64 (n := (n : Int)) (by omega) (by omega), w64 (n := (s : Int)) (by omega) (by omega), w64 (n := (kp : Int)) (by omega) (by omega), w64 (n := (n : Int) + 1) (by omega) (by omega)]
  have hs1 : 0 < s := by omega
  have hs5 : s ≤ 5 := by omega
  have hn1 : 0 < n := by omega
  have hn2 : n ≤ 2000 := by omega
  have hk1 : 0 < kp := by omega
  have hk9 : kp ≤ 9 := by omega
  clear hn hs hk r1 r2 r3
  have hmul : ∀ {j : Nat}, j ≤ n → j * s ≤ 10000 := fun {j} hj => Nat.le_trans (Nat.mul_le_mul (show j ≤ 2000 by omega) hs5) (by omega)
  have wmul : ∀ {j : Nat}, j ≤ n → IntKind.wrap .i64 ((j : Int) * (s : Int)) = ((j * s : Nat) : Int) := fun {j} hj => by
    have h1 := hmul hj
    rw [show (j : Int) * (s : Int) = ((j * s : Nat) : Int) from (Int.natCast_mul j s).symm, w64 (by omega) (by omega)]
  have wnext : ∀ {j : Nat}, j ≤ n → IntKind.wrap .i64 (IntKind.wrap .i64 (((j * s : Nat) : Int) + (s : Int)) - 1) = ((j * s : Nat) : Int) + (s : Int) - 1 := fun {j} hj => by
    have h1 := hmul hj
    rw [w64 (n := ((j * s : Nat) : Int) + (s : Int)) (by omega) (by omega), w64 (by omega) (by omega)]
  have hR : ∀ {hh : H}, Ext h hh → ∀ b, hh.size ≤ b → h.size ≤ b := fun e b hb => by have := e.size; omega
  refine New_spec (R := fun b => h.size ≤ b) (fun g => by omega) (fun b hb => hb) fun _ _ h1 nd sh1 e1 hnd => ⟨fun g => by simp at g, fun _ => ?_⟩
  rw [show ((n : Int) + 1).toNat = n + 1 by omega] at sh1
  unfold F.spatelaw7_ShardDeep.j18
  refine ⟨fun g => by simp at g, fun _ => ?_⟩
  unfold F.spatelaw7_ShardDeep.j1
  refine new_of fun na h10 hna ba e10 s10 => ?_
  have ba' : Blk h10 na zeroC.cells.toArray tn_api_Cell := ba
  refine st_cel ba' (d := cK) fun h12 bK o12 s12 => new_of fun nb h13 hnb bb e13 s13 => ?_
  have bb' : Blk h13 nb zeroC.cells.toArray tn_api_Cell := bb
  refine st_cel bb' (d := cL) fun h15 bL o15 s15 => ?_
  have e12 : Ext h1 h12 := e10.step o12 fun x hx hb => by omega
  have e115 : Ext h1 h15 := (e12.trans e13).step o15 fun x hx hb => by have := e12.size; omega
  have bK15 : Blk h15 na cK.cells.toArray tn_api_Cell := o15.block (e13.block bK fun f => f) (by omega)
  have e015 := e1.trans e115
  have sh15 := sh1.ext e115
  -- what is told behind the prunes
  have L13 : ∀ (d i : Nat) (hh : H), i ≤ n → n - i < d → SH hh nd (sK (pK s n kp)) (n + 1) (fun b => h.size ≤ b) → Ext h hh → Blk hh na cK.cells.toArray tn_api_Cell → (∃ E, HeldE s n kp E) → F.spatelaw7_ShardDeep.l13 Q d (n : Int) (s : Int) (kp : Int) (some ⟨nd, 0, none⟩) ⟨na, 0, none⟩ (kN n kp n : Int) ((i + 1 : Nat) : Int) hh := by
    intro d
    induction d with
    | zero => intro i _ _ hm; omega
    | succ d ih =>
      intro i hh hi hm sh e bk hE
      have hm' : i < n → n - (i + 1) < d := fun h => by omega
      unfold F.spatelaw7_ShardDeep.l13
      refine ⟨fun gg => ⟨by omega, ?_⟩, fun gg => ?_⟩
      · have gg := of_decide_eq_true gg
        have hin : i < n := by omega
        have next : ∀ hh' : H, SH hh' nd (sK (pK s n kp)) (n + 1) (fun b => h.size ≤ b) → Ext h hh' → Blk hh' na cK.cells.toArray tn_api_Cell → F.spatelaw7_ShardDeep.j15 Q (F.spatelaw7_ShardDeep.l13 Q d) (n : Int) (s : Int) (kp : Int) (some ⟨nd, 0, none⟩) ⟨na, 0, none⟩ (kN n kp n : Int) ((i + 1 : Nat) : Int) false hh' := fun hh' s' e' b' => by
          unfold F.spatelaw7_ShardDeep.j15 F.spatelaw7_ShardDeep.j14
          refine ⟨fun g => (by cases g), fun _ => ?_⟩
          rw [w64s (by omega)]
          exact ih (i + 1) hh' (by omega) (hm' hin) s' e' b' hE
        have ht : Int.tmod ((i + 1 : Nat) : Int) (kp : Int) = (((i + 1) % kp : Nat) : Int) := by rw [Int.tmod_eq_emod_of_nonneg (by omega)]; rfl
        rw [ht]
        refine ⟨fun g => ?_, fun _ => next hh sh e bk⟩
        have g : (i + 1) % kp = 0 := by
          have : (((i + 1) % kp : Nat) : Int) = 0 := by simpa using g
          omega
        rw [wmul (by omega)]
        refine ⟨cK, bk.cells, At_spec sh fun h2 e2 => one_spec fun h3 e3 => ?_⟩
        have hat : atS (sK (pK s n kp)) cK (((i + 1) * s : Nat) : Int) = oneA ((i + 1 : Nat) : Int) := by
          obtain ⟨E, hE⟩ := hE
          have hp := Nat.mul_pos (show 0 < i + 1 by omega) hs1
          rw [sK_at]
          unfold atV
          rw [if_neg (by omega), ← prune_one hs1 hE, C.prune_at (vsN_rise hs1 n) ((hE _).2 ⟨i, hin, g, .inl rfl⟩)]
          have h2 : (i + 1 + 1) * s = (i + 1) * s + s := Nat.succ_mul _ _
          rw [vsN_atM hs1 (i := i + 1) (by omega) (by omega) (by omega), if_neg (by omega)]
        rw [hat, agg_same]
        exact next h3 (sh.ext (e2.trans e3)) (e.trans (e2.trans e3)) ((e2.trans e3).block bk fun f => f)
      · have gg := of_decide_eq_false gg
        have hin : i = n := by omega
        refine ⟨cK, bk.cells, Get_spec sh fun h2 e2 => one_spec fun h3 e3 => ?_⟩
        have hat : atS (sK (pK s n kp)) cK 0 = oneA (n : Int) := by
          rw [sK_at]; unfold atV
          rw [if_pos rfl, pK_newest hn1]
        rw [hat, agg_same]
        refine ⟨fun _ => ?_, fun g => by cases g⟩
        have e23 := e2.trans e3
        have hp := Nat.mul_pos hn1 hs1
        have hb := hmul (Nat.le_refl n)
        rw [wmul (Nat.le_refl n)]
        have kz : killE (sK (pK s n kp)) ((n * s : Nat) : Int) cK = 0 := by
          unfold killE
          rw [if_neg (fun h => h okK), if_neg (by omega), sK_get]
          unfold alive
          simp only
          rw [pK_newest hn1]
          simp only
          rw [if_neg (by omega), if_neg (by decide)]
        refine ⟨cK, bk.cells.ext e23, Kill_spec (sh.ext e23) (hR (e.trans e23)) (fun g => absurd kz g) fun _ h4 sh4 o4 => ⟨fun _ => ?_, fun g => by simp at g⟩⟩
        simp only [nn_some, add_lit, Nat.zero_add, Nat.add_zero]
        refine Units_spec sh4 ?_
        have hu : (unitsS (killS (sK (pK s n kp)) ((n * s : Nat) : Int) cK) : Int) = (kN n kp n : Int) := by
          have hal : alive (pK s n kp) = true := by unfold alive; rw [pK_newest hn1]
          have := (kill_units sh.ok (e := ((n * s : Nat) : Int)) (sK_get (pK s n kp)) hal).1
          rw [this, sK_units, pK_units hn1]
          have hl : C.lastE (pK s n kp) = ((n * s : Nat) : Int) := by rw [lastE_newest, pK_newest hn1]
          unfold C.layN
          rw [hl, if_pos ⟨fun h => by have := pK_len s n kp; rw [h] at this; have h2 := pK_units (s := s) (n := n) (kp := kp) hn1; rw [h] at h2; have h3 : unitsV [] = 0 := rfl; omega, rfl⟩]
          omega
        rw [hu]
        exact ⟨fun _ => head_spec fun h' e' => k h' ((o4.base (e.trans e23) fun b hb => hb).trans e'), fun g => by simp at g⟩
  -- what is held
  have L8 : ∀ (d i : Nat) (hh : H) (hd : Sl) (E : List Int) (kept : Nat), i ≤ n → i < d → SH hh nd (sK (vsN s n)) (n + 1) (fun b => h.size ≤ b) → Ext h hh → Blk hh na cK.cells.toArray tn_api_Cell → Owns hh hd 3 1 (E.flatMap cI) → Mine h hd → E.length ≤ 2 * (n - i) → (∀ e, e ∈ E ↔ ∃ j, i ≤ j ∧ j < n ∧ (j + 1) % kp = 0 ∧ (e = (((j + 1) * s : Nat) : Int) ∨ e = (((j + 1) * s : Nat) : Int) + (s : Int) - 1)) → kept + kN n kp i = kN n kp n → F.spatelaw7_ShardDeep.l8 Q d (n : Int) (s : Int) (kp : Int) (some ⟨nd, 0, none⟩) ⟨na, 0, none⟩ hd (kept : Int) (i : Int) hh := by
    have kn : kN n kp n ≤ n := by unfold kN; exact Nat.le_trans (List.length_filter_le _ _) (by simp)
    intro d
    induction d with
    | zero => intro i _ _ _ _ _ hm; omega
    | succ d ih =>
      intro i hh hd E kept hi hm sh e bk wd md hl hE hkp
      unfold F.spatelaw7_ShardDeep.l8
      refine ⟨fun gg => ?_, fun gg => ?_⟩
      · have gg := of_decide_eq_true gg
        obtain ⟨j, rfl⟩ : ∃ j, i = j + 1 := ⟨i - 1, by omega⟩
        have hm' : j < d := by omega
        have ks := kN_succ n kp j
        have j9 : ∀ (hh' : H) (hd' : Sl) (E' : List Int) (kept' : Nat), SH hh' nd (sK (vsN s n)) (n + 1) (fun b => h.size ≤ b) → Ext h hh' → Blk hh' na cK.cells.toArray tn_api_Cell → Owns hh' hd' 3 1 (E'.flatMap cI) → Mine h hd' → E'.length ≤ 2 * (n - j) → (∀ e, e ∈ E' ↔ ∃ j', j ≤ j' ∧ j' < n ∧ (j' + 1) % kp = 0 ∧ (e = (((j' + 1) * s : Nat) : Int) ∨ e = (((j' + 1) * s : Nat) : Int) + (s : Int) - 1)) → kept' + kN n kp j = kN n kp n → F.spatelaw7_ShardDeep.j9 Q (F.spatelaw7_ShardDeep.l8 Q d) (n : Int) (s : Int) (kp : Int) (some ⟨nd, 0, none⟩) ⟨na, 0, none⟩ hd' (kept' : Int) ((j + 1 : Nat) : Int) hh' := fun hh' hd' E' kept' q1 q2 q3 q4 q5 q6 q7 q8 => by
          unfold F.spatelaw7_ShardDeep.j9
          rw [show IntKind.wrap .i64 (((j + 1 : Nat) : Int) - 1) = (j : Int) by rw [w64 (by omega) (by omega)]; omega]
          exact ih j hh' hd' E' kept' (by omega) hm' q1 q2 q3 q4 q5 q6 q7 q8
        have ht : Int.tmod ((j + 1 : Nat) : Int) (kp : Int) = (((j + 1) % kp : Nat) : Int) := by rw [Int.tmod_eq_emod_of_nonneg (by omega)]; rfl
        have j10 : ∀ (hh' : H) (hd' : Sl) (E' : List Int), SH hh' nd (sK (vsN s n)) (n + 1) (fun b => h.size ≤ b) → Ext h hh' → Blk hh' na cK.cells.toArray tn_api_Cell → Owns hh' hd' 3 1 (E'.flatMap cI) → Mine h hd' → E'.length ≤ 2 * (n - j) → (∀ e, e ∈ E' ↔ ∃ j', j ≤ j' ∧ j' < n ∧ (j' + 1) % kp = 0 ∧ (e = (((j' + 1) * s : Nat) : Int) ∨ e = (((j' + 1) * s : Nat) : Int) + (s : Int) - 1)) → F.spatelaw7_ShardDeep.j10 Q (F.spatelaw7_ShardDeep.l8 Q d) (n : Int) (s : Int) (kp : Int) (some ⟨nd, 0, none⟩) ⟨na, 0, none⟩ hd' (kept : Int) ((j + 1 : Nat) : Int) hh' := fun hh' hd' E' q1 q2 q3 q4 q5 q6 q7 => by
          unfold F.spatelaw7_ShardDeep.j10 F.spatelaw7_ShardDeep.j11
          rw [ht]
          have yes : keepP n kp j = true → F.spatelaw7_ShardDeep.j9 Q (F.spatelaw7_ShardDeep.l8 Q d) (n : Int) (s : Int) (kp : Int) (some ⟨nd, 0, none⟩) ⟨na, 0, none⟩ hd' (IntKind.wrap .i64 ((kept : Int) + 1)) ((j + 1 : Nat) : Int) hh' := fun hp => by
            rw [if_pos hp] at ks
            rw [w64s (by omega)]
            exact j9 hh' hd' E' (kept + 1) q1 q2 q3 q4 q5 q6 q7 (by omega)
          have no : keepP n kp j = false → F.spatelaw7_ShardDeep.j9 Q (F.spatelaw7_ShardDeep.l8 Q d) (n : Int) (s : Int) (kp : Int) (some ⟨nd, 0, none⟩) ⟨na, 0, none⟩ hd' (kept : Int) ((j + 1 : Nat) : Int) hh' := fun hp => by
            rw [hp] at ks
            simp only [Bool.false_eq_true, if_false] at ks
            exact j9 hh' hd' E' kept q1 q2 q3 q4 q5 q6 q7 (by omega)
          refine ⟨by omega, fun g => ⟨fun _ => yes ?_, fun g => by cases g⟩, fun g => ⟨fun g2 => yes ?_, fun g2 => no ?_⟩⟩
          · have : (((j + 1) % kp : Nat) : Int) = 0 := by simpa using g
            unfold keepP; rw [decide_eq_true_eq]; exact .inr (by omega)
          · have : ((j + 1 : Nat) : Int) = (n : Int) := by simpa using g2
            unfold keepP; rw [decide_eq_true_eq]; exact .inl (by omega)
          · have a1 : ¬ (((j + 1) % kp : Nat) : Int) = 0 := by simpa using g
            have a2 : ¬ ((j + 1 : Nat) : Int) = (n : Int) := by simpa using g2
            unfold keepP; rw [decide_eq_false_iff_not]
            rintro (h | h)
            · exact a2 (by omega)
            · exact a1 (by omega)
        rw [ht]
        refine ⟨by omega, fun g => ?_, fun g => ?_⟩
        · have g : (j + 1) % kp = 0 := by
            have : (((j + 1) % kp : Nat) : Int) = 0 := by simpa using g
            omega
          rw [wmul (by omega), wnext (by omega)]
          refine newL_of fun n65 h65 hn65 b65 e65 s65 => ?_
          refine app_list (f := cI) (L := E) (M := [(((j + 1) * s : Nat) : Int), (((j + 1) * s : Nat) : Int) + (s : Int) - 1]) cI_len (by omega) el_Slint (wd.ext e65) (blk_reads b65 rfl) (fun x => one1 rfl) (by simp only [List.length_cons, List.length_nil]; omega) fun hd' h67 wd' o67 n67 => ?_
          have e67 : Ext h h67 := (e.trans e65).mine md o67
          have z65 := (e.trans e65).size
          refine j10 h67 hd' _ ((sh.ext e65).oth o67 (wd.ext e65) int_sh) e67 (o67.block (e65.block bk fun f => f) (own_neG (wd.ext e65) (e65.block bk fun f => f) (by decide))) wd' (fun b hb => ?_) (by rw [List.length_append]; simp only [List.length_cons, List.length_nil]; omega) fun x => ?_
          · rcases n67 with n67 | ⟨b', q3, q4⟩
            · exact md b (by rw [← n67]; exact hb)
            · rw [q3] at hb; cases hb; omega
          · rw [List.mem_append, hE]
            constructor
            · rintro (⟨j', a1, a2, a3, a4⟩ | a)
              · exact ⟨j', by omega, a2, a3, a4⟩
              · rcases List.mem_cons.1 a with a | a
                · exact ⟨j, by omega, by omega, g, .inl a⟩
                · exact ⟨j, by omega, by omega, g, .inr (List.mem_singleton.1 a)⟩
            · rintro ⟨j', a1, a2, a3, a4⟩
              by_cases hj : j' = j
              · subst hj
                rcases a4 with a4 | a4
                · exact .inr (by simp [a4])
                · exact .inr (by simp [a4])
              · exact .inl ⟨j', by omega, a2, a3, a4⟩
        · have g : ¬ (j + 1) % kp = 0 := fun h => by rw [h] at g; simp at g
          refine j10 hh hd E sh e bk wd md (by omega) fun x => ?_
          rw [hE]
          constructor
          · rintro ⟨j', a1, a2, a3, a4⟩
            exact ⟨j', by omega, a2, a3, a4⟩
          · rintro ⟨j', a1, a2, a3, a4⟩
            by_cases hj : j' = j
            · subst hj; exact absurd a3 g
            · exact ⟨j', by omega, a2, a3, a4⟩
      · have gg := of_decide_eq_false gg
        have hi0 : i = 0 := by omega
        subst hi0
        have hH : HeldE s n kp E := fun x => (hE x).trans ⟨fun ⟨j, _, q⟩ => ⟨j, q⟩, fun ⟨j, q⟩ => ⟨j, by omega, q⟩⟩
        have hke : kept = kN n kp n := by have : kN n kp 0 = 0 := rfl; omega
        subst hke
        have p1 := prune_one hs1 hH
        have p2 := prune_two hs1 hn1 hH
        have pne : pK s n kp ≠ [] := fun h => by obtain ⟨r, hr⟩ := pK_last (s := s) (kp := kp) hn1; rw [h] at hr; simp at hr
        have hp1 : pruneS (sK (vsN s n)) E = sK (pK s n kp) := by rw [sK_prune (by rw [p1]; exact pne), p1]
        have hp2 : pruneS (sK (pK s n kp)) E = sK (pK s n kp) := by rw [sK_prune (by rw [p2]; exact pne), p2]
        refine Prune_spec sh wd.reads (by omega) (fun hne b hb => ⟨wd.blk_lt hb, fun hh => own_nsh wd int_sh hb hh.2⟩) (hR e) fun h3 sh3 o3 => ?_
        have e3 := o3.base e fun b hb => hb
        rw [hp1] at sh3 ⊢
        rw [sK_units, sK_units, vsN_units s hn1, pK_units hn1]
        have bk3 := o3.blk bk cel_sh
        have wd3 := o3.owns wd int_sh
        rw [w64 (n := (n : Int) - (kN n kp n : Int)) (by omega) (by omega)]
        unfold F.spatelaw7_ShardDeep.j16 F.spatelaw7_ShardDeep.j12
        refine ⟨fun g => absurd (show ((n + 1 : Nat) : Int) - ((kN n kp n + 1 : Nat) : Int) = (n : Int) - (kN n kp n : Int) by omega) (by simpa using g), fun _ => ?_⟩
        refine Most_spec sh3 fun h4 e4 => ?_
        have hmo : mostS (sK (pK s n kp)) = kN n kp n := by rw [sK_most, pK_len]
        rw [hmo]
        refine ⟨fun g => absurd g (by simp), fun _ => ?_⟩
        simp only [nn_some, add_lit, Nat.zero_add, Nat.add_zero]
        refine Units_spec (sh3.ext e4) ?_
        rw [sK_units, pK_units hn1, w64s (by omega)]
        refine ⟨fun g => absurd g (by simp), fun _ => ?_⟩
        have wd4 := wd3.ext e4
        refine Prune_spec (sh3.ext e4) wd4.reads (by omega) (fun hne b hb => ⟨wd4.blk_lt hb, fun hh => own_nsh wd4 int_sh hb hh.2⟩) (hR (e3.trans e4)) fun h5 sh5 o5 => ?_
        rw [hp2] at sh5 ⊢
        refine ⟨fun g => absurd g (by simp), fun _ => ⟨n + 1, L13 _ 0 h5 (by omega) (by omega) sh5 (o5.base (e3.trans e4) fun b hb => hb) (o5.blk (e4.block bk3 fun f => f) cel_sh) ⟨E, hH⟩⟩⟩
  -- what each epoch tells
  have L4 : ∀ (d i : Nat) (hh : H), i ≤ n + 1 → n + 1 - i < d → SH hh nd (sK (vsN s n)) (n + 1) (fun b => h.size ≤ b) → Ext h hh → Blk hh na cK.cells.toArray tn_api_Cell → F.spatelaw7_ShardDeep.l4 Q d (n : Int) (s : Int) (kp : Int) (some ⟨nd, 0, none⟩) ⟨na, 0, none⟩ (i : Int) hh := by
    intro d
    induction d with
    | zero => intro i _ _ hm; omega
    | succ d ih =>
      intro i hh hi hm sh e bk
      unfold F.spatelaw7_ShardDeep.l4
      refine ⟨fun gg => ?_, fun gg => ⟨n + 1, L8 _ n hh _ [] 0 (by omega) (by omega) sh e bk (Owns.nil _ _ _) (Mine.nil _ _ _) (by simp) (fun x => ⟨fun h => (by cases h), fun ⟨j, a1, a2, _⟩ => by omega⟩) (by omega)⟩⟩
      have gg := of_decide_eq_true gg
      have hin : i ≤ n := by omega
      have hm' : n + 1 - (i + 1) < d := by omega
      have hb := hmul hin
      refine new_of fun m h26 hm26 b26 e26 s26 => ?_
      have b26' : Blk h26 m zA.cells.toArray tn_api_Agg := b26
      refine C.st_agg b26' (d := zA) fun h28 b28 o28 s28 => ?_
      have e28 : Ext hh h28 := e26.step o28 fun x hx hb => by omega
      have j6 : ∀ (hh' : H), Ext hh hh' → Blk hh' m (if i = 0 then zA else oneA (i : Int)).cells.toArray tn_api_Agg → F.spatelaw7_ShardDeep.j6 Q (F.spatelaw7_ShardDeep.l4 Q d) (n : Int) (s : Int) (kp : Int) (some ⟨nd, 0, none⟩) ⟨na, 0, none⟩ (i : Int) ⟨m, 0, none⟩ hh' := fun hh' e' bm => by
        have nx : ∀ h3, Ext hh h3 → F.spatelaw7_ShardDeep.j5 Q (F.spatelaw7_ShardDeep.l4 Q d) (n : Int) (s : Int) (kp : Int) (some ⟨nd, 0, none⟩) ⟨na, 0, none⟩ (i : Int) h3 := fun h3 e3 => by
          unfold F.spatelaw7_ShardDeep.j5
          rw [w64s (by omega)]
          exact ih (i + 1) h3 (by omega) hm' (sh.ext e3) (e.trans e3) (e3.block bk fun f => f)
        unfold F.spatelaw7_ShardDeep.j6 F.spatelaw7_ShardDeep.j7
        rw [wmul hin, wnext hin]
        have hsum : ((i * s : Nat) : Int) + (s : Int) = (((i + 1) * s : Nat) : Int) := by rw [Nat.succ_mul]; omega
        have at2 : ((i * s : Nat) : Int) + (s : Int) - 1 ≠ 0 → atS (sK (vsN s n)) cK (((i * s : Nat) : Int) + (s : Int) - 1) = if i = 0 then zA else oneA (i : Int) := fun hz => by
          rw [sK_at]; unfold atV
          rw [if_neg hz, vsN_atM hs1 hin (by omega) (by omega)]
        refine ⟨fun g => ?_, fun g => ?_⟩
        · have g := of_decide_eq_true g
          have at1 : atS (sK (vsN s n)) cK ((i * s : Nat) : Int) = if i = 0 then zA else oneA (i : Int) := by
            rw [sK_at]; unfold atV
            rw [if_neg (by omega), vsN_atM hs1 hin (by omega) (by omega)]
          refine ⟨cK, bk.cells.ext e', _, bm.cells, At_spec (sh.ext e') fun h3 e3 => ⟨bm.cells.ext e3, ?_⟩⟩
          rw [at1, agg_same]
          refine ⟨fun g => (by cases g), fun _ => ?_⟩
          have e33 := e'.trans e3
          refine ⟨cK, bk.cells.ext e33, _, bm.cells.ext e3, At_spec (sh.ext e33) fun h4 e4 => ⟨(bm.cells.ext e3).ext e4, ?_⟩⟩
          rw [at2 (by omega), agg_same]
          exact ⟨fun g => (by cases g), fun _ => ⟨fun g => (by cases g), fun _ => nx h4 (e33.trans e4)⟩⟩
        · have g := of_decide_eq_false g
          refine ⟨cK, bk.cells.ext e', _, bm.cells, At_spec (sh.ext e') fun h4 e4 => ⟨bm.cells.ext e4, ?_⟩⟩
          have e44 := e'.trans e4
          refine ⟨fun g2 => ⟨fun g3 => ?_, fun _ => nx h4 e44⟩, fun _ => ⟨fun g => (by cases g), fun _ => nx h4 e44⟩⟩
          have g3 := of_decide_eq_true g3
          rw [w64 (by omega) (by omega)] at g3
          rw [at2 (by omega), agg_same] at g2
          cases g2
      refine ⟨fun g => ?_, fun g => ?_⟩
      · have g := of_decide_eq_true g
        refine one_spec fun h56 e56 => C.st_agg (e56.block b28 fun f => f) (d := oneA (i : Int)) fun h58 b58 o58 s58 => j6 h58 ((e28.trans e56).step o58 fun x hx hb => by omega) ?_
        rw [if_neg (by omega)]; exact b58
      · have g := of_decide_eq_false g
        refine j6 h28 e28 ?_
        rw [if_pos (by omega)]; exact b28
  -- each is put
  have L2 : ∀ (d i : Nat) (hh : H), i ≤ n → n - i < d → SH hh nd (sI s i) (n + 1) (fun b => h.size ≤ b) → Ext h hh → Blk hh na cK.cells.toArray tn_api_Cell → Blk hh nb cL.cells.toArray tn_api_Cell → F.spatelaw7_ShardDeep.l2 Q d (n : Int) (s : Int) (kp : Int) (some ⟨nd, 0, none⟩) ⟨na, 0, none⟩ ⟨nb, 0, none⟩ ((i + 1 : Nat) : Int) hh := by
    intro d
    induction d with
    | zero => intro i _ _ hm; omega
    | succ d ih =>
      intro i hh hi hm sh e bk bl
      unfold F.spatelaw7_ShardDeep.l2
      refine ⟨fun gg => ?_, fun gg => ?_⟩
      · have gg := of_decide_eq_true gg
        have hin : i < n := by omega
        have hm' : n - (i + 1) < d := by omega
        obtain ⟨k1, k2⟩ := put_sI hs1 hs5 hin hn2
        rw [wmul (by omega)]
        refine ⟨cK, bk.cells, one_spec fun h3 e3 => ⟨bk.cells.ext e3, ?_⟩⟩
        refine Put_spec (x := ⟨cK, oneA ((i + 1 : Nat) : Int)⟩) (sh.ext e3) (right_one' _) (hR (e.trans e3)) (fun g => absurd k1 g) fun _ h5 sh5 o5 => ⟨fun g => by simp at g, fun _ => ?_⟩
        rw [k2] at sh5
        rw [w64s (by omega)]
        exact ih (i + 1) h5 (by omega) hm' sh5 (o5.base (e.trans e3) fun b hb => hb) (o5.blk (e3.block bk fun f => f) cel_sh) (o5.blk (e3.block bl fun f => f) cel_sh)
      · have gg := of_decide_eq_false gg
        have hin : i = n := by omega
        subst hin
        obtain ⟨k1, k2, k3, k4⟩ := put_again (s := s) hs1 hs5 hn1 hn2
        have hsi := sI_pos (s := s) hn1
        have hbn := hmul (Nat.le_refl i)
        simp only [nn_some, add_lit, Nat.zero_add, Nat.add_zero]
        unfold F.spatelaw7_ShardDeep.j17 F.spatelaw7_ShardDeep.j3
        refine Units_spec sh ?_
        rw [hsi, sK_units, vsN_units s hn1, w64s (by omega)]
        refine ⟨fun g => absurd g (by simp), fun _ => Most_spec sh fun h3 e3 => ?_⟩
        have hmo : mostS (sI s i) = i := by
          rw [hsi, sK_most, vsN_len]
        rw [hmo]
        refine ⟨fun g => absurd g (by simp), fun _ => Cells_spec (sh.ext e3) ?_⟩
        have hth : thereS (sI s i) = 1 := by
          obtain ⟨j, rfl⟩ : ∃ j, i = j + 1 := ⟨i - 1, by omega⟩
          rw [hsi]
          show aliveN _ + 0 = 1
          unfold aliveN alive
          rw [vsN_newest]; rfl
        rw [hth, wmul (Nat.le_refl i), w64 (n := ((i * s : Nat) : Int) + 1) (by omega) (by omega)]
        refine ⟨fun g => absurd g (by decide), fun _ => ⟨cL, bl.cells.ext e3, one_spec fun h4 e4 => ⟨bl.cells.ext (e3.trans e4), ?_⟩⟩⟩
        have e34 := e3.trans e4
        refine Put_spec (x := ⟨cL, oneA 1⟩) (sh.ext e34) (right_one' _) (hR (e.trans e34)) (fun g h5 e5 => ?_) fun g => absurd k3 (by rw [show putE (sI s i) (i + 1) ((i * s : Nat) : Int) cL (oneA 1) true = 0 from g]; decide)
        rw [show putE (sI s i) (i + 1) ((i * s : Nat) : Int) cL (oneA 1) true = 31 from k3]
        have e35 := e34.trans e5
        refine ⟨fun g => absurd g (by decide), fun _ => ⟨cK, bk.cells.ext e35, one_spec fun h6 e6 => ⟨bk.cells.ext (e35.trans e6), ?_⟩⟩⟩
        have e36 := e35.trans e6
        refine Put_spec (x := ⟨cK, oneA 1⟩) (sh.ext e36) (right_one' _) (hR (e.trans e36)) (fun g h7 e7 => ?_) fun g => absurd k4 (by rw [show putE (sI s i) (i + 1) (((i * s : Nat) : Int) + 1) cK (oneA 1) true = 0 from g]; decide)
        rw [show putE (sI s i) (i + 1) (((i * s : Nat) : Int) + 1) cK (oneA 1) true = 31 from k4]
        have e37 := e36.trans e7
        refine ⟨fun g => absurd g (by decide), fun _ => ⟨cK, bk.cells.ext e37, one_spec fun h8 e8 => ⟨bk.cells.ext (e37.trans e8), ?_⟩⟩⟩
        have e38 := e37.trans e8
        refine Put_spec (x := ⟨cK, oneA (i : Int)⟩) (sh.ext e38) (right_one' _) (hR (e.trans e38)) (fun g => absurd k1 g) fun _ h9 sh9 o9 => ⟨fun g => absurd g (by decide), fun _ => ⟨i + 2, ?_⟩⟩
        rw [show putS (sI s i) ((i * s : Nat) : Int) cK (oneA (i : Int)) = sI s i from k2, hsi] at sh9
        exact L4 _ 0 h9 (by omega) (by omega) sh9 (o9.base (e.trans e38) fun b hb => hb) (o9.blk (e38.block bk fun f => f) cel_sh)
  exact ⟨n + 1, L2 _ 0 h15 (by omega) (by omega) sh15 e015 bK15 bL⟩
end Go.Proofs.Ytoccbnhahaoeiaa.V.S
