/- The law MergeLists' own helpers: numbers put into order, numbers as texts, the reference's Lists, same; no condition. -/
import Derived.Test.YtidpbnbjpglhfaaMe
namespace Go.Proofs.Ytidpbnbjpglhfaa.V
open Go
set_option linter.unusedVariables false
set_option linter.unusedSimpArgs false

theorem tw_get {p : Int → Bool} : ∀ {out : List Int} {i : Nat}, i < (out.takeWhile p).length → ∃ v, out[i]? = some v ∧ p v = true
  | [], i, h => by simp at h
  | x :: r, i, h => by
    by_cases hx : p x = true
    · rw [List.takeWhile_cons, if_pos hx] at h
      cases i with
      | zero => exact ⟨x, rfl, hx⟩
      | succ i => exact tw_get (out := r) (i := i) (by simpa using h)
    · rw [List.takeWhile_cons, if_neg hx] at h; simp at h
theorem tw_at {p : Int → Bool} : ∀ {out : List Int} {v : Int}, out[(out.takeWhile p).length]? = some v → p v = false
  | [], v, h => by simp at h
  | x :: r, v, h => by
    by_cases hx : p x = true
    · rw [List.takeWhile_cons, if_pos hx] at h
      exact tw_at (out := r) (by simpa using h)
    · rw [List.takeWhile_cons, if_neg hx] at h
      simp at h; subst h; simpa using hx
theorem tw_take (p : Int → Bool) (out : List Int) : out.take (out.takeWhile p).length = out.takeWhile p ∧ out.drop (out.takeWhile p).length = out.dropWhile p := by
  have h := List.takeWhile_append_dropWhile (p := p) (l := out)
  constructor
  · have : ∀ (a b : List Int), out = a ++ b → out.take a.length = a := fun a b e => by rw [e, List.take_left]
    exact this _ _ h.symm
  · have : ∀ (a b : List Int), out = a ++ b → out.drop a.length = b := fun a b e => by rw [e, List.drop_left]
    exact this _ _ h.symm
theorem rise_find {Q : Sl → H → Prop} {C1 : Sl → Sl → Int → H → Prop} {h : H} {s0 s3 : Sl} {A out : List Int} {i : Nat} {x : Int} (l0 : Lst h s0 cI A) (l3 : Lst h s3 cI out) (hx : A[i]? = some x) (ho : out.length < 1000) :
    ∀ (m j : Nat), j ≤ (out.takeWhile fun y => decide (y ≤ x)).length → (out.takeWhile fun y => decide (y ≤ x)).length - j < m →
    (∀ C2, F.spatelaw8_rising.j5 Q C1 C2 s0 s3 (i : Int) ((out.takeWhile fun y => decide (y ≤ x)).length : Int) false h) → F.spatelaw8_rising.l3 Q C1 m s0 s3 (i : Int) (j : Int) h
  | 0, j, _, hm, _ => by omega
  | m + 1, j, hj, hm, k => by
    unfold F.spatelaw8_rising.l3
    have hl := l3.len cI_len
    have htw : (out.takeWhile fun y => decide (y ≤ x)).length ≤ out.length := (List.takeWhile_sublist _).length_le
    rw [hl]
    simp only [decide_eq_true_eq, decide_eq_false_iff_not]
    refine ⟨fun g => ?_, fun g => ?_⟩
    · obtain ⟨v, hv⟩ : ∃ v, out[j]? = some v := ⟨_, List.getElem?_eq_getElem (by omega)⟩
      refine l3.get cI_len hv rfl fun a ha => ?_
      rw [ldI_iff ha.one]
      refine l0.get cI_len hx rfl fun a ha => ?_
      rw [ldI_iff ha.one]
      by_cases hjk : j < (out.takeWhile fun y => decide (y ≤ x)).length
      · obtain ⟨v', h1, h2⟩ := tw_get hjk
        rw [hv] at h1; cases h1
        rw [show decide (v ≤ x) = true from h2]
        unfold F.spatelaw8_rising.j5
        refine ⟨fun _ => ?_, fun h => by cases h⟩
        unfold F.spatelaw8_rising.j4
        rw [show IntKind.wrap .i64 ((j : Int) + 1) = ((j + 1 : Nat) : Int) from by rw [w64 (by omega) (by omega)]; omega]
        exact rise_find l0 l3 hx ho m (j + 1) (by omega) (by omega) k
      · have hjk : j = (out.takeWhile fun y => decide (y ≤ x)).length := by omega
        have := tw_at (p := fun y => decide (y ≤ x)) (out := out) (v := v) (by rw [← hjk]; exact hv)
        rw [show decide (v ≤ x) = false from this, hjk]
        exact k _
    · have hjk : j = (out.takeWhile fun y => decide (y ≤ x)).length := by omega
      rw [hjk]; exact k _
theorem cut_lst {h : H} {s : Sl} {A : List Int} {lo hi : Nat} {nl nh : Int} {K : Sl → Prop} (l : Lst h s cI A) (e1 : nl = (lo : Int)) (e2 : nh = (hi : Int)) (h1 : lo ≤ hi) (h2 : hi ≤ A.length) (k : ∀ t, Lst h t cI ((A.drop lo).take (hi - lo)) → t.blk = s.blk → K t) : cutL s nl nh 1 K := by
  have hl := l.len cI_len
  have hc := l.2
  exact cutL_of e1 e2 h1 (by omega) (k _ ⟨cut_reads cI_len (by omega) l.1 h1 h2 hc, by simp only [slcut]; omega⟩ slcut_blk)
theorem Lst.keep {α : Type} {S : Nat → Prop} {h h' : H} {s : Sl} {f : α → List Value} {A : List α} (l : Lst h s f A) (e : Only S h h') (hn : A ≠ [] → ∀ b, s.blk = some b → ¬ S b) : Lst h' s f A := by
  by_cases hA : A = []
  · subst hA; exact ⟨⟨l.1.1, l.1.2.1, fun i v hv => by simp at hv⟩, l.2⟩
  · exact l.only e (hn hA)
theorem rise_loop {h0 : H} {Q : Sl → H → Prop} {s0 : Sl} {A : List Int} (hs0 : A ≠ [] → ∀ b, s0.blk = some b → b < h0.size) (hA : A.length < 10000000000000000000) (k : ∀ r h', Owns h' r 3 1 ((risL A).flatMap cI) → Ext h0 h' → Mine h0 r → Q r h') :
    ∀ (m i : Nat) (h : H) (s3 : Sl), Ext h0 h → Lst h s0 cI A → Owns h s3 3 1 (((A.take i).foldl insL []).flatMap cI) → Mine h0 s3 → i ≤ 200 → i ≤ A.length → 200 - i < m → F.spatelaw8_rising.l1 Q m s0 s3 (i : Int) h
  | 0, i, h, s3, _, _, _, _, _, _, hm => by omega
  | m + 1, i, h, s3, e0, l0, ow, mi, hi, hiA, hm => by
    unfold F.spatelaw8_rising.l1
    have hl := l0.len cI_len
    have hout := (fold_facts (A.take i) [] (by simp)).2.2
    rw [List.length_take] at hout
    have hend : i = 200 ∨ i = A.length → Q s3 h := fun hh => by
      have : risL A = (A.take i).foldl insL [] := by
        unfold risL
        rcases hh with rfl | rfl
        · rfl
        · rw [List.take_of_length_le (by omega), List.take_of_length_le (Nat.le_refl _)]
      rw [← this] at ow
      exact k s3 h ow e0 mi
    rw [hl]
    unfold F.spatelaw8_rising.j6
    simp only [decide_eq_true_eq, decide_eq_false_iff_not]
    refine ⟨fun g => ⟨fun g2 => ?_, fun g2 => hend (by omega)⟩, fun g => ⟨(fun h => by cases h), fun _ => hend (by omega)⟩⟩
    obtain ⟨x, hx⟩ : ∃ x, A[i]? = some x := ⟨_, List.getElem?_eq_getElem (by omega)⟩
    have htk : (A.take (i + 1)).foldl insL [] = insL ((A.take i).foldl insL []) x := by rw [List.take_add_one, hx, List.foldl_append]; rfl
    generalize (A.take i).foldl insL [] = out at *
    have lo := ow.lst
    have hol := lo.len cI_len
    have htw : (out.takeWhile fun y => decide (y ≤ x)).length ≤ out.length := (List.takeWhile_sublist _).length_le
    obtain ⟨t1, t2⟩ := tw_take (fun y => decide (y ≤ x)) out
    simp only [List.length_nil, Nat.zero_add] at hout
    refine ⟨out.length + 1, ?_⟩
    refine rise_find (j := 0) l0 lo hx (by omega) _ (by omega) (by omega) fun C2 => ?_
    unfold F.spatelaw8_rising.j5
    refine ⟨(fun h => by cases h), fun _ => ?_⟩
    refine cut_lst lo (lo := 0) (hi := (out.takeWhile fun y => decide (y ≤ x)).length) rfl rfl (by omega) htw fun t lt htb => ?_
    rw [List.drop_zero, Nat.sub_zero, t1] at lt
    refine app_mine (f := cI) (s := ⟨none, 0, 0⟩) (L := []) e0 (Mine.nil _ _ _) cI_len (by omega) elI (Owns.nil _ _ _) lt.1 (fun x => one1 rfl) (by simp; omega) fun r1 h1 q1 q2 q3 q4 q5 => ?_
    have x1 : Ext h h1 := q4.mono fun b _ e => by simp [Sl.blk] at e
    refine (l0.ext x1).get cI_len hx rfl fun a ha => ?_
    rw [ldI_iff ha.one]
    have hs3 : ∀ b, s3.blk = some b → b < h.size := fun b hb => ow.blk_lt hb
    have hr1 : ∀ b, r1.blk = some b → h.size ≤ b := fun b hb => by
      rcases q5 with q5 | ⟨b', q5, q6⟩
      · rw [q5] at hb; simp [Sl.blk] at hb
      · rw [q5] at hb; cases hb; exact q6
    refine push_mine (f := cI) x q2 q3 cI_len (by omega) elI q1 (fun x => one1 rfl) (by simp; omega) fun r2 h2 p1 p2 p3 p4 p5 => ?_
    have lo2 : Lst h2 s3 cI out := (lo.ext x1).only p4 fun b hb e => by have := hs3 b hb; have := hr1 b e; omega
    have hr2 : ∀ b, r2.blk = some b → h.size ≤ b := fun b hb => by
      rcases p5 with p5 | ⟨b', p5, p6⟩
      · rw [p5] at hb; exact hr1 b hb
      · rw [p5] at hb; cases hb; have := x1.size; omega
    refine cut_lst lo2 (lo := (out.takeWhile fun y => decide (y ≤ x)).length) (hi := out.length) rfl (by rw [hol]) htw (Nat.le_refl _) fun t' lt' htb' => ?_
    rw [t2, List.take_of_length_le (by rw [← t2, List.length_drop]; exact Nat.le_refl _)] at lt'
    refine app_mine (f := cI) p2 p3 cI_len (by omega) elI p1 lt'.1 (fun x => one1 rfl) (by
      have := congrArg List.length (List.takeWhile_append_dropWhile (p := fun y => decide (y ≤ x)) (l := out))
      simp only [List.length_append, List.nil_append, List.length_singleton] at this ⊢; omega) fun r3 h3 u1 u2 u3 u4 u5 => ?_
    rw [show IntKind.wrap .i64 ((i : Int) + 1) = ((i + 1 : Nat) : Int) from by rw [w64 (by omega) (by omega)]; omega]
    have l03 : Lst h3 s0 cI A := ((l0.ext x1).keep p4 (fun hne b hb e => by have := hs0 hne b hb; have := q3 b e; omega)).keep u4 fun hne b hb e => by have := hs0 hne b hb; have := p3 b e; omega
    refine rise_loop hs0 hA k m (i + 1) h3 r3 u2 l03 ?_ u3 (by omega) (by omega) (by omega)
    rw [htk]; simpa [insL] using u1
theorem rising_spec {h : H} {s : Sl} {A : List Int} {Q : Sl → H → Prop} (l : Lst h s cI A) (hs : A ≠ [] → ∀ b, s.blk = some b → b < h.size) (hA : A.length < 10000000000000000000) (k : ∀ r h', Owns h' r 3 1 ((risL A).flatMap cI) → Ext h h' → Mine h r → Q r h') : F.spatelaw8_rising s h Q :=
  ⟨201, rise_loop hs hA k 201 0 h _ (.refl _) l (Owns.nil _ _ _) (Mine.nil _ _ _) (by omega) (by omega) (by omega)⟩

/-! ### Numbers as texts -/
theorem beT_get (u : Nat) : ∀ (j i : Nat), i < j → (beT u j)[i]? = some (UInt8.ofNat (u / 2 ^ (8 * (j - 1 - i))))
  | 0, i, h => by omega
  | j + 1, 0, h => by simp [beT]
  | j + 1, i + 1, h => by
    simp only [beT, List.getElem?_cons_succ]
    rw [beT_get u j i (by omega)]
    congr 4; omega
theorem word_bytes {h0 : H} {Q : Sl → H → Prop} {C1 : Sl → Sl → Int → H → Prop} {s0 s3 s6 : Sl} {b : Nat} {x4 : Int} {u : Nat} (hp : s6.ptr = some ⟨b, 0, none⟩)
    (k : ∀ h', Owns h' s6 5 1 ((beT u 8).flatMap cU) → Only (· = b) h0 h' → (runT PP (convert 47 9 s6.enc) h' fun s14 h13 => newL h13 #[(.string s14)] ty_9 1 fun s16 h15 => runL PP (Builtin.append_ #[29, 29] 29 #[s3.enc, s16.enc]) h15 fun s18 h17 => C1 s0 s18 (IntKind.wrap .i64 (x4 + 1)) h17)) :
    ∀ (m i : Nat) (h : H) (L : List UInt8), Only (· = b) h0 h → Owns h s6 5 1 (L.flatMap cU) → L.length = 8 → (∀ t, t < i → L[t]? = (beT u 8)[t]?) → i ≤ 8 → 8 - i < m → F.spatelaw8_words.l2 Q C1 m s0 s3 x4 (u : Int) s6 (i : Int) h
  | 0, i, h, L, _, _, _, _, _, hm => by omega
  | m + 1, i, h, L, e0, ow, hL, hg, hi, hm => by
    unfold F.spatelaw8_words.l2
    simp only [decide_eq_true_eq, decide_eq_false_iff_not]
    refine ⟨fun g => ?_, fun g => ?_⟩
    · have hw : IntKind.wrap .i64 (56 - IntKind.wrap .i64 (8 * (i : Int))) = ((8 * (7 - i) : Nat) : Int) := by rw [w64 (n := 8 * (i : Int)) (by omega) (by omega), w64 (by omega) (by omega)]; omega
      rw [hw]
      refine ⟨by omega, ?_⟩
      have hb : IntKind.wrap .u8 (Int.fdiv (u : Int) (2 ^ (min (((8 * (7 - i) : Nat) : Int)).toNat (IntKind.bits .u64)) : Int)) = ((UInt8.ofNat (u / 2 ^ (8 * (7 - i)))).toNat : Int) := by
        rw [u8_of, Int.toNat_natCast, show min (8 * (7 - i)) (IntKind.bits .u64) = 8 * (7 - i) from by simp [IntKind.bits]; omega, fdiv_pow]
      rw [hb]
      have hl := own_len cU_len (by omega) ow
      refine idxA_of (i := i) hp (by omega) rfl ?_
      refine own_setAt (f := cU) (k := 1) (x := UInt8.ofNat (u / 2 ^ (8 * (7 - i)))) cU_len ow hp (by omega) fun h1 q1 q2 q3 => ?_
      rw [show IntKind.wrap .i64 ((i : Int) + 1) = ((i + 1 : Nat) : Int) from by rw [w64 (by omega) (by omega)]; omega]
      refine word_bytes hp k m (i + 1) h1 _ (e0.trans q2 fun n _ e => by simp [Sl.blk, hp] at e; exact e.symm) q1 (by simp [hL]) (fun t ht => ?_) (by omega) (by omega)
      rw [List.getElem?_set]
      split
      · rename_i he; subst he
        rw [if_pos (by omega), beT_get u 8 i (by omega)]
      · exact hg t (by omega)
    · have hii : i = 8 := by omega
      subst hii
      have : L = beT u 8 := by
        apply List.ext_getElem?
        intro t
        by_cases ht : t < 8
        · exact hg t ht
        · rw [List.getElem?_eq_none (by omega), List.getElem?_eq_none (by rw [beT_len]; omega)]
      subst this
      exact k h ow e0
theorem words_loop {h0 : H} {Q : Sl → H → Prop} {s0 : Sl} {A : List Int} (hA : A.length ≤ 100000) (hs0 : ∀ b, s0.blk = some b → b < h0.size) (k : ∀ r h', Owns h' r 9 1 ((A.map wordT).flatMap cT) → Ext h0 h' → Mine h0 r → Q r h') :
    ∀ (m i : Nat) (h : H) (s3 : Sl), Ext h0 h → Lst h s0 cI A → Owns h s3 9 1 (((A.take i).map wordT).flatMap cT) → Mine h0 s3 → i ≤ A.length → A.length - i < m → F.spatelaw8_words.l1 Q m s0 s3 (i : Int) h
  | 0, i, h, s3, _, _, _, _, _, hm => by omega
  | m + 1, i, h, s3, e0, l0, ow, mi, hi, hm => by
    unfold F.spatelaw8_words.l1
    rw [l0.len cI_len]
    simp only [decide_eq_true_eq, decide_eq_false_iff_not]
    refine ⟨fun g => ?_, fun g => ?_⟩
    · obtain ⟨x, hx⟩ : ∃ x, A[i]? = some x := ⟨_, List.getElem?_eq_getElem (by omega)⟩
      refine l0.get cI_len hx rfl fun a ha => ?_
      rw [ldI_iff ha.one, ← upU_eq]
      refine make_of (n := 8) elU (by omega) (by simp [maxLen]) fun b h1 n1 n2 n3 => ?_
      rw [show (Value.int .u8 0).cells = #[.int .u8 0] from rfl, Nat.mul_one, made_one, ← flat_replicate cU 0 (.int .u8 0) rfl] at n2
      refine ⟨9, ?_⟩
      refine word_bytes (h0 := h1) (u := upU x) (b := b) rfl (fun h2 q1 q2 => ?_) 9 0 h1 _ (.refl _) n2 (by simp) (fun t ht => by omega) (by omega) (by omega)
      refine cvtT_of (l := beT (upU x) 8) Try.underlying47 Try.underlying5 Try.underlying9 q1.reads ?_
      have x2 : Ext h h2 := n3.step q2 fun n hn e => by omega
      have htk : (A.take (i + 1)).map wordT = (A.take i).map wordT ++ [wordT x] := by rw [List.take_add_one, hx]; simp
      refine push_mine (f := cT) (wordT x) (e0.trans x2) mi cT_len (by omega) elT (ow.ext x2) (fun x => one1 rfl) (by simp; omega) fun r h3 p1 p2 p3 p4 p5 => ?_
      rw [show IntKind.wrap .i64 ((i : Int) + 1) = ((i + 1 : Nat) : Int) from by rw [w64 (by omega) (by omega)]; omega]
      refine words_loop hA hs0 k m (i + 1) h3 r p2 ((l0.ext x2).only p4 fun b hb e => by have := hs0 b hb; have := mi b e; omega) (by rw [htk]; exact p1) p3 (by omega) (by omega)
    · rw [List.take_of_length_le (by omega)] at ow
      exact k s3 h ow e0 mi
theorem words_spec {h : H} {s : Sl} {A : List Int} {Q : Sl → H → Prop} (l : Lst h s cI A) (hA : A.length ≤ 100000) (hs : ∀ b, s.blk = some b → b < h.size) (k : ∀ r h', Owns h' r 9 1 ((A.map wordT).flatMap cT) → Ext h h' → Mine h r → Q r h') : F.spatelaw8_words s h Q :=
  ⟨A.length + 1, words_loop hA hs k _ 0 h _ (.refl _) l (Owns.nil _ _ _) (Mine.nil _ _ _) (by omega) (by omega)⟩
theorem same_loop {h : H} {s t : Sl} {A : List Int} {Q : Bool → H → Prop} (ls : Lst h s cI A) (lt : Lst h t cI A) (hA : A.length ≤ 100000) (k : Q true h) : ∀ (m i : Nat), i ≤ A.length → A.length - i < m → F.spatelaw8_same.l1 Q m s t (i : Int) h
  | 0, i, _, hm => by omega
  | m + 1, i, hi, hm => by
    unfold F.spatelaw8_same.l1
    rw [ls.len cI_len]
    simp only [decide_eq_true_eq, decide_eq_false_iff_not]
    refine ⟨fun g => ?_, fun g => k⟩
    obtain ⟨x, hx⟩ : ∃ x, A[i]? = some x := ⟨_, List.getElem?_eq_getElem (by omega)⟩
    refine ls.get cI_len hx rfl fun a ha => ?_
    rw [ldI_iff ha.one]
    refine lt.get cI_len hx rfl fun a ha => ?_
    rw [ldI_iff ha.one, bne_iff_ne, bne_eq_false_iff_eq]
    refine ⟨fun g => absurd rfl g, fun _ => ?_⟩
    rw [show IntKind.wrap .i64 ((i : Int) + 1) = ((i + 1 : Nat) : Int) from by rw [w64 (by omega) (by omega)]; omega]
    exact same_loop ls lt hA k m (i + 1) (by omega) (by omega)
theorem same_spec {h : H} {s t : Sl} {A : List Int} {Q : Bool → H → Prop} (ls : Lst h s cI A) (lt : Lst h t cI A) (hA : A.length ≤ 100000) (k : Q true h) : F.spatelaw8_same s t h Q := by
  unfold F.spatelaw8_same
  rw [ls.len cI_len, lt.len cI_len, bne_iff_ne, bne_eq_false_iff_eq]
  exact ⟨fun g => absurd rfl g, fun _ => ⟨A.length + 1, same_loop ls lt hA k _ 0 (by omega) (by omega)⟩⟩
end Go.Proofs.Ytidpbnbjpglhfaa.V
