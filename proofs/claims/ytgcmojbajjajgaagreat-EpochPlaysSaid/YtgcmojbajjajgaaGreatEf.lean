/- A drop, a new book, a twin; no condition. -/
import Derived.Test.YtgcmojbajjajgaaGreatEe
namespace Go.Proofs.YtgcmojbajjajgaaGreat.V
open Go Go.Proofs.YtgcmojbajjajgaaGreat.V.N
set_option linter.unusedVariables false
set_option linter.unusedSimpArgs false
section
variable {lk : Int} {h : H} {n db : Nat} {bs : List Nat} {B : Bk}
theorem owL_set {os : List (List Int × Int)} {i m m0 : Nat} {x : List Int × Int} {S : List Int} {v : Int} (h1 : bs[i]? = some m0) (h2 : os[i]? = some x) : (owL bs os).set i ⟨some m, v⟩ = owL (bs.set i m) (os.modify i fun _ => (S, v)) := by
  apply List.ext_getElem?
  intro j
  simp only [owL, List.getElem?_set, List.getElem?_zipWith, List.getElem?_modify, List.length_zipWith]
  have g1 := (List.getElem?_eq_some_iff.1 h1).1
  have g2 := (List.getElem?_eq_some_iff.1 h2).1
  by_cases e : i = j
  · subst e
    rw [if_pos rfl, if_pos (by omega), if_pos rfl, if_pos (by omega), h2]
    simp
  · rw [if_neg e, if_neg e]
    simp [e]
theorem nodup_set {α : Type} {m : α} : ∀ {l : List α}, l.Nodup → m ∉ l → ∀ i, (l.set i m).Nodup
  | [], _, _, _ => by simp
  | a :: r, h, hm, 0 => by
    simp only [List.mem_cons, not_or] at hm
    rw [List.set_cons_zero, List.nodup_cons]
    exact ⟨hm.2, (List.nodup_cons.1 h).2⟩
  | a :: r, h, hm, i + 1 => by
    simp only [List.mem_cons, not_or] at hm
    rw [List.set_cons_succ, List.nodup_cons]
    refine ⟨fun ha => ?_, nodup_set (List.nodup_cons.1 h).2 hm.2 i⟩
    rcases List.mem_or_eq_of_mem_set ha with h1 | h1
    · exact (List.nodup_cons.1 h).1 h1
    · exact hm.1 h1.symm
/-- A row of owners within a block: cells of one are written. -/
theorem pb_store {K : H → Prop} {A C vs : List Value} {L : List S_epoch_owner} {i j : Nat} {x x' : S_epoch_owner} (t : Blk h n (A ++ L.flatMap S_epoch_owner.cells ++ C).toArray tn_epoch_Book) (hA : A.length = 4) (hx : L[i]? = some x) (hj : j + vs.length ≤ 2)
    (hx' : ∀ t, t < 2 → x'.cells[t]? = if j ≤ t ∧ t < j + vs.length then vs[t - j]? else x.cells[t]?)
    (k : ∀ h', Blk h' n (A ++ (L.set i x').flatMap S_epoch_owner.cells ++ C).toArray tn_epoch_Book → Only (· = n) h h' → h'.size = h.size → K h') : stH h ⟨n, 4 + i * 2 + j, none⟩ vs K := by
  have hi := (List.getElem?_eq_some_iff.1 hx).1
  have l1 := flat_len _ 2 ow_len L
  refine stH_of t (by simp only [List.size_toArray, List.length_append, l1, hA]; omega) fun h' t' o e => k h' ?_ o e
  have := writeA_flat (f := S_epoch_owner.cells) (k := 2) ow_len (A := A) (C := C) (vs := vs) (j := j) (x' := x') hx hj hx'
  rw [hA] at this
  rw [this] at t'; exact t'
theorem st_ow {K : H → Prop} {i m : Nat} {S : List Int} {v : Int} (b : BH lk h n bs db B) (hi : i < 65) (ms : MS h m (uS S)) (hf : m ∉ db :: bs)
    (k : ∀ h', BH lk h' n (bs.set i m) db { B with os := B.os.modify i fun _ => (S, v) } → Only (· = n) h h' → h'.size = h.size → K h') : stH h ⟨n, 4 + i * 2, none⟩ ((⟨some m, v⟩ : S_epoch_owner).cells) K := by
  obtain ⟨q, t⟩ := id b.tb
  obtain ⟨m0, x, hm, hx, hw, _⟩ := b.ow hi
  refine pb_store (j := 0) (x' := ⟨some m, v⟩) t rfl hw (by simp [ow_len]) (fun t ht => by rw [if_pos (by simp [ow_len]; omega)]; rfl) fun h' t' o e => k h' ?_ o e
  have hnm : m ≠ n := fun e => by subst e; exact ms.not_blk t
  rw [owL_set (S := S) hm hx] at t'
  refine ⟨⟨q, t'⟩, by simp [b.lb], by simp [b.lo], fun j c y hc hy => ?_, b.dy.only o b.nd', ?_⟩
  · simp only [List.getElem?_modify] at hy
    rw [List.getElem?_set] at hc
    by_cases e : i = j
    · subst e
      rw [if_pos rfl, if_pos (by rw [b.lb]; exact hi)] at hc
      cases hc
      rw [hx] at hy; simp at hy; subst hy
      exact ms.only o hnm
    · rw [if_neg e] at hc
      cases hj : B.os[j]? with
      | none => rw [hj] at hy; cases hy
      | some z =>
        rw [hj] at hy; simp [e] at hy; subst hy
        exact (b.sets j c z hc hj).only o (b.nb c (List.mem_of_getElem? hc))
  · simp only [List.mem_cons, not_or] at hf
    have hnd := List.nodup_cons.1 b.nd
    refine List.nodup_cons.2 ⟨fun hd => ?_, nodup_set hnd.2 hf.2 i⟩
    rcases List.mem_or_eq_of_mem_set hd with h | h
    · exact hnd.1 h
    · exact hf.1 h.symm
/-- Lets, one behind another. -/
theorem letB_os (B : Bk) (e : Int) : (letB B e).os = B.os := by unfold letB; split <;> rfl
theorem drop_loop {Q : Int → H → Prop} {r : Sl} {E : List Int} (hl : E.length < 1073741824) (hbl : ∀ x, r.blk = some x → ¬ FB n bs db x) :
    ∀ (m i : Nat) (h : H) (B : Bk), BH 1 h n bs db B → Owns h r 3 1 (E.flatMap cI) → i ≤ E.length → E.length - i < m →
      (∀ h', BH 0 h' n bs db ((E.drop i).foldl letB B) → Only (FB n bs db) h h' → Q (E.length : Int) h') →
      F.epoch_Book_Drop.l2 Q no_sync_Mutex_Unlock #[.pointer (some ⟨n, 0, none⟩)] #[] m (some ⟨n, 0, none⟩) r r (r.len : Int) (i : Int) h
  | 0, i, h, B, b, w, hi, hm, k => by omega
  | m + 1, i, h, B, b, w, hi, hm, k => by
    have hrl : r.len = E.length := own_len cI_len (by omega) w
    unfold F.epoch_Book_Drop.l2
    simp only [decide_eq_true_eq, decide_eq_false_iff_not]
    rw [hrl]
    refine ⟨fun g => ?_, fun g => ?_⟩
    · obtain ⟨x, hx⟩ : ∃ x, E[i]? = some x := ⟨_, List.getElem?_eq_getElem (by omega)⟩
      obtain ⟨bb, p1, p2⟩ := own_at cI_len (by omega) w hx
      refine idxA_of (i := i) p1 (by omega) rfl ?_
      refine (ldI_iff (n := x) p2.one).2 ?_
      refine let_spec b fun h2 b2 o2 => ?_
      rw [w64n (by omega), ← hrl]
      have w2 := w.only o2 fun y hy e => hbl y hy (.inr (.inl e))
      have hd : E.drop i = x :: E.drop (i + 1) := by
        rw [List.drop_eq_getElem_cons (by omega)]
        rw [List.getElem?_eq_getElem (by omega)] at hx; cases hx; rfl
      refine drop_loop hl hbl m (i + 1) h2 (letB B x) b2 w2 (by omega) (by omega) fun h' b' o' => k h' ?_ (only_trans o2.fd o')
      rw [hd]; exact b'
    · have : i = E.length := by omega
      subst this
      refine unlock_spec b fun h3 b3 o3 s3 => ?_
      exact k h3 (by rw [List.drop_length]; exact b3) o3.fb
theorem putS_comm {L : KL} {a b : Int} {u : Value} (s : SK L) : putS (putS L a u) b u = putS (putS L b u) a u := by
  refine sk_ext (sk_putS (sk_putS s)) (sk_putS (sk_putS s)) fun p => ?_
  obtain ⟨x, y⟩ := p
  simp only [mem_putS (sk_putS s), mem_putS s, Prod.mk.injEq]
  constructor
  · rintro (⟨rfl, rfl⟩ | ⟨⟨rfl, rfl⟩ | ⟨h1, h2⟩, h3⟩)
    · by_cases e : x = a
      · exact .inl ⟨e, rfl⟩
      · exact .inr ⟨.inl ⟨rfl, rfl⟩, e⟩
    · exact .inl ⟨rfl, rfl⟩
    · exact .inr ⟨.inr ⟨h1, h3⟩, h2⟩
  · rintro (⟨rfl, rfl⟩ | ⟨⟨rfl, rfl⟩ | ⟨h1, h2⟩, h3⟩)
    · by_cases e : x = b
      · exact .inl ⟨e, rfl⟩
      · exact .inr ⟨.inl ⟨rfl, rfl⟩, e⟩
    · exact .inl ⟨rfl, rfl⟩
    · exact .inr ⟨.inr ⟨h1, h3⟩, h2⟩
theorem dS_inj {D E : List (Int × Int)} (h : dS D = dS E) : D = E := by
  have := congrArg (List.map fun p : Int × Value => (p.1, match p.2 with | .int _ v => v | _ => 0)) h
  simpa [dS, List.map_map, Function.comp_def] using this
theorem sk_putD {D : List (Int × Int)} {k v : Int} (s : SK (dS D)) : SK (dS (putD D k v)) := by rw [← dS_put]; exact sk_putS s
theorem letB_sk {e : Int} (s : SK (dS B.die)) : SK (dS (letB B e).die) := by
  unfold letB; split
  · exact s
  · exact sk_putD s
theorem heldB_let (a e : Int) : heldB (letB B a) e = heldB B e := by simp [heldB, pinB, inB, letB_os]
theorem letB_t {e : Int} (h : heldB B e = true) : letB B e = B := by rw [letB, if_pos h]
theorem letB_comm {a b : Int} (s : SK (dS B.die)) : letB (letB B a) b = letB (letB B b) a := by
  by_cases ha : heldB B a = true
  · rw [letB_t ha, letB_t (B := letB B b) (by rw [heldB_let]; exact ha)]
  · by_cases hb : heldB B b = true
    · rw [letB_t hb, letB_t (B := letB B a) (by rw [heldB_let]; exact hb)]
    · have h1 := heldB_let (B := B) a b
      have h2 := heldB_let (B := B) b a
      rw [Bool.not_eq_true] at ha hb
      rw [hb] at h1; rw [ha] at h2
      rw [letB, if_neg (by rw [h1]; simp), letB, if_neg (by rw [ha]; simp), letB, if_neg (by rw [h2]; simp), letB, if_neg (by rw [hb]; simp)]
      simp only [Bk.mk.injEq, true_and, and_true]
      refine dS_inj ?_
      rw [← dS_put, ← dS_put, ← dS_put, ← dS_put]
      exact putS_comm s
theorem foldl_perm {l l' : List Int} (hp : l.Perm l') : ∀ (B : Bk), SK (dS B.die) → l.foldl letB B = l'.foldl letB B := by
  induction hp with
  | nil => intro B s; rfl
  | cons x _ ih => intro B s; exact ih _ (letB_sk s)
  | swap x y l => intro B s; simp only [List.foldl_cons]; rw [letB_comm s]
  | trans _ _ ih1 ih2 => intro B s; exact (ih1 B s).trans (ih2 B s)
theorem Drop_spec {o : Int} {Q : Int → H → Prop} (b : BH 0 h n bs db B) (hl : (setB B o).length < 1073741000) (k : ∀ h' bs', BH 0 h' n bs' db (dropB B o).2 → Stp h n bs db h' bs' → Q (dropB B o).1 h') : F.epoch_Book_Drop (some ⟨n, 0, none⟩) o h Q := by
  unfold F.epoch_Book_Drop
  refine guard_spec b fun h1 b1 o1 s1 => ?_
  simp only [nn_some, add_lit, Nat.zero_add, Nat.add_zero]
  refine is_spec ⟨fun g => ?_, fun g => ?_⟩
  · have g' : isO o = false := by simpa using g
    refine unlock_spec b1 fun h3 b3 o3 s3 => ?_
    have e : dropB B o = (0, B) := by rw [dropB, if_pos g']
    have := k h3 bs; rw [e] at this
    exact this b3 (.of_only (only_trans o1 o3).fb)
  · have g' : isO o = true := by simpa using g
    have hr := isO_rng g'
    obtain ⟨m, hm, hmb, c1, c2, ms⟩ := b1.own g'
    refine ⟨hr, (ldM_iff c1).2 ?_⟩
    refine collect_is ms (by simpa using (by omega : (setB B o).length < 1073741824)) (fun p hp => by obtain ⟨z, _, rfl⟩ := List.mem_map.1 hp; exact ⟨⟨⟩, rfl⟩) fun r h2 D hD w2 e2 m2 => ?_
    rw [keys_uS] at hD
    have b2 := b1.ext e2
    obtain ⟨_, _, _, _, c2', _⟩ := b2.own g'
    refine ⟨hr, (ldI_iff c2').2 ?_⟩
    have eD : dropB B o = (((setB B o).length : Int) + (if innB B o ≠ 0 then 1 else 0), ((setB B o) ++ (if innB B o ≠ 0 then [innB B o] else [])).foldl letB { B with os := B.os.modify o.toNat fun _ => ([], 0) }) := by rw [dropB, if_neg (by simp [g'])]
    have tail : ∀ (r' : Sl) (h4 : H) (E : List Int), BH 1 h4 n bs db B → Owns h4 r' 3 1 (E.flatMap cI) → Mine h1 r' → Only (FB n bs db) h h4 → E.Perm ((setB B o) ++ (if innB B o ≠ 0 then [innB B o] else [])) →
        F.epoch_Book_Drop.j1 Q no_sync_Mutex_Unlock #[.pointer (some ⟨n, 0, none⟩)] #[] (some ⟨n, 0, none⟩) o r' h4 := by
      intro r' h4 E b4 w4 m4 o4 hE
      unfold F.epoch_Book_Drop.j1
      simp only [nn_some, add_lit, Nat.zero_add, Nat.add_zero]
      refine make0_of fun c h5 hc5 m5 e5 s5 => ⟨_, rfl, hr, ?_⟩
      have b5 := b4.ext e5
      have hcf : c ∉ db :: bs := fun hx => by
        have : c < h4.size := b4.lt c (by
          rcases List.mem_cons.1 hx with h | h
          · exact .inr (.inl h)
          · exact .inr (.inr h))
        omega
      refine st_ow (i := o.toNat) (S := []) (v := 0) b5 (by omega) m5 hcf fun h6 b6 o6 s6 => ⟨E.length + 1, ?_⟩
      have hEl : E.length < 1073741824 := by
        have := hE.length_eq
        simp only [List.length_append] at this
        split at this <;> simp at this <;> omega
      have hFn : ∀ x, FB n (bs.set o.toNat c) db x → FB n bs db x ∨ x = c := fun x hx => by
        rcases hx with h | h | h
        · exact .inl (.inl h)
        · exact .inl (.inr (.inl h))
        · rcases List.mem_or_eq_of_mem_set h with h | h
          · exact .inl (.inr (.inr h))
          · exact .inr h
      have hcs : h4.size ≤ c := by omega
      have hrb : ∀ x, r'.blk = some x → ¬ FB n (bs.set o.toNat c) db x := fun x hx hf => by
        have h1 := m4 x hx
        have h2 := w4.blk_lt hx
        rcases hFn x hf with h | h
        · have := b1.lt x h; omega
        · omega
      refine drop_loop hEl hrb (E.length + 1) 0 h6 _ b6 ((w4.ext e5).only o6 fun x hx e => hrb x hx (.inl e)) (by omega) (by omega) fun h7 b7 o7 => ?_
      have := k h7 (bs.set o.toNat c); rw [eD] at this
      simp only [List.drop_zero] at b7
      rw [foldl_perm hE _ (by exact b.dy.sk)] at b7
      have hst : Stp h n bs db h7 (bs.set o.toNat c) := by
        refine ⟨?_, fun x hx => ?_⟩
        · refine (only_trans (only_trans o4 e5.only) o6.fb).trans o7 fun x hx hf => ?_
          rcases hFn x hf with h | h
          · exact h
          · have := o4.size; omega
        · rcases hFn x hx with h | h
          · exact .inl h
          · have := o4.size; exact .inr (by omega)
      have hq := this b7 hst
      have hEl2 := hE.length_eq
      rw [show ((E.length : Nat) : Int) = ((setB B o).length : Int) + (if innB B o ≠ 0 then 1 else 0) from by
        rw [hEl2, List.length_append]; split <;> simp]
      exact hq
    refine ⟨fun g2 => ?_, fun g2 => ?_⟩
    · have hne : innB B o ≠ 0 := by simpa using g2
      have hDl := hD.length_eq
      refine push_mine (h0 := h1) (innB B o) e2 m2 cI_len (by omega) el_Slint w2 (fun x => one1 rfl) (by omega) fun r4 h4 w4 e4 m4 o4 _ => ?_
      refine tail r4 h4 (D ++ [innB B o]) (b2.only o4 fun x hx e => ?_) w4 m4 ?_ ?_
      · have := b1.lt x hx; have := m2 x e; omega
      · exact only_trans o1.fb e4.only
      · rw [if_pos hne]; exact hD.append (.refl _)
    · have hne : innB B o = 0 := by simpa using g2
      refine tail r h2 D b2 w2 m2 (only_trans o1.fb e2.only) ?_
      rw [if_neg (by simp [hne]), List.append_nil]; exact hD
end
end Go.Proofs.YtgcmojbajjajgaaGreat.V
