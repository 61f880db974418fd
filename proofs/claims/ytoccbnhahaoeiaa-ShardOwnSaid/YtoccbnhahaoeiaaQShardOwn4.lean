/- Parts of the proof of ShardOwn; no condition. -/
import Derived.ChangeSlices
import Derived.OpenShut
import Derived.Test.YtoccbnhahaoeiaaQShardOwn3
namespace Go.Proofs.Ytoccbnhahaoeiaa.V.S
open Go Go.Proofs.Ytoccbnhahaoeiaa.V
set_option linter.unusedVariables false
set_option linter.unusedSimpArgs false
set_option maxRecDepth 20000
theorem cells_l {h : H} {n o : Nat} {xs ys : List Value} (c : Cells h ⟨n, o, none⟩ (xs ++ ys)) : Cells h ⟨n, o, none⟩ xs := fun i v hv => c i v (by rw [List.getElem?_append_left (List.getElem?_eq_some_iff.1 hv).1]; exact hv)
theorem cells_r {h : H} {n o : Nat} {xs ys : List Value} (c : Cells h ⟨n, o, none⟩ (xs ++ ys)) : Cells h ⟨n, o + xs.length, none⟩ ys := fun i v hv => by
  have := c (xs.length + i) v (by rw [List.getElem?_append_right (by omega), Nat.add_sub_cancel_left]; exact hv)
  rw [add_lit] at this ⊢
  rwa [Nat.add_assoc]
theorem pw_two {α : Type} {P : α → α → Prop} (sym : ∀ x y, P x y → P y x) : ∀ {Z : List α}, Z.Pairwise P → ∀ {x y : α}, x ∈ Z → y ∈ Z → x ≠ y → P x y
  | [], _, _, _, hx, _, _ => by cases hx
  | z :: r, h, x, y, hx, hy, hne => by
    have h' := List.pairwise_cons.1 h
    rcases List.mem_cons.1 hx with e | e <;> rcases List.mem_cons.1 hy with e2 | e2
    · exact absurd (e.trans e2.symm) hne
    · rw [e]; exact h'.1 y e2
    · rw [e2]; exact sym _ _ (h'.1 x e)
    · exact pw_two sym h'.2 e e2 hne
theorem nodup_lenG {α : Type} [DecidableEq α] : ∀ {E L : List α}, E.Nodup → (∀ e ∈ E, e ∈ L) → E.length ≤ L.length
  | [], L, _, _ => Nat.zero_le _
  | e :: E, L, h, hs => by
    rw [List.nodup_cons] at h
    have he := hs e (by simp)
    have := nodup_lenG (E := E) (L := L.erase e) h.2 fun x hx => (List.mem_erase_of_ne (show x ≠ e from fun hxe => h.1 (by rw [← hxe]; exact hx))).2 (hs x (by simp [hx]))
    rw [List.length_erase_of_mem he] at this
    have hpos : 0 < L.length := List.length_pos_of_mem he
    simp only [List.length_cons]; omega
theorem ft_ty {h : H} {tn : Nat} {rs es : Sl} {T : Tb (Option Addr)} (th : P.TH h tn rs es T) {b : Nat} (hb : FT tn rs es b) : ∃ e, WB h b e ∧ (e = tn_table_Table_chain_Chain_api_Agg ∨ e = tn_table_place_chain_Chain_api_Agg) := by
  rcases hb with hb | hb | hb
  · subst hb; exact ⟨_, ⟨_, th.tb⟩, .inl rfl⟩
  · exact ⟨_, th.row.typ hb, .inr rfl⟩
  · exact ⟨_, th.el.typ hb, .inr rfl⟩
section
variable {W : List Ver → Prop} {h h' : H} {n tn : Nat} {rs es : Sl} {T : Tb (Option Addr)} {Z : List Rec} {slots : Nat} {R : Nat → Prop} {u t : Int}
theorem SZG.n_ft (z : SZG W h n tn rs es T Z slots R u t) {b : Nat} (hb : FT tn rs es b) : b ≠ n := by
  obtain ⟨e, h1, h2⟩ := ft_ty z.th hb
  exact h1.ne ⟨_, z.sb⟩ (by rcases h2 with rfl | rfl <;> decide)
theorem SZG.ch_ft (z : SZG W h n tn rs es T Z slots R u t) {r : Rec} (hr : r ∈ Z) {b : Nat} (hb : FT tn rs es b) : b ≠ r.p ∧ r.B ≠ some b := by
  obtain ⟨e, h1, h2⟩ := ft_ty z.th hb
  have h3 := ch_typ (z.ch r hr)
  exact ⟨h1.ne h3.1 (by rcases h2 with rfl | rfl <;> decide), fun hB => h1.ne (h3.2 b hB) (by rcases h2 with rfl | rfl <;> decide) rfl⟩
theorem SZG.n_ch (z : SZG W h n tn rs es T Z slots R u t) {r : Rec} (hr : r ∈ Z) : r.p ≠ n ∧ r.B ≠ some n := by
  have h3 := ch_typ (z.ch r hr)
  exact ⟨h3.1.ne ⟨_, z.sb⟩ (by decide), fun hB => (h3.2 n hB).ne ⟨_, z.sb⟩ (by decide) rfl⟩
theorem SZG.p_B (z : SZG W h n tn rs es T Z slots R u t) {r r' : Rec} (hr : r ∈ Z) (hr' : r' ∈ Z) : r'.B ≠ some r.p := fun hB =>
  ((ch_typ (z.ch r' hr')).2 _ hB).ne (ch_typ (z.ch r hr)).1 (by decide) rfl
theorem SZG.f_lt (z : SZG W h n tn rs es T Z slots R u t) : n < h.size ∧ (∀ b, FT tn rs es b → b < h.size) ∧ ∀ r ∈ Z, r.p < h.size ∧ ∀ b, r.B = some b → b < h.size :=
  ⟨block_lt z.sb, z.th.lt, fun r hr => ⟨(z.ch r hr).lt, (z.ch r hr).ltB⟩⟩
theorem SZG.stN (z : SZG W h n tn rs es T Z slots R u t) {u' t' : Int} (o : Only (· = n) h h') (b : Blk h' n #[.int .i64 u', .int .i64 t', .int .i64 (slots : Int), .pointer (some ⟨tn, 0, none⟩)] tn_shard_Shard) : SZG W h' n tn rs es T Z slots R u' t' ∧ SOnly R h h' := by
  refine ⟨{ z with sb := b, th := z.th.only o fun b hb => z.n_ft hb, ch := fun r hr => (z.ch r hr).only o (z.n_ch hr).1 fun b hb e => (z.n_ch hr).2 (by rw [hb, e]) }, o.mono fun b _ e => ?_⟩
  subst e
  exact ⟨z.rn, _, .inl rfl, _, z.sb⟩
theorem SZG.st0 (z : SZG W h n tn rs es T Z slots R u t) {x : Int} {K : H → Prop} (k : ∀ h', SZG W h' n tn rs es T Z slots R x t → SOnly R h h' → K h') : stH h ⟨n, 0, none⟩ [.int .i64 x] K :=
  stH_of z.sb (by simp) fun h' q1 q2 q3 => by
    have := z.stN (u' := x) (t' := t) q2 q1
    exact k h' this.1 this.2
theorem SZG.st1 (z : SZG W h n tn rs es T Z slots R u t) {x : Int} {K : H → Prop} (k : ∀ h', SZG W h' n tn rs es T Z slots R u x → SOnly R h h' → K h') : stH h ⟨n, 1, none⟩ [.int .i64 x] K :=
  stH_of z.sb (by simp) fun h' q1 q2 q3 => by
    have := z.stN (u' := u) (t' := x) q2 q1
    exact k h' this.1 this.2
theorem mem_setZ (z : SZG W h n tn rs es T Z slots R u t) {x y : Rec} : y ∈ setK Rec.c Z x ↔ y = x ∨ (y ∈ Z ∧ y.c ≠ x.c) := mem_set z.srt
/-- The versions of a cell are others. -/
theorem SZG.lay (z : SZG W h n tn rs es T Z slots R u t) {r : Rec} (hr : r ∈ Z) {vs : List Ver} {B' : Option Nat} (c : C.Ch h' r.p vs B') (o : Only (C.FP r.p r.B) h h') (kin : C.Kin h.size r.B B') (ok : W vs)
    (hus : unitsS (toS (setK Rec.c Z ⟨r.c, vs, r.p, B'⟩)) ≤ slots) (hR : ∀ b, h.size ≤ b → R b) : SZG W h' n tn rs es T (setK Rec.c Z ⟨r.c, vs, r.p, B'⟩) slots R u t ∧ SOnly R h h' := by
  obtain ⟨l1, l2, l3⟩ := z.f_lt
  have hty := ch_typ (z.ch r hr)
  have hne : ∀ {y : Rec}, y ∈ Z → y.c ≠ r.c → y.p ≠ r.p ∧ (∀ x, r.B = some x → y.B ≠ some x) := fun {y} hy hc => by
    have hyr : y ≠ r := fun e => hc (by rw [e])
    exact ⟨pw_two (fun _ _ h => h.symm) z.pd hy hr hyr, fun x hx hyx => pw_two (P := fun a b : Rec => ∀ x, a.B = some x → b.B ≠ some x) (fun a b h x h1 h2 => h x h2 h1) z.bd hy hr hyr x hyx hx⟩
  have keepCh : ∀ y ∈ Z, y.c ≠ r.c → C.Ch h' y.p y.vs y.B := fun y hy hc => by
    obtain ⟨h1, h2⟩ := hne hy hc
    refine (z.ch y hy).only o (fun e => ?_) fun b hb e => ?_
    · rcases e with e | e
      · exact h1 e
      · exact z.p_B hy hr e
    · rcases e with e | e
      · subst e; exact z.p_B hr hy hb
      · exact h2 b e hb
  have hB : ∀ x, B' = some x → r.B = some x ∨ h.size ≤ x := fun x hx => by
    rcases kin with k | k | ⟨b, k, k2⟩
    · exact .inl (by rw [← k]; exact hx)
    · rw [k] at hx; cases hx
    · rw [k] at hx; cases hx; exact .inr k2
  refine ⟨{ z with sb := ?_, th := ?_, ch := fun y hy => ?_, get := fun y hy => ?_, all := fun k v hk => ?_, srt := sort_set z.srt, pd := pw_set z.srt z.pd fun y hy hc => ?_, bd := pw_set z.srt z.bd fun y hy hc => ?_, wf := fun y hy => ?_, us := hus, rp := fun y hy => ?_ }, ?_⟩
  · refine o.block z.sb fun e => ?_
    rcases e with e | e
    · exact (z.n_ch hr).1 e.symm
    · exact (z.n_ch hr).2 e
  · refine z.th.only o fun b hb e => ?_
    have := z.ch_ft hr hb
    rcases e with e | e
    · exact this.1 e
    · exact this.2 e
  · rcases (mem_setZ z).1 hy with e | ⟨e, e2⟩
    · subst e; exact c
    · exact keepCh y e e2
  · rcases (mem_setZ z).1 hy with e | ⟨e, e2⟩
    · subst e; exact z.get r hr
    · exact z.get y e
  · obtain ⟨y, hy, e⟩ := z.all k v hk
    by_cases hc : y.c = r.c
    · exact ⟨_, (mem_setZ z).2 (.inl rfl), by rw [e, hc]⟩
    · exact ⟨y, (mem_setZ z).2 (.inr ⟨hy, hc⟩), e⟩
  · exact ⟨fun e => (hne hy hc).1 e.symm, fun e => (hne hy hc).1 e⟩
  · refine ⟨fun x hx hy2 => ?_, fun x hx hy2 => ?_⟩
    · rcases hB x hx with e | e
      · exact (hne hy hc).2 x e hy2
      · have := (l3 y hy).2 x hy2; omega
    · rcases hB x hy2 with e | e
      · exact (hne hy hc).2 x e hx
      · have := (l3 y hy).2 x hx; omega
  · rcases (mem_setZ z).1 hy with e | ⟨e, e2⟩
    · subst e; exact ⟨(z.wf r hr).1, ok⟩
    · exact z.wf y e
  · rcases (mem_setZ z).1 hy with e | ⟨e, e2⟩
    · subst e
      refine ⟨(z.rp r hr).1, fun x hx => ?_⟩
      rcases hB x hx with e | e
      · exact (z.rp r hr).2 x e
      · exact hR x e
    · exact z.rp y e
  · refine o.mono fun b _ e => ?_
    rcases e with e | e
    · subst e; exact ⟨(z.rp r hr).1, _, .inr (.inr (.inr (.inl rfl))), hty.1⟩
    · exact ⟨(z.rp r hr).2 b e, _, .inr (.inr (.inr (.inr rfl))), hty.2 b e⟩
theorem SZG.count (z : SZG W h n tn rs es T Z slots R u t) : T.count ≤ Z.length := by
  have ku := P.KU_of z.ok
  have hl := P.tk_len z.ok
  have hn : ((P.tkL (T.row ++ T.elder)).map fun p => kL p.1).Nodup := by
    have : ((P.tkL (T.row ++ T.elder)).map fun p => kL p.1) = ((P.tkL (T.row ++ T.elder)).map (·.1)).map kL := by rw [List.map_map]; rfl
    rw [this]
    exact List.Pairwise.map _ (fun a b h e => h (kL_inj e)) ku
  have := nodup_lenG hn (L := Z.map fun r => keyL r.c) fun e he => by
    obtain ⟨⟨k, v⟩, hp, rfl⟩ := List.mem_map.1 he
    obtain ⟨w, hw, _⟩ := P.tk_val z.ok hp
    obtain ⟨r, hr, e⟩ := z.all k w hw
    exact List.mem_map.2 ⟨r, hr, e.symm⟩
  rw [List.length_map, List.length_map, hl] at this
  exact this
/-- A cell that had no versions has some. -/
theorem SZG.add {h1 h2 : H} {T' : Tb (Option Addr)} {rs' es' : Sl} {c : Cel} {p : Nat} {vs : List Ver} {B' : Option Nat} (z : SZG W h n tn rs es T Z slots R u t) (hc : okC c = 0) (hg : getK Rec.c Z c = none) (e1 : Ext h h1) (hp : h.size ≤ p) (hp1 : p < h1.size)
    (th : P.TH h2 tn rs' es' T') (ok : TOk T') (stp : Stp h1 tn rs es h2 rs' es') (hget : ∀ k, getM T' k = if kL k = kL (keyB c) then some (some ⟨p, 0, none⟩) else getM T k) (hrl : T'.row.length ≤ 4200000)
    (ch : C.Ch h' p vs B') (o : Only (C.FP p none) h2 h') (kin : C.Kin h2.size none B') (vok : W vs) (hus : unitsS (toS (setK Rec.c Z ⟨c, vs, p, B'⟩)) ≤ slots) (hR : ∀ b, h.size ≤ b → R b) :
    SZG W h' n tn rs' es' T' (setK Rec.c Z ⟨c, vs, p, B'⟩) slots R u t ∧ SOnly R h h' := by
  obtain ⟨l1, l2, l3⟩ := z.f_lt
  have z1 := z.ext e1
  have s1 := e1.size
  have s2 := stp.only.size
  have hcne : ∀ y ∈ Z, y.c ≠ c := getK_none hg
  have oB : ∀ b, b < h.size → ¬ C.FP p none b := fun b hb e => by
    rcases e with e | e
    · omega
    · cases e
  have hB : ∀ x, B' = some x → h.size ≤ x := fun x hx => by
    rcases kin with k | k | ⟨b, k, k2⟩
    · rw [k] at hx; cases hx
    · rw [k] at hx; cases hx
    · rw [k] at hx; cases hx; omega
  have keepCh : ∀ y ∈ Z, C.Ch h' y.p y.vs y.B := fun y hy => by
    have q := ((z1.ch y hy).only stp.only (fun e => (z1.ch_ft hy e).1 rfl) fun b hb e => (z1.ch_ft hy e).2 hb)
    exact q.only o (oB _ (l3 y hy).1) fun b hb => oB _ ((l3 y hy).2 b hb)
  have ft' : ∀ b, FT tn rs' es' b → b ≠ p ∧ R b := fun b hb => by
    rcases stp.new b hb with e | e
    · have := l2 b e
      refine ⟨by omega, ?_⟩
      rcases e with e | e | e
      · subst e; exact z.rt
      · exact z.rr b e
      · exact z.re b e
    · exact ⟨by omega, hR b (by omega)⟩
  refine ⟨{ sb := ?_, th := th.only o fun b hb e => ?_, ok := ok, ch := fun y hy => ?_, get := fun y hy => ?_, all := fun k v hk => ?_, srt := sort_set z.srt, pd := pw_set z.srt z.pd fun y hy hc => ?_, bd := pw_set z.srt z.bd fun y hy hc => ?_, wf := fun y hy => ?_, us := hus, sl := z.sl, rl := hrl, rn := z.rn, rt := z.rt, rr := fun b hb => (ft' b (.inr (.inl hb))).2, re := fun b hb => (ft' b (.inr (.inr hb))).2, rp := fun y hy => ?_ }, ?_⟩
  · exact o.block (stp.only.block z1.sb fun e => z1.n_ft e rfl) (oB n l1)
  · rcases e with e | e
    · exact (ft' b hb).1 e
    · cases e
  · rcases (mem_setZ z).1 hy with e | ⟨e, e2⟩
    · subst e; exact ch
    · exact keepCh y e
  · rw [hget]
    rcases (mem_setZ z).1 hy with e | ⟨e, e2⟩
    · subst e; rw [if_pos rfl]
    · rw [if_neg]
      · exact z.get y e
      · intro he
        rw [kL_keyB, kL_keyB] at he
        exact e2 (key_inj (z.wf y e).1 hc he)
  · rw [hget] at hk
    split at hk
    · rename_i he
      exact ⟨_, (mem_setZ z).2 (.inl rfl), by rw [he, kL_keyB]⟩
    · obtain ⟨y, hy, e⟩ := z.all k v hk
      exact ⟨y, (mem_setZ z).2 (.inr ⟨hy, hcne y hy⟩), e⟩
  · have := (l3 y hy).1
    exact ⟨by simp only; omega, by simp only; omega⟩
  · refine ⟨fun x hx hy2 => ?_, fun x hx hy2 => ?_⟩
    · have := hB x hx; have := (l3 y hy).2 x hy2; omega
    · have := hB x hy2; have := (l3 y hy).2 x hx; omega
  · rcases (mem_setZ z).1 hy with e | ⟨e, e2⟩
    · subst e; exact ⟨hc, vok⟩
    · exact z.wf y e
  · rcases (mem_setZ z).1 hy with e | ⟨e, e2⟩
    · subst e; exact ⟨hR _ hp, fun x hx => hR x (hB x hx)⟩
    · exact z.rp y e
  · have a1 : SOnly R h h1 := SOnly.of e1
    have a2 : SOnly R h1 h2 := stp.only.mono fun b _ e => by
      obtain ⟨ty, q1, q2⟩ := ft_ty z1.th e
      refine ⟨?_, ty, ?_, q1⟩
      · rcases e with e | e | e
        · subst e; exact z.rt
        · exact z.rr b e
        · exact z.re b e
      · rcases q2 with rfl | rfl
        · exact .inr (.inl rfl)
        · exact .inr (.inr (.inl rfl))
    exact Only.trans (SOnly.trans a1 a2) o fun m hm e => absurd e (oB m hm)
end
theorem lastE_newest {vs : List Ver} : C.lastE vs = (C.newestM vs).2.1 := by
  unfold C.lastE C.newestM
  cases vs.getLast? <;> rfl
theorem lay_last (vs : List Ver) (x : Ver) : (C.layM vs x).getLast? = some x := by
  unfold C.layM
  split <;> simp
theorem lay_newest (vs : List Ver) (x : Ver) : C.newestM (C.layM vs x) = (x.value, x.epoch, !x.dead) := by
  unfold C.newestM; rw [lay_last]
theorem lay_len (vs : List Ver) (x : Ver) : ((C.layM vs x).length : Int) = vs.length + C.layN vs x := by
  unfold C.layM C.layN
  split
  · rename_i h
    have := List.length_pos_iff.2 h.1
    simp; omega
  · simp
theorem layN_range (vs : List Ver) (x : Ver) : C.layN vs x = 0 ∨ C.layN vs x = 1 := by
  unfold C.layN; split <;> simp
theorem lay_units (vs : List Ver) (x : Ver) : ((unitsV (C.layM vs x) : Nat) : Int) = vs.length + C.layN vs x + (if x.dead then 0 else 1) := by
  unfold unitsV alive
  rw [lay_newest]
  have := lay_len vs x
  cases x.dead <;> simp <;> omega
theorem lay_alive (vs : List Ver) (x : Ver) : aliveN (C.layM vs x) = if x.dead then 0 else 1 := by
  unfold aliveN alive
  rw [lay_newest]
  cases x.dead <;> simp
theorem units_eq (vs : List Ver) : unitsV vs = vs.length + aliveN vs := rfl
theorem last_le {vs : List Ver} (hr : C.Rise vs) : ∀ v ∈ vs, v.epoch ≤ C.lastE vs := fun v hv => by
  unfold C.lastE
  have hn : vs ≠ [] := fun e => by rw [e] at hv; cases hv
  rw [List.getLast?_eq_some_getLast hn]
  obtain ⟨i, hi⟩ := List.mem_iff_getElem?.1 hv
  have hl := C.last_get hn
  have h1 := (List.getElem?_eq_some_iff.1 hi).1
  by_cases e : i = vs.length - 1
  · rw [e, hl] at hi; cases hi; exact Int.le_refl _
  · have := hr.lt (show i < vs.length - 1 by omega) hi hl
    simp only; omega
theorem lastE_get {vs : List Ver} (hn : vs ≠ []) : C.lastE vs = (vs.getLast hn).epoch := by
  unfold C.lastE; rw [List.getLast?_eq_some_getLast hn]
theorem lay_ok {vs : List Ver} {x : Ver} (h : vs = [] ∨ VOk vs) (he : C.lastE vs ≤ x.epoch ∨ vs = []) (hd : x.dead = true → x.value = zA) (h1 : 1 ≤ x.epoch) (h2 : x.epoch ≤ 1099511627776) : VOk (C.layM vs x) := by
  have hr : C.Rise vs := by
    rcases h with h | h
    · subst h; exact List.Pairwise.nil
    · exact h.rise
  have hdd : ∀ v ∈ vs, (v.dead = true → v.value = zA) ∧ 1 ≤ v.epoch ∧ v.epoch ≤ 1099511627776 := fun v hv => by
    rcases h with h | h
    · subst h; cases hv
    · exact ⟨h.dead v hv, h.ep v hv⟩
  have hlast := last_le hr
  have hmem : ∀ v ∈ C.layM vs x, v = x ∨ v ∈ vs := fun v hv => by
    unfold C.layM at hv
    split at hv
    · rcases List.mem_append.1 hv with e | e
      · exact .inr ((List.dropLast_sublist vs).subset e)
      · exact .inl (List.mem_singleton.1 e)
    · rcases List.mem_append.1 hv with e | e
      · exact .inr e
      · exact .inl (List.mem_singleton.1 e)
  refine ⟨fun e => ?_, ?_, fun v hv => ?_, fun v hv => ?_⟩
  · have := lay_last vs x
    rw [e] at this; cases this
  · unfold C.layM
    split
    · rename_i g
      refine List.pairwise_append.2 ⟨List.Pairwise.sublist (List.dropLast_sublist vs) hr, List.pairwise_singleton _ _, fun a ha b hb => ?_⟩
      obtain rfl := List.mem_singleton.1 hb
      have hd2 : vs = vs.dropLast ++ [vs.getLast g.1] := (List.dropLast_concat_getLast g.1).symm
      have hr2 := hr
      unfold C.Rise at hr2
      rw [hd2] at hr2
      have := (List.pairwise_append.1 hr2).2.2 a ha (vs.getLast g.1) (by simp)
      have hl := lastE_get g.1
      have := g.2
      omega
    · rename_i g
      refine List.pairwise_append.2 ⟨hr, List.pairwise_singleton _ _, fun a ha b hb => ?_⟩
      obtain rfl := List.mem_singleton.1 hb
      have hn : vs ≠ [] := fun e => by rw [e] at ha; cases ha
      have h3 := hlast a ha
      have h4 : C.lastE vs ≠ b.epoch := fun e => g ⟨hn, e⟩
      rcases he with he | he
      · omega
      · exact absurd he hn
  · rcases hmem v hv with e | e
    · subst e; exact hd
    · exact (hdd v e).1
  · rcases hmem v hv with e | e
    · subst e; exact ⟨h1, h2⟩
    · exact (hdd v e).2
theorem set_units {S : SL} (hs : SortS S) (c : Cel) (vs : List Ver) : unitsS (setS S c vs) + unitsV ((getS S c).getD []) = unitsS S + unitsV vs := by
  have := sum_set (key := fun x : Cel × List Ver => x.1) (x := (c, vs)) (fun x => unitsV x.2) hs
  have e : ((getK (fun x : Cel × List Ver => x.1) S c).map fun x => unitsV x.2).getD 0 = unitsV ((getS S c).getD []) := by
    unfold getS
    cases getK (fun x : Cel × List Ver => x.1) S c <;> rfl
  rw [← e]; exact this
theorem set_there {S : SL} (hs : SortS S) (c : Cel) (vs : List Ver) : thereS (setS S c vs) + aliveN ((getS S c).getD []) = thereS S + aliveN vs := by
  have := sum_set (key := fun x : Cel × List Ver => x.1) (x := (c, vs)) (fun x => aliveN x.2) hs
  have e : ((getK (fun x : Cel × List Ver => x.1) S c).map fun x => aliveN x.2).getD 0 = aliveN ((getS S c).getD []) := by
    unfold getS
    cases getK (fun x : Cel × List Ver => x.1) S c <;> rfl
  rw [← e]; exact this
theorem toS_set (Z : List Rec) (r : Rec) : toS (setK Rec.c Z r) = setS (toS Z) r.c r.vs :=
  map_set (key := Rec.c) (key' := fun x : Cel × List Ver => x.1) (fun r : Rec => (r.c, r.vs)) (fun _ => rfl) Z
/-- What a write takes more. -/
theorem need_lay (o : Option (List Ver)) (e : Int) (x : Ver) (hx : x.epoch = e) (hd : x.dead = false) (hn : ¬ (C.newestM (o.getD [])).2.1 > e) (ho : ∀ vs, o = some vs → vs ≠ []) : needV o e = C.layN (o.getD []) x + 1 - aliveN (o.getD []) := by
  cases o with
  | none => rfl
  | some vs =>
    have hne := ho vs rfl
    simp only [Option.getD_some] at hn ⊢
    unfold needV
    simp only
    rw [if_neg hn]
    by_cases h1 : (C.newestM vs).2.1 = e
    · have hl : C.layN vs x = 0 := by unfold C.layN; rw [if_pos ⟨hne, by rw [lastE_newest, hx]; exact h1⟩]
      rw [hl]
      unfold aliveN
      by_cases h2 : alive vs = true
      · rw [if_pos ⟨h1, h2⟩, if_pos h2]; rfl
      · rw [if_neg (fun h => h2 h.2), if_pos (.inl h1), if_neg h2]; rfl
    · have hl : C.layN vs x = 1 := by unfold C.layN; rw [if_neg (fun h => h1 (by rw [← lastE_newest, ← hx]; exact h.2))]
      rw [hl, if_neg (fun h => h1 h.1)]
      unfold aliveN
      by_cases h2 : alive vs = true
      · rw [if_pos (.inr h2), if_pos h2]; rfl
      · rw [if_neg (fun h => h.elim h1 h2), if_neg h2]; rfl
end Go.Proofs.Ytoccbnhahaoeiaa.V.S
namespace Go.Proofs.Ytoccbnhahaoeiaa.V.S
open Go Go.Proofs.Ytoccbnhahaoeiaa.V
set_option linter.unusedVariables false
set_option linter.unusedSimpArgs false
set_option maxRecDepth 20000
/-- What agg.Right tells of an aggregate. -/
def RightIs (a : S_api_Agg) (b : Bool) : Prop := ∀ (h : H) (Q : Bool → H → Prop), (∀ h', Ext h h' → Q b h') → F.agg_Right a h Q
def putE (S : SL) (slots : Nat) (e : Int) (c : Cel) (a : S_api_Agg) (rt : Bool) : Int :=
  if okC c ≠ 0 then okC c else if e < 1 ∨ e > 1099511627776 ∨ a.Count = 0 ∨ rt = false then 1 else if (C.newestM ((getS S c).getD [])).2.1 > e then 32 else if (unitsS S : Int) + needS S e c > slots then 31 else 0
def putS (S : SL) (e : Int) (c : Cel) (a : S_api_Agg) : SL := setS S c (C.layM ((getS S c).getD []) ⟨e, a, false⟩)
def killE (S : SL) (e : Int) (c : Cel) : Int :=
  if okC c ≠ 0 then okC c else if e < 1 ∨ e > 1099511627776 then 1 else match getS S c with
  | none => 44
  | some vs => if (C.newestM vs).2.1 > e then 32 else if alive vs = false then 44 else 0
def killS (S : SL) (e : Int) (c : Cel) : SL := setS S c (C.layM ((getS S c).getD []) ⟨e, zA, true⟩)
theorem getS_ne {S : SL} (h : SOk S) {c : Cel} : ∀ vs, getS S c = some vs → VOk vs := fun vs hg => by
  unfold getS at hg
  cases hx : getK (fun x : Cel × List Ver => x.1) S c with
  | none => rw [hx] at hg; cases hg
  | some x =>
    rw [hx] at hg; cases hg
    exact (h.ok x (getK_some hx).1).2
theorem put_units {S : SL} (h : SOk S) {e : Int} {c : Cel} {a : S_api_Agg} (hc : okC c = 0) (hn : ¬ (C.newestM ((getS S c).getD [])).2.1 > e) :
    (unitsS (putS S e c a) : Int) = unitsS S + needS S e c ∧ (thereS (putS S e c a) : Int) = thereS S + (1 - aliveN ((getS S c).getD [])) ∧ needS S e c = C.layN ((getS S c).getD []) ⟨e, a, false⟩ + (1 - aliveN ((getS S c).getD [])) := by
  have h1 := set_units h.sort c (C.layM ((getS S c).getD []) ⟨e, a, false⟩)
  have h2 := set_there h.sort c (C.layM ((getS S c).getD []) ⟨e, a, false⟩)
  have h3 := lay_units ((getS S c).getD []) ⟨e, a, false⟩
  have h4 := lay_alive ((getS S c).getD []) ⟨e, a, false⟩
  have h5 := units_eq ((getS S c).getD [])
  have h6 := need_lay (getS S c) e ⟨e, a, false⟩ rfl rfl hn fun vs hv => (getS_ne h vs hv).ne
  have h7 : needS S e c = needV (getS S c) e := by unfold needS; rw [if_neg (fun h => h hc)]
  simp only [Bool.false_eq_true, if_false] at h3 h4
  unfold putS
  rw [h7]
  refine ⟨by omega, by omega, by omega⟩
theorem mayM_ok {vs : List Ver} {e : Int} (h1 : 1 ≤ e) (h2 : e ≤ 1099511627776) : C.mayM vs e = if vs ≠ [] ∧ e < (C.newestM vs).2.1 then 32 else 0 := by
  unfold C.mayM
  rw [if_neg (by omega), lastE_newest]
section
variable {h : H} {n : Nat} {S : SL} {slots : Nat} {R : Nat → Prop}
theorem Put_spec {e : Int} {x : S_api_Row} {rt : Bool} {Q : Int → H → Prop} (s : SH h n S slots R) (hrt : RightIs x.Agg rt) (hR : ∀ b, h.size ≤ b → R b)
    (k0 : putE S slots e x.Cell x.Agg rt ≠ 0 → ∀ h', Ext h h' → Q (putE S slots e x.Cell x.Agg rt) h')
    (k1 : putE S slots e x.Cell x.Agg rt = 0 → ∀ h', SH h' n (putS S e x.Cell x.Agg) slots R → SOnly R h h' → Q 0 h') : F.shard_Shard_Put (some ⟨n, 0, none⟩) e x h Q := by
  have sok := s.ok
  obtain ⟨tn, rs, es, T, Z, hZ, z⟩ := s
  obtain ⟨c, a⟩ := x
  simp only at hrt k0 k1
  unfold F.shard_Shard_Put
  refine new_of fun m h1 hm b1 e1 s1 => ?_
  have rc : Cells h1 ⟨m, 0, none⟩ (c.cells ++ a.cells) := Blk.cells b1
  simp only [add_lit, Nat.zero_add, Nat.add_zero]
  have ra : ∀ {hh : H}, Ext h1 hh → Cells hh ⟨m, 3, none⟩ a.cells := fun ee => (cells_r rc : Cells h1 ⟨m, 0 + 3, none⟩ a.cells).ext ee
  have rcc : ∀ {hh : H}, Ext h1 hh → Cells hh ⟨m, 0, none⟩ c.cells := fun ee => (cells_l rc).ext ee
  refine ⟨c, rcc (.refl _), ?_⟩
  unfold putE at k0 k1
  refine key_spec (fun g h2 e2 => ⟨fun _ => ?_, fun g2 => absurd (by simpa using g2) g⟩) fun g h2 e2 => ⟨fun g2 => by simp at g2, fun _ => ?_⟩
  · rw [if_pos g] at k0; exact k0 g h2 (e1.trans e2)
  rw [if_neg (fun h => h g)] at k0 k1
  have e02 := e1.trans e2
  have a0 : ∀ {hh : H}, Ext h1 hh → cellH hh ⟨m, 3, none⟩ = some (.int .i64 a.Count) := fun ee => ra ee 0 _ rfl
  -- a bad argument
  have bad : ∀ {hh : H}, Ext h hh → (e < 1 ∨ e > 1099511627776 ∨ a.Count = 0 ∨ rt = false) → F.shard_Shard_Put.j4 Q (some ⟨n, 0, none⟩) e ⟨m, 0, none⟩ (keyB c) true hh := fun ee hb => by
    unfold F.shard_Shard_Put.j4
    refine ⟨fun _ => ?_, fun h => by cases h⟩
    rw [if_pos hb] at k0
    exact k0 (by decide) _ ee
  -- the last step: a chain that is there is written
  have j1 : ∀ h3, Ext h2 h3 → 1 ≤ e → e ≤ 1099511627776 → a.Count ≠ 0 → rt = true → F.shard_Shard_Put.j1 Q (some ⟨n, 0, none⟩) e ⟨m, 0, none⟩ (keyB c) h3 := by
    intro h3 e3 he1 he2 hac hrt1
    rw [if_neg (by rintro (h | h | h | h)
                   · omega
                   · omega
                   · exact hac h
                   · rw [hrt1] at h; cases h)] at k0 k1
    have e03 := e02.trans e3
    have z3 := z.ext e03
    unfold F.shard_Shard_Put.j1
    simp only [nn_some, add_lit, Nat.zero_add, Nat.add_zero]
    rw [ldP_iff z3.cs3]
    refine P.Get_spec z3.th z3.ok (key_small g) fun h4 e4 => ?_
    have e04 := e03.trans e4
    have e14 : Ext h1 h4 := (e2.trans e3).trans e4
    have z4 := z3.ext e4
    have hlk := z3.look g
    rw [hlk]
    -- room is asked for
    have j2 : ∀ (h5 : H) (l : Option Addr) (is th : Bool), Ext h4 h5 → ¬ (C.newestM ((getS S c).getD [])).2.1 > e → ((unitsS S : Int) + needS S e c ≤ slots → ∀ h6, Ext h5 h6 → ((!is) = true → F.chain_New_api_Agg h6 fun r60 h59 => ldP h59 ⟨n, 3, none⟩ fun y63 => F.table_Table_chain_Chain_api_Agg_Put y63 (keyB c) r60 h59 fun h65 => F.shard_Shard_Put.j3 Q (some ⟨n, 0, none⟩) e ⟨m, 0, none⟩ r60 th h65) ∧ ((!is) = false → F.shard_Shard_Put.j3 Q (some ⟨n, 0, none⟩) e ⟨m, 0, none⟩ l th h6)) →
        F.shard_Shard_Put.j2 Q (some ⟨n, 0, none⟩) e ⟨m, 0, none⟩ (keyB c) l is th h5 := by
      intro h5 l is th e5 hnw hgo
      have z5 := z4.ext e5
      unfold F.shard_Shard_Put.j2
      simp only [nn_some, add_lit, Nat.zero_add, Nat.add_zero]
      rw [ldI_iff z5.cs0]
      refine ⟨c, rcc (e14.trans e5), ldI_of z5.cs2 (need_spec z5 fun h6 e6 => ⟨(z5.ext e6).cs2, (z5.ext e6).cs0, ?_⟩)⟩
      rw [hZ]
      rw [if_neg hnw] at k0 k1
      have hus := z.us
      have hsl := z.sl
      rw [hZ] at hus
      have hnd : 0 ≤ needS S e c ∧ needS S e c ≤ 2 := by
        unfold needS needV
        split
        · omega
        · cases getS S c with
          | none => simp
          | some vs => simp only; split <;> (try split) <;> (try split) <;> omega
      rw [w64 (by omega) (by omega)]
      refine ⟨fun g2 => ?_, fun g2 => hgo (by have := of_decide_eq_false g2; omega) h6 e6⟩
      have g2 := of_decide_eq_true g2
      rw [if_pos g2] at k0
      exact k0 (by decide) h6 ((e04.trans e5).trans e6)
    have hgs : getS S c = (getK Rec.c Z c).map (·.vs) := by rw [← hZ]; exact z.getS c
    have hpu := fun (hn : ¬ (C.newestM ((getS S c).getD [])).2.1 > e) => put_units (a := a) sok g hn
    -- the numbers
    have nums : ∀ (h8 : H) (rs' es' : Sl) (T' : Tb (Option Addr)) (Z' : List Rec) (th : Bool), SZ h8 n tn rs' es' T' Z' slots R (unitsS S : Int) (thereS S : Int) → toS Z' = putS S e c a → SOnly R h h8 → ¬ (C.newestM ((getS S c).getD [])).2.1 > e → (unitsS S : Int) + needS S e c ≤ slots →
        (aliveN ((getS S c).getD []) = if th then 1 else 0) →
        (nn (some ⟨n, 0, none⟩) fun a36 => ldI .i64 h8 ((a36.add 0).add 0) fun y38 => nn (some ⟨n, 0, none⟩) fun a40 => stH h8 ((a40.add 0).add 0) [(.int .i64 (IntKind.wrap .i64 (y38 + C.layN ((getS S c).getD []) ⟨e, a, false⟩)))] fun h42 =>
          ((!th) = true → nn (some ⟨n, 0, none⟩) fun a44 => ldI .i64 h42 ((a44.add 0).add 0) fun y46 => nn (some ⟨n, 0, none⟩) fun a48 => stH h42 ((a48.add 0).add 0) [(.int .i64 (IntKind.wrap .i64 (y46 + 1)))] fun h50 => nn (some ⟨n, 0, none⟩) fun a51 => ldI .i64 h50 ((a51.add 0).add 1) fun y53 => nn (some ⟨n, 0, none⟩) fun a55 => stH h50 ((a55.add 0).add 1) [(.int .i64 (IntKind.wrap .i64 (y53 + 1)))] fun h57 => Q 0 h57) ∧ ((!th) = false → Q 0 h42)) := by
      intro h8 rs' es' T' Z' th z8 hZ' so hnw hroom hth
      obtain ⟨p1, p2, p3⟩ := hpu hnw
      have hsl := z.sl
      have htl : thereS S ≤ unitsS S := there_le
      have hus := z.us
      rw [hZ] at hus
      have hlr := layN_range ((getS S c).getD []) ⟨e, a, false⟩
      rw [if_neg hnw, if_neg (show ¬ (unitsS S : Int) + needS S e c > slots by omega)] at k1
      simp only [nn_some, add_lit, Nat.zero_add, Nat.add_zero]
      rw [ldI_iff z8.cs0, w64 (by omega) (by omega)]
      refine z8.st0 fun h9 z9 o9 => ?_
      have so9 := so.trans o9
      refine ⟨fun g3 => ?_, fun g3 => ?_⟩
      · have hth0 : th = false := by simpa using g3
        rw [hth0] at hth
        simp only [Bool.false_eq_true, if_false] at hth
        rw [ldI_iff z9.cs0, w64 (by omega) (by omega)]
        refine z9.st0 fun h10 z10 o10 => ?_
        rw [ldI_iff z10.cs1, w64 (by omega) (by omega)]
        refine z10.st1 fun h11 z11 o11 => ?_
        refine k1 rfl h11 ⟨tn, rs', es', T', Z', hZ', ?_⟩ ((so9.trans o10).trans o11)
        rw [hZ', p1, p2, p3, hth]
        have q1 : (unitsS S : Int) + C.layN ((getS S c).getD []) ⟨e, a, false⟩ + 1 = unitsS S + (C.layN ((getS S c).getD []) ⟨e, a, false⟩ + (1 - ((0 : Nat) : Int))) := by omega
        have q2 : (thereS S : Int) + 1 = thereS S + (1 - ((0 : Nat) : Int)) := by omega
        rw [← q1, ← q2]; exact z11
      · have hth1 : th = true := by simpa using g3
        rw [hth1] at hth
        simp only [if_true] at hth
        refine k1 rfl h9 ⟨tn, rs', es', T', Z', hZ', ?_⟩ so9
        rw [hZ', p1, p2, p3, hth]
        have q1 : (unitsS S : Int) + C.layN ((getS S c).getD []) ⟨e, a, false⟩ = unitsS S + (C.layN ((getS S c).getD []) ⟨e, a, false⟩ + (1 - ((1 : Nat) : Int))) := by omega
        have q2 : (thereS S : Int) = thereS S + (1 - ((1 : Nat) : Int)) := by omega
        rw [← q1, ← q2]; exact z9
    cases hg : getK Rec.c Z c with
    | none =>
      refine ⟨fun h => (by cases h), fun _ => ?_⟩
      have hgd : (getS S c).getD [] = [] := by rw [hgs, hg]; rfl
      have hnw : ¬ (C.newestM ((getS S c).getD [])).2.1 > e := by rw [hgd]; show ¬ (0 : Int) > e; omega
      refine j2 h4 _ _ _ (.refl _) hnw fun hroom h6 e6 => ⟨fun _ => ?_, fun h => by cases h⟩
      have z6 := z4.ext e6
      refine C.New_spec fun p h7 hp c7 e7 => ?_
      have z7 := z6.ext e7
      rw [ldP_iff z7.cs3]
      obtain ⟨T', t1, t2, t3, t4, t5, t6⟩ := put_ok (z := P.nilA) z7.ok (keyB c) (some ⟨p, 0, none⟩)
      have hcnt := z7.count
      have hzl := z7.len
      have hrl := z7.rl
      have hgn : getM T (keyB c) = none := by rw [z.look g, hg]; rfl
      rw [hgn] at t5
      simp only [Option.isSome_none, Bool.false_eq_true, if_false] at t5
      have hrl' : T'.row.length ≤ 4200000 := by
        rcases t6 with ⟨_, q1, q2, _⟩ | ⟨_, q2, _⟩
        · have q1 : 3 * T.row.length < 4 * (T.count + 1) := q1
          omega
        · omega
      refine P.Put_spec z7.th z7.ok (key_small g) t1 (by show _ ≤ 1099511627776; omega) (by show _ ≤ 1099511627776; omega) fun h8 rs' es' th8 stp => ?_
      unfold F.shard_Shard_Put.j3
      simp only [add_lit, Nat.zero_add, Nat.add_zero]
      have hp6 : p < h7.size := c7.lt
      have l7 := z7.f_lt
      have c8 : C.Ch h8 p [] none := c7.only stp.only (fun hb => by
        have := z6.th.lt p hb; omega) fun b hb => by cases hb
      have e17 : Ext h1 h7 := (e14.trans e6).trans e7
      have e07 := ((e04.trans e6).trans e7)
      have rb8 : Cells h8 ⟨m, 3, none⟩ a.cells := (ra e17).only stp.only fun hb => by
        have := z.th.lt m hb; omega
      refine ⟨a, rb8, ?_⟩
      refine C.Put_spec c8 (by simp) (fun h => absurd (by rw [mayM_ok he1 he2]; simp) h) fun _ h9 B' c9 o9 kin9 => ?_
      have hsetq : toS (setK Rec.c Z ⟨c, C.layM [] ⟨e, a, false⟩, p, B'⟩) = putS S e c a := by
        rw [toS_set, hZ]; unfold putS; rw [hgd]
      have vok : VOk (C.layM [] ⟨e, a, false⟩) := lay_ok (.inl rfl) (.inr rfl) (fun h => by cases h) he1 he2
      obtain ⟨p1, p2, p3⟩ := hpu hnw
      have hz := z.add (c := c) g hg (e07) (by have := ((e04.trans e6)).size; omega) hp6 th8 t2 stp t4 hrl' c9 o9 kin9 vok (by rw [hsetq]; omega) hR
      have := nums h9 rs' es' T' _ false (by rw [← hZ]; exact hz.1) hsetq hz.2 hnw hroom (by rw [hgd]; rfl)
      rw [hgd] at this
      exact this
    | some r =>
      refine ⟨fun _ => ?_, fun h => by cases h⟩
      obtain ⟨hr, hrc⟩ := getK_some hg
      have hgd : (getS S c).getD [] = r.vs := by rw [hgs, hg]; rfl
      have hv := (z.wf r hr).2
      refine C.Newest_spec (z4.ch r hr) (by have := z.vlen hr; omega) fun h5 e5 => ⟨fun g2 => ?_, fun g2 => ?_⟩
      · have g2 := of_decide_eq_true g2
        rw [hgd, if_pos g2] at k0
        exact k0 (by decide) h5 (e04.trans e5)
      have hnw : ¬ (C.newestM ((getS S c).getD [])).2.1 > e := by rw [hgd]; exact of_decide_eq_false g2
      refine j2 h5 _ _ _ e5 hnw fun hroom h6 e6 => ⟨fun h => (by cases h), fun _ => ?_⟩
      have e06 := (e04.trans e5).trans e6
      have z6 := z.ext e06
      unfold F.shard_Shard_Put.j3
      simp only [add_lit, Nat.zero_add, Nat.add_zero]
      refine ⟨a, ra ((e14.trans e5).trans e6), ?_⟩
      refine C.Put_spec (z6.ch r hr) (by have := z.vlen hr; omega) (fun h => absurd (by rw [mayM_ok he1 he2, if_neg (fun h2 => by rw [hgd] at hnw; omega)]) h) fun _ h9 B' c9 o9 kin9 => ?_
      have hsetq : toS (setK Rec.c Z ⟨r.c, C.layM r.vs ⟨e, a, false⟩, r.p, B'⟩) = putS S e c a := by
        rw [toS_set, hZ, hrc]; unfold putS; rw [hgd]
      have hn2 : C.lastE r.vs ≤ e := by rw [lastE_newest]; rw [hgd] at hnw; omega
      have vok : VOk (C.layM r.vs ⟨e, a, false⟩) := lay_ok (.inr hv) (.inl hn2) (fun h => by cases h) he1 he2
      obtain ⟨p1, p2, p3⟩ := hpu hnw
      have hz := z6.lay hr c9 o9 kin9 vok (by rw [hsetq]; omega) fun b hb => hR b (by have := e06.size; omega)
      have := nums h9 rs es T _ (alive r.vs) (by rw [← hZ]; exact hz.1) hsetq ((SOnly.of e06).trans hz.2) hnw hroom (by rw [hgd]; rfl)
      rw [hgd] at this
      exact this
  have e2r : Ext h1 h2 := e2
  refine ⟨fun g2 => bad e02 (.inl (of_decide_eq_true g2)), fun g2 => ⟨fun g3 => bad e02 (.inr (.inl (of_decide_eq_true g3))), fun g3 => ?_⟩⟩
  rw [ldI_iff (a0 e2)]
  refine ⟨fun g4 => bad e02 (.inr (.inr (.inl (by simpa using g4)))), fun g4 => ⟨a, ra e2, hrt h2 _ fun h3 e3 => ?_⟩⟩
  have g2 := of_decide_eq_false g2
  have g3 := of_decide_eq_false g3
  have g4 : a.Count ≠ 0 := by simpa using g4
  cases hrv : rt with
  | false => exact bad (e02.trans e3) (.inr (.inr (.inr hrv)))
  | true =>
    unfold F.shard_Shard_Put.j4
    exact ⟨fun h => (by cases h), fun _ => j1 h3 e3 (by omega) (by omega) g4 hrv⟩
theorem kill_units {S : SL} (h : SOk S) {e : Int} {c : Cel} {vs : List Ver} (hg : getS S c = some vs) (ha : alive vs = true) :
    (unitsS (killS S e c) : Int) = unitsS S + (C.layN vs ⟨e, zA, true⟩ - 1) ∧ (thereS (killS S e c) : Int) = thereS S - 1 := by
  have h1 := set_units h.sort c (C.layM ((getS S c).getD []) ⟨e, zA, true⟩)
  have h2 := set_there h.sort c (C.layM ((getS S c).getD []) ⟨e, zA, true⟩)
  have h3 := lay_units ((getS S c).getD []) ⟨e, zA, true⟩
  have h4 := lay_alive ((getS S c).getD []) ⟨e, zA, true⟩
  have h5 := units_eq ((getS S c).getD [])
  have h6 : aliveN ((getS S c).getD []) = 1 := by rw [hg]; unfold aliveN; rw [Option.getD_some, if_pos ha]
  simp only [if_true] at h3 h4
  rw [show (C.layN vs ⟨e, zA, true⟩) = C.layN ((getS S c).getD []) ⟨e, zA, true⟩ from by rw [hg]; rfl]
  unfold killS
  refine ⟨by omega, by omega⟩
theorem Kill_spec {e : Int} {c : Cel} {Q : Int → H → Prop} (s : SH h n S slots R) (hR : ∀ b, h.size ≤ b → R b)
    (k0 : killE S e c ≠ 0 → ∀ h', Ext h h' → Q (killE S e c) h')
    (k1 : killE S e c = 0 → ∀ h', SH h' n (killS S e c) slots R → SOnly R h h' → Q 0 h') : F.shard_Shard_Kill (some ⟨n, 0, none⟩) e c h Q := by
  have sok := s.ok
  obtain ⟨tn, rs, es, T, Z, hZ, z⟩ := s
  unfold F.shard_Shard_Kill
  refine new_of fun m h1 hm b1 e1 s1 => ⟨c, Blk.cells b1, ?_⟩
  unfold killE at k0 k1
  refine key_spec (fun g h2 e2 => ⟨fun _ => ?_, fun g2 => absurd (by simpa using g2) g⟩) fun g h2 e2 => ⟨fun g2 => by simp at g2, fun _ => ?_⟩
  · rw [if_pos g] at k0; exact k0 g h2 (e1.trans e2)
  rw [if_neg (fun h => h g)] at k0 k1
  have e02 := e1.trans e2
  have bad : (e < 1 ∨ e > 1099511627776) → F.shard_Shard_Kill.j2 Q (some ⟨n, 0, none⟩) e ⟨m, 0, none⟩ true h2 := fun hb => by
    unfold F.shard_Shard_Kill.j2
    refine ⟨fun _ => ?_, fun h => by cases h⟩
    rw [if_pos hb] at k0
    exact k0 (by decide) _ e02
  refine ⟨fun g2 => bad (.inl (of_decide_eq_true g2)), fun g2 => ?_⟩
  have g2 := of_decide_eq_false g2
  cases hb : decide (e > 1099511627776) with
  | true => exact bad (.inr (of_decide_eq_true hb))
  | false =>
    have g3 := of_decide_eq_false hb
    unfold F.shard_Shard_Kill.j2
    refine ⟨fun h => (by cases h), fun _ => ?_⟩
    rw [if_neg (by omega)] at k0 k1
    unfold F.shard_Shard_Kill.j1
    refine ⟨c, (Blk.cells b1).ext e2, ?_⟩
    have z2 := z.ext e02
    have hgs : getS S c = (getK Rec.c Z c).map (·.vs) := by rw [← hZ]; exact z.getS c
    refine chain_spec z2 (fun g4 h3 e3 => ⟨fun _ => ?_, fun h => by simp at h⟩) fun _ r hg h3 e3 => ⟨fun h => by simp at h, fun _ => ?_⟩
    · have : getK Rec.c Z c = none := by
        rcases g4 with g4 | g4
        · exact absurd g g4
        · exact g4
      rw [hgs, this] at k0
      exact k0 (fun h => by cases h) h3 (e02.trans e3)
    · obtain ⟨hr, hrc⟩ := getK_some hg
      rw [hg] at hgs
      have hgs : getS S c = some r.vs := hgs
      rw [hgs] at k0 k1
      dsimp only at k0 k1
      have e03 := e02.trans e3
      have z3 := z.ext e03
      have hv := (z.wf r hr).2
      have hml := mayM_ok (vs := r.vs) (e := e) (by omega) (by omega)
      have hmne : r.vs ≠ [] := hv.ne
      refine C.Kill_spec (z3.ch r hr) (by have := z.vlen hr; omega) (fun g4 => ⟨fun g5 => ?_, fun g5 => ?_⟩) (fun g4 g5 h4 e4 => ⟨fun _ => ?_, fun h => by simp at h⟩) fun g4 g5 h4 B' c4 o4 kin4 => ⟨fun h => by simp at h, fun _ => ?_⟩
      · rw [hml] at g4 ⊢
        have : r.vs ≠ [] ∧ e < (C.newestM r.vs).2.1 := by
          refine Classical.byContradiction fun hn => ?_
          rw [if_neg hn] at g4; exact g4 rfl
        rw [if_pos this]
        rw [if_pos (show (C.newestM r.vs).2.1 > e from this.2)] at k0
        exact k0 (by decide) h3 e03
      · exact absurd (by simpa using g5) g4
      · have hnw : ¬ (C.newestM r.vs).2.1 > e := fun hh => by rw [hml, if_pos ⟨hmne, hh⟩] at g4; cases g4
        rw [if_neg hnw, if_pos (show alive r.vs = false from g5)] at k0
        exact k0 (by decide) h4 (e03.trans e4)
      · have hnw : ¬ (C.newestM r.vs).2.1 > e := fun hh => by rw [hml, if_pos ⟨hmne, hh⟩] at g4; cases g4
        rw [if_neg hnw, if_neg (show ¬ alive r.vs = false from by rw [show alive r.vs = (C.newestM r.vs).2.2 from rfl, g5]; decide)] at k1
        obtain ⟨p1, p2⟩ := kill_units (e := e) sok hgs g5
        have hus := z.us
        have hsl := z.sl
        rw [hZ] at hus
        have hlr := layN_range r.vs ⟨e, zA, true⟩
        have htl : thereS S ≤ unitsS S := there_le
        have hsetq : toS (setK Rec.c Z ⟨r.c, C.layM r.vs ⟨e, zA, true⟩, r.p, B'⟩) = killS S e c := by
          rw [toS_set, hZ, hrc]; unfold killS; rw [hgs]; rfl
        have hn2 : C.lastE r.vs ≤ e := by rw [lastE_newest]; omega
        have vok : VOk (C.layM r.vs ⟨e, zA, true⟩) := lay_ok (.inr hv) (.inl hn2) (fun _ => rfl) (by show 1 ≤ e; omega) (by show e ≤ _; omega)
        have hz := z3.lay hr c4 o4 kin4 vok (by rw [hsetq]; omega) fun b hb => hR b (by have := e03.size; omega)
        obtain ⟨z4, so4⟩ := hz
        rw [hZ] at z4
        simp only [nn_some, add_lit, Nat.zero_add, Nat.add_zero]
        rw [ldI_iff z4.cs0, w64 (n := C.layN r.vs ⟨e, zA, true⟩ - 1) (by omega) (by omega), w64 (by omega) (by omega)]
        refine z4.st0 fun h5 z5 o5 => ?_
        rw [ldI_iff z5.cs1, w64 (by omega) (by omega)]
        refine z5.st1 fun h6 z6 o6 => ?_
        refine k1 rfl h6 ⟨tn, rs, es, T, _, hsetq, ?_⟩ ((((SOnly.of e03).trans so4).trans o5).trans o6)
        rw [hsetq, p1, p2]; exact z6
end
end Go.Proofs.Ytoccbnhahaoeiaa.V.S
namespace Go.Proofs.Ytoccbnhahaoeiaa.V.S
open Go Go.Proofs.Ytoccbnhahaoeiaa.V
set_option linter.unusedVariables false
set_option linter.unusedSimpArgs false
set_option maxRecDepth 20000
abbrev Rw := S_api_Row
abbrev cW (x : Rw) : List Value := x.cells
theorem cW_len (x : Rw) : (cW x).length = 7 := rfl
/-- The keys of a shard's table, with what lies under them. -/
def keysZ (Z : List Rec) : List (ByteArray × Option Addr) := Z.map fun r => (keyB r.c, some ⟨r.p, 0, none⟩)
theorem keysZ_len (Z : List Rec) : (keysZ Z).length = Z.length := List.length_map _
theorem cB_lt : ∀ (x y : List UInt8), Lib.compareBytes x y = -1 → x < y
  | [], [], h => by simp [Lib.compareBytes] at h
  | [], b :: y, _ => List.nil_lt_cons b y
  | a :: x, [], h => by simp [Lib.compareBytes] at h
  | a :: x, b :: y, h => by
    simp only [Lib.compareBytes] at h
    rcases u8_tri a b with g | g | g
    · exact List.cons_lt_cons_iff.2 (.inl g)
    · subst g
      simp only [u8_irr, if_false] at h
      exact List.cons_lt_cons_iff.2 (.inr ⟨rfl, cB_lt x y h⟩)
    · simp [g, u8_asym g] at h
theorem key_lt {a b : Cel} (ha : okC a = 0) (hb : okC b = 0) (h : cmpC a b = -1) : keyL a < keyL b :=
  cB_lt _ _ (by rw [key_cmp (ok_may ha) (ok_may hb) (ok_start ha) (ok_start hb)]; exact h)
section
variable {h h' : H} {n tn : Nat} {rs es : Sl} {T : Tb (Option Addr)} {Z : List Rec} {slots : Nat} {R : Nat → Prop} {u t : Int}
theorem tk_has (ok : TOk T) {k : ByteArray} {v : Option Addr} (hg : getM T k = some v) : ∃ p ∈ P.tkL (T.row ++ T.elder), p.1 = k := by
  have go : ∀ (W : List (Pl (Option Addr))), valOf W k = some v → ∃ p ∈ P.tkL W, p.1 = k := fun W hv => by
    obtain ⟨i, p, h1, h2, h3, h4⟩ := valOf_some hv
    exact ⟨(p.key, .pointer p.value), List.mem_map.2 ⟨p, List.mem_filter.2 ⟨List.mem_of_getElem? h1, by simp [h2]⟩, rfl⟩, kL_inj h3⟩
  unfold getM at hg
  rw [P.tkL_app]
  cases hv : valOf T.row k with
  | some w =>
    rw [hv] at hg; cases hg
    obtain ⟨p, h1, h2⟩ := go _ hv
    exact ⟨p, List.mem_append_left _ h1, h2⟩
  | none =>
    rw [hv] at hg
    obtain ⟨p, h1, h2⟩ := go _ hg
    exact ⟨p, List.mem_append_right _ h1, h2⟩
theorem all_eq (z : SZ h n tn rs es T Z slots R u t) : P.allL T = keysZ Z := by
  have hk : ∀ c : Cel, (keyB c).data.toList = keyL c := fun c => by simp [keyB]
  have hsort : (Z.map fun r => keyB r.c).Pairwise fun a b => a.data.toList < b.data.toList := by
    rw [List.pairwise_map]
    have := z.srt
    refine List.Pairwise.imp_of_mem ?_ this
    intro a b ha hb hab
    rw [hk, hk]
    exact key_lt (z.wf a ha).1 (z.wf b hb).1 hab
  have hn2 : (Z.map fun r => keyB r.c).Nodup := hsort.imp fun {a b} hab e => by subst e; exact List.lt_irrefl _ hab
  have hn1 := P.KU_of z.ok
  have hp : ((P.tkL (T.row ++ T.elder)).map (·.1)).Perm (Z.map fun r => keyB r.c) := (List.perm_ext_iff_of_nodup hn1 hn2).2 fun k => by
    constructor
    · intro hk'
      obtain ⟨⟨k2, v⟩, hm, rfl⟩ := List.mem_map.1 hk'
      obtain ⟨w, hw, _⟩ := P.tk_val z.ok hm
      obtain ⟨r, hr, e⟩ := z.all k2 w hw
      refine List.mem_map.2 ⟨r, hr, kL_inj ?_⟩
      rw [kL_keyB]; exact e.symm
    · intro hk'
      obtain ⟨r, hr, rfl⟩ := List.mem_map.1 hk'
      have hg := z.get r hr
      refine Classical.byContradiction fun hno => ?_
      have hlt := tk_has z.ok hg
      obtain ⟨p, hp1, hp2⟩ := hlt
      exact hno (List.mem_map.2 ⟨p, hp1, hp2⟩)
  unfold P.allL
  rw [sortT_perm hp, P.sortT_id hsort, List.map_map]
  refine List.map_congr_left fun r hr => ?_
  simp only [Function.comp, z.get r hr, Option.getD_some]
end
theorem st_cel {h : H} {n : Nat} {c d : Cel} {e : TypeId} {K : H → Prop} (b : Blk h n c.cells.toArray e) (k : ∀ h', Blk h' n d.cells.toArray e → Only (· = n) h h' → h'.size = h.size → K h') : stH h ⟨n, 0, none⟩ d.cells K := by
  refine stH_of b (Nat.le_refl 3) fun h' q1 q2 q3 => k h' ?_ q2 q3
  rw [writeA_all (by rfl)] at q1
  exact q1
theorem shut1 {d : Nat} {h : H} {K : H → Prop} (hd : h[d]? = some (.deferred (some []))) (k : ∀ h', Only (· = d) h h' → K h') : shuts [d] h K :=
  ⟨hd, k _ ⟨by simp [put], fun b hb hn => by simp only [put]; rw [Array.getElem?_setIfInBounds_ne (fun e => hn e.symm)]⟩⟩
theorem rng1_spec {h : H} {n4 n6 : Nat} {fr to c : Cel} {K : Value → H → Prop} (b4 : Cells h ⟨n4, 0, none⟩ fr.cells) (b6 : Cells h ⟨n6, 0, none⟩ to.cells) (k : ∀ h', Ext h h' → K (.bool (decide (cmpC fr c ≤ 0) && decide (cmpC c to < 0))) h') :
    CV PP (.func (.func no_shard_Shard_Range_1) #[] #[.pointer (some ⟨n4, 0, none⟩), .pointer (some ⟨n6, 0, none⟩)]) [.agg c.cells.toArray] h K := by
  refine CV_func (fun a w => no_shard_Shard_Range_1_call a w) ?_
  have : F.shard_Shard_Range_1 c ⟨n4, 0, none⟩ ⟨n6, 0, none⟩ h fun r h' => K (.bool r) h' := by
    unfold F.shard_Shard_Range_1
    refine new_of fun m h1 hm b1 e1 s1 => ⟨fr, b4.ext e1, c, Blk.cells b1, Compare_spec fun h2 e2 => ⟨fun g => ⟨c, (Blk.cells b1).ext e2, to, (b6.ext e1).ext e2, Compare_spec fun h3 e3 => ?_⟩, fun g => ?_⟩⟩
    · have := k h3 ((e1.trans e2).trans e3)
      rw [g, Bool.true_and] at this; exact this
    · have := k h2 (e1.trans e2)
      rw [g, Bool.false_and] at this; exact this
  have := F.shard_Shard_Range_1_ok this
  simp only [List.append_toArray, Array.empty_append, Array.append_empty]
  exact this.mono fun r h' ⟨r0, e, q⟩ => by subst e; exact q
def rowsZ (e : Int) (fr to : Cel) (Z : List Rec) : List Rw := (Z.filter fun r => inS e fr to (r.c, r.vs)).map fun r => rowS e (r.c, r.vs)
theorem rows_toS (e : Int) (fr to : Cel) (Z : List Rec) : rangeS (toS Z) e fr to = rowsZ e fr to Z := by
  unfold rangeS rowsZ toS
  rw [List.filter_map, List.map_map]
  rfl
theorem rows_snoc (e : Int) (fr to : Cel) {Z : List Rec} {i : Nat} {r : Rec} (h : Z[i]? = some r) : rowsZ e fr to (Z.take (i + 1)) = rowsZ e fr to (Z.take i) ++ (if inS e fr to (r.c, r.vs) then [rowS e (r.c, r.vs)] else []) := by
  obtain ⟨h1, h2⟩ := List.getElem?_eq_some_iff.1 h
  unfold rowsZ
  rw [List.take_succ_eq_append_getElem h1, h2, List.filter_append, List.map_append]
  congr 1
  by_cases hi : inS e fr to (r.c, r.vs) <;> simp [hi]
theorem rows_pre (e : Int) (fr to : Cel) (Z : List Rec) (i : Nat) : (rowsZ e fr to (Z.take i)) <+: rowsZ e fr to Z := by
  unfold rowsZ
  exact ((List.take_prefix i Z).filter _).map _
/-- While a range is told: hL: the heap where it began. -/
structure RI (h hL h' : H) (n2 n4 n6 n8 n10 n12 ka ma b : Nat) (r : Sl) (L : List (ByteArray × Option Addr)) (ep most : Int) (fr to : Cel) (rows : List Rw) : Prop where
  ext : Ext h h'
  b2 : Blk h' n2 #[.int .i64 ep] tn_int
  b4 : Blk h' n4 fr.cells.toArray tn_api_Cell
  b6 : Blk h' n6 to.cells.toArray tn_api_Cell
  b8 : Blk h' n8 #[.int .i64 most] tn_int
  b12 : Blk h' n12 #[.func (.func no_shard_Shard_Range_1) #[] #[.pointer (some ⟨n4, 0, none⟩), .pointer (some ⟨n6, 0, none⟩)]] tn_func_api_Cell_bool
  sq : P.SeqH h' ka ma b r L
  dfr : h'[hL.size]? = some (.deferred (some []))
  out : ∃ o, Blk h' n10 #[o.enc] tn_Slapi_Row ∧ Owns h' o tn_api_Row 7 (rows.flatMap cW) ∧ ∀ x, o.blk = some x → hL.size + 2 ≤ x
  len : rows.length ≤ most.toNat
  sz : hL.size + 1 ≤ h'.size
  lt : n2 < hL.size ∧ n4 < hL.size ∧ n6 < hL.size ∧ n8 < hL.size ∧ n10 < hL.size ∧ n12 < hL.size ∧ (∀ m, SQF ka ma b r m → m < hL.size ∧ m ≠ n10) ∧ n2 ≠ n10 ∧ n4 ≠ n10 ∧ n6 ≠ n10 ∧ n8 ≠ n10 ∧ n12 ≠ n10 ∧ h.size ≤ n10
section
variable {h hL h' h'' : H} {n2 n4 n6 n8 n10 n12 ka ma b : Nat} {r : Sl} {L : List (ByteArray × Option Addr)} {ep most : Int} {fr to : Cel} {rows : List Rw}
theorem RI.only {S : Nat → Prop} (v : RI h hL h' n2 n4 n6 n8 n10 n12 ka ma b r L ep most fr to rows) (o : Only S h' h'') (hS : ∀ m, S m → hL.size < m ∧ ∀ o : Sl, Blk h' n10 #[o.enc] tn_Slapi_Row → o.blk ≠ some m) : RI h hL h'' n2 n4 n6 n8 n10 n12 ka ma b r L ep most fr to rows := by
  obtain ⟨l2, l4, l6, l8, l10, l12, lq, q⟩ := v.lt
  have no : ∀ m, m ≤ hL.size → ¬ S m := fun m hm h => by have := (hS m h).1; omega
  obtain ⟨ou, o1, o2, o3⟩ := v.out
  have hle : h.size ≤ hL.size := by obtain ⟨_, _, _, _, _, hq⟩ := q; omega
  exact ⟨v.ext.step o fun m hm => no m (by omega), o.block v.b2 (no _ (by omega)), o.block v.b4 (no _ (by omega)), o.block v.b6 (no _ (by omega)), o.block v.b8 (no _ (by omega)), o.block v.b12 (no _ (by omega)), v.sq.only o fun m hm => no m (by have := (lq m hm).1; omega), o.block v.dfr (no _ (by omega)),
    ⟨ou, o.block o1 (no _ (by omega)), o2.only o fun m hm hs => (hS m hs).2 ou o1 hm, o3⟩, v.len, by have := o.size; have := v.sz; omega, v.lt⟩
theorem RI.e (v : RI h hL h' n2 n4 n6 n8 n10 n12 ka ma b r L ep most fr to rows) (e : Ext h' h'') : RI h hL h'' n2 n4 n6 n8 n10 n12 ka ma b r L ep most fr to rows := v.only e fun _ f => f.elim
end
theorem Range_spec {h : H} {n : Nat} {S : SL} {slots : Nat} {R : Nat → Prop} {ep most : Int} {fr to : Cel} {Q : Sl → H → Prop} (s : SH h n S slots R)
    (k : ∀ r h', Owns h' r tn_api_Row 7 (((rangeS S ep fr to).take most.toNat).flatMap cW) → Mine h r → Ext h h' → Q r h') : F.shard_Shard_Range (some ⟨n, 0, none⟩) ep fr to most h Q := by
  obtain ⟨tn, rs, es, T, Z, rfl, z⟩ := s
  unfold F.shard_Shard_Range
  refine new_of fun n2 h1 hn2 b2 e1 s1 => new_of fun n4 h3 hn4 b4 e3 s3 => new_of fun n6 h5 hn6 b6 e5 s5 => new_of fun n8 h7 hn8 b8 e7 s7 => new_of fun n10 h9 hn10 b10 e9 s9 => new_of fun n12 h11 hn12 b12 e11 s11 => ?_
  refine stH_of b12 (by simp) fun h13 b13 o13 s13 => ?_
  have x2 : Blk h13 n2 #[.int .i64 ep] tn_int := o13.block (((((e3.trans e5).trans e7).trans e9).trans e11).block b2 fun f => f) (by omega)
  have x4 : Blk h13 n4 fr.cells.toArray tn_api_Cell := o13.block ((((e5.trans e7).trans e9).trans e11).block b4 fun f => f) (by omega)
  have x6 : Blk h13 n6 to.cells.toArray tn_api_Cell := o13.block (((e7.trans e9).trans e11).block b6 fun f => f) (by omega)
  have x8 : Blk h13 n8 #[.int .i64 most] tn_int := o13.block ((e9.trans e11).block b8 fun f => f) (by omega)
  have x10 : Blk h13 n10 #[(⟨none, 0, 0⟩ : Sl).enc] tn_Slapi_Row := o13.block (e11.block b10 fun f => f) (by omega)
  have e013 : Ext h h13 := (((((e1.trans e3).trans e5).trans e7).trans e9).trans e11).step o13 fun m hm hb => by omega
  have z13 := z.ext e013
  simp only [nn_some, add_lit, Nat.zero_add, Nat.add_zero]
  rw [ldP_iff z13.cs3]
  have hcnt := z.count
  have hzl := z.len
  refine P.All_spec z13.th z13.ok (by omega) fun hL ka ma b r sq eL hmine _ => ?_
  rw [all_eq z13] at sq
  have hLs := eL.size
  have hgt : ∀ {Y : List Rec} {i : Nat} {x : ByteArray × Option Addr}, (keysZ Y)[i]? = some x → ∃ q, Y[i]? = some q ∧ x = (keyB q.c, some ⟨q.p, 0, none⟩) := fun {Y i x} hx => by
    unfold keysZ at hx
    rw [List.getElem?_map] at hx
    cases hy : Y[i]? with
    | none => rw [hy] at hx; cases hx
    | some q => rw [hy] at hx; cases hx; exact ⟨q, rfl, rfl⟩
  -- the end
  have fin : ∀ (h' : H) (rows : List Rw), RI h hL h' n2 n4 n6 n8 n10 n12 ka ma b r (keysZ Z) ep most fr to rows → rows = (rangeS (toS Z) ep fr to).take most.toNat → F.shard_Shard_Range.j1 Q (hL.size :: ([] : List Nat)) ⟨n10, 0, none⟩ h' := fun h' rows v hrows => by
    obtain ⟨o, o1, o2, o3⟩ := v.out
    unfold F.shard_Shard_Range.j1
    refine ldL_of (Blk.cell (i := 0) o1 rfl) (shut1 v.dfr fun h9 o9 => ?_)
    rw [hrows] at o2
    refine k o h9 (o2.only o9 fun m hm e => by have := o3 m hm; omega) (fun x hx => by have := o3 x hx; have := e013.size; omega) (v.ext.step o9 fun m hm e => by have := e013.size; omega)
  refine P.range_seq (I := fun i h' => RI h hL h' n2 n4 n6 n8 n10 n12 ka ma b r (keysZ Z) ep most fr to (rowsZ ep fr to (Z.take i)))
    (E := fun j h' => j = 0 ∧ ∃ i, RI h hL h' n2 n4 n6 n8 n10 n12 ka ma b r (keysZ Z) ep most fr to (rowsZ ep fr to (Z.take i)) ∧ most ≤ ((rowsZ ep fr to (Z.take i)).length : Int))
    (fun i h' h'' v o => v.only o fun m hm => ⟨by omega, fun ou hou hb => ?_⟩) (fun j h' h'' v o => ⟨v.1, v.2.elim fun i hi => ⟨i, hi.1.only o fun m hm => ⟨by omega, fun ou hou hb => ?_⟩, hi.2⟩⟩) (fun i h' v => v.sq) ?_ ?_ (fun h' v => ?_) (fun j h' v => ?_)
  · obtain ⟨o', o1, o2, o3⟩ := v.out
    have heq := o1.symm.trans hou
    have : o' = ou := enc_inj.1 (by simpa using heq)
    subst this
    have := o3 m hb; omega
  · obtain ⟨o', o1, o2, o3⟩ := hi.1.out
    have heq := o1.symm.trans hou
    have : o' = ou := enc_inj.1 (by simpa using heq)
    subst this
    have := o3 m hb; omega
  · have ep0 : Ext hL (hL.push (.deferred (some []))) := .push _ _
    have eH := eL.trans ep0
    refine ⟨e013.trans eH, eH.block x2 fun f => f, eH.block x4 fun f => f, eH.block x6 fun f => f, eH.block x8 fun f => f, eH.block b13 fun f => f, sq.only ep0 fun m hm f => f, by simp, ⟨_, eH.block x10 fun f => f, by simpa [rowsZ] using Owns.nil _ tn_api_Row 7, fun x hx => by simp [Sl.blk] at hx⟩, by simp [rowsZ], by simp, ?_⟩
    refine ⟨by omega, by omega, by omega, by omega, by omega, by omega, fun m hm => ⟨sq.lt m hm, ?_⟩, by omega, by omega, by omega, by omega, by omega, by omega⟩
    have := hmine m hm; omega
  · intro X i x h5 K J hX v hx hxi kK kJ
    obtain ⟨q, hq, rfl⟩ := hgt hxi
    have hqz : q ∈ Z := List.mem_of_getElem? hq
    obtain ⟨o, o1, o2, o3⟩ := v.out
    have hlo := own_len cW_len (by omega) o2
    refine ldL_of (Blk.cell (i := 0) o1 rfl) (ldI_of (Blk.cell (i := 0) v.b8 rfl) ⟨fun g => ?_, fun g => ?_⟩)
    · have g := of_decide_eq_true g
      exact kJ 0 h5 ⟨rfl, i, v, by rw [← hlo]; exact g⟩ hx
    · have g := of_decide_eq_false g
      have hok := (z.wf q hqz).1
      have hv := (z.wf q hqz).2
      refine Cell_spec (by show (keyL q.c).toArray.size < _; have := key_size hok; simp; omega) fun h6 e6 => ?_
      rw [show (keyB q.c).data.toList = keyL q.c from by simp [keyB], cell_back (ok_may hok) (ok_start hok)]
      refine new_of fun m7 h7 hm7 b7 e7 s7 => ?_
      have b7' : Blk h7 m7 zeroC.cells.toArray tn_api_Cell := b7
      refine st_cel b7' (d := q.c) fun h8 b8' o8 s8 => ?_
      have e58 : Ext h5 h8 := (e6.trans e7).step o8 fun m hm hb => by have := e6.size; omega
      have v8 := v.e e58
      refine ldI_of (Blk.cell (i := 0) v8.b2 rfl) ?_
      have zq := z.ext v8.ext
      refine at_spec (zq.ch q hqz) hv.rise (by have := z.vlen hqz; omega) fun h9 e9 => ?_
      refine new_of fun m10 h10 hm10 bb10 e10 s10 => ?_
      have bb10' : Blk h10 m10 zA.cells.toArray tn_api_Agg := bb10
      refine C.st_agg bb10' fun h11' b11 o11 s11' => ?_
      have e8b : Ext h8 h11' := (e9.trans e10).step o11 fun m hm hb => by have := e9.size; omega
      have e5b := e58.trans e8b
      have v11 := v.e e5b
      have x11 : h11'[hL.size + 1]? = some X := e5b.block hx fun f => f
      have b8b : Blk h11' m7 q.c.cells.toArray tn_api_Cell := e8b.block b8' fun f => f
      have hsn := rows_snoc ep fr to hq
      -- nothing is told
      have skip : ∀ h12', Ext h11' h12' → inS ep fr to (q.c, q.vs) = false → K h12' := fun h12' e12 hno => by
        refine kK h12' ?_ (e12.block x11 fun f => f)
        rw [hsn, hno]
        simp only [Bool.false_eq_true, if_false, List.append_nil]
        exact v11.e e12
      have lay : ∀ (h12 : H), Ext h11' h12 → inS ep fr to (q.c, q.vs) = true → F.shard_Shard_Range.j2 Q K J (hL.size + 1) ⟨n10, 0, none⟩ ⟨m7, 0, none⟩ ⟨m10, 0, none⟩ true h12 := fun h12 e12 hyes => by
        unfold F.shard_Shard_Range.j2
        refine ⟨fun _ => ?_, fun h => by cases h⟩
        have v12 := v11.e e12
        have e512 := e5b.trans e12
        have o1' : Blk h12 n10 #[o.enc] tn_Slapi_Row := e512.block o1 fun f => f
        refine ldL_of (Blk.cell (i := 0) o1' rfl) ⟨q.c, (Blk.cells b8b).ext e12, (atV q.vs ep).1, (Blk.cells b11).ext e12, ?_⟩
        have hsz : h5.size ≤ h12.size := e512.size
        have hrl : (rowsZ ep fr to (Z.take i)).length ≤ 1048576 := by
          unfold rowsZ
          have := List.length_filter_le (fun r : Rec => inS ep fr to (r.c, r.vs)) (Z.take i)
          rw [List.length_map]
          rw [List.length_take] at this
          omega
        have hh5 : hL.size + 1 < h5.size := (Array.getElem?_eq_some_iff.1 hx).1
        refine newL_of fun n14 h14 hn14 b14 e14 s14 => ?_
        refine app_list (L := rowsZ ep fr to (Z.take i)) (M := [rowS ep (q.c, q.vs)]) cW_len (by omega) el_Slapi_Row ((o2.ext e512).ext e14) (blk_reads b14 rfl) (fun x => ones_S_api_Row x) (by simp only [List.length_singleton]; omega) fun r15 h15 w15 o15 n15 => ?_
        have x14 : Blk h14 n10 #[o.enc] tn_Slapi_Row := e14.block o1' fun f => f
        have l10 := v.lt.2.2.2.2.1
        have hob : o.blk ≠ some n10 := fun e => by have := o3 _ e; omega
        have x15 : Blk h15 n10 #[o.enc] tn_Slapi_Row := o15.block x14 hob
        refine stH_of x15 (by simp) fun h16 b16 o16 s16 => ?_
        have r15n : ∀ y, r15.blk = some y → hL.size + 2 ≤ y := fun y hy => by
          rcases n15 with n15 | ⟨y', n15, n16⟩
          · exact o3 y (by rw [← n15]; exact hy)
          · rw [n15] at hy; cases hy
            have := e14.size; omega
        have v14 := v12.e e14
        obtain ⟨_, _, _, _, _, _, lq, d2, d4, d6, d8, d12, dh⟩ := v.lt
        have lts := v.lt
        have no : ∀ m, m ≤ hL.size + 1 → ¬ (o.blk = some m) := fun m hm e => by have := o3 m e; omega
        refine kK h16 ?_ (o16.block (o15.block (e14.block (e12.block x11 fun f => f) fun f => f) (no _ (Nat.le_refl _))) (by omega))
        have kp : ∀ {m : Nat} {y : Obj}, m ≤ hL.size → m ≠ n10 → h14[m]? = some y → h16[m]? = some y := fun hm hne hy => o16.block (o15.block hy (no _ (by omega))) hne
        have o14 : Only (fun m => o.blk = some m ∨ m = n10) h14 h16 := (o15.mono fun _ _ e => .inl e).trans o16 fun _ _ e => .inr e
        refine ⟨v14.ext.step o14 fun m hm e => ?_, kp (by omega) d2 v14.b2, kp (by omega) d4 v14.b4, kp (by omega) d6 v14.b6, kp (by omega) d8 v14.b8, kp (by omega) d12 v14.b12, v14.sq.only o14 fun m hm e => ?_, kp (Nat.le_refl _) (by omega) v14.dfr, ⟨r15, b16, ?_, r15n⟩, ?_, ?_, lts⟩
        · have hle : h.size ≤ hL.size := by have := e013.size; omega
          rcases e with e | e
          · have := o3 m e; omega
          · omega
        · rcases e with e | e
          · have := o3 m e; have := (lq m hm).1; omega
          · exact (lq m hm).2 e
        · rw [hsn, hyes]
          exact w15.only o16 fun m hm e => by have := r15n m hm; omega
        · rw [hsn, hyes, List.length_append]
          simp only [if_true, List.length_singleton]
          rw [hlo] at g; omega
        · have := o14.size; have := v14.sz; omega
      refine ⟨fun g2 => ?_, fun g2 => ?_⟩
      · refine ⟨_, Blk.cell (i := 0) v11.b12 rfl, q.c, Blk.cells b8b, rng1_spec (Blk.cells v11.b4) (Blk.cells v11.b6) fun h12 e12 => ⟨_, rfl, ?_⟩⟩
        have hin : inS ep fr to (q.c, q.vs) = (decide (cmpC fr q.c ≤ 0) && decide (cmpC q.c to < 0)) := by
          unfold inS; rw [show (atV (q.c, q.vs).2 ep).2 = true from g2, Bool.true_and]
        rw [← hin]
        cases hi : inS ep fr to (q.c, q.vs) with
        | true => exact lay h12 e12 hi
        | false =>
          unfold F.shard_Shard_Range.j2
          exact ⟨fun h => (by cases h), fun _ => skip h12 e12 hi⟩
      · unfold F.shard_Shard_Range.j2
        refine ⟨fun h => (by cases h), fun _ => skip h11' (.refl _) ?_⟩
        unfold inS; rw [show (atV (q.c, q.vs).2 ep).2 = false from g2, Bool.false_and]
  · refine fin h' _ v ?_
    rw [keysZ_len, List.take_length, rows_toS]
    have hl := v.len
    rw [keysZ_len, List.take_length] at hl
    exact (List.take_of_length_le hl).symm
  · obtain ⟨rfl, i, v, hm⟩ := v
    refine ⟨_, rfl, fun _ => fin h' _ v ?_⟩
    rw [rows_toS]
    have hl := v.len
    obtain ⟨tl, htl⟩ := rows_pre ep fr to Z i
    rw [← htl]
    have : most.toNat = (rowsZ ep fr to (Z.take i)).length := by omega
    rw [this, List.take_left]
end Go.Proofs.Ytoccbnhahaoeiaa.V.S
namespace Go.Proofs.Ytoccbnhahaoeiaa.V.S
open Go Go.Proofs.Ytoccbnhahaoeiaa.V
set_option linter.unusedVariables false
set_option linter.unusedSimpArgs false
set_option maxRecDepth 20000
theorem max_of {k : IntKind} {ts : Array TypeId} {t : TypeId} {h : H} {a b : Int} {K : Int → H → Prop} (kk : K (if a < b then b else a) h) : runI PP (Builtin.max_ ts t #[.int k a, .int k b]) h k K := fun w hw =>
  ⟨_, w, rfl, .refl _, _, rfl, by rw [hw]; exact kk⟩
def maxL (L : List Nat) : Nat := L.foldl max 0
theorem w64s {n : Nat} (h : n < 9000000000000000000) : IntKind.wrap .i64 ((n : Int) + 1) = ((n + 1 : Nat) : Int) := by rw [w64 (by omega) (by omega)]; omega
abbrev cN (n : Nat) : List Value := [.int .i64 (n : Int)]
theorem cN_len (n : Nat) : (cN n).length = 1 := rfl
theorem Max_spec {h : H} {s : Sl} {L : List Nat} {Q : Int → H → Prop} (rd : Reads h s 1 (L.flatMap cN)) (hn : L ≠ []) (hl : L.length < 4611686018427387904) (k : Q (maxL L : Int) h) : F.slices_Max_Slint_int s h Q := by
  have hs := rd_len cN_len (by omega) rd
  have hpos := List.length_pos_iff.2 hn
  have at_ : ∀ {i : Nat} {x : Nat} {K : Int → Prop}, L[i]? = some x → K (x : Int) → idxA s (i : Int) 1 fun a => ldI .i64 h a K := fun {i x K} hx kk => by
    obtain ⟨p, p1, p2, p3⟩ := rd_at cN_len (by omega) rd hx
    exact idxR_of (i := i) p1 (by have := (List.getElem?_eq_some_iff.1 hx).1; omega) rfl ((ldI_iff (n := x) p3.one).2 kk)
  unfold F.slices_Max_Slint_int
  rw [hs]
  refine ⟨fun g => by have := of_decide_eq_true g; omega, fun _ => ?_⟩
  unfold F.slices_Max_Slint_int.j1
  obtain ⟨x0, hx0⟩ : ∃ x, L[0]? = some x := ⟨_, List.getElem?_eq_getElem hpos⟩
  refine at_ (i := 0) hx0 ⟨L.length + 1, ?_⟩
  have key : ∀ (d i m : Nat), i ≤ L.length → L.length - i < d → m = maxL (L.take i) → F.slices_Max_Slint_int.l2 Q d s (m : Int) (i : Int) h := by
    intro d
    induction d with
    | zero => intro i m _ hd; omega
    | succ d ih =>
      intro i m hi hd hm
      unfold F.slices_Max_Slint_int.l2
      rw [hs]
      refine ⟨fun g => ?_, fun g => ?_⟩
      · have g := of_decide_eq_true g
        obtain ⟨x, hx⟩ : ∃ x, L[i]? = some x := ⟨_, List.getElem?_eq_getElem (by omega)⟩
        refine at_ hx (max_of ?_)
        rw [w64s (by omega)]
        have hmx : (if (m : Int) < (x : Int) then (x : Int) else (m : Int)) = ((max m x : Nat) : Int) := by split <;> omega
        rw [hmx]
        refine ih (i + 1) (max m x) (by omega) (by omega) ?_
        obtain ⟨h1, h2⟩ := List.getElem?_eq_some_iff.1 hx
        rw [List.take_succ_eq_append_getElem h1, h2]
        unfold maxL at hm ⊢
        rw [List.foldl_append, ← hm]; rfl
      · have : i = L.length := by have := of_decide_eq_false g; omega
        rw [this, List.take_length] at hm
        rw [hm]; exact k
  refine key _ 1 x0 (by omega) (by omega) ?_
  cases L with
  | nil => exact absurd rfl hn
  | cons y r => simp at hx0; subst hx0; simp [maxL]
def lensZ (Z : List Rec) : List Nat := Z.map fun r => r.vs.length
theorem lensZ_len (Z : List Rec) : (lensZ Z).length = Z.length := List.length_map _
def mostS (S : SL) : Nat := maxL (S.map fun x => x.2.length)
structure MI (h hL h' : H) (n2 ka ma b : Nat) (r : Sl) (L : List (ByteArray × Option Addr)) (out : List Nat) : Prop where
  ext : Ext h h'
  sq : P.SeqH h' ka ma b r L
  dfr : h'[hL.size]? = some (.deferred (some []))
  out : ∃ o, Blk h' n2 #[o.enc] tn_Slint ∧ Owns h' o tn_int 1 (out.flatMap cN) ∧ ∀ x, o.blk = some x → hL.size + 2 ≤ x
  sz : hL.size + 1 ≤ h'.size
  lt : n2 < hL.size ∧ (∀ m, SQF ka ma b r m → m < hL.size ∧ m ≠ n2) ∧ h.size ≤ n2
theorem MI.only {h hL h' h'' : H} {n2 ka ma b : Nat} {r : Sl} {L : List (ByteArray × Option Addr)} {out : List Nat} {S : Nat → Prop} (v : MI h hL h' n2 ka ma b r L out) (o : Only S h' h'') (hS : ∀ m, S m → hL.size < m ∧ ∀ o : Sl, Blk h' n2 #[o.enc] tn_Slint → o.blk ≠ some m) : MI h hL h'' n2 ka ma b r L out := by
  obtain ⟨l2, lq, q⟩ := v.lt
  have no : ∀ m, m ≤ hL.size → ¬ S m := fun m hm h => by have := (hS m h).1; omega
  obtain ⟨ou, o1, o2, o3⟩ := v.out
  exact ⟨v.ext.step o fun m hm => no m (by omega), v.sq.only o fun m hm => no m (by have := (lq m hm).1; omega), o.block v.dfr (no _ (by omega)),
    ⟨ou, o.block o1 (no _ (by omega)), o2.only o fun m hm hs => (hS m hs).2 ou o1 hm, o3⟩, by have := o.size; have := v.sz; omega, v.lt⟩
theorem Most_spec {h : H} {n : Nat} {S : SL} {slots : Nat} {R : Nat → Prop} {Q : Int → H → Prop} (s : SH h n S slots R) (k : ∀ h', Ext h h' → Q (mostS S : Int) h') : F.shard_Shard_Most (some ⟨n, 0, none⟩) h Q := by
  obtain ⟨tn, rs, es, T, Z, rfl, z⟩ := s
  unfold F.shard_Shard_Most
  refine new_of fun n2 h1 hn2 b2 e1 s1 => ?_
  have z1 := z.ext e1
  simp only [nn_some, add_lit, Nat.zero_add, Nat.add_zero]
  rw [ldP_iff z1.cs3]
  have hcnt := z.count
  have hzl := z.len
  refine P.All_spec z1.th z1.ok (by omega) fun hL ka ma b r sq eL hmine _ => ?_
  rw [all_eq z1] at sq
  have hLs := eL.size
  have hmost : mostS (toS Z) = maxL (lensZ Z) := by unfold mostS toS lensZ; rw [List.map_map]; rfl
  refine P.range_seq (I := fun i h' => MI h hL h' n2 ka ma b r (keysZ Z) (lensZ (Z.take i))) (E := fun j h' => False)
    (fun i h' h'' v o => v.only o fun m hm => ⟨by omega, fun ou hou hb => ?_⟩) (fun j h' h'' v o => v) (fun i h' v => v.sq) ?_ ?_ (fun h' v => ?_) (fun j h' v => v.elim)
  · obtain ⟨o', o1, o2, o3⟩ := v.out
    have heq := o1.symm.trans hou
    have : o' = ou := enc_inj.1 (by simpa using heq)
    subst this
    have := o3 m hb; omega
  · have ep0 : Ext hL (hL.push (.deferred (some []))) := .push _ _
    refine ⟨(e1.trans eL).trans ep0, sq.only ep0 fun m hm f => f, by simp, ⟨_, ep0.block (eL.block b2 fun f => f) fun f => f, by simpa [lensZ] using Owns.nil _ tn_int 1, fun x hx => by simp [Sl.blk] at hx⟩, by simp, ?_⟩
    exact ⟨by omega, fun m hm => ⟨sq.lt m hm, by have := hmine m hm; omega⟩, by omega⟩
  · intro X i x h5 K J hX v hx hxi kK kJ
    unfold keysZ at hxi
    rw [List.getElem?_map] at hxi
    obtain ⟨q, hq, rfl⟩ : ∃ q, Z[i]? = some q ∧ x = (keyB q.c, some ⟨q.p, 0, none⟩) := by
      cases hy : Z[i]? with
      | none => rw [hy] at hxi; cases hxi
      | some q => rw [hy] at hxi; cases hxi; exact ⟨q, rfl, rfl⟩
    have hqz : q ∈ Z := List.mem_of_getElem? hq
    obtain ⟨o, o1, o2, o3⟩ := v.out
    have hlo := own_len cN_len (by omega) o2
    rw [lensZ_len, List.length_take] at hlo
    have zq := z.ext v.ext
    have c5 : cellH h5 ⟨n2, 0, none⟩ = some o.enc := Blk.cell (i := 0) o1 rfl
    refine ldL_of c5 (C.Len_spec (zq.ch q hqz) ⟨c5, ?_⟩)
    refine newL_of fun n14 h14 hn14 b14 e14 s14 => ⟨e14.cell c5 fun f => f, ?_⟩
    have hi : i < Z.length := (List.getElem?_eq_some_iff.1 hq).1
    refine app_list (L := lensZ (Z.take i)) (M := [q.vs.length]) cN_len (by omega) el_Slint (o2.ext e14) (blk_reads b14 rfl) (fun x => one1 rfl) (by simp only [List.length_singleton, lensZ_len, List.length_take]; omega) fun r15 h15 w15 o15 n15 => ?_
    have x14 : Blk h14 n2 #[o.enc] tn_Slint := e14.block o1 fun f => f
    obtain ⟨l2, lq, ld⟩ := v.lt
    have lts := v.lt
    have hob : o.blk ≠ some n2 := fun e => by have := o3 _ e; omega
    have x15 : Blk h15 n2 #[o.enc] tn_Slint := o15.block x14 hob
    have hh5 : hL.size + 1 < h5.size := (Array.getElem?_eq_some_iff.1 hx).1
    refine stH_of x15 (by simp) fun h16 b16 o16 s16 => ?_
    have r15n : ∀ y, r15.blk = some y → hL.size + 2 ≤ y := fun y hy => by
      rcases n15 with n15 | ⟨y', n15, n16⟩
      · exact o3 y (by rw [← n15]; exact hy)
      · rw [n15] at hy; cases hy
        have := e14.size; omega
    have v14 : MI h hL h14 n2 ka ma b r (keysZ Z) (lensZ (Z.take i)) := v.only e14 fun _ f => f.elim
    have no : ∀ m, m ≤ hL.size + 1 → ¬ (o.blk = some m) := fun m hm e => by have := o3 m e; omega
    have o14 : Only (fun m => o.blk = some m ∨ m = n2) h14 h16 := (o15.mono fun _ _ e => .inl e).trans o16 fun _ _ e => .inr e
    refine kK h16 ⟨v14.ext.step o14 fun m hm e => ?_, v14.sq.only o14 fun m hm e => ?_, o14.block v14.dfr fun e => ?_, ⟨r15, b16, ?_, r15n⟩, ?_, lts⟩ (o14.block (e14.block hx fun f => f) fun e => ?_)
    · rcases e with e | e
      · have := o3 m e; have := (e1.trans eL).size; omega
      · omega
    · rcases e with e | e
      · have := o3 m e; have := (lq m hm).1; omega
      · exact (lq m hm).2 e
    · rcases e with e | e
      · exact no _ (by omega) e
      · omega
    · have hsn : lensZ (Z.take (i + 1)) = lensZ (Z.take i) ++ [q.vs.length] := by
        unfold lensZ
        obtain ⟨h1, h2⟩ := List.getElem?_eq_some_iff.1 hq
        rw [List.take_succ_eq_append_getElem h1, h2, List.map_append]; rfl
      rw [hsn]
      exact w15.only o16 fun m hm e => by have := r15n m hm; omega
    · have := o14.size; have := v14.sz; omega
    · rcases e with e | e
      · exact no _ (Nat.le_refl _) e
      · omega
  · obtain ⟨o, o1, o2, o3⟩ := v.out
    rw [keysZ_len, List.take_length] at o2
    have hlo := own_len cN_len (by omega) o2
    rw [lensZ_len] at hlo
    have c5 : cellH h' ⟨n2, 0, none⟩ = some o.enc := Blk.cell (i := 0) o1 rfl
    have hle : h.size ≤ hL.size := (e1.trans eL).size
    refine ldL_of c5 ⟨fun g => ?_, fun g => ldL_of c5 ?_⟩
    · have hz : Z = [] := List.eq_nil_of_length_eq_zero (by have : (o.len : Int) = 0 := by simpa using g
                                                            omega)
      refine shut1 v.dfr fun h9 o9 => ?_
      have := k h9 (v.ext.step o9 fun m hm e => by omega)
      rw [hmost, hz] at this; exact this
    · have hz : Z ≠ [] := fun e => by rw [e] at hlo; simp [hlo] at g
      refine Max_spec o2.reads (by simpa [lensZ] using hz) (by rw [lensZ_len]; omega) (shut1 v.dfr fun h9 o9 => ?_)
      have := k h9 (v.ext.step o9 fun m hm e => by omega)
      rw [hmost] at this; exact this
end Go.Proofs.Ytoccbnhahaoeiaa.V.S
namespace Go.Proofs.Ytoccbnhahaoeiaa.V.S
open Go Go.Proofs.Ytoccbnhahaoeiaa.V
set_option linter.unusedVariables false
set_option linter.unusedSimpArgs false
set_option maxRecDepth 20000
theorem aliveN_nil : aliveN [] = 0 := rfl
theorem prune_alive {vs : List Ver} (hv : VOk vs) (E : List Int) : aliveN (C.pruneM vs E) = aliveN vs := by
  have hl : (C.newestM vs) = ((vs.getLast hv.ne).value, (vs.getLast hv.ne).epoch, !(vs.getLast hv.ne).dead) := by
    unfold C.newestM; rw [List.getLast?_eq_some_getLast hv.ne]
  rcases C.prune_last hv.rise hv.ne E with ⟨h1, h2⟩ | h1
  · rw [h1, aliveN_nil]
    unfold aliveN alive
    rw [hl, h2]; rfl
  · unfold aliveN alive
    rw [hl]
    unfold C.newestM
    rw [h1]
theorem prune_ok {vs : List Ver} (hv : VOk vs) (E : List Int) (h : C.pruneM vs E ≠ []) : VOk (C.pruneM vs E) := by
  have hs := C.prune_sub vs E
  exact ⟨h, C.rise_sub hv.rise hs, fun v hm => hv.dead v (hs.subset hm), fun v hm => hv.ep v (hs.subset hm)⟩
theorem prune_units {vs : List Ver} (hv : VOk vs) (E : List Int) : unitsV (C.pruneM vs E) + (vs.length - (C.pruneM vs E).length) = unitsV vs := by
  have h1 := prune_alive hv E
  have h2 := C.prune_le vs E
  rw [units_eq, units_eq, h1]; omega
def diffN (E : List Int) (Z : List Rec) : Nat := (Z.map fun r => r.vs.length - (C.pruneM r.vs E).length).sum
def emptyK (E : List Int) (Z : List Rec) : List ByteArray := (Z.filter fun r => (C.pruneM r.vs E).isEmpty).map fun r => keyB r.c
theorem diff_snoc (E : List Int) {Z : List Rec} {i : Nat} {r : Rec} (h : Z[i]? = some r) : diffN E (Z.take (i + 1)) = diffN E (Z.take i) + (r.vs.length - (C.pruneM r.vs E).length) := by
  obtain ⟨h1, h2⟩ := List.getElem?_eq_some_iff.1 h
  unfold diffN
  rw [List.take_succ_eq_append_getElem h1, h2, List.map_append, List.sum_append]; simp
theorem empty_snoc (E : List Int) {Z : List Rec} {i : Nat} {r : Rec} (h : Z[i]? = some r) : emptyK E (Z.take (i + 1)) = emptyK E (Z.take i) ++ (if (C.pruneM r.vs E).isEmpty then [keyB r.c] else []) := by
  obtain ⟨h1, h2⟩ := List.getElem?_eq_some_iff.1 h
  unfold emptyK
  rw [List.take_succ_eq_append_getElem h1, h2, List.filter_append, List.map_append]
  congr 1
  by_cases hi : (C.pruneM r.vs E).isEmpty <;> simp [hi]
theorem setK_idx {α : Type} {key : α → Cel} {x : α} : ∀ {S : List α} {i : Nat} {y : α}, SortK key S → S[i]? = some y → key x = key y → setK key S x = S.set i x
  | [], i, y, _, h, _ => by simp at h
  | z :: r, 0, y, hs, h, he => by
    simp at h; subst h
    unfold setK
    rw [he, cC_self]; simp
  | z :: r, i + 1, y, hs, h, he => by
    have h' := List.pairwise_cons.1 hs
    have hy : r[i]? = some y := by simpa using h
    have hlt := h'.1 y (List.mem_of_getElem? hy)
    have := cC_anti (key z) (key y)
    unfold setK
    rw [he, if_neg (by omega), if_neg (by omega), setK_idx h'.2 hy he]; rfl
/-- All but those of whom nothing is left. -/
theorem units_filter (S : SL) : unitsS (S.filter fun x => !x.2.isEmpty) = unitsS S ∧ thereS (S.filter fun x => !x.2.isEmpty) = thereS S := by
  induction S with
  | nil => exact ⟨rfl, rfl⟩
  | cons x r ih =>
    unfold unitsS thereS at ih ⊢
    by_cases h : x.2.isEmpty
    · have hx : x.2 = [] := by simpa using h
      simp only [List.filter_cons, h, Bool.not_true, Bool.false_eq_true, if_false, List.map_cons, List.sum_cons]
      rw [hx, show unitsV [] = 0 from rfl, show aliveN [] = 0 from rfl]
      omega
    · simp only [List.filter_cons, h, Bool.not_false, if_true, List.map_cons, List.sum_cons]
      omega
theorem diff_le (E : List Int) : ∀ (Z : List Rec), (∀ r ∈ Z, VOk r.vs) → unitsS ((toS Z).map fun x => (x.1, C.pruneM x.2 E)) + diffN E Z = unitsS (toS Z) ∧ thereS ((toS Z).map fun x => (x.1, C.pruneM x.2 E)) = thereS (toS Z)
  | [], _ => ⟨rfl, rfl⟩
  | r :: Z, h => by
    have ih := diff_le E Z fun x hx => h x (by simp [hx])
    have h1 := prune_units (h r (by simp)) E
    have h2 := prune_alive (h r (by simp)) E
    unfold unitsS thereS diffN toS at ih ⊢
    simp only [List.map_cons, List.sum_cons]
    omega
theorem prune_sum (E : List Int) {Z : List Rec} (h : ∀ r ∈ Z, VOk r.vs) : unitsS (pruneS (toS Z) E) + diffN E Z = unitsS (toS Z) ∧ thereS (pruneS (toS Z) E) = thereS (toS Z) := by
  have h1 := units_filter ((toS Z).map fun x => (x.1, C.pruneM x.2 E))
  have h2 := diff_le E Z h
  unfold pruneS
  rw [h1.1, h1.2]; exact h2
section
variable {W : List Ver → Prop} {h h' : H} {n tn : Nat} {rs es : Sl} {T : Tb (Option Addr)} {Z : List Rec} {slots : Nat} {R : Nat → Prop} {u t : Int}
theorem not_sh {h : H} {m : Nat} {c : Array Value} {e : TypeId} (b : Blk h m c e) (he : ¬ ShE e) : ¬ ShTy h m := fun ⟨e', h1, c', h2⟩ => he (by
  have := b.symm.trans h2
  simp at this
  rw [this.2]; exact h1)
/-- A cell that is left out of the table. -/
theorem SZG.drop (z : SZG W h n tn rs es T Z slots R u t) {c : Cel} (hc : okC c = 0) {T' : Tb (Option Addr)} {rs' es' : Sl} (th : P.TH h' tn rs' es' T') (ok : TOk T') (stp : Stp h tn rs es h' rs' es') (hget : ∀ k, getM T' k = if kL k = kL (keyB c) then none else getM T k) (hrl : T'.row.length ≤ 4200000) (hR : ∀ b, h.size ≤ b → R b) :
    SZG W h' n tn rs' es' T' (Z.filter fun r => decide (cmpC r.c c ≠ 0)) slots R u t ∧ SOnly R h h' := by
  have hsub : (Z.filter fun r => decide (cmpC r.c c ≠ 0)).Sublist Z := List.filter_sublist
  have hmem : ∀ {r : Rec}, r ∈ (Z.filter fun r => decide (cmpC r.c c ≠ 0)) ↔ r ∈ Z ∧ cmpC r.c c ≠ 0 := fun {r} => by rw [List.mem_filter]; simp
  have hreg : ∀ b, FT tn rs' es' b → R b := fun b hb => by
    rcases stp.new b hb with e | e
    · rcases e with e | e | e
      · subst e; exact z.rt
      · exact z.rr b e
      · exact z.re b e
    · exact hR b e
  have hus : ∀ (Y : List Rec), unitsS (toS (Y.filter fun r => decide (cmpC r.c c ≠ 0))) ≤ unitsS (toS Y) := fun Y => by
    induction Y with
    | nil => exact Nat.le_refl _
    | cons x r ih =>
      unfold unitsS toS at ih ⊢
      rw [List.filter_cons]
      split
      · simp only [List.map_cons, List.sum_cons]; omega
      · simp only [List.map_cons, List.sum_cons]; omega
  refine ⟨{ sb := stp.only.block z.sb fun e => z.n_ft e rfl, th := th, ok := ok, ch := fun r hr => ?_, get := fun r hr => ?_, all := fun k v hk => ?_, srt := z.srt.sublist hsub, pd := z.pd.sublist hsub, bd := z.bd.sublist hsub, wf := fun r hr => z.wf r (hmem.1 hr).1, us := Nat.le_trans (hus Z) z.us, sl := z.sl, rl := hrl, rn := z.rn, rt := z.rt, rr := fun b hb => hreg b (.inr (.inl hb)), re := fun b hb => hreg b (.inr (.inr hb)), rp := fun r hr => z.rp r (hmem.1 hr).1 }, ?_⟩
  · have hr' := (hmem.1 hr).1
    exact (z.ch r hr').only stp.only (fun e => (z.ch_ft hr' e).1 rfl) fun b hb e => (z.ch_ft hr' e).2 hb
  · obtain ⟨h1, h2⟩ := hmem.1 hr
    rw [hget, if_neg]
    · exact z.get r h1
    · intro he
      rw [kL_keyB, kL_keyB] at he
      exact h2 (cC_zero.2 (key_inj (z.wf r h1).1 hc he))
  · rw [hget] at hk
    split at hk
    · cases hk
    · rename_i hne
      obtain ⟨r, hr, e⟩ := z.all k v hk
      refine ⟨r, hmem.2 ⟨hr, fun h0 => hne ?_⟩, e⟩
      rw [e, cC_zero.1 h0, kL_keyB]
  · exact stp.only.mono fun b _ e => by
      obtain ⟨ty, q1, q2⟩ := ft_ty z.th e
      refine ⟨?_, ty, ?_, q1⟩
      · rcases e with e | e | e
        · subst e; exact z.rt
        · exact z.rr b e
        · exact z.re b e
      · rcases q2 with rfl | rfl
        · exact .inr (.inl rfl)
        · exact .inr (.inr (.inl rfl))
end
def outZ (Cs : List Cel) (Z : List Rec) : List Rec := Z.filter fun r : Rec => decide (∀ c ∈ Cs, cmpC r.c c ≠ 0)
theorem out_nil (Z : List Rec) : outZ [] Z = Z := by
  unfold outZ; rw [List.filter_eq_self]; intro r _; simp
theorem out_cons (c : Cel) (Cs : List Cel) (Z : List Rec) : outZ (c :: Cs) Z = outZ Cs (Z.filter fun r : Rec => decide (cmpC r.c c ≠ 0)) := by
  unfold outZ
  rw [List.filter_filter]
  congr 1
  funext r
  simp
  rw [Bool.and_comm]
/-- The keys of what is left out, one behind the other. -/
theorem drop_loop {W : List Ver → Prop} {n tn : Nat} {slots : Nat} {R : Nat → Prop} {u t : Int} {ds : List Nat} {n4 : Nat} {o : Sl} {Cs : List Cel} {Q : Int → H → Prop} {hb : H} (hCs : ∀ c ∈ Cs, okC c = 0) (hlen : Cs.length < 1073741824) (hR : ∀ b, hb.size ≤ b → R b) :
    ∀ (d i : Nat) (h : H) (rs es : Sl) (T : Tb (Option Addr)) (Z : List Rec), i ≤ Cs.length → Cs.length - i < d → SZG W h n tn rs es T Z slots R u t → Owns h o tn_string 1 ((Cs.map keyB).flatMap cT) → hb.size ≤ h.size →
      (∀ h' rs' es' T', SZG W h' n tn rs' es' T' (outZ (Cs.drop i) Z) slots R u t → SOnly R h h' → F.shard_Shard_Prune.l1 Q 1 ds (some ⟨n, 0, none⟩) ⟨n4, 0, none⟩ o (Cs.length : Int) (Cs.length : Int) h') →
      F.shard_Shard_Prune.l1 Q d ds (some ⟨n, 0, none⟩) ⟨n4, 0, none⟩ o (Cs.length : Int) (i : Int) h := by
  intro d
  induction d with
  | zero => intro i h rs es T Z _ hd; omega
  | succ d ih =>
    intro i h rs es T Z hi hd z w hsz k
    by_cases hlt : i < Cs.length
    · unfold F.shard_Shard_Prune.l1
      refine ⟨fun _ => ?_, fun g => by have := of_decide_eq_false g; omega⟩
      obtain ⟨c, hc⟩ : ∃ c, Cs[i]? = some c := ⟨_, List.getElem?_eq_getElem hlt⟩
      have hcm := List.mem_of_getElem? hc
      have hk : (Cs.map keyB)[i]? = some (keyB c) := by rw [List.getElem?_map, hc]; rfl
      obtain ⟨p, p1, p2, p3⟩ := rd_at cT_len (by omega) w.reads hk
      have hl := own_len cT_len (by omega) w
      rw [List.length_map] at hl
      refine idxR_of (i := i) p1 (by omega) rfl ((ldS_iff (n := keyB c) p3.one).2 ?_)
      simp only [nn_some, add_lit, Nat.zero_add, Nat.add_zero]
      rw [ldP_iff z.cs3]
      obtain ⟨T', t1, t2, t3, t4, t5, t6, t7⟩ := drop_ok (z := P.nilA) z.ok (keyB c)
      refine P.Drop_spec z.th z.ok (key_small (hCs c hcm)) t1 fun h2 es2 th2 stp => ?_
      have hz := z.drop (hCs c hcm) th2 t2 stp t4 (by have := z.rl; omega) fun b hb' => hR b (by omega)
      rw [w64s (by omega)]
      have hw : Owns h2 o tn_string 1 ((Cs.map keyB).flatMap cT) := hz.2.owns w (by unfold ShE; decide)
      refine ih (i + 1) h2 rs es2 T' _ (by omega) (by omega) hz.1 hw (by have := hz.2.size; omega) fun h' rs' es' T'' z' so' => ?_
      refine k h' rs' es' T'' ?_ (hz.2.trans so')
      have he : outZ (Cs.drop i) Z = outZ (Cs.drop (i + 1)) (Z.filter fun r : Rec => decide (cmpC r.c c ≠ 0)) := by
        obtain ⟨q1, q2⟩ := List.getElem?_eq_some_iff.1 hc
        rw [List.drop_eq_getElem_cons q1, q2, out_cons]
      rw [he]; exact z'
    · have hi' : i = Cs.length := by omega
      subst hi'
      have hz : outZ (Cs.drop Cs.length) Z = Z := by rw [List.drop_length, out_nil]
      have := k h rs es T (by rw [hz]; exact z) (.refl _)
      unfold F.shard_Shard_Prune.l1 at this ⊢
      exact ⟨fun g => by have := of_decide_eq_true g; omega, fun g => this.2 g⟩
end Go.Proofs.Ytoccbnhahaoeiaa.V.S
namespace Go.Proofs.Ytoccbnhahaoeiaa.V.S
open Go Go.Proofs.Ytoccbnhahaoeiaa.V
set_option linter.unusedVariables false
set_option linter.unusedSimpArgs false
set_option maxRecDepth 20000
section
variable {W W' : List Ver → Prop} {h h' : H} {n tn : Nat} {rs es : Sl} {T : Tb (Option Addr)} {Z : List Rec} {slots : Nat} {R R' : Nat → Prop} {u t : Int}
theorem SZG.turn (z : SZG W h n tn rs es T Z slots R u t) (hw : ∀ r ∈ Z, W r.vs → W' r.vs) (hr : ∀ b, b < h.size → R b → R' b) : SZG W' h n tn rs es T Z slots R' u t := by
  obtain ⟨l1, l2, l3⟩ := z.f_lt
  exact { z with wf := fun r hr => ⟨(z.wf r hr).1, hw r hr (z.wf r hr).2⟩, rn := hr _ l1 z.rn, rt := hr _ (l2 _ (.inl rfl)) z.rt, rr := fun b hb => hr _ (l2 _ (.inr (.inl hb))) (z.rr b hb), re := fun b hb => hr _ (l2 _ (.inr (.inr hb))) (z.re b hb), rp := fun r hm => ⟨hr _ (l3 r hm).1 (z.rp r hm).1, fun x hx => hr _ ((l3 r hm).2 x hx) ((z.rp r hm).2 x hx)⟩ }
end
abbrev WP (vs : List Ver) : Prop := vs = [] ∨ VOk vs
def ToP (E : List Int) (Z Zi : List Rec) (i : Nat) : Prop := Zi.length = Z.length ∧ ∀ (j : Nat) (r : Rec), Z[j]? = some r → ∃ B, Zi[j]? = some ⟨r.c, if j < i then C.pruneM r.vs E else r.vs, r.p, B⟩
structure PI (h hL h' : H) (n n2 n4 n7 ka ma b tn : Nat) (rs es r : Sl) (T : Tb (Option Addr)) (L : List (ByteArray × Option Addr)) (held : Sl) (E : List Int) (Z : List Rec) (slots : Nat) (R : Nat → Prop) (u t : Int) (i : Nat) : Prop where
  so : SOnly R h h'
  b2 : Blk h' n2 #[held.enc] tn_Slint
  b4 : Blk h' n4 #[.int .i64 (diffN E (Z.take i) : Int)] tn_int
  b7 : ∃ o, Blk h' n7 #[o.enc] tn_Slstring ∧ Owns h' o tn_string 1 ((emptyK E (Z.take i)).flatMap cT) ∧ ∀ x, o.blk = some x → hL.size + 2 ≤ x
  sq : P.SeqH h' ka ma b r L
  dfr : h'[hL.size]? = some (.deferred (some []))
  sz : hL.size + 1 ≤ h'.size
  z : ∃ Zi, SZG WP h' n tn rs es T Zi slots (fun b => R b ∧ b ≠ hL.size + 1) u t ∧ ToP E Z Zi i
  lt : n2 < hL.size ∧ n4 < hL.size ∧ n7 < hL.size ∧ h.size ≤ n2 ∧ h.size ≤ n4 ∧ h.size ≤ n7 ∧ n2 ≠ n4 ∧ n2 ≠ n7 ∧ n4 ≠ n7 ∧ ∀ m, SQF ka ma b r m → m < hL.size ∧ m ≠ n4 ∧ m ≠ n7 ∧ h.size ≤ m
theorem int_ty : ¬ ShE tn_int := by unfold ShE; decide
theorem str_ty : ¬ ShE tn_string := by unfold ShE; decide
theorem slstr_ty : ¬ ShE tn_Slstring := by unfold ShE; decide
theorem units_take (Z : List Rec) (i : Nat) : unitsS (toS (Z.take i)) ≤ unitsS (toS Z) := by
  have : toS Z = toS (Z.take i) ++ toS (Z.drop i) := by unfold toS; rw [← List.map_append, List.take_append_drop]
  rw [this]
  unfold unitsS
  rw [List.map_append, List.sum_append]; omega
theorem Prune_spec {h : H} {n : Nat} {S : SL} {slots : Nat} {R : Nat → Prop} {held : Sl} {E : List Int} {Q : Int → H → Prop} (s : SH h n S slots R) (rd : Reads h held 1 (E.flatMap cI)) (hE : E.length < 1073741824)
    (hlt : E ≠ [] → ∀ b, held.blk = some b → b < h.size ∧ ¬ (R b ∧ ShTy h b)) (hR : ∀ b, h.size ≤ b → R b)
    (k : ∀ h', SH h' n (pruneS S E) slots R → SOnly R h h' → Q ((unitsS S : Int) - unitsS (pruneS S E)) h') : F.shard_Shard_Prune (some ⟨n, 0, none⟩) held h Q := by
  obtain ⟨tn, rs, es, T, Z, hZS, z⟩ := s
  have hvok : ∀ r ∈ Z, VOk r.vs := fun r hr => (z.wf r hr).2
  have hsum := prune_sum E hvok
  rw [hZS] at hsum
  unfold F.shard_Shard_Prune
  refine new_of fun n2 h1 hn2 b2 e1 s1 => new_of fun n4 h3 hn4 b4 e3 s3 => ?_
  refine stH_of b4 (by simp) fun h5 b5 o5 s5 => new_of fun n7 h6 hn7 b7 e6 s6 => ?_
  have b4' : Blk h5 n4 #[.int .i64 0] tn_int := b5
  have e06 : Ext h h6 := ((e1.trans e3).step o5 fun m hm hb => by omega).trans e6
  have x2 : Blk h6 n2 #[held.enc] tn_Slint := e6.block (o5.block (e3.block b2 fun f => f) (by omega)) fun f => f
  have x4 : Blk h6 n4 #[.int .i64 0] tn_int := e6.block b4' fun f => f
  have z6 := z.ext e06
  simp only [nn_some, add_lit, Nat.zero_add, Nat.add_zero]
  rw [ldP_iff z6.cs3]
  have hcnt := z.count
  have hzl := z.len
  have hus := z.us
  have hsl := z.sl
  obtain ⟨f1, f2, f3⟩ := z.f_lt
  refine P.All_spec z6.th z6.ok (by omega) fun hL ka ma b r sq eL hmine _ => ?_
  rw [all_eq z6] at sq
  have hLs := eL.size
  have e06s := e06.size
  have e0L := e06.trans eL
  -- the record's place
  have keepZ : ∀ {a c : H} {Zi : List Rec} {P : Nat → Prop}, SZG WP a n tn rs es T Zi slots (fun b => R b ∧ b ≠ hL.size + 1) (unitsS (toS Z) : Int) (thereS (toS Z) : Int) → Only P a c → (∀ b, P b → b = hL.size + 1 ∨ ¬ ShTy a b) → SZG WP c n tn rs es T Zi slots (fun b => R b ∧ b ≠ hL.size + 1) (unitsS (toS Z) : Int) (thereS (toS Z) : Int) := fun hz o hp => hz.keep o fun b hb ht hP => by
    rcases hp b hP with e | e
    · exact hb.2 e
    · exact e ht
  refine P.range_seq (I := fun i h' => PI h hL h' n n2 n4 n7 ka ma b tn rs es r T (keysZ Z) held E Z slots R (unitsS (toS Z) : Int) (thereS (toS Z) : Int) i) (E := fun j h' => False)
    (fun i h' h'' v o => ?_) (fun j h' h'' v o => v) (fun i h' v => v.sq) ?_ ?_ (fun h' v => ?_) (fun j h' v => v.elim)
  · obtain ⟨l2, l4, l7, g2, g4, g7, d24, d27, d47, lq⟩ := v.lt
    obtain ⟨ou, q1, q2, q3⟩ := v.b7
    obtain ⟨Zi, zi, tp⟩ := v.z
    exact ⟨Only.trans v.so o fun m hm e => by omega, o.block v.b2 (by omega), o.block v.b4 (by omega), ⟨ou, o.block q1 (by omega), q2.only o fun m hm e => by have := q3 m hm; omega, q3⟩, v.sq.only o fun m hm e => by have := (lq m hm).1; omega,
      o.block v.dfr (by omega), by have := o.size; have := v.sz; omega, ⟨Zi, keepZ zi o fun b e => .inl e, tp⟩, v.lt⟩
  · have ep0 : Ext hL (hL.push (.deferred (some []))) := .push _ _
    have eH := eL.trans ep0
    refine ⟨SOnly.of (e06.trans eH), eH.block x2 fun f => f, eH.block x4 fun f => f, ⟨_, eH.block b7 fun f => f, by simpa [emptyK] using Owns.nil _ tn_string 1, fun x hx => by simp [Sl.blk] at hx⟩, sq.only ep0 fun m hm f => f, by simp, by simp, ⟨Z, ?_, rfl, fun j r hj => ⟨r.B, ?_⟩⟩, ?_⟩
    · exact (z.turn (fun r hr hw => .inr hw) fun b hb hr => ⟨hr, by omega⟩).ext (e06.trans eH)
    · rw [if_neg (Nat.not_lt_zero j)]; exact hj
    · exact ⟨by omega, by omega, by omega, by omega, by omega, by omega, by omega, by omega, by omega, fun m hm => ⟨sq.lt m hm, by have := hmine m hm; omega, by have := hmine m hm; omega, by have := hmine m hm; omega⟩⟩
  · intro X i x h5 K J hX v hx hxi kK kJ
    unfold keysZ at hxi
    rw [List.getElem?_map] at hxi
    obtain ⟨q, hq, rfl⟩ : ∃ q, Z[i]? = some q ∧ x = (keyB q.c, some ⟨q.p, 0, none⟩) := by
      cases hy : Z[i]? with
      | none => rw [hy] at hxi; cases hxi
      | some q => rw [hy] at hxi; cases hxi; exact ⟨q, rfl, rfl⟩
    have hqz : q ∈ Z := List.mem_of_getElem? hq
    have lts := v.lt
    obtain ⟨l2, l4, l7, g2, g4, g7, d24, d27, d47, lq⟩ := v.lt
    obtain ⟨o, q1, q2, q3⟩ := v.b7
    obtain ⟨Zi, zi, tl, tp⟩ := v.z
    obtain ⟨B, hB⟩ := tp i q hq
    rw [if_neg (Nat.lt_irrefl i)] at hB
    have hBm := List.mem_of_getElem? hB
    have hqp := (f3 q hqz).1
    have hh5 : hL.size + 1 < h5.size := (Array.getElem?_eq_some_iff.1 hx).1
    have c4 : cellH h5 ⟨n4, 0, none⟩ = some (.int .i64 (diffN E (Z.take i) : Int)) := Blk.cell (i := 0) v.b4 rfl
    refine ldI_of c4 (ldL_of (Blk.cell (i := 0) v.b2 rfl) ?_)
    have rd5 : Reads h5 held 1 (E.flatMap cI) := rd.keep v.so fun hne bb hb hs => (hlt hne bb hb).2 hs
    have hv := hvok q hqz
    have so5 := v.so.size
    have hvl := z.vlen hqz
    have chq : C.Ch h5 q.p q.vs B := zi.ch ⟨q.c, q.vs, q.p, B⟩ hBm
    refine C.Prune_spec chq hv.rise (by omega) hE rd5 (fun hne bb hb => by have := (hlt hne bb hb).1; omega) fun h6 B' c6 o6 kin6 => ?_
    have c46 : cellH h6 ⟨n4, 0, none⟩ = some (.int .i64 (diffN E (Z.take i) : Int)) := o6.cell c4 (by simp only; omega)
    refine ⟨c46, ?_⟩
    have hpu := prune_units hv E
    have hple := C.prune_le q.vs E
    have hsn := diff_snoc E hq
    have hdle := (diff_le E (Z.take (i + 1)) fun r hr => hvok r (List.mem_of_mem_take hr)).1
    have hut := units_take Z (i + 1)
    have hw : IntKind.wrap .i64 ((diffN E (Z.take i) : Int) + ((q.vs.length : Int) - ((C.pruneM q.vs E).length : Int))) = (diffN E (Z.take (i + 1)) : Int) := by rw [w64 (by omega) (by omega)]; omega
    rw [hw]
    have hsetu : unitsS (toS (setK Rec.c Zi ⟨q.c, C.pruneM q.vs E, q.p, B'⟩)) ≤ slots := by
      rw [toS_set]
      show unitsS (setS (toS Zi) q.c (C.pruneM q.vs E)) ≤ slots
      have hs : SortS (toS Zi) := by unfold SortS SortK; rw [List.pairwise_map]; exact zi.srt
      have h1 := set_units hs q.c (C.pruneM q.vs E)
      have h2 : getS (toS Zi) q.c = some q.vs := by
        rw [SZG.getS zi q.c]
        have := getK_mem zi.srt hBm
        simp only at this
        rw [this]; rfl
      rw [h2] at h1
      simp only [Option.getD_some] at h1
      have := zi.us
      omega
    have hwp : WP (C.pruneM q.vs E) := by
      by_cases he : C.pruneM q.vs E = []
      · exact .inl he
      · exact .inr (prune_ok hv E he)
    obtain ⟨z6q, so6⟩ := zi.lay (r := ⟨q.c, q.vs, q.p, B⟩) hBm c6 (o6.mono fun _ _ e => .inl e) kin6 hwp hsetu fun bb hb => ⟨hR bb (by omega), by omega⟩
    have z6' : SZG WP h6 n tn rs es T (setK Rec.c Zi ⟨q.c, C.pruneM q.vs E, q.p, B'⟩) slots (fun b => R b ∧ b ≠ hL.size + 1) (unitsS (toS Z) : Int) (thereS (toS Z) : Int) := z6q
    rw [setK_idx (x := ⟨q.c, C.pruneM q.vs E, q.p, B'⟩) zi.srt hB rfl] at z6'
    have tp6 : ToP E Z (Zi.set i ⟨q.c, C.pruneM q.vs E, q.p, B'⟩) (i + 1) := ⟨by rw [List.length_set]; exact tl, fun j r hj => by
      by_cases hji : j = i
      · subst hji
        rw [hq] at hj; cases hj
        exact ⟨B', by rw [List.getElem?_set_self (by rw [tl]; exact (List.getElem?_eq_some_iff.1 hq).1), if_pos (by omega)]⟩
      · obtain ⟨B2, h2⟩ := tp j r hj
        refine ⟨B2, ?_⟩
        rw [List.getElem?_set_ne (fun e => hji e.symm), h2]
        by_cases hlt' : j < i
        · rw [if_pos hlt', if_pos (by omega)]
        · rw [if_neg hlt', if_neg (by omega)]⟩
    have b46 : Blk h6 n4 #[.int .i64 (diffN E (Z.take i) : Int)] tn_int := o6.block v.b4 (by omega)
    refine stH_of b46 (by simp) fun h7 b47 o7 s7 => ?_
    have z7 := keepZ z6' o7 fun bb e => .inr (by subst e; exact not_sh b46 int_ty)
    have no7 : ∀ m, m ≠ q.p → m ≠ n4 → ∀ y, h5[m]? = some y → h7[m]? = some y := fun m h1 h2 y hy => o7.block (o6.block hy h1) h2
    have so7 : SOnly R h h7 := by
      have a1 : SOnly R h5 h6 := so6.mono fun m hm e => ⟨e.1.1, e.2⟩
      exact Only.trans (v.so.trans a1) o7 fun m hm e => by omega
    have o57 : Only (fun m => m = q.p ∨ m = n4) h5 h7 := (o6.mono fun _ _ e => .inl e).trans o7 fun _ _ e => .inr e
    have q2' : Owns h7 o tn_string 1 ((emptyK E (Z.take i)).flatMap cT) := q2.only o57 fun m hm e => by have := q3 m hm; omega
    have sq7 : P.SeqH h7 ka ma b r (keysZ Z) := v.sq.only o57 fun m hm e => by
      have := lq m hm
      rcases e with e | e <;> omega
    have x7 : h7[hL.size + 1]? = some X := no7 _ (by omega) (by omega) _ hx
    have d7 : h7[hL.size]? = some (.deferred (some [])) := no7 _ (by omega) (by omega) _ v.dfr
    have x72 : Blk h7 n2 #[held.enc] tn_Slint := no7 _ (by omega) (by omega) _ v.b2
    have x77 : Blk h7 n7 #[o.enc] tn_Slstring := no7 _ (by omega) (by omega) _ q1
    have sz7 : h5.size ≤ h7.size := o57.size
    have hmem7 : (⟨q.c, C.pruneM q.vs E, q.p, B'⟩ : Rec) ∈ Zi.set i ⟨q.c, C.pruneM q.vs E, q.p, B'⟩ := List.mem_of_getElem? (List.getElem?_set_self (by rw [tl]; exact (List.getElem?_eq_some_iff.1 hq).1))
    have ch7 : C.Ch h7 q.p (C.pruneM q.vs E) B' := z7.ch ⟨q.c, C.pruneM q.vs E, q.p, B'⟩ hmem7
    refine C.Len_spec ch7 ⟨fun g => ?_, fun g => ?_⟩
    · have h0 : ((C.pruneM q.vs E).length : Int) = 0 := by simpa using g
      have hnil : C.pruneM q.vs E = [] := List.eq_nil_of_length_eq_zero (by omega)
      refine ldL_of (Blk.cell (i := 0) x77 rfl) (newL_of fun n14 h14 hn14 b14 e14 s14 => ?_)
      have hel : (emptyK E (Z.take i)).length ≤ 1048576 := by
        unfold emptyK
        have := List.length_filter_le (fun r : Rec => (C.pruneM r.vs E).isEmpty) (Z.take i)
        rw [List.length_map]
        rw [List.length_take] at this
        omega
      refine app_list (L := emptyK E (Z.take i)) (M := [keyB q.c]) cT_len (by omega) el_Slstring (q2'.ext e14) (blk_reads b14 rfl) (fun x => one1 rfl) (by simp only [List.length_singleton]; omega) fun r15 h15 w15 o15 n15 => ?_
      have x14 : Blk h14 n7 #[o.enc] tn_Slstring := e14.block x77 fun f => f
      have hob : o.blk ≠ some n7 := fun e => by have := q3 _ e; omega
      have x15 : Blk h15 n7 #[o.enc] tn_Slstring := o15.block x14 hob
      refine stH_of x15 (by simp) fun h16 b16 o16 s16 => ?_
      have r15n : ∀ y, r15.blk = some y → hL.size + 2 ≤ y := fun y hy => by
        rcases n15 with n15 | ⟨y', n15, n16⟩
        · exact q3 y (by rw [← n15]; exact hy)
        · rw [n15] at hy; cases hy
          have := e14.size; omega
      have o14 : Only (fun m => o.blk = some m ∨ m = n7) h14 h16 := (o15.mono fun _ _ e => .inl e).trans o16 fun _ _ e => .inr e
      have o716 : Only (fun m => o.blk = some m ∨ m = n7) h7 h16 := (e14.only (S := fun m => o.blk = some m ∨ m = n7)).trans o14 fun _ _ e => e
      have no : ∀ m, m ≤ hL.size + 1 → m ≠ n7 → ¬ (o.blk = some m ∨ m = n7) := fun m hm hne e => by
        rcases e with e | e
        · have := q3 m e; omega
        · exact hne e
      have so16 : SOnly R h h16 := Only.trans so7 o716 fun m hm e => by
        rcases e with e | e
        · have := q3 m e; omega
        · omega
      refine kK h16 ⟨so16, o716.block x72 (no _ (by omega) d27), o716.block b47 (no _ (by omega) d47), ⟨r15, b16, ?_, r15n⟩, sq7.only o716 fun m hm => no m (by have := lq m hm; omega) (lq m hm).2.2.1, o716.block d7 (no _ (by omega) (by omega)), by have := o716.size; omega, ⟨_, keepZ z7 o716 fun bb e => .inr ?_, tp6⟩, lts⟩ (o716.block x7 (no _ (Nat.le_refl _) (by omega)))
      · rw [empty_snoc E hq, if_pos (by rw [hnil]; rfl)]
        exact w15.only o16 fun m hm e => by have := r15n m hm; omega
      · rcases e with e | e
        · obtain ⟨c, hc⟩ := q2'.typ e
          exact not_sh hc str_ty
        · subst e; exact not_sh x77 slstr_ty
    · have hne : (C.pruneM q.vs E).isEmpty = false := by
        cases hp : C.pruneM q.vs E with
        | nil => rw [hp] at g; simp at g
        | cons a b => rfl
      refine kK h7 ⟨so7, x72, b47, ⟨o, x77, ?_, q3⟩, sq7, d7, by omega, ⟨_, z7, tp6⟩, lts⟩ x7
      rw [empty_snoc E hq, hne]
      simpa using q2'
  · obtain ⟨l2, l4, l7, g2, g4, g7, d24, d27, d47, lq⟩ := v.lt
    obtain ⟨o, q1, q2, q3⟩ := v.b7
    obtain ⟨Zn, zn, tl, tp⟩ := v.z
    rw [keysZ_len, List.take_length] at q2
    have b4 := v.b4
    rw [keysZ_len, List.take_length] at b4
    rw [keysZ_len] at tp
    have hek : emptyK E Z = ((Z.filter fun r => (C.pruneM r.vs E).isEmpty).map fun r => r.c).map keyB := by unfold emptyK; rw [List.map_map]; rfl
    rw [hek] at q2
    have hlo := own_len cT_len (by omega) q2
    rw [List.length_map] at hlo
    have so5 := v.so.size
    refine ldL_of (Blk.cell (i := 0) q1 rfl) ⟨((Z.filter fun r : Rec => (C.pruneM r.vs E).isEmpty).map fun r => r.c).length + 1, ?_⟩
    rw [hlo]
    have hfl := List.length_filter_le (fun r : Rec => (C.pruneM r.vs E).isEmpty) Z
    have zR := zn.turn (W' := WP) (R' := R) (fun r hr hw => hw) fun b hb hr => hr.1
    refine drop_loop (hb := h') (fun c hc => ?_) (by rw [List.length_map]; omega) (fun bb hb => hR bb (by omega)) _ 0 h' rs es T Zn (by omega) (by omega) zR q2 (Nat.le_refl _) fun h2 rs2 es2 T2 z2 so2 => ?_
    · obtain ⟨r', hr', rfl⟩ := List.mem_map.1 hc
      exact (z.wf r' (List.mem_filter.1 hr').1).1
    · rw [List.drop_zero] at z2
      unfold F.shard_Shard_Prune.l1
      refine ⟨fun g => by have := of_decide_eq_true g; omega, fun _ => ?_⟩
      simp only [nn_some, add_lit, Nat.zero_add, Nat.add_zero]
      have b42 : Blk h2 n4 #[.int .i64 (diffN E Z : Int)] tn_int := so2.block b4 fun hs => not_sh b4 int_ty hs.2
      rw [ldI_iff z2.cs0, ldI_iff (Blk.cell (i := 0) b42 rfl)]
      rw [hZS] at z2 ⊢
      rw [hZS] at hus
      rw [w64 (by omega) (by omega)]
      refine z2.st0 fun h3 z3 so3 => ?_
      have b43 : Blk h3 n4 #[.int .i64 (diffN E Z : Int)] tn_int := so3.block b42 fun hs => not_sh b42 int_ty hs.2
      rw [ldI_iff (Blk.cell (i := 0) b43 rfl)]
      have nd : ∀ {hh : H}, hh[hL.size]? = some (.deferred (some [])) → ¬ ShTy hh hL.size := fun hd ⟨e, _, c, h2⟩ => by
        have := hd.symm.trans h2
        simp at this
      have d2 := so2.block v.dfr fun hs => nd v.dfr hs.2
      have d3 := so3.block d2 fun hs => nd d2 hs.2
      refine shut1 d3 fun h9 o9 => ?_
      have z9 : SZG WP h9 n tn rs2 es2 T2 _ slots R _ _ := z3.keep o9 fun b hb ht e => by subst e; exact nd d3 ht
      have so9 : SOnly R h h9 := Only.trans ((v.so.trans so2).trans so3) o9 fun m hm e => by have := e0L.size; omega
      -- what is left
      have hidx : ∀ x ∈ Zn, ∃ q ∈ Z, x.c = q.c ∧ x.vs = C.pruneM q.vs E := fun x hx => by
        obtain ⟨j, hj⟩ := List.mem_iff_getElem?.1 hx
        have hjl := (List.getElem?_eq_some_iff.1 hj).1
        obtain ⟨q, hq⟩ : ∃ q, Z[j]? = some q := ⟨_, List.getElem?_eq_getElem (by omega)⟩
        obtain ⟨B, hB⟩ := tp j q hq
        rw [hj, if_pos (by omega)] at hB
        cases hB
        exact ⟨q, List.mem_of_getElem? hq, rfl, rfl⟩
      have htoS : toS Zn = (toS Z).map fun x => (x.1, C.pruneM x.2 E) := by
        apply List.ext_getElem?
        intro j
        unfold toS
        rw [List.map_map, List.getElem?_map, List.getElem?_map]
        cases hq : Z[j]? with
        | none =>
          have : Zn[j]? = none := by rw [List.getElem?_eq_none_iff] at hq ⊢; omega
          rw [this]; rfl
        | some q =>
          obtain ⟨B, hB⟩ := tp j q hq
          rw [if_pos (by have := (List.getElem?_eq_some_iff.1 hq).1; omega)] at hB
          rw [hB]; rfl
      have hout : outZ ((Z.filter fun r : Rec => (C.pruneM r.vs E).isEmpty).map fun r => r.c) Zn = Zn.filter fun r : Rec => !r.vs.isEmpty := by
        unfold outZ
        refine List.filter_congr fun x hx => ?_
        obtain ⟨q, hq, h1, h2⟩ := hidx x hx
        rw [h2]
        cases he : (C.pruneM q.vs E).isEmpty with
        | true =>
          have : ¬ ∀ c ∈ (Z.filter fun r : Rec => (C.pruneM r.vs E).isEmpty).map (fun r => r.c), cmpC x.c c ≠ 0 := fun hall => hall q.c (List.mem_map.2 ⟨q, List.mem_filter.2 ⟨hq, he⟩, rfl⟩) (by rw [h1]; exact cC_self _)
          rw [decide_eq_false this]; rfl
        | false =>
          have : ∀ c ∈ (Z.filter fun r : Rec => (C.pruneM r.vs E).isEmpty).map (fun r => r.c), cmpC x.c c ≠ 0 := fun c hc h0 => by
            obtain ⟨q', hq', rfl⟩ := List.mem_map.1 hc
            obtain ⟨m1, m2⟩ := List.mem_filter.1 hq'
            have hcc := (cC_zero.1 h0).symm.trans h1
            have g1 := getK_mem z.srt m1
            have g2 := getK_mem z.srt hq
            rw [hcc, g2] at g1
            cases g1
            rw [he] at m2; cases m2
          rw [decide_eq_true this]; rfl
      rw [hout] at z9
      have hS' : toS (Zn.filter fun r : Rec => !r.vs.isEmpty) = pruneS S E := by
        rw [← hZS]
        unfold pruneS
        rw [← htoS]
        unfold toS
        rw [List.filter_map]; rfl
      have zz : SZ h9 n tn rs2 es2 T2 _ slots R _ _ := z9.turn (W' := VOk) (R' := R) (fun x hx hw => by
        obtain ⟨m1, m2⟩ := List.mem_filter.1 hx
        obtain ⟨q, hq, h1, h2⟩ := hidx x m1
        rw [h2] at m2 ⊢
        exact prune_ok (hvok q hq) E fun e => by rw [e] at m2; cases m2) fun b hb hr => hr
      have hdiff : ((diffN E Z : Nat) : Int) = (unitsS S : Int) - unitsS (pruneS S E) := by omega
      rw [hdiff]
      refine k h9 ⟨tn, rs2, es2, T2, _, hS', ?_⟩ so9
      rw [hS', hsum.2]
      have : (unitsS S : Int) - (diffN E Z : Int) = unitsS (pruneS S E) := by omega
      rw [this] at zz
      exact zz
end Go.Proofs.Ytoccbnhahaoeiaa.V.S
namespace Go.Proofs.Ytoccbnhahaoeiaa.V.S
open Go Go.Proofs.Ytoccbnhahaoeiaa.V
set_option linter.unusedVariables false
set_option linter.unusedSimpArgs false
set_option maxRecDepth 20000
abbrev oneA (v : Int) : S_api_Agg := ⟨1, v, v, v⟩
theorem one_spec {h : H} {v : Int} {Q : S_api_Agg → H → Prop} (k : ∀ h', Ext h h' → Q (oneA v) h') : F.spatelaw7_one v h Q := by
  unfold F.spatelaw7_one
  refine new_of fun m h1 hm b1 e1 s1 => ?_
  have b1' : Blk h1 m zA.cells.toArray tn_api_Agg := b1
  exact C.st_agg b1' (d := oneA v) fun h2 b2 o2 s2 => ⟨_, b2.cells, k h2 (e1.step o2 fun x hx hb => by omega)⟩
theorem right_one (a b c : Int) : RightIs ⟨1, a, b, c⟩ (decide (b = a ∧ c = a)) := fun h Q k => by
  unfold F.agg_Right
  refine new_of fun m h1 hm b1 e1 s1 => ?_
  have c0 : cellH h1 ⟨m, 0, none⟩ = some (.int .i64 1) := Blk.cells b1 0 _ rfl
  have c1 : cellH h1 ⟨m, 1, none⟩ = some (.int .i64 a) := Blk.cells b1 1 _ rfl
  have c2 : cellH h1 ⟨m, 2, none⟩ = some (.int .i64 b) := Blk.cells b1 2 _ rfl
  have c3 : cellH h1 ⟨m, 3, none⟩ = some (.int .i64 c) := Blk.cells b1 3 _ rfl
  simp only [add_lit, Nat.zero_add, Nat.add_zero]
  rw [ldI_iff c0]
  refine ⟨fun g => by have := of_decide_eq_true g; omega, fun _ => ?_⟩
  rw [ldI_iff c0]
  refine ⟨fun _ => ?_, fun g => by simp at g⟩
  rw [ldI_iff c2, ldI_iff c1]
  have k := k h1 e1
  refine ⟨fun g => ?_, fun g => ?_⟩
  · have g : b = a := by simpa using g
    rw [ldI_iff c3, ldI_iff c1]
    have : decide (b = a ∧ c = a) = (c == a) := by
      by_cases h : c = a <;> simp [g, h]
    rw [this] at k; exact k
  · have g : ¬ b = a := by simpa using g
    have : decide (b = a ∧ c = a) = false := by simp [g]
    rw [this] at k; exact k
theorem right_one' (v : Int) : RightIs (oneA v) true := by
  have := right_one v v v
  simpa using this
theorem agg_eq {a b : S_api_Agg} : ((a.Count == b.Count) && ((a.Sum == b.Sum) && ((a.Min == b.Min) && ((a.Max == b.Max) && true)))) = true ↔ a = b := by
  obtain ⟨a1, a2, a3, a4⟩ := a
  obtain ⟨b1, b2, b3, b4⟩ := b
  simp [and_assoc]
abbrev cA : Cel := ⟨0, ⟨#[97]⟩, 0⟩
theorem head_spec {h : H} {Q : Bool → H → Prop} (k : ∀ h', Ext h h' → Q true h') : F.spatelaw7_head h Q := by
  unfold F.spatelaw7_head
  refine New_spec (R := fun b => h.size ≤ b) (fun g => by omega) (fun b hb => hb) fun _ _ h1 n sh e1 hn => ⟨fun g => by simp at g, fun _ => ?_⟩
  unfold F.spatelaw7_head.j2
  refine ⟨fun g => by simp at g, fun _ => ?_⟩
  unfold F.spatelaw7_head.j1
  refine new_of fun m h4 hm b4 e4 s4 => ?_
  have b4' : Blk h4 m zeroC.cells.toArray tn_api_Cell := b4
  refine st_cel b4' (d := cA) fun h6 b6 o6 s6 => ⟨cA, b6.cells, ?_⟩
  have e16 : Ext h1 h6 := e4.step o6 fun x hx hb => by omega
  refine one_spec fun h9 e9 => ⟨(Blk.cells b6).ext e9, ?_⟩
  have sh9 := (sh.ext e16).ext e9
  have e09 : Ext h h9 := (e1.trans e16).trans e9
  have hR : ∀ {hh : H}, Ext h hh → ∀ b, hh.size ≤ b → h.size ≤ b := fun e b hb => by have := e.size; omega
  have b9 : Blk h9 m cA.cells.toArray tn_api_Cell := e9.block b6 fun f => f
  have mty : ¬ ShE tn_api_Cell := by unfold ShE; decide
  have keep : ∀ {a b : H}, SOnly (fun x => h.size ≤ x) a b → Blk a m cA.cells.toArray tn_api_Cell → Blk b m cA.cells.toArray tn_api_Cell := fun o hb => o.block hb fun ⟨_, e, h1, c, h2⟩ => mty (by
    have := hb.symm.trans h2
    simp at this
    rw [this.2]; exact h1)
  refine Put_spec (x := ⟨cA, oneA 5⟩) sh9 (right_one' 5) (hR e09) (fun g => absurd (by decide) g) fun _ h12 sh12 o12 => ?_
  have e012 : Ext h h12 := o12.base e09 fun b hb => hb
  have b12 := keep o12 b9
  refine ⟨cA, b12.cells, one_spec fun h16 e16' => ⟨(Blk.cells b12).ext e16', ?_⟩⟩
  have e016 := e012.trans e16'
  refine Put_spec (x := ⟨cA, oneA 6⟩) (sh12.ext e16') (right_one' 6) (hR e016) (fun g => absurd (by decide) g) fun _ h19 sh19 o19 => ?_
  have e019 : Ext h h19 := o19.base e016 fun b hb => hb
  have b19 := keep o19 (e16'.block b12 fun f => f)
  refine ⟨fun _ => ⟨fun _ => ?_, fun g => by simp at g⟩, fun g => by simp at g⟩
  simp only [nn_some, add_lit, Nat.zero_add, Nat.add_zero]
  refine Units_spec sh19 ⟨fun _ => ?_, fun g => absurd (show ((unitsS (putS (putS [] 1 cA (oneA 5)) 2 cA (oneA 6)) : Int) == 3) = true from by decide) (by rw [g]; decide)⟩
  refine Cells_spec sh19 ⟨fun _ => ?_, fun g => absurd (show ((thereS (putS (putS [] 1 cA (oneA 5)) 2 cA (oneA 6)) : Int) == 1) = true from by decide) (by rw [g]; decide)⟩
  refine Most_spec sh19 fun h33 e33 => ⟨fun _ => ?_, fun g => absurd (show ((mostS (putS (putS [] 1 cA (oneA 5)) 2 cA (oneA 6)) : Int) == 2) = true from by decide) (by rw [g]; decide)⟩
  refine ⟨cA, (Blk.cells b19).ext e33, Get_spec (sh19.ext e33) fun h38 e38 => one_spec fun h40 e40 => ?_⟩
  have e3340 := e38.trans e40
  refine ⟨fun _ => ?_, fun g => absurd (agg_eq.2 (show atS (putS (putS [] 1 cA (oneA 5)) 2 cA (oneA 6)) cA 0 = oneA 6 from rfl)) (by rw [g]; decide)⟩
  refine ⟨cA, (Blk.cells b19).ext (e33.trans e3340), At_spec (sh19.ext (e33.trans e3340)) fun h45 e45 => one_spec fun h47 e47 => ?_⟩
  have hat : atS (putS (putS [] 1 cA (oneA 5)) 2 cA (oneA 6)) cA 1 = oneA 5 := rfl
  rw [agg_eq.2 hat]
  exact k h47 ((e019.trans e33).trans (e3340.trans (e45.trans e47)))
end Go.Proofs.Ytoccbnhahaoeiaa.V.S
namespace Go.Proofs.Ytoccbnhahaoeiaa.V.S
open Go Go.Proofs.Ytoccbnhahaoeiaa.V
set_option linter.unusedVariables false
set_option linter.unusedSimpArgs false
set_option maxRecDepth 20000
/-- A number brought to 0 .. m - 1. -/
theorem key_some {t : ByteArray} (h : 1 ≤ t.size) : t.data.toList ≠ [] := fun e => by
  have := size_data (s := t)
  rw [e] at this
  simp only [List.length_nil] at this
  omega
def withinM (a m : Int) : Int := if Int.tmod a m < 0 then Int.tmod a m + m else Int.tmod a m
theorem within_range {a m : Int} (h : 0 < m) : 0 ≤ withinM a m ∧ withinM a m < m := by
  have h1 := Int.tmod_lt_of_pos a h
  have h2 : -m < Int.tmod a m := by
    have := Int.tmod_lt_of_pos (-a) h
    rw [Int.neg_tmod] at this
    omega
  unfold withinM
  split <;> omega
theorem within_spec {a m : Int} {h : H} {Q : Int → H → Prop} (h0 : 0 < m) (h1 : m < 4611686018427387904) (k : Q (withinM a m) h) : F.spatelaw7_within a m h Q := by
  have hr := Int.tmod_lt_of_pos a h0
  have h2 : -m < Int.tmod a m := by
    have := Int.tmod_lt_of_pos (-a) h0
    rw [Int.neg_tmod] at this
    omega
  unfold F.spatelaw7_within F.spatelaw7_within.j1
  unfold withinM at k
  refine ⟨by omega, fun g => ?_, fun g => ?_⟩
  · have g := of_decide_eq_true g
    rw [if_pos g] at k
    rw [w64 (by omega) (by omega)]; exact k
  · have g := of_decide_eq_false g
    rw [if_neg g] at k; exact k
def fewKey (k : ByteArray) : ByteArray := match k.data.toList with
  | [] => ⟨#[107]⟩
  | b :: _ => ⟨#[UInt8.ofNat (97 + b.toNat % 4)]⟩
def fewC (c : Cel) : Cel := ⟨withinM c.View 2, fewKey c.Key, Int.tmod c.Start 3⟩
theorem few_spec {h : H} {c : Cel} {Q : S_api_Cell → H → Prop} (k : ∀ h', Ext h h' → Q (fewC c) h') : F.spatelaw7_few c h Q := by
  unfold F.spatelaw7_few
  refine new_of fun n h1 hn b1 e1 s1 => new_of fun n3 h3 hn3 b3 e3 s3 => ?_
  have b3' : Blk h3 n3 zeroC.cells.toArray tn_api_Cell := b3
  have c0 : ∀ {hh : H}, Ext h3 hh → cellH hh ⟨n, 0, none⟩ = some (.int .i64 c.View) := fun e => (e3.trans e).cell (Blk.cells b1 0 _ rfl) fun f => f
  have c1 : ∀ {hh : H}, Ext h3 hh → cellH hh ⟨n, 1, none⟩ = some (.string c.Key) := fun e => (e3.trans e).cell (Blk.cells b1 1 _ rfl) fun f => f
  have c2 : ∀ {hh : H}, Ext h3 hh → cellH hh ⟨n, 2, none⟩ = some (.int .i64 c.Start) := fun e => (e3.trans e).cell (Blk.cells b1 2 _ rfl) fun f => f
  have j1 : ∀ (key : ByteArray) (hh : H), Ext h3 hh → key = fewKey c.Key → F.spatelaw7_few.j1 Q ⟨n, 0, none⟩ ⟨n3, 0, none⟩ key hh := fun key hh e hk => by
    unfold F.spatelaw7_few.j1
    simp only [add_lit, Nat.zero_add, Nat.add_zero]
    refine ldI_of (c0 e) (ldI_of (c2 e) ⟨by omega, within_spec (by omega) (by omega) ⟨c2 e, ?_⟩⟩)
    have b3e : Blk hh n3 zeroC.cells.toArray tn_api_Cell := e.block b3' fun f => f
    refine st_cel b3e (d := ⟨withinM c.View 2, key, Int.tmod c.Start 3⟩) fun h5 b5 o5 s5 => ⟨_, b5.cells, ?_⟩
    rw [hk]
    exact k h5 (((e1.trans e3).trans e).step o5 fun x hx hb => by omega)
  simp only [add_lit, Nat.zero_add, Nat.add_zero]
  rw [ldS_iff (c1 (.refl _))]
  refine ⟨fun g => ldS_of (c1 (.refl _)) ?_, fun g => j1 _ h3 (.refl _) ?_⟩
  · have g := of_decide_eq_true g
    obtain ⟨b, r, hbr⟩ : ∃ b r, c.Key.data.toList = b :: r := by
      cases hl : c.Key.data.toList with
      | nil => exact absurd hl (key_some (by omega))
      | cons b r => exact ⟨b, r, rfl⟩
    refine idxS_of (i := 0) (b := b) (by rw [hbr]; rfl) rfl ⟨by omega, ?_⟩
    have hbt := b.toNat_lt
    have hb : IntKind.wrap .u8 (97 + Int.tmod ((b.toNat : Nat) : Int) 4) = (((UInt8.ofNat (97 + b.toNat % 4)).toNat : Nat) : Int) := by
      rw [wrap_u8, Int.tmod_eq_emod_of_nonneg (by omega)]
      simp
    rw [hb]
    refine newL_of fun n5 h5 hn5 b5 e5 s5 => ?_
    have rd : Reads h5 ⟨some ⟨n5, 0, none⟩, 1, 1⟩ 1 ([UInt8.ofNat (97 + b.toNat % 4)].flatMap cU) := blk_reads b5 rfl
    refine cvtT_of (l := [UInt8.ofNat (97 + b.toNat % 4)]) el_Sluint8.slice Try.underlying5 Try.underlying9 rd ?_
    exact j1 _ h5 e5 (by unfold fewKey; rw [hbr])
  · have g := of_decide_eq_false g
    unfold fewKey
    cases hl : c.Key.data.toList with
    | nil => rfl
    | cons b r => have e2 := size_data (s := c.Key); rw [hl] at e2; simp only [List.length_cons] at e2; omega
theorem rowAt {h : H} {s : Sl} {A : List Rw} (rd : Reads h s 7 (A.flatMap cW)) {i : Nat} {x : Rw} (hx : A[i]? = some x) {K : Addr → Prop} (k : ∀ a, Cells h a (cW x) → K a) : idxA s (i : Int) 7 K := by
  obtain ⟨p, p1, p2, p3⟩ := rd_at cW_len (by omega) rd hx
  have hl := rd_len cW_len (by omega) rd
  exact idxR_of (i := i) p1 (by have := (List.getElem?_eq_some_iff.1 hx).1; omega) rfl (k _ p3)
theorem row_eq {x y : Rw} : ((((x.Cell.View == y.Cell.View) && ((x.Cell.Key.toList == y.Cell.Key.toList) && ((x.Cell.Start == y.Cell.Start) && true)))) && ((((x.Agg.Count == y.Agg.Count) && ((x.Agg.Sum == y.Agg.Sum) && ((x.Agg.Min == y.Agg.Min) && ((x.Agg.Max == y.Agg.Max) && true))))) && true)) = true ↔ x = y := by
  obtain ⟨⟨a1, ⟨⟨a2⟩⟩, a3⟩, ⟨a4, a5, a6, a7⟩⟩ := x
  obtain ⟨⟨b1, ⟨⟨b2⟩⟩, b3⟩, ⟨b4, b5, b6, b7⟩⟩ := y
  simp [toList_data, and_assoc]
theorem tk_snoc {α : Type} {L : List α} {i : Nat} {x : α} (h : L[i]? = some x) : L.take (i + 1) = L.take i ++ [x] := by
  obtain ⟨h1, h2⟩ := List.getElem?_eq_some_iff.1 h
  rw [List.take_succ_eq_append_getElem h1, h2]
theorem SameRows_spec {h : H} {r s : Sl} {A C : List Rw} {Q : Bool → H → Prop} (ra : Reads h r 7 (A.flatMap cW)) (rc : Reads h s 7 (C.flatMap cW)) (hs : A.length < 4000000) (kt : A = C → Q true h) (kf : A ≠ C → Q false h) : F.spatelaw7_SameRows r s h Q := by
  have la := rd_len cW_len (by omega) ra
  have lc := rd_len cW_len (by omega) rc
  unfold F.spatelaw7_SameRows
  rw [la, lc]
  refine ⟨fun gg => kf fun e => by rw [e] at gg; simp at gg, fun gg => ⟨A.length + 1, ?_⟩⟩
  have hl : A.length = C.length := by simp at gg; omega
  have key : ∀ (d i : Nat), i ≤ A.length → A.length - i < d → A.take i = C.take i → F.spatelaw7_SameRows.l1 Q d r s (i : Int) h := by
    intro d
    induction d with
    | zero => intro i _ hm; omega
    | succ d ih =>
      intro i hi hm he
      unfold F.spatelaw7_SameRows.l1
      simp only [decide_eq_true_eq, decide_eq_false_iff_not]
      rw [la]
      refine ⟨fun gg => ?_, fun gg => ?_⟩
      · obtain ⟨x, hx⟩ : ∃ x, A[i]? = some x := ⟨_, List.getElem?_eq_getElem (by omega)⟩
        obtain ⟨y, hy⟩ : ∃ y, C[i]? = some y := ⟨_, List.getElem?_eq_getElem (by omega)⟩
        refine rowAt ra hx fun a ca => ⟨x, ca, rowAt rc hy fun a' ca' => ⟨y, ca', ?_⟩⟩
        have hrow := row_eq (x := x) (y := y)
        refine ⟨fun g2 => kf fun e => ?_, fun g2 => ?_⟩
        · have : x = y := by rw [e] at hx; rw [hx] at hy; exact Option.some.inj hy
          rw [hrow.2 this] at g2; cases g2
        · have hxy : x = y := hrow.1 (by simpa using g2)
          rw [w64s (by omega)]
          refine ih (i + 1) (by omega) (by omega) ?_
          rw [tk_snoc hx, tk_snoc hy, he, hxy]
      · have : i = A.length := by omega
        subst this
        rw [List.take_length] at he
        exact kt (by rw [he, hl, List.take_length])
  exact key _ 0 (by omega) (by omega) (by simp)
/-- What is there at an epoch. -/
abbrev loC : Cel := ⟨0, ⟨#[]⟩, 0⟩
abbrev hiC : Cel := ⟨9, ⟨#[]⟩, 0⟩
def allS (S : SL) (e : Int) : List Rw := (S.filter fun x => (atV x.2 e).2).map (rowS e)
theorem lo_le {c : Cel} (h : okC c = 0) : cmpC loC c ≤ 0 := by
  unfold okC at h
  split at h
  · cases h
  · rename_i h1
    split at h
    · cases h
    · rename_i h2
      have hk : c.Key.data.toList ≠ [] := key_some (by omega)
      unfold cmpC cmpI
      simp only
      by_cases hv : 0 < c.View
      · simp [hv]
      · have : c.View = 0 := by omega
        rw [this]
        simp only [Int.lt_irrefl, if_false, ne_eq, not_true_eq_false, gt_iff_lt]
        have hc : cmpM ⟨#[]⟩ c.Key = -1 := by
          unfold cmpM
          cases hl : c.Key.data.toList with
          | nil => exact absurd hl hk
          | cons a b => rfl
        rw [hc]; simp
theorem hi_lt {c : Cel} (h : okC c = 0) : cmpC c hiC < 0 := by
  unfold okC at h
  split at h
  · cases h
  · rename_i h1
    unfold cmpC cmpI
    simp only
    have : c.View < 9 := by omega
    simp [this]
theorem range_all {S : SL} (h : SOk S) (e : Int) : rangeS S e loC hiC = allS S e := by
  unfold rangeS allS
  congr 1
  refine List.filter_congr fun x hx => ?_
  have := (h.ok x hx).1
  unfold inS
  rw [decide_eq_true (lo_le this), decide_eq_true (hi_lt this)]; simp
theorem all_len {S : SL} (h : SOk S) {slots : Nat} (hu : unitsS S ≤ slots) (hs : slots ≤ 1048576) (e : Int) : (allS S e).length ≤ 1048576 := by
  have h1 := len_units h
  have h2 := List.length_filter_le (fun x : Cel × List Ver => (atV x.2 e).2) S
  unfold allS
  rw [List.length_map]; omega
theorem all_spec {h : H} {n : Nat} {S : SL} {slots : Nat} {R : Nat → Prop} {ep : Int} {Q : Sl → H → Prop} (s : SH h n S slots R)
    (k : ∀ r h', Owns h' r tn_api_Row 7 ((allS S ep).flatMap cW) → Mine h r → Ext h h' → Q r h') : F.spatelaw7_all (some ⟨n, 0, none⟩) ep h Q := by
  unfold F.spatelaw7_all
  refine Range_spec s fun r h' w m e => k r h' ?_ m e
  rw [range_all s.ok, List.take_of_length_le (by have := all_len s.ok s.us.1 s.us.2 ep; omega)] at w
  exact w
/-- A step, with the lists that it has. -/
structure St where
  x : S_spatelaw7_Step
  E : List Int
  C : List Cel
/-- The lists of a step are there to be read. -/
structure StOk (h : H) (y : St) : Prop where
  re : Reads h y.x.Held 1 (y.E.flatMap cI)
  be : y.E ≠ [] → ∀ b, y.x.Held.blk = some b → b < h.size
  oe : ∀ e ∈ y.E, -9223372036854775808 ≤ e ∧ e < 9223372036854775808
  rc : Reads h y.x.Cells 3 (y.C.flatMap S_api_Cell.cells)
  bc : y.C ≠ [] → ∀ b, y.x.Cells.blk = some b → b < h.size
  oc : ∀ c ∈ y.C, (-9223372036854775808 ≤ c.View ∧ c.View < 9223372036854775808) ∧ (-9223372036854775808 ≤ c.Start ∧ c.Start < 9223372036854775808) ∧ c.Key.size ≤ maxLen
  k64 : -9223372036854775808 ≤ y.x.Kind ∧ y.x.Kind < 9223372036854775808
  e64 : -9223372036854775808 ≤ y.x.Epoch ∧ y.x.Epoch < 9223372036854775808
  m64 : -9223372036854775808 ≤ y.x.Most ∧ y.x.Most < 9223372036854775808
  cel : (-9223372036854775808 ≤ y.x.Cell.View ∧ y.x.Cell.View < 9223372036854775808) ∧ (-9223372036854775808 ≤ y.x.Cell.Start ∧ y.x.Cell.Start < 9223372036854775808) ∧ y.x.Cell.Key.size ≤ maxLen
  agg : (-9223372036854775808 ≤ y.x.Agg.Count ∧ y.x.Agg.Count < 9223372036854775808) ∧ (-9223372036854775808 ≤ y.x.Agg.Sum ∧ y.x.Agg.Sum < 9223372036854775808) ∧ (-9223372036854775808 ≤ y.x.Agg.Min ∧ y.x.Agg.Min < 9223372036854775808) ∧ (-9223372036854775808 ≤ y.x.Agg.Max ∧ y.x.Agg.Max < 9223372036854775808)
  too : (-9223372036854775808 ≤ y.x.To.View ∧ y.x.To.View < 9223372036854775808) ∧ (-9223372036854775808 ≤ y.x.To.Start ∧ y.x.To.Start < 9223372036854775808) ∧ y.x.To.Key.size ≤ maxLen
def applyM (S : SL) (slots : Nat) (ep : Int) (y : St) : Int × SL :=
  if withinM y.x.Kind 4 = 0 then (killE S ep (fewC y.x.Cell), if killE S ep (fewC y.x.Cell) = 0 then killS S ep (fewC y.x.Cell) else S)
  else if withinM y.x.Kind 4 = 1 then (0, if y.E.length ≤ 20 then pruneS S y.E else S)
  else (putE S slots ep (fewC y.x.Cell) (oneA y.x.Agg.Sum) true, if putE S slots ep (fewC y.x.Cell) (oneA y.x.Agg.Sum) true = 0 then putS S ep (fewC y.x.Cell) (oneA y.x.Agg.Sum) else S)
theorem apply_spec {h : H} {n : Nat} {S : SL} {slots : Nat} {R : Nat → Prop} {ep : Int} {y : St} {Q : Int → H → Prop} (s : SH h n S slots R) (hR : ∀ b, h.size ≤ b → R b) (rd : Reads h y.x.Held 1 (y.E.flatMap cI)) (hb : y.E ≠ [] → ∀ b, y.x.Held.blk = some b → b < h.size ∧ ¬ R b)
    (k : ∀ h', SH h' n (applyM S slots ep y).2 slots R → SOnly R h h' → Q (applyM S slots ep y).1 h') : F.spatelaw7_apply (some ⟨n, 0, none⟩) ep y.x h Q := by
  unfold F.spatelaw7_apply
  refine new_of fun m h1 hm b1 e1 s1 => ?_
  have cs := Blk.cells b1
  have cc : Cells h1 ⟨m, 2, none⟩ y.x.Cell.cells := fun i v hv => by
    rw [add_lit]
    have hi : i < 3 := (List.getElem?_eq_some_iff.1 hv).1
    have := cs (2 + i) v (by
      match i, hi, hv with
      | 0, _, hv => exact hv
      | 1, _, hv => exact hv
      | 2, _, hv => exact hv)
    rwa [add_lit, Nat.zero_add] at this
  have k0 : cellH h1 ⟨m, 0, none⟩ = some (.int .i64 y.x.Kind) := cs 0 _ rfl
  have k6 : cellH h1 ⟨m, 6, none⟩ = some (.int .i64 y.x.Agg.Sum) := cs 6 _ rfl
  have k10 : cellH h1 ⟨m, 10, none⟩ = some y.x.Held.enc := cs 10 _ rfl
  simp only [add_lit, Nat.zero_add, Nat.add_zero]
  refine ⟨y.x.Cell, cc, few_spec fun h5 e5 => ?_⟩
  refine new_of fun m7 h7 hm7 b7 e7 s7 => ?_
  have b7' : Blk h7 m7 zeroC.cells.toArray tn_api_Cell := b7
  refine st_cel b7' (d := fewC y.x.Cell) fun h9 b9 o9 s9 => ?_
  have z5 := e5.size
  have e19 : Ext h1 h9 := (e5.trans e7).step o9 fun x hx hb => by omega
  have e09 := e1.trans e19
  refine ldI_of (e19.cell k0 fun f => f) (within_spec (by omega) (by omega) ?_)
  have sh := s.ext e09
  have hR9 : ∀ b, h9.size ≤ b → R b := fun b hb => hR b (by have := e09.size; omega)
  have so9 : SOnly R h h9 := SOnly.of e09
  have hwr := within_range (a := y.x.Kind) (m := 4) (by omega)
  unfold applyM at k
  refine ⟨fun g => ?_, fun g => ⟨fun g2 => ?_, fun g2 => ?_⟩⟩
  · have g : withinM y.x.Kind 4 = 0 := by simpa using g
    rw [if_pos g] at k
    refine ⟨_, b9.cells, Kill_spec sh hR9 (fun hne h' e' => ?_) fun h0 h' s' o' => ?_⟩
    · simp only [if_neg hne] at k
      exact k h' (sh.ext e') (so9.ext e')
    · rw [if_pos h0, h0] at k
      exact k h' s' (so9.trans o')
  · have g : withinM y.x.Kind 4 ≠ 0 := by simpa using g
    have g2 : withinM y.x.Kind 4 = 1 := by simpa using g2
    rw [if_neg g, if_pos g2] at k
    have kh := e19.cell k10 fun f => f
    have rd9 : Reads h9 y.x.Held 1 (y.E.flatMap cI) := rd.only e09 fun _ _ f => f
    have hl := rd_len cI_len (by omega) rd
    refine ldL_of kh ⟨fun g3 => ldL_of kh ?_, fun g3 => ?_⟩
    · have g3 := of_decide_eq_true g3
      rw [hl] at g3
      rw [if_pos (by omega)] at k
      exact Prune_spec sh rd9 (by omega) (fun hne b hbb => ⟨by have := (hb hne b hbb).1; have := e09.size; omega, fun hh => (hb hne b hbb).2 hh.1⟩) hR9 fun h' s' o' => k h' s' (so9.trans o')
    · have g3 := of_decide_eq_false g3
      rw [hl] at g3
      rw [if_neg (by omega)] at k
      exact k h9 sh so9
  · have g : withinM y.x.Kind 4 ≠ 0 := by simpa using g
    have g2 : withinM y.x.Kind 4 ≠ 1 := by simpa using g2
    rw [if_neg g, if_neg g2] at k
    refine ⟨_, b9.cells, ldI_of (e19.cell k6 fun f => f) (one_spec fun h31 e31 => ⟨(Blk.cells b9).ext e31, ?_⟩)⟩
    have sh31 := sh.ext e31
    refine Put_spec (x := ⟨fewC y.x.Cell, oneA y.x.Agg.Sum⟩) sh31 (right_one' _) (fun b hb => hR9 b (by have := e31.size; omega)) (fun hne h' e' => ?_) fun h0 h' s' o' => ?_
    · simp only [if_neg hne] at k
      exact k h' (sh31.ext e') (so9.ext (e31.trans e'))
    · rw [if_pos h0, h0] at k
      exact k h' s' ((so9.ext e31).trans o')
end Go.Proofs.Ytoccbnhahaoeiaa.V.S
namespace Go.Proofs.Ytoccbnhahaoeiaa.V.S
open Go Go.Proofs.Ytoccbnhahaoeiaa.V
set_option linter.unusedVariables false
set_option linter.unusedSimpArgs false
set_option maxRecDepth 20000
theorem SOnly.blk {R : Nat → Prop} {a b : H} {m : Nat} {cs : Array Value} {e : TypeId} (o : SOnly R a b) (hb : Blk a m cs e) (he : ¬ ShE e) : Blk b m cs e := o.block hb fun ⟨_, e', h1, c, h2⟩ => he (by
  have := hb.symm.trans h2
  simp at this
  rw [this.2]; exact h1)
end Go.Proofs.Ytoccbnhahaoeiaa.V.S
namespace Go.Proofs.Ytoccbnhahaoeiaa.V
open Go
set_option linter.unusedVariables false
set_option linter.unusedSimpArgs false
section
variable {T : Type} {P : Program} {enc : TypeId × Value → T} {w : World} {base : Nat} {spare : Nat → Bool} {held : Bool} {fuel : Nat}
theorem cells_of {a : Addr} {n : Nat} {cs : List Value} (h : w.cells? base a n = some cs) : cs.length = n ∧ ∀ j v, cs[j]? = some v → w.cell? (a.add j) = some v := by
  obtain ⟨h1, h2, h3⟩ := World.cells?_some h
  refine ⟨h2, fun j v hv => ?_⟩
  have hj : j < n := by rw [← h2]; exact (List.getElem?_eq_some_iff.1 hv).1
  rw [h3 j hj, hv]
/-- A slice that came in, each of whose things is asL G says. -/
theorem open_slice {t e : TypeId} {k : Nat} {v : Value} {x : DataW T × List MemPlace} (G : List Value → Prop) (ht : P.underlying t = some (.slice e)) (hk : P.cellsOf e = k) (hk0 : 0 < k) (h : DataW.trod enc P w base spare held fuel t [v] = some x)
    (hG : ∀ n cs y, DataW.trod enc P w base spare held n e cs = some y → cs.length = k → G cs) :
    ∃ s : Sl, v = s.enc ∧ s.len ≤ s.cap ∧ s.cap ≤ maxLen ∧ ∃ CS : List (List Value), CS.length = s.len ∧ (∀ c ∈ CS, c.length = k ∧ G c) ∧ Reads w.heap s k CS.flatten ∧ (CS ≠ [] → ∀ b, s.blk = some b → b < w.heap.size) := by
  rcases DataW.trod_slice ht h with ⟨h0, _⟩ | ⟨a, len, cap, elems, rest, n, _, h0, _, hb, hl, hm, hlen, hel, _, _⟩
  · simp at h0; subst h0
    exact ⟨⟨none, 0, 0⟩, rfl, Nat.le_refl _, Nat.zero_le _, [], rfl, (fun c hc => by cases hc), ⟨by simp, fun _ => ⟨rfl, rfl⟩, fun i v hv => by simp at hv⟩, fun h => absurd rfl h⟩
  · simp at h0; subst h0
    rw [hk] at hel
    have each : ∀ i, i < len → ∃ cs, w.cells? base (a.add (i * k)) k = some cs ∧ G cs := fun i hi => by
      have hx := hel i hi
      rw [List.getElem?_eq_getElem (by omega), Option.bind_eq_some_iff] at hx
      obtain ⟨cs, hc, ht'⟩ := hx
      exact ⟨cs, hc, hG _ _ _ ht' (cells_of hc).1⟩
    obtain ⟨CS, hCS, hall⟩ : ∃ CS : List (List Value), CS.length = len ∧ ∀ i c, CS[i]? = some c → w.cells? base (a.add (i * k)) k = some c ∧ G c := by
      clear hel h
      have : ∀ m, m ≤ len → ∃ CS : List (List Value), CS.length = m ∧ ∀ i c, CS[i]? = some c → w.cells? base (a.add (i * k)) k = some c ∧ G c := fun m => by
        induction m with
        | zero => intro _; exact ⟨[], rfl, fun i c hc => by simp at hc⟩
        | succ m ih =>
          intro hm2
          obtain ⟨CS, h1, h2⟩ := ih (by omega)
          obtain ⟨c, h3, h4⟩ := each m (by omega)
          refine ⟨CS ++ [c], by simp [h1], fun i d hd => ?_⟩
          by_cases hi : i < CS.length
          · rw [List.getElem?_append_left hi] at hd; exact h2 i d hd
          · rw [List.getElem?_append_right (by omega)] at hd
            have hi2 : i - CS.length = 0 := by
              have := (List.getElem?_eq_some_iff.1 hd).1
              simp at this; omega
            rw [hi2] at hd; simp at hd; subst hd
            have : i = m := by omega
            subst this; exact ⟨h3, h4⟩
      exact this len (Nat.le_refl _)
    have hlen' : ∀ c ∈ CS, c.length = k ∧ G c := fun c hc => by
      obtain ⟨i, hi⟩ := List.mem_iff_getElem?.1 hc
      exact ⟨(cells_of (hall i c hi).1).1, (hall i c hi).2⟩
    have hspot : 0 < len → a.spot = none ∧ a.block < w.heap.size := fun h0 => by
      obtain ⟨c, hc⟩ : ∃ c, CS[0]? = some c := ⟨_, List.getElem?_eq_getElem (by omega)⟩
      obtain ⟨h1, h2⟩ := cells_of (hall 0 c hc).1
      obtain ⟨v, hv⟩ : ∃ v, c[0]? = some v := ⟨_, List.getElem?_eq_getElem (by omega)⟩
      have hcell : cellH w.heap ((a.add (0 * k)).add 0) = some v := h2 0 v hv
      have e0 : ∀ p : Addr, p.add 0 = p := fun p => by unfold Addr.add; split <;> simp_all
      rw [Nat.zero_mul, e0, e0] at hcell
      unfold cellH at hcell
      split at hcell
      · rename_i hh
        refine ⟨?_, (Array.getElem?_eq_some_iff.1 hh).1⟩
        cases hs : a.spot with
        | none => rfl
        | some s => rw [hs] at hcell; simp at hcell
      · cases hcell
    refine ⟨⟨some a, len, cap⟩, rfl, hl, hm, CS, hCS, hlen', ⟨?_, (fun h => by cases h), fun i v hv => ?_⟩, fun hne b hb => ?_⟩
    · rw [← hCS]
      have : ∀ (L : List (List Value)), (∀ c ∈ L, c.length = k) → L.flatten.length = L.length * k := fun L => by
        induction L with
        | nil => intro _; simp
        | cons c r ih => intro hL; simp [hL c (by simp), ih fun c hc => hL c (List.mem_cons_of_mem _ hc), Nat.add_mul]; omega
      exact this CS fun c hc => (hlen' c hc).1
    · have : ∀ (L : List (List Value)) (m : Nat), (∀ c ∈ L, c.length = k) → (∀ i c, L[i]? = some c → ∀ j v, c[j]? = some v → w.cell? (a.add ((m + i) * k + j)) = some v) → ∀ i v, L.flatten[i]? = some v → w.cell? (a.add (m * k + i)) = some v := fun L => by
        induction L with
        | nil => intro m _ _ i v hv; simp at hv
        | cons c r ih =>
          intro m hL hc i v hv
          have hcl := hL c (by simp)
          rw [List.flatten_cons] at hv
          by_cases hi : i < c.length
          · rw [List.getElem?_append_left hi] at hv
            exact hc 0 c rfl i v hv
          · rw [List.getElem?_append_right (by omega)] at hv
            have := ih (m + 1) (fun c hc => hL c (List.mem_cons_of_mem _ hc)) (fun i d hd j v hj => by
              have := hc (i + 1) d (by simpa using hd) j v hj
              rwa [show m + (i + 1) = m + 1 + i from by omega] at this) _ v hv
            rwa [show (m + 1) * k + (i - c.length) = m * k + i from by rw [Nat.add_mul]; omega] at this
      have hlt : 0 < len := by
        rcases Nat.eq_zero_or_pos len with h0 | h0
        · have : CS = [] := List.eq_nil_of_length_eq_zero (by omega)
          subst this; simp at hv
        · exact h0
      obtain ⟨hsp, _⟩ := hspot hlt
      refine ⟨a, rfl, hsp, ?_⟩
      have := this CS 0 (fun c hc => (hlen' c hc).1) (fun i c hc j v hj => by
        have h1 := (cells_of (hall i c hc).1).2 j v hj
        obtain ⟨ab, ao, asp⟩ := a
        simp only at hsp; subst hsp
        rw [add_lit, add_lit] at h1
        rw [add_lit, Nat.zero_add, ← Nat.add_assoc]; exact h1) i v hv
      rw [Nat.zero_mul, Nat.zero_add] at this
      exact this
    · simp [Sl.blk] at hb
      subst hb
      have : 0 < len := by
        rw [← hCS]; exact List.length_pos_iff.2 hne
      exact (hspot this).2
end
end Go.Proofs.Ytoccbnhahaoeiaa.V
namespace Go.Proofs.Ytoccbnhahaoeiaa.V.S
open Go Go.Proofs.Ytoccbnhahaoeiaa.V
set_option linter.unusedVariables false
set_option linter.unusedSimpArgs false
abbrev W64 (n : Int) : Prop := -9223372036854775808 ≤ n ∧ n < 9223372036854775808
abbrev CelOk (c : Cel) : Prop := W64 c.View ∧ W64 c.Start ∧ c.Key.size ≤ maxLen
section
variable {T : Type} {enc : TypeId × Value → T} {w : World} {base : Nat} {spare : Nat → Bool} {held : Bool} {fuel : Nat}
theorem gen_open {α : Type} (f : α → List Value) (ok : α → Prop) {t e : TypeId} {k : Nat} {v : Value} {y : DataW T × List MemPlace} (hf : ∀ x, (f x).length = k) (ht : PP.underlying t = some (.slice e)) (hk : PP.cellsOf e = k) (hk0 : 0 < k) (h : DataW.trod enc PP w base spare held fuel t [v] = some y)
    (hG : ∀ n cs y, DataW.trod enc PP w base spare held n e cs = some y → cs.length = k → ∃ x, cs = f x ∧ ok x) :
    ∃ (s : Sl) (L : List α), v = s.enc ∧ Reads w.heap s k (L.flatMap f) ∧ s.len ≤ s.cap ∧ (L ≠ [] → ∀ b, s.blk = some b → b < w.heap.size) ∧ (∀ x ∈ L, ok x) ∧ L.length ≤ 9223372036854775807 := by
  obtain ⟨s, h1, h2, h3, CS, h4, h5, h6, h7⟩ := open_slice (fun cs => ∃ x : α, cs = f x ∧ ok x) ht hk hk0 h fun n cs y hy hl => hG n cs y hy hl
  have : ∀ (L : List (List Value)), (∀ c ∈ L, c.length = k ∧ ∃ x : α, c = f x ∧ ok x) → ∃ S : List α, L = S.map f ∧ ∀ x ∈ S, ok x := fun L => by
    induction L with
    | nil => intro _; exact ⟨[], rfl, fun n hn => by cases hn⟩
    | cons c r ih =>
      intro hL
      obtain ⟨E, h1, h2⟩ := ih fun c hc => hL c (List.mem_cons_of_mem _ hc)
      obtain ⟨_, n, rfl, hn⟩ := hL c (by simp)
      refine ⟨n :: E, by rw [h1]; rfl, fun m hm => ?_⟩
      rcases List.mem_cons.1 hm with e | e
      · subst e; exact hn
      · exact h2 m e
  obtain ⟨S, rfl, hS⟩ := this CS h5
  have hr : Reads w.heap s k (S.flatMap f) := by rw [List.flatMap_def]; exact h6
  refine ⟨s, S, h1, hr, h2, fun hn b hb => h7 (by simpa using hn) b hb, hS, ?_⟩
  have := rd_len hf hk0 hr
  simp only [maxLen] at h3; omega
theorem list4 {β : Type} : ∀ {l : List β}, l.length = 4 → ∃ a b c d, l = [a, b, c, d]
  | [a, b, c, d], _ => ⟨a, b, c, d, rfl⟩
theorem agg_open {cs : List Value} {y : DataW T × List MemPlace} (h : DataW.trod enc PP w base spare held fuel tn_api_Agg cs = some y) (hl : cs.length = 4) : ∃ x : S_api_Agg, cs = x.cells ∧ W64 x.Count ∧ W64 x.Sum ∧ W64 x.Min ∧ W64 x.Max := by
  obtain ⟨xs, n, _, _, _, hlen, hf⟩ := DataW.trod_struct ut_api_Agg h
  have hlen4 : xs.length = 4 := hlen
  have k2 : PP.cellsOf 2 = 1 := by kernel_rfl
  obtain ⟨c0, c1, c2, c3, rfl⟩ := list4 hl
  obtain ⟨y0, y1, y2, y3, rfl⟩ := list4 hlen4
  have f0 : DataW.trod enc PP w base spare held n 2 (([c0, c1, c2, c3].drop 0).take (PP.cellsOf 2)) = some y0 := hf 0 _ rfl
  have f1 : DataW.trod enc PP w base spare held n 2 (([c0, c1, c2, c3].drop 1).take (PP.cellsOf 2)) = some y1 := hf 1 _ rfl
  have f2 : DataW.trod enc PP w base spare held n 2 (([c0, c1, c2, c3].drop 2).take (PP.cellsOf 2)) = some y2 := hf 2 _ rfl
  have f3 : DataW.trod enc PP w base spare held n 2 (([c0, c1, c2, c3].drop 3).take (PP.cellsOf 2)) = some y3 := hf 3 _ rfl
  rw [k2] at f0 f1 f2 f3
  simp only [List.drop_zero, List.drop_succ_cons, List.take_succ_cons, List.take_zero] at f0 f1 f2 f3
  obtain ⟨m0, e0, _, w0⟩ := DataW.trod_int Try.underlying2 f0
  obtain ⟨m1, e1, _, w1⟩ := DataW.trod_int Try.underlying2 f1
  obtain ⟨m2, e2, _, w2⟩ := DataW.trod_int Try.underlying2 f2
  obtain ⟨m3, e3, _, w3⟩ := DataW.trod_int Try.underlying2 f3
  simp only [List.cons.injEq, and_true] at e0 e1 e2 e3
  subst e0; subst e1; subst e2; subst e3
  exact ⟨⟨m0, m1, m2, m3⟩, rfl, i64_of w0, i64_of w1, i64_of w2, i64_of w3⟩
theorem list3 {β : Type} : ∀ {l : List β}, l.length = 3 → ∃ a b c, l = [a, b, c]
  | [a, b, c], _ => ⟨a, b, c, rfl⟩
theorem cell_open {cs : List Value} {y : DataW T × List MemPlace} (h : DataW.trod enc PP w base spare held fuel tn_api_Cell cs = some y) (hl : cs.length = 3) :
    ∃ c : Cel, cs = c.cells ∧ CelOk c := by
  obtain ⟨xs, n, _, _, _, hlen, hf⟩ := DataW.trod_struct ut_api_Cell h
  have hlen3 : xs.length = 3 := hlen
  have k3 : PP.cellsOf 3 = 1 := by kernel_rfl
  have k9 : PP.cellsOf 9 = 1 := by kernel_rfl
  have k2 : PP.cellsOf 2 = 1 := by kernel_rfl
  obtain ⟨c0, c1, c2, rfl⟩ := list3 hl
  obtain ⟨y0, y1, y2, rfl⟩ := list3 hlen3
  have f0 : DataW.trod enc PP w base spare held n 3 (([c0, c1, c2].drop 0).take (PP.cellsOf 3)) = some y0 := hf 0 _ rfl
  have f1 : DataW.trod enc PP w base spare held n 9 (([c0, c1, c2].drop 1).take (PP.cellsOf 9)) = some y1 := hf 1 _ rfl
  have f2 : DataW.trod enc PP w base spare held n 2 (([c0, c1, c2].drop 2).take (PP.cellsOf 2)) = some y2 := hf 2 _ rfl
  rw [k3] at f0
  rw [k9] at f1
  rw [k2] at f2
  simp only [List.drop_zero, List.drop_succ_cons, List.take_succ_cons, List.take_zero] at f0 f1 f2
  obtain ⟨m0, e0, _, w0⟩ := DataW.trod_int Try.underlying3 f0
  obtain ⟨s1, e1, _, w1⟩ := DataW.trod_string Try.underlying9 f1
  obtain ⟨m2, e2, _, w2⟩ := DataW.trod_int Try.underlying2 f2
  simp only [List.cons.injEq, and_true] at e0 e1 e2
  subst e0; subst e1; subst e2
  exact ⟨⟨m0, s1, m2⟩, rfl, i64_of w0, i64_of w2, w1⟩
theorem ints_open {v : Value} {y : DataW T × List MemPlace} (h : DataW.trod enc PP w base spare held fuel tn_Slint [v] = some y) :
    ∃ (s : Sl) (L : List Int), v = s.enc ∧ Reads w.heap s 1 (L.flatMap cI) ∧ s.len ≤ s.cap ∧ (L ≠ [] → ∀ b, s.blk = some b → b < w.heap.size) ∧ (∀ x ∈ L, W64 x) ∧ L.length ≤ 9223372036854775807 :=
  gen_open cI W64 cI_len ut_Slint (show PP.cellsOf 3 = 1 from by kernel_rfl) (by omega) h fun n cs y hy _ => by
    obtain ⟨m, e1, _, e2⟩ := DataW.trod_int Try.underlying3 hy
    exact ⟨m, e1, i64_of e2⟩
theorem cells_open {v : Value} {y : DataW T × List MemPlace} (h : DataW.trod enc PP w base spare held fuel tn_Slapi_Cell [v] = some y) :
    ∃ (s : Sl) (L : List Cel), v = s.enc ∧ Reads w.heap s 3 (L.flatMap S_api_Cell.cells) ∧ s.len ≤ s.cap ∧ (L ≠ [] → ∀ b, s.blk = some b → b < w.heap.size) ∧ (∀ x ∈ L, CelOk x) ∧ L.length ≤ 9223372036854775807 :=
  gen_open S_api_Cell.cells CelOk (fun _ => rfl) ut_Slapi_Cell (show PP.cellsOf tn_api_Cell = 3 from by kernel_rfl) (by omega) h fun n cs y hy hl => cell_open hy hl
theorem list15 {β : Type} : ∀ {l : List β}, l.length = 15 → ∃ c0 c1 c2 c3 c4 c5 c6 c7 c8 c9 c10 c11 c12 c13 c14, l = [c0, c1, c2, c3, c4, c5, c6, c7, c8, c9, c10, c11, c12, c13, c14]
  | [c0, c1, c2, c3, c4, c5, c6, c7, c8, c9, c10, c11, c12, c13, c14], _ => ⟨c0, c1, c2, c3, c4, c5, c6, c7, c8, c9, c10, c11, c12, c13, c14, rfl⟩
theorem list8 {β : Type} : ∀ {l : List β}, l.length = 8 → ∃ a b c d e f g h, l = [a, b, c, d, e, f, g, h]
  | [a, b, c, d, e, f, g, h], _ => ⟨a, b, c, d, e, f, g, h, rfl⟩
theorem step_len (y : St) : y.x.cells.length = 15 := rfl
theorem step_open {cs : List Value} {y : DataW T × List MemPlace} (h : DataW.trod enc PP w base spare held fuel tn_spatelaw7_Step cs = some y) (hl : cs.length = 15) : ∃ x : St, cs = x.x.cells ∧ StOk w.heap x := by
  obtain ⟨xs, n, _, _, _, hlen, hf⟩ := DataW.trod_struct ut_spatelaw7_Step h
  have hlen8 : xs.length = 8 := hlen
  have k3 : PP.cellsOf 3 = 1 := by kernel_rfl
  have kc : PP.cellsOf tn_api_Cell = 3 := by kernel_rfl
  have ka : PP.cellsOf tn_api_Agg = 4 := by kernel_rfl
  have kl : PP.cellsOf tn_Slapi_Cell = 1 := by kernel_rfl
  have ki : PP.cellsOf tn_Slint = 1 := by kernel_rfl
  obtain ⟨c0, c1, c2, c3, c4, c5, c6, c7, c8, c9, c10, c11, c12, c13, c14, rfl⟩ := list15 hl
  obtain ⟨y0, y1, y2, y3, y4, y5, y6, y7, rfl⟩ := list8 hlen8
  have f0 : DataW.trod enc PP w base spare held n 3 (([c0, c1, c2, c3, c4, c5, c6, c7, c8, c9, c10, c11, c12, c13, c14].drop 0).take (PP.cellsOf 3)) = some y0 := hf 0 _ rfl
  rw [k3] at f0
  have f1 : DataW.trod enc PP w base spare held n 3 (([c0, c1, c2, c3, c4, c5, c6, c7, c8, c9, c10, c11, c12, c13, c14].drop 1).take (PP.cellsOf 3)) = some y1 := hf 1 _ rfl
  rw [k3] at f1
  have f2 : DataW.trod enc PP w base spare held n tn_api_Cell (([c0, c1, c2, c3, c4, c5, c6, c7, c8, c9, c10, c11, c12, c13, c14].drop 2).take (PP.cellsOf tn_api_Cell)) = some y2 := hf 2 _ rfl
  rw [kc] at f2
  have f3 : DataW.trod enc PP w base spare held n tn_api_Agg (([c0, c1, c2, c3, c4, c5, c6, c7, c8, c9, c10, c11, c12, c13, c14].drop 5).take (PP.cellsOf tn_api_Agg)) = some y3 := hf 3 _ rfl
  rw [ka] at f3
  have f4 : DataW.trod enc PP w base spare held n tn_Slapi_Cell (([c0, c1, c2, c3, c4, c5, c6, c7, c8, c9, c10, c11, c12, c13, c14].drop 9).take (PP.cellsOf tn_Slapi_Cell)) = some y4 := hf 4 _ rfl
  rw [kl] at f4
  have f5 : DataW.trod enc PP w base spare held n tn_Slint (([c0, c1, c2, c3, c4, c5, c6, c7, c8, c9, c10, c11, c12, c13, c14].drop 10).take (PP.cellsOf tn_Slint)) = some y5 := hf 5 _ rfl
  rw [ki] at f5
  have f6 : DataW.trod enc PP w base spare held n tn_api_Cell (([c0, c1, c2, c3, c4, c5, c6, c7, c8, c9, c10, c11, c12, c13, c14].drop 11).take (PP.cellsOf tn_api_Cell)) = some y6 := hf 6 _ rfl
  rw [kc] at f6
  have f7 : DataW.trod enc PP w base spare held n 3 (([c0, c1, c2, c3, c4, c5, c6, c7, c8, c9, c10, c11, c12, c13, c14].drop 14).take (PP.cellsOf 3)) = some y7 := hf 7 _ rfl
  rw [k3] at f7
  simp only [List.drop_zero, List.drop_succ_cons, List.take_succ_cons, List.take_zero] at f0 f1 f2 f3 f4 f5 f6 f7
  obtain ⟨m0, e0, _, w0⟩ := DataW.trod_int Try.underlying3 f0
  obtain ⟨m1, e1, _, w1⟩ := DataW.trod_int Try.underlying3 f1
  obtain ⟨x2, e2, w2⟩ := cell_open f2 rfl
  obtain ⟨x3, e3, w3⟩ := agg_open f3 rfl
  obtain ⟨s4, L4, e4, r4, _, b4, o4, _⟩ := cells_open f4
  obtain ⟨s5, L5, e5, r5, _, b5, o5, _⟩ := ints_open f5
  obtain ⟨x6, e6, w6⟩ := cell_open f6 rfl
  obtain ⟨m7, e7, _, w7⟩ := DataW.trod_int Try.underlying3 f7
  refine ⟨⟨⟨m0, m1, x2, x3, s4, s5, x6, m7⟩, L5, L4⟩, ?_, ⟨r5, b5, o5, r4, b4, o4, i64_of w0, i64_of w1, i64_of w7, w2, w3, w6⟩⟩
  have : [c0, c1, c2, c3, c4, c5, c6, c7, c8, c9, c10, c11, c12, c13, c14] = [c0] ++ [c1] ++ [c2, c3, c4] ++ [c5, c6, c7, c8] ++ [c9] ++ [c10] ++ [c11, c12, c13] ++ [c14] := rfl
  rw [this, e0, e1, e2, e3, e4, e5, e6, e7]; rfl
theorem steps_open {v : Value} {y : DataW T × List MemPlace} (h : DataW.trod enc PP w base spare held fuel tn_Slspatelaw7_Step [v] = some y) :
    ∃ (s : Sl) (L : List St), v = s.enc ∧ Reads w.heap s 15 (L.flatMap fun y => y.x.cells) ∧ s.len ≤ s.cap ∧ (L ≠ [] → ∀ b, s.blk = some b → b < w.heap.size) ∧ (∀ x ∈ L, StOk w.heap x) ∧ L.length ≤ 9223372036854775807 :=
  gen_open (fun y : St => y.x.cells) (StOk w.heap) step_len ut_Slspatelaw7_Step (show PP.cellsOf tn_spatelaw7_Step = 15 from by kernel_rfl) (by omega) h fun n cs y hy hl => step_open hy hl
end
end Go.Proofs.Ytoccbnhahaoeiaa.V.S
namespace Go.Proofs.Ytoccbnhahaoeiaa.V.S
open Go Go.Proofs.Ytoccbnhahaoeiaa.V
set_option linter.unusedVariables false
set_option linter.unusedSimpArgs false
set_option maxRecDepth 20000
def cellM (n : Nat) : Cel := ⟨0, ⟨#[UInt8.ofNat (97 + n / 160000 % 20), UInt8.ofNat (97 + n / 8000 % 20), UInt8.ofNat (97 + n / 400 % 20), UInt8.ofNat (97 + n / 20 % 20)]⟩, ((n % 20 : Nat) : Int)⟩
theorem u8lt {x y : Nat} (hx : x < 20) (hy : y < 20) : (UInt8.ofNat (97 + x) < UInt8.ofNat (97 + y)) ↔ x < y := by
  rw [UInt8.lt_iff_toNat_lt]
  simp
  omega
theorem cb_lt {x y : Nat} (hx : x < 20) (hy : y < 20) (h : x < y) (A B : List UInt8) : Lib.compareBytes (UInt8.ofNat (97 + x) :: A) (UInt8.ofNat (97 + y) :: B) = -1 := by
  simp only [Lib.compareBytes]
  rw [if_pos ((u8lt hx hy).2 h)]
theorem cb_eq {x y : Nat} (h : x = y) (A B : List UInt8) : Lib.compareBytes (UInt8.ofNat (97 + x) :: A) (UInt8.ofNat (97 + y) :: B) = Lib.compareBytes A B := by
  subst h
  simp only [Lib.compareBytes, u8_irr, if_false]
theorem cell_lt {a b : Nat} (h : a < b) (hb : b < 3200000) : cmpC (cellM a) (cellM b) = -1 := by
  rw [cC_lt]
  refine .inr ⟨rfl, ?_⟩
  show Lib.compareBytes [UInt8.ofNat (97 + a / 160000 % 20), UInt8.ofNat (97 + a / 8000 % 20), UInt8.ofNat (97 + a / 400 % 20), UInt8.ofNat (97 + a / 20 % 20)] [UInt8.ofNat (97 + b / 160000 % 20), UInt8.ofNat (97 + b / 8000 % 20), UInt8.ofNat (97 + b / 400 % 20), UInt8.ofNat (97 + b / 20 % 20)] = -1 ∨ ([UInt8.ofNat (97 + a / 160000 % 20), UInt8.ofNat (97 + a / 8000 % 20), UInt8.ofNat (97 + a / 400 % 20), UInt8.ofNat (97 + a / 20 % 20)] = [UInt8.ofNat (97 + b / 160000 % 20), UInt8.ofNat (97 + b / 8000 % 20), UInt8.ofNat (97 + b / 400 % 20), UInt8.ofNat (97 + b / 20 % 20)] ∧ ((a % 20 : Nat) : Int) < ((b % 20 : Nat) : Int))
  have ka := Nat.mod_lt (a / 160000) (show 20 > 0 by omega)
  by_cases e1 : a / 160000 % 20 = b / 160000 % 20
  · rw [cb_eq e1]
    by_cases e2 : a / 8000 % 20 = b / 8000 % 20
    · rw [cb_eq e2]
      by_cases e3 : a / 400 % 20 = b / 400 % 20
      · rw [cb_eq e3]
        by_cases e4 : a / 20 % 20 = b / 20 % 20
        · rw [e1, e2, e3, e4]; exact .inr ⟨rfl, by omega⟩
        · exact .inl (cb_lt (by omega) (by omega) (by omega) _ _)
      · exact .inl (cb_lt (by omega) (by omega) (by omega) _ _)
    · exact .inl (cb_lt (by omega) (by omega) (by omega) _ _)
  · exact .inl (cb_lt (by omega) (by omega) (by omega) _ _)
end Go.Proofs.Ytoccbnhahaoeiaa.V.S
namespace Go.Proofs.Ytoccbnhahaoeiaa.V.S
open Go Go.Proofs.Ytoccbnhahaoeiaa.V
set_option linter.unusedVariables false
set_option linter.unusedSimpArgs false
set_option maxRecDepth 20000
theorem step_at {h0 h : H} {x0 : Sl} {L : List St} {i : Nat} {y : St} {n : Nat} {S : SL} {slots : Nat} {R : Nat → Prop} {ep : Int} {Q : Int → H → Prop} (rd : Reads h0 x0 15 (L.flatMap fun y => y.x.cells)) (e : Ext h0 h) (hy : L[i]? = some y) (ok : StOk h0 y) (s : SH h n S slots R) (hR : ∀ b, h.size ≤ b → R b) (hR0 : ∀ b, b < h0.size → ¬ R b)
    (k : ∀ h', SH h' n (applyM S slots ep y).2 slots R → SOnly R h h' → Q (applyM S slots ep y).1 h') : idxA x0 (i : Int) 15 fun a => ld_S_spatelaw7_Step h a fun y => F.spatelaw7_apply (some ⟨n, 0, none⟩) ep y h Q := by
  obtain ⟨p, p1, p2, p3⟩ := rd_at (f := fun y : St => y.x.cells) step_len (by omega) (rd.ext e) hy
  have hl := rd_len (f := fun y : St => y.x.cells) step_len (by omega) rd
  refine idxR_of (i := i) p1 (by have := (List.getElem?_eq_some_iff.1 hy).1; omega) rfl ⟨y.x, p3, ?_⟩
  exact apply_spec s hR (ok.re.ext e) (fun hne b hb => ⟨by have := ok.be hne b hb; have := e.size; omega, hR0 b (ok.be hne b hb)⟩) k
end Go.Proofs.Ytoccbnhahaoeiaa.V.S
namespace Go.Proofs.Ytoccbnhahaoeiaa.V
open Go
set_option linter.unusedVariables false
set_option linter.unusedSimpArgs false
abbrev cS8 (s : Sl) : List Value := [s.enc]
theorem cS8_len (s : Sl) : (cS8 s).length = 1 := rfl
theorem own_typ {h h' : H} {s r : Sl} {e e' : TypeId} {k k' : Nat} {cs ds : List Value} (w : Owns h r e k cs) (o : Only (fun b => s.blk = some b) h h') (ws : Owns h s e' k' ds) (he : e ≠ e') : Owns h' r e k cs := w.only o fun y hy hb => by
  obtain ⟨_, ⟨q1, q2, q3⟩ | ⟨b', c', q1, q2, _⟩⟩ := w
  · simp [Sl.blk, q1] at hy
  · simp [Sl.blk, q1] at hy
    subst hy
    exact own_neG ws q2 (fun e => he e.symm) hb
theorem put_at {α : Type} {f : α → List Value} {kk : Nat} {e : TypeId} {h : H} {s : Sl} {D : List α} {i : Nat} {x : α} {K : H → Prop} (hf : ∀ x, (f x).length = kk) (hk : 0 < kk) (w : Owns h s e kk (D.flatMap f)) (hi : i < D.length)
    (k : ∀ h', Owns h' s e kk ((D.set i x).flatMap f) → Only (fun b => s.blk = some b) h h' → K h') : idxA s (i : Int) kk fun a => stH h a (f x) K := by
  obtain ⟨b, p1, p2⟩ := own_at hf hk w (i := i) (x := D[i]) (List.getElem?_eq_getElem hi)
  have hl := own_len hf hk w
  refine idxA_of (i := i) p1 (by rw [hl]; exact hi) rfl ?_
  exact own_setAt (i := i) (x := x) hf w p1 hi fun h' w' o _ => k h' w' o
theorem tab_at {hh : H} {s : Sl} {ss : List Sl} (w : Reads hh s 1 (ss.flatMap cS8)) {i : Nat} {x : Sl} (hs : ss[i]? = some x) {K : Sl → Prop} (k : K x) : idxA s (i : Int) 1 fun a => ldL hh a K := by
  obtain ⟨q, r1, r2, r3⟩ := rd_at cS8_len (by omega) w hs
  have hl := rd_len cS8_len (by omega) w
  exact idxR_of (i := i) r1 (by have := (List.getElem?_eq_some_iff.1 hs).1; omega) rfl ((ldL_iff r3.one).2 k)
/-- Lists that were told, each in memory of its own, newer than a heap. -/
structure LB {α : Type} (f : α → List Value) (kk : Nat) (e : TypeId) (base h : H) (Z : List (Sl × List α)) : Prop where
  own : ∀ p ∈ Z, Owns h p.1 e kk (p.2.flatMap f)
  ap : Z.Pairwise fun p q => ∀ b, p.1.blk = some b → q.1.blk ≠ some b
  mine : ∀ p ∈ Z, Mine base p.1
section
variable {α : Type} {f : α → List Value} {kk : Nat} {e : TypeId} {base h h' : H} {Z : List (Sl × List α)}
theorem LB.nil : LB f kk e base h [] := ⟨(fun p hp => by cases hp), List.Pairwise.nil, (fun p hp => by cases hp)⟩
theorem LB.ext (v : LB f kk e base h Z) (x : Ext h h') : LB f kk e base h' Z := ⟨fun p hp => (v.own p hp).ext x, v.ap, v.mine⟩
theorem LB.typ (v : LB f kk e base h Z) {s : Sl} {e' : TypeId} {k' : Nat} {ds : List Value} (o : Only (fun b => s.blk = some b) h h') (ws : Owns h s e' k' ds) (he : e ≠ e') : LB f kk e base h' Z := ⟨fun p hp => own_typ (v.own p hp) o ws he, v.ap, v.mine⟩
theorem LB.add (v : LB f kk e base h Z) (eb : Ext base h) (x : Ext h h') {s : Sl} {R : List α} (w : Owns h' s e kk (R.flatMap f)) (m : Mine h s) : LB f kk e base h' (Z ++ [(s, R)]) := by
  refine ⟨fun p hp => ?_, List.pairwise_append.2 ⟨v.ap, List.pairwise_singleton _ _, fun p hp q hq b hb hb2 => ?_⟩, fun p hp => ?_⟩
  · rcases List.mem_append.1 hp with hp | hp
    · exact (v.own p hp).ext x
    · obtain rfl := List.mem_singleton.1 hp; exact w
  · obtain rfl := List.mem_singleton.1 hq
    have h1 := (v.own p hp).blk_lt hb
    have h2 := m b hb2
    omega
  · rcases List.mem_append.1 hp with hp | hp
    · exact v.mine p hp
    · obtain rfl := List.mem_singleton.1 hp; exact m.older eb
theorem LB.pa (v : LB f kk e base h Z) (d : Sl × List α) : PA f kk e Z.length h h (fun j => (Z.getD j d).1) (fun j => (Z.getD j d).2) := by
  have g : ∀ i, i < Z.length → Z.getD i d ∈ Z := fun i hi => by simp [hi]
  have hp := List.pairwise_iff_getElem.1 v.ap
  refine ⟨fun i hi => v.own _ (g i hi), fun i j hi hj hij b hb => ?_, .refl _⟩
  have gi : Z.getD i d = Z[i] := by simp [hi]
  have gj : Z.getD j d = Z[j] := by simp [hj]
  rcases Nat.lt_or_gt_of_ne hij with h | h
  · have := hp i j hi hj h b
    rw [gi] at hb; rw [gj]; exact this hb
  · have := hp j i hj hi h b
    rw [gi] at hb; rw [gj]; exact fun h2 => this h2 hb
/-- The blocks of lists that were told are written: what is of another kind stays. -/
theorem LB.oth (v : LB f kk e base h Z) (d : Sl × List α) (o : Only (fun b => ∃ i, i < Z.length ∧ (Z.getD i d).1.blk = some b) h h') {s : Sl} {e' : TypeId} {k' : Nat} {cs : List Value} (w : Owns h s e' k' cs) (he : e' ≠ e) : Owns h' s e' k' cs :=
  (v.pa d).other o w he
end
end Go.Proofs.Ytoccbnhahaoeiaa.V
namespace Go.Proofs.Ytoccbnhahaoeiaa.V.S
open Go Go.Proofs.Ytoccbnhahaoeiaa.V
set_option linter.unusedVariables false
set_option linter.unusedSimpArgs false
set_option maxRecDepth 20000
theorem SH.turn {h : H} {n : Nat} {S : SL} {slots : Nat} {R R' : Nat → Prop} (s : SH h n S slots R) (hr : ∀ b, b < h.size → R b → R' b) : SH h n S slots R' := by
  obtain ⟨tn, rs, es, T, Z, hZ, z⟩ := s
  exact ⟨tn, rs, es, T, Z, hZ, z.turn (fun r hr h => h) hr⟩
theorem own_nsh {h : H} {t : Sl} {e : TypeId} {k : Nat} {cs : List Value} (w : Owns h t e k cs) (he : ¬ ShE e) {b : Nat} (hb : t.blk = some b) : ¬ ShTy h b := by
  obtain ⟨_, ⟨q1, _, _⟩ | ⟨b', c', q1, q2, _⟩⟩ := w
  · simp [Sl.blk, q1] at hb
  · simp [Sl.blk, q1] at hb
    subst hb
    exact not_sh q2 he
theorem own_diff {h : H} {s r : Sl} {e e' : TypeId} {k k' : Nat} {cs ds : List Value} (w : Owns h r e k cs) (ws : Owns h s e' k' ds) (he : e ≠ e') {b : Nat} (hb : r.blk = some b) : s.blk ≠ some b := by
  obtain ⟨_, ⟨q1, _, _⟩ | ⟨b', c', q1, q2, _⟩⟩ := w
  · simp [Sl.blk, q1] at hb
  · simp [Sl.blk, q1] at hb
    subst hb
    exact own_neG ws q2 (fun e => he e.symm)
theorem slrow_sh : ¬ ShE tn_Slapi_Row := by unfold ShE; decide
abbrev markR (k : Nat) : Rw := ⟨zeroC, ⟨(k : Int), 0, 0, 0⟩⟩
theorem set_fill {α : Type} {f : Nat → α} {D : List α} {i : Nat} (hi : i < D.length) : ((List.range i).map f ++ D.drop i).set i (f i) = (List.range (i + 1)).map f ++ D.drop (i + 1) := by
  rw [List.set_append_right _ _ (by simp), List.drop_eq_getElem_cons hi, List.range_succ, List.map_append, List.append_assoc]
  generalize D[i] = x
  generalize D.drop (i + 1) = r
  simp
theorem nb {b : Bool} (h : b = true) {P : Prop} : (!b) = true → P := fun g => by subst h; cases g
theorem fill_full {α : Type} {f : Nat → α} {D : List α} : (List.range D.length).map f ++ D.drop D.length = (List.range D.length).map f := by simp
/-- Both lists are written over. -/
theorem own_loops {Q : Bool → H → Prop} {C1 : Sl → Option Addr → Option Addr → Sl → Int → H → Prop} {x0 x7 A bb M : Sl} {x3 x5 : Option Addr} {x8 : Int} {h : H} {D R : List Rw} {n : Nat} (wm : Owns h M tn_api_Row 7 (D.flatMap cW)) (hD : D.length = n + 2) (hn : n ≤ 2000000) (hR : R.length = n)
    (rel : (A.ptr = M.ptr ∧ A.cap = M.cap ∧ A.len = n) ∨ (Owns h A tn_api_Row 7 (R.flatMap cW) ∧ ∀ b, M.blk = some b → A.blk ≠ some b))
    (k : ∀ h', Owns h' A tn_api_Row 7 (((List.range n).map markR).flatMap cW) → Only (fun b => A.blk = some b ∨ M.blk = some b) h h' → F.spatelaw7_all x3 0 h' fun r35 h34 =>
      F.spatelaw7_SameRows r35 bb h34 fun r37 h36 => ((!r37) = true → Q false h36) ∧ ((!r37) = false → F.spatelaw7_ShardOwn.j4 Q C1 x0 x3 x5 x7 x8 h36)) :
    ∃ m, F.spatelaw7_ShardOwn.l6 Q C1 m x0 x3 x5 x7 x8 A bb M 0 h := by
  have L7 : ∀ (d i : Nat) (hh : H) (B : List Rw), B.length = n → i ≤ n → n - i < d → Owns hh A tn_api_Row 7 (((List.range i).map markR ++ B.drop i).flatMap cW) → Only (fun b => A.blk = some b ∨ M.blk = some b) h hh → F.spatelaw7_ShardOwn.l7 Q C1 d x0 x3 x5 x7 x8 A bb (i : Int) hh := by
    intro d
    induction d with
    | zero => intro i _ _ _ _ hm; omega
    | succ d ih =>
      intro i hh B hB hi hm wa o
      have hl := own_len cW_len (by omega) wa
      have hlen : ((List.range i).map markR ++ B.drop i).length = n := by simp; omega
      rw [hlen] at hl
      unfold F.spatelaw7_ShardOwn.l7
      rw [hl]
      refine ⟨fun gg => ?_, fun gg => ?_⟩
      · have gg := of_decide_eq_true gg
        refine put_at (f := cW) (x := markR i) cW_len (by omega) wa (by omega) fun h2 w2 o2 => ?_
        rw [set_fill (by omega)] at w2
        rw [w64s (by omega)]
        exact ih (i + 1) h2 B hB (by omega) (by omega) w2 (o.trans o2 fun m hm hb => .inl hb)
      · have gg := of_decide_eq_false gg
        have hin : i = B.length := by omega
        rw [hin, fill_full, hB] at wa
        exact k hh wa o
  have L6 : ∀ (d i : Nat) (hh : H), i ≤ n + 2 → n + 2 - i < d → Owns hh M tn_api_Row 7 (((List.range i).map markR ++ D.drop i).flatMap cW) → Only (fun b => M.blk = some b) h hh → F.spatelaw7_ShardOwn.l6 Q C1 d x0 x3 x5 x7 x8 A bb M (i : Int) hh := by
    intro d
    induction d with
    | zero => intro i _ _ hm; omega
    | succ d ih =>
      intro i hh hi hm wa o
      have hl := own_len cW_len (by omega) wa
      have hlen : ((List.range i).map markR ++ D.drop i).length = n + 2 := by simp; omega
      rw [hlen] at hl
      unfold F.spatelaw7_ShardOwn.l6
      rw [hl]
      refine ⟨fun gg => ?_, fun gg => ?_⟩
      · have gg := of_decide_eq_true gg
        refine put_at (f := cW) (x := markR i) cW_len (by omega) wa (by omega) fun h2 w2 o2 => ?_
        rw [set_fill (by omega)] at w2
        rw [w64s (by omega)]
        exact ih (i + 1) h2 (by omega) (by omega) w2 (o.trans o2 fun m hm hb => hb)
      · have gg := of_decide_eq_false gg
        have o' : Only (fun b => A.blk = some b ∨ M.blk = some b) h hh := (Only.refl _).trans o fun m hm hb => .inr hb
        rcases rel with ⟨q1, q2, q3⟩ | ⟨q1, q2⟩
        · have wA := own_pre (a := A) (n := n) cW_len (by omega) wa q1 q2 q3 (by omega)
          exact ⟨n + 1, L7 _ 0 hh (((List.range i).map markR ++ D.drop i).take n) (by rw [List.length_take]; omega) (by omega) (by omega) (by simpa using wA) o'⟩
        · have wA := q1.only o fun b hb hb2 => q2 b hb2 hb
          exact ⟨n + 1, L7 _ 0 hh R hR (by omega) (by omega) (by simpa using wA) o'⟩
  exact ⟨n + 3, L6 _ 0 h (by omega) (by omega) (by simpa using wm) (Only.refl _)⟩
theorem LB.sonly {base h h' : H} {R : Nat → Prop} {Z : List (Sl × List Rw)} (v : LB cW 7 tn_api_Row base h Z) (o : SOnly R h h') : LB cW 7 tn_api_Row base h' Z := ⟨fun p hp => o.owns (v.own p hp) row_sh, v.ap, v.mine⟩
theorem ShardOwn_spec {l : Sl} {L : List St} {h : H} {Q : Bool → H → Prop} (rd : Reads h l 15 (L.flatMap fun y => y.x.cells)) (ok : ∀ y ∈ L, StOk h y) (hL : L.length ≤ 9223372036854775807) (k : ∀ h', Ext h h' → Q true h') : F.spatelaw7_ShardOwn l h Q := by
  unfold F.spatelaw7_ShardOwn
  have hl := rd_len (f := fun y : St => y.x.cells) step_len (by omega) rd
  refine New_spec (R := fun b => h.size ≤ b) (fun g => by omega) (fun b hb => hb) fun _ _ h1 ns sh1 e1 hns => ?_
  refine New_spec (R := fun b => h1.size ≤ b) (fun g => by omega) (fun b hb => hb) fun _ _ h4 nt th4 e4 hnt => ?_
  refine ⟨fun g => by simp at g, fun _ => ⟨fun g => by simp at g, fun _ => ⟨fun g => by simp at g, fun _ => ?_⟩⟩⟩
  unfold F.spatelaw7_ShardOwn.j12 F.spatelaw7_ShardOwn.j1
  refine ⟨fun g => by simp at g, fun _ => ?_⟩
  have z1 := e1.size
  have z4 := e4.size
  have e04 := e1.trans e4
  obtain ⟨RS, hRS⟩ : ∃ RS : Nat → Prop, RS = fun b => h.size ≤ b ∧ ¬ (h1.size ≤ b ∧ b < h4.size) := ⟨_, rfl⟩
  obtain ⟨RT, hRT⟩ : ∃ RT : Nat → Prop, RT = fun b => h1.size ≤ b ∧ b < h4.size := ⟨_, rfl⟩
  have s4 : SH h4 ns [] 100 RS := (sh1.turn (R' := RS) fun b hb hr => by rw [hRS]; exact ⟨hr, by omega⟩).ext e4
  have t4 : SH h4 nt [] 100 RT := th4.turn (R' := RT) fun b hb hr => by rw [hRT]; exact ⟨hr, hb⟩
  have hR : ∀ {hh : H}, Ext h4 hh → ∀ b, hh.size ≤ b → RS b := fun e b hb => by have := e.size; rw [hRS]; exact ⟨by omega, by omega⟩
  have hRT' : ∀ b, RT b → ¬ RS b := fun b hb hs => by rw [hRT] at hb; rw [hRS] at hs; exact hs.2 hb
  have hR0 : ∀ b, b < h.size → ¬ RS b := fun b hb hs => by rw [hRS] at hs; have := hs.1; omega
  -- both at the end
  have fin : ∀ (kp : Sl) (KL : List Sl) (Z : List (Sl × List Rw)) (hh : H), Ext h hh → Owns hh kp tn_Slapi_Row 1 (KL.flatMap cS8) → LB cW 7 tn_api_Row h hh Z → KL.length = 2 * Z.length → Z.length ≤ 30 → (∀ i p, Z[i]? = some p → KL[2 * i]? = some p.1 ∧ ∃ n, n ≤ 2000000 ∧ p.2 = (List.range n).map markR) → ∃ m, F.spatelaw7_ShardOwn.l10 Q m kp 0 hh := by
    intro kp KL Z hh e wk v hK hZ hz
    have hkl := own_len cS8_len (by omega) wk
    have L10 : ∀ (d j : Nat), j ≤ Z.length → Z.length - j < d → F.spatelaw7_ShardOwn.l10 Q d kp ((2 * j : Nat) : Int) hh := by
      intro d
      induction d with
      | zero => intro j _ hm; omega
      | succ d ih =>
        intro j hj hm
        unfold F.spatelaw7_ShardOwn.l10
        rw [hkl, hK]
        refine ⟨fun gg => ?_, fun gg => head_spec fun h' e' => k h' (e.trans e')⟩
        have gg := of_decide_eq_true gg
        have hjl : j < Z.length := by omega
        obtain ⟨q1, n, q3, q2⟩ := hz j Z[j] (List.getElem?_eq_getElem hjl)
        have wj := v.own Z[j] (List.getElem_mem hjl)
        rw [q2] at wj
        have hlj := own_len cW_len (by omega) wj
        rw [List.length_map, List.length_range] at hlj
        have L11 : ∀ (d2 i : Nat), i ≤ n → n - i < d2 → F.spatelaw7_ShardOwn.l11 Q (F.spatelaw7_ShardOwn.l10 Q d) d2 kp ((2 * j : Nat) : Int) (i : Int) hh := by
          intro d2
          induction d2 with
          | zero => intro i _ hm; omega
          | succ d2 ih2 =>
            intro i hi hm2
            unfold F.spatelaw7_ShardOwn.l11
            refine tab_at wk.reads q1 ?_
            rw [hlj]
            refine ⟨fun g2 => tab_at wk.reads q1 ?_, fun g2 => ?_⟩
            · have g2 := of_decide_eq_true g2
              have hx : ((List.range n).map markR)[i]? = some (markR i) := range_at _ (by omega)
              refine rowAt wj.reads hx fun a ca => ⟨markR i, ca, ?_⟩
              refine ⟨nb ((row_eq (x := markR i) (y := markR i)).2 rfl), fun _ => ?_⟩
              rw [w64s (by omega)]
              exact ih2 (i + 1) (by omega) (by omega)
            · rw [w64 (by omega) (by omega), show ((2 * j : Nat) : Int) + 2 = ((2 * (j + 1) : Nat) : Int) by omega]
              exact ih (j + 1) (by omega) (by omega)
        exact ⟨n + 1, L11 _ 0 (by omega) (by omega)⟩
    exact ⟨Z.length + 1, L10 _ 0 (by omega) (by omega)⟩
  have steps : ∀ (d i : Nat) (S : SL) (kp : Sl) (KL : List Sl) (Z : List (Sl × List Rw)) (hh : H), i ≤ L.length → L.length - i < d → SH hh ns S 100 RS → SH hh nt [] 100 RT → Ext h4 hh ∨ (Ext h hh ∧ h4.size ≤ hh.size) → Owns hh kp tn_Slapi_Row 1 (KL.flatMap cS8) → Mine h4 kp → LB cW 7 tn_api_Row h hh Z → KL.length = 2 * Z.length → Z.length = i → i ≤ 30 → (∀ i p, Z[i]? = some p → KL[2 * i]? = some p.1 ∧ ∃ n, n ≤ 2000000 ∧ p.2 = (List.range n).map markR) →
      F.spatelaw7_ShardOwn.l2 Q d l (some ⟨ns, 0, none⟩) (some ⟨nt, 0, none⟩) kp (i : Int) hh := by
    intro d
    induction d with
    | zero => intro i S kp KL Z hh _ hm; omega
    | succ d ih =>
      intro i S kp KL Z hh hi hm sh th ee wk mk v hK hZ hi30 hz
      have e : Ext h hh := by rcases ee with ee | ee; exact e04.trans ee; exact ee.1
      have es : h4.size ≤ hh.size := by rcases ee with ee | ee; exact ee.size; exact ee.2
      have hRh : ∀ {h'' : H}, hh.size ≤ h''.size → ∀ b, h''.size ≤ b → RS b := fun hs b hb => by rw [hRS]; exact ⟨by omega, by omega⟩
      have fin' : ∀ (C1 : Sl → Option Addr → Option Addr → Sl → Int → H → Prop) (x : Int), F.spatelaw7_ShardOwn.j9 Q C1 l (some ⟨ns, 0, none⟩) (some ⟨nt, 0, none⟩) kp x false hh := fun C1 x => by
        unfold F.spatelaw7_ShardOwn.j9
        exact ⟨fun g => (by cases g), fun _ => fin kp KL Z hh e wk v hK (by omega) hz⟩
      unfold F.spatelaw7_ShardOwn.l2
      rw [hl]
      refine ⟨fun gg => ?_, fun _ => fin' _ _⟩
      have gg := of_decide_eq_true gg
      by_cases g30 : i < 30
      · rw [decide_eq_true (by omega)]
        have hm' : L.length - (i + 1) < d := by omega
        have hi' : i + 1 ≤ L.length := by omega
        unfold F.spatelaw7_ShardOwn.j9 F.spatelaw7_ShardOwn.j3
        refine ⟨fun _ => ⟨by omega, ?_⟩, fun g => by cases g⟩
        obtain ⟨y, hy⟩ : ∃ y, L[i]? = some y := ⟨_, List.getElem?_eq_getElem (by omega)⟩
        refine step_at rd e hy (ok y (List.mem_of_getElem? hy)) sh (hRh (Nat.le_refl _)) hR0 fun h12 sh12 o12 => ?_
        have z12 := o12.size
        have e12 : Ext h h12 := o12.base e fun b hb => by rw [hRS] at hb; exact hb.1
        have th12 := th.keep o12 fun b hb ht hh => hRT' b hb hh.1
        have wk12 := o12.owns wk slrow_sh
        have v12 := LB.sonly v o12
        generalize (applyM S 100 (IntKind.wrap .i64 (1 + IntKind.wrap .i64 (Int.tdiv (i : Int) 5))) y).2 = S' at sh12 ⊢
        refine all_spec sh12 fun a h14 wa ma e14 => all_spec (sh12.ext e14) fun b h16 wb mb e16 => ?_
        have hal : (allS S' 0).length ≤ 1048576 := all_len sh12.ok sh12.us.1 sh12.us.2 0
        have wa16 := wa.ext e16
        refine SameRows_spec wa16.reads wb.reads (by omega) (fun _ => ⟨fun g => (by cases g), fun _ => ?_⟩) fun h => absurd rfl h
        have e126 := e14.trans e16
        refine all_spec (th12.ext e126) fun r h45 wr mr e45 => ?_
        have hrl := own_len cW_len (by omega) wr
        rw [show (allS [] 0).length = 0 from rfl] at hrl
        rw [hrl]
        refine ⟨fun g => (by simp at g), fun _ => ?_⟩
        simp only [nn_some, add_lit, Nat.zero_add, Nat.add_zero]
        have e1245 := e126.trans e45
        refine Units_spec (th12.ext e1245) ?_
        rw [show ((unitsS [] : Int) != 0) = false from rfl]
        unfold F.spatelaw7_ShardOwn.j8 F.spatelaw7_ShardOwn.j5
        refine ⟨fun g => (by cases g), fun _ => newL_of fun n18 h18 hn18 b18 e18 s18 => ?_⟩
        have e1218 := e1245.trans e18
        have hKl : KL.length ≤ 100 := by omega
        have wk18 := wk12.ext e1218
        refine app_list (f := cS8) (L := KL) (M := [a, b]) cS8_len (by omega) el_SlSlapi_Row wk18 (blk_reads b18 rfl) (fun x => one1 rfl) (by simp only [List.length_cons, List.length_nil]; omega) fun kp' h20 wk20 o20 n20 => ?_
        have z1218 := e1218.size
        have z20 := o20.size
        have v20 : LB cW 7 tn_api_Row h h20 Z := (v12.ext e1218).typ o20 wk18 (by decide)
        have sh20 : SH h20 ns S' 100 RS := (sh12.ext e1218).oth o20 wk18 slrow_sh
        have th20 : SH h20 nt [] 100 RT := (th12.ext e1218).oth o20 wk18 slrow_sh
        have wa18 := ((wa16.ext e45).ext e18)
        have wb18 := ((wb.ext e45).ext e18)
        have wa20 : Owns h20 a tn_api_Row 7 ((allS S' 0).flatMap cW) := own_typ wa18 o20 wk18 (by decide)
        have wb20 : Owns h20 b tn_api_Row 7 ((allS S' 0).flatMap cW) := own_typ wb18 o20 wk18 (by decide)
        have e20 : Ext h h20 := (e12.trans e1218).mine (fun b hb => by have := mk b hb; omega) o20
        have mk20 : Mine h4 kp' := fun x hx => by
          rcases n20 with n20 | ⟨b', q3, q4⟩
          · exact mk x (by rw [← n20]; exact hx)
          · rw [q3] at hx; cases hx; omega
        refine newL_of fun n22 h22 hn22 b22 e22 s22 => ?_
        have wa22 := wa20.ext e22
        have hla := own_len cW_len (by omega) wa22
        have r22 : Reads h22 ⟨some ⟨n22, 0, none⟩, 2, 2⟩ 7 (([⟨zeroC, zA⟩, ⟨zeroC, zA⟩] : List Rw).flatMap cW) := blk_reads b22 rfl
        refine app_of2 el_Slapi_Row wa22 r22 (fun v hv => by
          obtain ⟨x, _, hx⟩ := List.mem_flatMap.1 hv
          exact ones_S_api_Row x v hx) (by rw [hla]; show ((allS S' 0).length + 2 + ((allS S' 0).length + 2) / 4 + 256) * 64 ≤ _; omega) fun M h24 wM lM oM => ?_
        have wM' : Owns h24 M tn_api_Row 7 ((allS S' 0 ++ ([⟨zeroC, zA⟩, ⟨zeroC, zA⟩] : List Rw)).flatMap cW) := by rw [List.flatMap_append]; exact wM
        have az : ∀ b, a.blk = some b → h12.size ≤ b ∧ b < h14.size := fun x hx => ⟨ma x hx, wa.blk_lt hx⟩
        have z22 := e22.size
        have z24 : h22.size ≤ h24.size := by rcases oM with ⟨_, _, o⟩ | ⟨_, _, _, o⟩; exact o.size; exact o.size
        have mz : ∀ b, M.blk = some b → (a.blk = some b ∨ h22.size ≤ b) := fun x hx => by
          rcases oM with ⟨q1, _, o⟩ | ⟨b', q1, q2, o⟩
          · exact .inl (by rw [← hx]; simp [Sl.blk, q1])
          · simp [Sl.blk, q1] at hx; subst hx; exact .inr q2
        -- what stays while a is grown
        have o24 : Only (fun b => a.blk = some b) h22 h24 := by
          rcases oM with ⟨_, _, o⟩ | ⟨_, _, _, o⟩
          · exact o
          · exact o.only
        have rel : (a.ptr = M.ptr ∧ a.cap = M.cap ∧ a.len = (allS S' 0).length) ∨ (Owns h24 a tn_api_Row 7 ((allS S' 0).flatMap cW) ∧ ∀ b, M.blk = some b → a.blk ≠ some b) := by
          rcases oM with ⟨q1, q2, o⟩ | ⟨b', q1, q2, o⟩
          · exact .inl ⟨q1.symm, q2.symm, hla⟩
          · refine .inr ⟨wa22.ext o, fun x hx hx2 => ?_⟩
            simp [Sl.blk, q1] at hx; subst hx
            have := wa22.blk_lt hx2
            omega
        have wbn : ∀ x, b.blk = some x → a.blk ≠ some x ∧ x < h22.size := fun x hx => ⟨fun hx2 => by have := mb x hx; have := (az x hx2).2; omega, (wb20.ext e22).blk_lt hx⟩
        refine own_loops (R := allS S' 0) wM' (by simp) (by omega) rfl rel fun h30 wa30 o30 => ?_
        have P : ∀ x, (a.blk = some x ∨ M.blk = some x) → h12.size ≤ x ∧ (a.blk = some x ∨ h22.size ≤ x) := fun x hx => by
          rcases hx with hx | hx
          · exact ⟨(az x hx).1, .inl hx⟩
          · rcases mz x hx with g | g
            · exact ⟨(az x g).1, .inl g⟩
            · exact ⟨by omega, .inr g⟩
        have o2230 : Only (fun x => a.blk = some x ∨ h22.size ≤ x) h22 h30 := ((Only.refl _).trans o24 fun m hm hb => .inl hb).trans o30 fun m hm hb => (P m hb).2
        have wa24 : ∀ x, a.blk = some x → ¬ ShTy h24 x := fun x hx => by
          rcases rel with ⟨q1, q2, q3⟩ | ⟨q1, q2⟩
          · exact own_nsh wM' row_sh (by rw [← hx]; simp [Sl.blk, q1])
          · exact own_nsh q1 row_sh hx
        have keepS : ∀ {n : Nat} {S : SL} {R : Nat → Prop}, SH h22 n S 100 R → SH h30 n S 100 R := fun s => (s.oth o24 wa22 row_sh).keep o30 fun b hb ht hh => by
          rcases hh with hh | hh
          · exact wa24 _ hh ht
          · exact own_nsh wM' row_sh hh ht
        have sh30 := keepS (sh20.ext e22)
        have th30 := keepS (th20.ext e22)
        have wb30 : Owns h30 b tn_api_Row 7 ((allS S' 0).flatMap cW) := (wb20.ext e22).only o2230 fun x hx hh => by
          obtain ⟨q1, q2⟩ := wbn x hx
          rcases hh with hh | hh
          · exact q1 hh
          · omega
        have wk30 : Owns h30 kp' tn_Slapi_Row 1 ((KL ++ [a, b]).flatMap cS8) := (wk20.ext e22).only o2230 fun x hx hh => by
          rcases hh with hh | hh
          · exact own_diff (wk20.ext e22) wa22 (by decide) hx hh
          · have := (wk20.ext e22).blk_lt hx; omega
        have e30 : Ext h h30 := (e20.trans e22).step o2230 fun m hm hb => by
          rcases hb with hb | hb
          · have := (az m hb).1; have := e12.size; omega
          · have := (e20.trans e22).size; omega
        have z30 := o2230.size
        have v30 : LB cW 7 tn_api_Row h h30 (Z ++ [(a, (List.range (allS S' 0).length).map markR)]) := by
          refine ⟨fun p hp => ?_, List.pairwise_append.2 ⟨v12.ap, List.pairwise_singleton _ _, fun p hp q hq b hb hb2 => ?_⟩, fun p hp => ?_⟩
          · rcases List.mem_append.1 hp with hp | hp
            · refine ((v20.own p hp).ext e22).only o2230 fun x hx hh => ?_
              have h1 := (v12.own p hp).blk_lt hx
              rcases hh with hh | hh
              · have := (az x hh).1; omega
              · omega
            · obtain rfl := List.mem_singleton.1 hp; exact wa30
          · obtain rfl := List.mem_singleton.1 hq
            have h1 := (v12.own p hp).blk_lt hb
            have h2 := (az b hb2).1
            omega
          · rcases List.mem_append.1 hp with hp | hp
            · exact v12.mine p hp
            · obtain rfl := List.mem_singleton.1 hp
              exact fun x hx => by have := (az x hx).1; have := e12.size; omega
        refine all_spec sh30 fun c h34 wc mc e34 => SameRows_spec wc.reads (wb30.ext e34).reads (by omega) (fun _ => ⟨fun g => (by cases g), fun _ => ?_⟩) fun h => absurd rfl h
        unfold F.spatelaw7_ShardOwn.j4
        rw [w64s (by omega)]
        have z34 := e34.size
        refine ih (i + 1) S' kp' _ _ h34 hi' hm' (sh30.ext e34) (th30.ext e34) (.inr ⟨e30.trans e34, by omega⟩) (wk30.ext e34) mk20 (v30.ext e34) (by simp; omega) (by simp; omega) (by omega) fun j p hp => ?_
        rcases Nat.lt_or_ge j Z.length with hj | hj
        · rw [List.getElem?_append_left hj] at hp
          obtain ⟨q1, q2⟩ := hz j p hp
          exact ⟨by rw [List.getElem?_append_left (by omega)]; exact q1, q2⟩
        · rw [List.getElem?_append_right hj] at hp
          have : j - Z.length = 0 := by
            rcases Nat.eq_zero_or_pos (j - Z.length) with g | g
            · exact g
            · rw [List.getElem?_eq_none (by simp; omega)] at hp; cases hp
          rw [this] at hp
          cases hp
          refine ⟨?_, (allS S' 0).length, by omega, rfl⟩
          rw [List.getElem?_append_right (by omega), show 2 * j - KL.length = 0 by omega]; rfl
      · rw [decide_eq_false (by omega)]
        exact fin' _ _
  exact ⟨L.length + 1, steps _ 0 [] _ [] [] h4 (by omega) (by omega) s4 t4 (.inl (.refl _)) (Owns.nil _ _ _) (Mine.nil _ _ _) LB.nil rfl rfl (by omega) (fun i p hp => by simp at hp)⟩
end Go.Proofs.Ytoccbnhahaoeiaa.V.S
