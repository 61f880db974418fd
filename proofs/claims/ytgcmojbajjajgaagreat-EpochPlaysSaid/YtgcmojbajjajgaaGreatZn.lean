/- Maps of whole numbers to whole numbers, as functions; how the epochs of a book go on; no condition. -/
import Derived.Test.YtgcmojbajjajgaaGreatZk
namespace Go.Proofs.YtgcmojbajjajgaaGreat.V
open Go Go.Proofs.YtgcmojbajjajgaaGreat.V.N
set_option linter.unusedVariables false
set_option linter.unusedSimpArgs false
theorem getK_put {L : KL} {k e : Int} {v : Value} (s : SK L) : N.getK (putS L k v) e = if e = k then some v else N.getK L e := by
  apply Option.ext
  intro u
  rw [mem_getK (sk_putS s).nodup, mem_putS s]
  split
  · rename_i h
    subst h
    simp [eq_comm]
  · rename_i h
    rw [mem_getK s.nodup]
    simp [h]
theorem getK_del {L : KL} {k e : Int} (s : SK L) : N.getK (delS L k) e = if e = k then none else N.getK L e := by
  apply Option.ext
  intro u
  rw [mem_getK (sk_delS s).nodup, mem_delS]
  split
  · rename_i h
    subst h; simp
  · rename_i h
    rw [mem_getK s.nodup]; simp [h]
/-- A map that tells g. -/
def MI (h : H) (b : Nat) (g : Int → Option Int) : Prop := ∃ L, MS h b L ∧ ∀ e, N.getK L e = (g e).map fun v => .int .i64 v
theorem zvI : ∀ w, (zeroValue 3).run PP w = .ok (.int .i64 0) w := Tryz.zeroValue3
section
variable {h h' : H} {b : Nat} {g : Int → Option Int}
theorem MI.only {S : Nat → Prop} (m : MI h b g) (o : Only S h h') (hn : ¬ S b) : MI h' b g := by obtain ⟨L, m, e⟩ := m; exact ⟨L, m.only o hn, e⟩
theorem MI.lt (m : MI h b g) : b < h.size := by obtain ⟨L, m, e⟩ := m; exact m.lt
theorem MI.not_blk (m : MI h b g) {c : Array Value} {e : TypeId} : ¬ Blk h b c e := by obtain ⟨L, m, _⟩ := m; exact m.not_blk
theorem MI.congr {g' : Int → Option Int} (m : MI h b g) (e : ∀ x, g x = g' x) : MI h b g' := by
  have : g = g' := funext e
  exact this ▸ m
theorem makeI_of {K : Value → H → Prop} {t : TypeId} (k : ∀ b h', b = h.size → MI h' b (fun _ => none) → Ext h h' → h'.size = h.size + 1 → K (.map (some b)) h') : RunS PP (Instr.makeMap t none) h K :=
  make0_of fun b h' hb m e s => k b h' hb ⟨[], m, fun e => rfl⟩ e s
theorem lookI_of {k : Int} {K : Value → H → Prop} (m : MI h b g) (kk : K (.int .i64 ((g k).getD 0)) h) : RunS PP (Instr.lookup tn_map_int_int (.map (some b)) (.int .i64 k) false) h K := by
  obtain ⟨L, m, e⟩ := m
  refine lookS_of mt_map_int_int intT zvI m ?_
  rw [e k]
  cases hg : g k with
  | none => rw [hg] at kk; simpa using kk
  | some v => rw [hg] at kk; simpa using kk
theorem updI_of {k v : Int} {K : Unit → H → Prop} (m : MI h b g) (kk : ∀ h', MI h' b (fun x => if x = k then some v else g x) → Only (· = b) h h' → h'.size = h.size → K () h') : RunS PP (Instr.mapUpdate tn_map_int_int (.map (some b)) (.int .i64 k) (.int .i64 v)) h K := by
  obtain ⟨L, m, e⟩ := m
  refine updS_of mt_map_int_int intT m fun h' m' o s => kk h' ⟨_, m', fun x => ?_⟩ o s
  rw [getK_put m.sk]
  show _ = Option.map _ (if x = k then some v else g x)
  by_cases hx : x = k
  · rw [if_pos hx, if_pos hx]; rfl
  · rw [if_neg hx, if_neg hx]; exact e x
end
/-! ### How epochs go on -/
section
variable {B : Bk} {c : Nat}
theorem mem_heldL_iff {e : Int} (he : 1 ≤ e) : e ∈ heldL B ↔ heldB B e = true := by
  rw [mem_heldL]
  simp only [heldB, pinB, inB, Bool.or_eq_true, List.any_eq_true, decide_eq_true_eq, beq_iff_eq]
  constructor
  · rintro ⟨x, hx, h | ⟨h, _⟩⟩
    · exact .inl ⟨x, hx, h⟩
    · exact .inr ⟨x, hx, h.symm⟩
  · rintro (⟨x, hx, h⟩ | ⟨x, hx, h⟩)
    · exact ⟨x, hx, .inl h⟩
    · exact ⟨x, hx, .inr ⟨h.symm, by omega⟩⟩
theorem held_rng (o : Ok B c) {e : Int} (h : e ∈ heldL B) : 1 ≤ e ∧ e < B.now := by
  obtain ⟨x, hx, h | ⟨rfl, h⟩⟩ := mem_heldL.1 h
  · exact (o.sets x hx).2.1 e h
  · have := (o.sets x hx).2.2; omega
theorem die_rng (o : Ok B c) {e : Int} (h : e ∈ dieL B) : 1 ≤ e ∧ e < B.now := by
  obtain ⟨p, hp, rfl⟩ := List.mem_map.1 h
  exact o.die.2 p hp
theorem get_mod {α : Type} {f : α → α} {l : List α} {i j : Nat} : (l.modify i f)[j]? = if i = j then l[j]?.map f else l[j]? := by
  rw [List.getElem?_modify]
  by_cases e : i = j
  · simp [e]
  · simp [e]
theorem modify_at {α : Type} {f : α → α} {l : List α} {i : Nat} {x : α} (h : l[i]? = some x) (y : α) : y ∈ l.modify i f ↔ y = f x ∨ ∃ j, j ≠ i ∧ l[j]? = some y := by
  rw [List.mem_iff_getElem?]
  constructor
  · rintro ⟨j, hj⟩
    rw [get_mod] at hj
    by_cases e : i = j
    · subst e; rw [if_pos rfl, h] at hj; simp at hj; exact .inl hj.symm
    · rw [if_neg e] at hj; exact .inr ⟨j, fun e' => e e'.symm, hj⟩
  · rintro (rfl | ⟨j, hj, hl⟩)
    · exact ⟨i, by rw [get_mod, if_pos rfl, h]; rfl⟩
    · exact ⟨j, by rw [get_mod, if_neg (fun e => hj e.symm), hl]⟩
theorem mem_at {α : Type} {l : List α} {i : Nat} {x : α} (h : l[i]? = some x) (y : α) : y ∈ l ↔ y = x ∨ ∃ j, j ≠ i ∧ l[j]? = some y := by
  rw [List.mem_iff_getElem?]
  constructor
  · rintro ⟨j, hj⟩
    by_cases e : j = i
    · subst e; rw [h] at hj; cases hj; exact .inl rfl
    · exact .inr ⟨j, e, hj⟩
  · rintro (rfl | ⟨j, _, hl⟩)
    · exact ⟨i, h⟩
    · exact ⟨j, hl⟩
/-- What is held by the others. -/
def oth9 (B : Bk) (i : Nat) (e : Int) : Prop := ∃ j x, j ≠ i ∧ B.os[j]? = some x ∧ (e ∈ x.1 ∨ x.2 = e)
theorem heldB_iff {e : Int} : heldB B e = true ↔ ∃ x ∈ B.os, e ∈ x.1 ∨ x.2 = e := by
  simp only [heldB, pinB, inB, Bool.or_eq_true, List.any_eq_true, decide_eq_true_eq, beq_iff_eq]
  constructor
  · rintro (⟨x, hx, h⟩ | ⟨x, hx, h⟩)
    · exact ⟨x, hx, .inl h⟩
    · exact ⟨x, hx, .inr h⟩
  · rintro ⟨x, hx, h | h⟩
    · exact .inl ⟨x, hx, h⟩
    · exact .inr ⟨x, hx, h⟩
theorem held_at {i : Nat} {x : List Int × Int} (h : B.os[i]? = some x) {e : Int} : heldB B e = true ↔ (e ∈ x.1 ∨ x.2 = e) ∨ oth9 B i e := by
  rw [heldB_iff]
  constructor
  · rintro ⟨y, hy, hh⟩
    rcases (mem_at h y).1 hy with rfl | ⟨j, hj, hl⟩
    · exact .inl hh
    · exact .inr ⟨j, y, hj, hl, hh⟩
  · rintro (hh | ⟨j, y, hj, hl, hh⟩)
    · exact ⟨x, List.mem_of_getElem? h, hh⟩
    · exact ⟨y, List.mem_of_getElem? hl, hh⟩
theorem held_mod {i : Nat} {x : List Int × Int} {f : List Int × Int → List Int × Int} (h : B.os[i]? = some x) {e : Int} {D : List (Int × Int)} {now : Int} {sw : Bool} :
    heldB { B with os := B.os.modify i f, die := D, now := now, sw := sw } e = true ↔ (e ∈ (f x).1 ∨ (f x).2 = e) ∨ oth9 B i e := by
  rw [heldB_iff]
  constructor
  · rintro ⟨y, hy, hh⟩
    rcases (modify_at h y).1 hy with rfl | ⟨j, hj, hl⟩
    · exact .inl hh
    · exact .inr ⟨j, y, hj, hl, hh⟩
  · rintro (hh | ⟨j, y, hj, hl, hh⟩)
    · exact ⟨f x, (modify_at h _).2 (.inl rfl), hh⟩
    · exact ⟨y, (modify_at h _).2 (.inr ⟨j, hj, hl⟩), hh⟩
/-- Lets, one behind another: what dies. -/
theorem mem_lets : ∀ {l : List Int} {B : Bk} {p : Int × Int}, (B.die.Pairwise fun p q => p.1 < q.1) →
    (p ∈ (l.foldl letB B).die ↔ (p.1 ∈ l ∧ heldB B p.1 = false ∧ p.2 = 0) ∨ (¬ (p.1 ∈ l ∧ heldB B p.1 = false) ∧ p ∈ B.die))
  | [], B, p, s => by simp
  | e :: l, B, p, s => by
    have s2 : (letB B e).die.Pairwise fun p q => p.1 < q.1 := skd_iff.1 (letB_sk (skd_iff.2 s))
    rw [List.foldl_cons, mem_lets s2, heldB_let]
    have hm : p ∈ (letB B e).die ↔ (heldB B e = false ∧ p = (e, 0)) ∨ (¬ (heldB B e = false ∧ p.1 = e) ∧ p ∈ B.die) := by
      unfold letB
      cases hh : heldB B e with
      | true => simp
      | false =>
        simp only [Bool.false_eq_true, if_false]
        rw [mem_putD s]
        obtain ⟨a, b⟩ := p
        simp only [Prod.mk.injEq, true_and]
        constructor
        · rintro (h | ⟨h1, h2⟩)
          · exact .inl h
          · exact .inr ⟨h2, h1⟩
        · rintro (h | ⟨h1, h2⟩)
          · exact .inl h
          · exact .inr ⟨h2, h1⟩
    rw [hm]
    obtain ⟨a, b⟩ := p
    simp only [List.mem_cons, Prod.mk.injEq]
    constructor
    · rintro (⟨h1, h2, h3⟩ | ⟨h1, ⟨h2, rfl, rfl⟩ | ⟨h2, h3⟩⟩)
      · exact .inl ⟨.inr h1, h2, h3⟩
      · exact .inl ⟨.inl rfl, h2, rfl⟩
      · refine .inr ⟨fun ⟨h4, h5⟩ => ?_, h3⟩
        rcases h4 with rfl | h4
        · exact h2 ⟨h5, rfl⟩
        · exact h1 ⟨h4, h5⟩
    · rintro (⟨h1 | h1, h2, h3⟩ | ⟨h1, h2⟩)
      · by_cases hl : a ∈ l
        · exact .inl ⟨hl, h2, h3⟩
        · refine .inr ⟨fun h => hl h.1, .inl ⟨h1 ▸ h2, h1, h3⟩⟩
      · exact .inl ⟨h1, h2, h3⟩
      · refine .inr ⟨fun h => h1 ⟨.inr h.1, h.2⟩, .inr ⟨fun h => h1 ⟨.inl h.2, h.2 ▸ h.1⟩, h2⟩⟩
theorem lets_os : ∀ {l : List Int} {B : Bk}, (l.foldl letB B).os = B.os ∧ (l.foldl letB B).sw = B.sw ∧ (l.foldl letB B).now = B.now
  | [], B => ⟨rfl, rfl, rfl⟩
  | e :: l, B => by
    rw [List.foldl_cons]
    obtain ⟨h1, h2, h3⟩ := lets_os (l := l) (B := letB B e)
    refine ⟨h1.trans (letB_os B e), h2.trans ?_, h3.trans (letB_now B e)⟩
    unfold letB; split <;> rfl
theorem lets_held {l : List Int} {e : Int} : heldB (l.foldl letB B) e = heldB B e := by
  unfold heldB pinB inB; rw [(lets_os (l := l) (B := B)).1]
/-- What holds of a book that came up. -/
structure Inv (B : Bk) (c : Nat) (sw : List Int) : Prop where
  ok : Ok B c
  dis : ∀ e ∈ dieL B, heldB B e = false
  off : B.sw = false → ∀ p ∈ B.die, p.2 = 0
  on : B.sw = true → (∀ p ∈ B.die, (p.2 = 1 ↔ p.1 ∈ sw) ∧ (p.2 = 0 ∨ p.2 = 1)) ∧ ∀ e ∈ sw, e ∈ dieL B
  srt : sw.Pairwise (· < ·)
/-- How an epoch is: held 1, dying 2, no more 3. -/
def stF (B : Bk) (e : Int) : Int := if heldB B e = true then 1 else if e ∈ dieL B then 2 else 3
def st1 (B : Bk) (s : Stp9) (sw : List Int) (e : Int) : Int :=
  if ((doB B s).1 = true ∧ (s.Kind = 1 ∨ s.Kind = 2)) ∧ e = B.now then 1
  else if ((doB B s).1 = true ∧ s.Kind = 8) ∧ e ∈ sw then 3 else stF B e
structure Moves (B : Bk) (s : Stp9) (sw : List Int) (c : Nat) : Prop where
  no : (doB B s).1 = false → heldL (doB B s).2 = heldL B ∧ dieL (doB B s).2 = dieL B
  now : (doB B s).2.now = B.now + (if (doB B s).1 = true ∧ (s.Kind = 1 ∨ s.Kind = 2) then 1 else 0)
  held : ∀ e, 1 ≤ e → heldB (doB B s).2 e = true → st1 B s sw e = 1
  die : ∀ e, e ∈ dieL (doB B s).2 → (st1 B s sw e = 1 ∨ st1 B s sw e = 2)
  all : ∀ e, 1 ≤ e → e < (doB B s).2.now → st1 B s sw e ≠ 3 → heldB (doB B s).2 e = true ∨ e ∈ dieL (doB B s).2
  inv : Inv (doB B s).2 (c + 1) (if (doB B s).1 = true ∧ s.Kind = 7 then dieL B else sw)
theorem heldL_congr {B B' : Bk} {c c' : Nat} (o : Ok B c) (o' : Ok B' c') (h : ∀ e, 1 ≤ e → (heldB B e = heldB B' e)) : heldL B = heldL B' := by
  have hn : ∀ {l : List Int}, l.Pairwise (· < ·) → l.Nodup := fun h => by
    rw [List.nodup_iff_pairwise_ne]; exact h.imp fun h => by omega
  have hp : (heldL B).Perm (heldL B') := (List.perm_ext_iff_of_nodup (hn (heldL_sorted _)) (hn (heldL_sorted _))).2 fun a => by
    constructor
    · intro ha
      have := (held_rng o ha).1
      rw [mem_heldL_iff this] at ha ⊢
      rw [← h a this]; exact ha
    · intro ha
      have := (held_rng o' ha).1
      rw [mem_heldL_iff this] at ha ⊢
      rw [h a this]; exact ha
  exact hp.eq_of_pairwise (le := fun a b : Int => a < b) (fun a b _ _ h1 h2 => by omega) (heldL_sorted _) (heldL_sorted _)
theorem Inv.mono {c' : Nat} {sw : List Int} (i : Inv B c sw) (h : c ≤ c') : Inv B c' sw := ⟨i.ok.mono h, i.dis, i.off, i.on, i.srt⟩
/-- Nothing has come of it. -/
theorem moves_same {s : Stp9} {sw : List Int} (i : Inv B c sw) (h2 : (doB B s).2 = B) (h1 : (doB B s).1 = true → s.Kind = 3) : Moves B s sw c := by
  have n12 : ¬ ((doB B s).1 = true ∧ (s.Kind = 1 ∨ s.Kind = 2)) := fun ⟨a, b⟩ => by have := h1 a; omega
  have n8 : ¬ ((doB B s).1 = true ∧ s.Kind = 8) := fun ⟨a, b⟩ => by have := h1 a; omega
  have n7 : ¬ ((doB B s).1 = true ∧ s.Kind = 7) := fun ⟨a, b⟩ => by have := h1 a; omega
  have hst : ∀ e, st1 B s sw e = stF B e := fun e => by unfold st1; rw [if_neg (fun h => n12 h.1), if_neg (fun h => n8 h.1)]
  refine ⟨fun _ => by rw [h2]; exact ⟨rfl, rfl⟩, by rw [h2, if_neg n12]; omega, fun e _ he => ?_, fun e he => ?_, fun e h3 h4 he => ?_, by rw [h2, if_neg n7]; exact i.mono (by omega)⟩
  · rw [h2] at he; rw [hst, stF, if_pos he]
  · rw [h2] at he; rw [hst, stF, if_neg (by rw [i.dis e he]; simp), if_pos he]; exact .inr rfl
  · rw [hst, stF] at he
    rw [h2]
    by_cases hh : heldB B e = true
    · exact .inl hh
    · rw [if_neg hh] at he
      by_cases hd : e ∈ dieL B
      · exact .inr hd
      · rw [if_neg hd] at he; exact absurd rfl he
/-- The epoch that is now was sealed. -/
theorem moves_new {s : Stp9} {sw : List Int} (i : Inv B c sw) (h1 : (doB B s).1 = true) (hk : s.Kind = 1 ∨ s.Kind = 2) (hn : (doB B s).2.now = B.now + 1) (hd : (doB B s).2.die = B.die) (hs : (doB B s).2.sw = B.sw)
    (hh : ∀ e, 1 ≤ e → (heldB (doB B s).2 e = true ↔ heldB B e = true ∨ e = B.now)) (hok : Ok (doB B s).2 (c + 1)) : Moves B s sw c := by
  have h7 : ¬ ((doB B s).1 = true ∧ s.Kind = 7) := fun ⟨_, b⟩ => by omega
  have h8 : ¬ ((doB B s).1 = true ∧ s.Kind = 8) := fun ⟨_, b⟩ => by omega
  have hst : ∀ e, st1 B s sw e = if e = B.now then 1 else stF B e := fun e => by
    unfold st1
    by_cases h : e = B.now
    · rw [if_pos ⟨⟨h1, hk⟩, h⟩, if_pos h]
    · rw [if_neg (fun h' => h h'.2), if_neg (fun h => h8 h.1), if_neg h]
  have hdl : dieL (doB B s).2 = dieL B := by unfold dieL; rw [hd]
  have hnow := i.ok.now
  refine ⟨fun h => (by rw [h1] at h; cases h), by rw [hn, if_pos ⟨h1, hk⟩], fun e he h => ?_, fun e he => ?_, fun e h3 h4 he => ?_, ?_⟩
  · rw [hst]
    rcases (hh e he).1 h with h | h
    · split
      · rfl
      · rw [stF, if_pos h]
    · rw [if_pos h]
  · rw [hdl] at he
    have := die_rng i.ok he
    rw [hst, if_neg (by omega), stF, if_neg (by rw [i.dis e he]; simp), if_pos he]; exact .inr rfl
  · rw [hst] at he
    by_cases h : e = B.now
    · exact .inl ((hh e h3).2 (.inr h))
    · rw [if_neg h, stF] at he
      by_cases h5 : heldB B e = true
      · exact .inl ((hh e h3).2 (.inl h5))
      · rw [if_neg h5] at he
        by_cases h6 : e ∈ dieL B
        · rw [hdl]; exact .inr h6
        · rw [if_neg h6] at he; exact absurd rfl he
  · rw [if_neg h7]
    refine ⟨hok, fun e he => ?_, fun h => by rw [hd]; exact i.off (hs ▸ h), fun h => by rw [hd, hdl]; exact i.on (hs ▸ h), i.srt⟩
    rw [hdl] at he
    have := die_rng i.ok he
    have hf := i.dis e he
    cases hb : heldB (doB B s).2 e with
    | false => rfl
    | true =>
      rcases (hh e this.1).1 hb with h | h
      · rw [hf] at h; cases h
      · omega
/-- An owner let some go. -/
theorem moves_lets {s : Stp9} {sw l : List Int} {B1 : Bk} (i : Inv B c sw) (hk : ¬ (s.Kind = 1 ∨ s.Kind = 2) ∧ s.Kind ≠ 7 ∧ s.Kind ≠ 8) (h2 : (doB B s).2 = l.foldl letB B1) (hd : B1.die = B.die) (hs : B1.sw = B.sw) (hn : B1.now = B.now)
    (hl : ∀ e ∈ l, 1 ≤ e) (hh : ∀ e, 1 ≤ e → (heldB B e = true ↔ heldB B1 e = true ∨ e ∈ l)) (hno : (doB B s).1 = false → l = []) (hok : Ok (doB B s).2 (c + 1)) (hok1 : Ok B1 (c + 1)) : Moves B s sw c := by
  have n12 : ¬ ((doB B s).1 = true ∧ (s.Kind = 1 ∨ s.Kind = 2)) := fun ⟨_, b⟩ => hk.1 b
  have n7 : ¬ ((doB B s).1 = true ∧ s.Kind = 7) := fun ⟨_, b⟩ => hk.2.1 b
  have n8 : ¬ ((doB B s).1 = true ∧ s.Kind = 8) := fun ⟨_, b⟩ => hk.2.2 b
  have hst : ∀ e, st1 B s sw e = stF B e := fun e => by unfold st1; rw [if_neg (fun h => n12 h.1), if_neg (fun h => n8 h.1)]
  have hheld : ∀ e, heldB (doB B s).2 e = heldB B1 e := fun e => by rw [h2, lets_held]
  have hpw : B1.die.Pairwise fun p q => p.1 < q.1 := hd ▸ i.ok.die.1
  have hmem : ∀ p, p ∈ (doB B s).2.die ↔ (p.1 ∈ l ∧ heldB B1 p.1 = false ∧ p.2 = 0) ∨ (¬ (p.1 ∈ l ∧ heldB B1 p.1 = false) ∧ p ∈ B.die) := fun p => by rw [h2, mem_lets hpw, hd]
  have hml : ∀ e, e ∈ dieL (doB B s).2 ↔ (e ∈ l ∧ heldB B1 e = false) ∨ e ∈ dieL B := fun e => by
    simp only [dieL, List.mem_map]
    constructor
    · rintro ⟨p, hp, rfl⟩
      rcases (hmem p).1 hp with ⟨h1, h2, _⟩ | ⟨_, h⟩
      · exact .inl ⟨h1, h2⟩
      · exact .inr ⟨p, h, rfl⟩
    · rintro (⟨h1, h2⟩ | ⟨p, hp, rfl⟩)
      · exact ⟨(e, 0), (hmem _).2 (.inl ⟨h1, h2, rfl⟩), rfl⟩
      · by_cases h : p.1 ∈ l ∧ heldB B1 p.1 = false
        · exact ⟨(p.1, 0), (hmem _).2 (.inl ⟨h.1, h.2, rfl⟩), rfl⟩
        · exact ⟨p, (hmem _).2 (.inr ⟨h, hp⟩), rfl⟩
  refine ⟨fun h => ?_, ?_, fun e he h => ?_, fun e he => ?_, fun e h3 h4 he => ?_, ?_⟩
  · have := hno h
    subst this
    have hB : (doB B s).2 = B1 := h2
    rw [hB]
    exact ⟨heldL_congr hok1 i.ok fun e he => by
      have := hh e he
      simp only [List.not_mem_nil, or_false] at this
      rw [Bool.eq_iff_iff]; exact this.symm, by unfold dieL; rw [hd]⟩
  · rw [h2, (lets_os (l := l) (B := B1)).2.2, hn, if_neg n12]; omega
  · rw [hheld] at h
    rw [hst, stF, if_pos ((hh e he).2 (.inl h))]
  · rw [hst, stF]
    rcases (hml e).1 he with ⟨h1, _⟩ | h1
    · rw [if_pos ((hh e (hl e h1)).2 (.inr h1))]; exact .inl rfl
    · rw [if_neg (by rw [i.dis e h1]; simp), if_pos h1]; exact .inr rfl
  · rw [hst, stF] at he
    rw [hheld, hml]
    by_cases h5 : heldB B e = true
    · rcases (hh e h3).1 h5 with h6 | h6
      · exact .inl h6
      · by_cases h7 : heldB B1 e = true
        · exact .inl h7
        · exact .inr (.inl ⟨h6, by simpa using h7⟩)
    · rw [if_neg h5] at he
      by_cases h6 : e ∈ dieL B
      · exact .inr (.inr h6)
      · rw [if_neg h6] at he; exact absurd rfl he
  · rw [if_neg n7]
    have hsw : (doB B s).2.sw = B.sw := by rw [h2, (lets_os (l := l) (B := B1)).2.1, hs]
    refine ⟨hok, fun e he => ?_, fun h p hp => ?_, fun h => ⟨fun p hp => ?_, fun e he => (hml e).2 (.inr ((i.on (hsw ▸ h)).2 e he))⟩, i.srt⟩
    · rw [hheld]
      rcases (hml e).1 he with ⟨_, h1⟩ | h1
      · exact h1
      · have h0 := i.dis e h1
        have h1' := (die_rng i.ok h1).1
        cases hb : heldB B1 e with
        | false => rfl
        | true => rw [(hh e h1').2 (.inl hb)] at h0; cases h0
    · rcases (hmem p).1 hp with ⟨_, _, h1⟩ | ⟨_, h1⟩
      · exact h1
      · exact i.off (hsw ▸ h) p h1
    · rcases (hmem p).1 hp with ⟨h1, h2', h3⟩ | ⟨_, h1⟩
      · refine ⟨⟨fun h4 => by omega, fun h4 => ?_⟩, .inl h3⟩
        have hd2 := (i.on (hsw ▸ h)).2 p.1 h4
        have := i.dis p.1 hd2
        rw [(hh p.1 (hl _ h1)).2 (.inr h1)] at this; cases this
      · exact (i.on (hsw ▸ h)).1 p h1
theorem moves {s : Stp9} {sw : List Int} (i : Inv B c sw) : Moves B s sw c := by
  have hok := i.ok.do_ s
  have hnow := i.ok.now
  have ho : ∀ o : Int, isO o = true → B.os[o.toNat]? = some (setB B o, innB B o) := fun o hi => by
    have := isO_rng hi
    have : o.toNat < B.os.length := by rw [i.ok.lo]; omega
    rw [setB, innB, List.getElem?_eq_getElem this]; rfl
  have e1 : ∀ {r : Bool × Bk}, doB B s = r → (doB B s).1 = r.1 ∧ (doB B s).2 = r.2 := fun h => by rw [h]; exact ⟨rfl, rfl⟩
  by_cases k1 : s.Kind = 1
  · have hd : doB B s = ((sealB B s.Owner).2.1 == 0, (sealB B s.Owner).2.2) := by rw [doB, if_pos k1]
    by_cases a1 : isO s.Owner = true
    · by_cases a2 : ((setB B s.Owner).length : Int) = B.pins
      · rw [show sealB B s.Owner = (0, 34, B) from by rw [sealB, if_neg (by simp [a1]), if_pos a2]] at hd
        exact moves_same i (e1 hd).2 fun h => by rw [(e1 hd).1] at h; simp at h
      · by_cases a3 : B.now = 1099511627776
        · rw [show sealB B s.Owner = (0, 2, B) from by rw [sealB, if_neg (by simp [a1]), if_neg a2, if_pos a3]] at hd
          exact moves_same i (e1 hd).2 fun h => by rw [(e1 hd).1] at h; simp at h
        · rw [show sealB B s.Owner = (B.now, 0, { setS B s.Owner.toNat (insS (setB B s.Owner) B.now) with now := B.now + 1 }) from by rw [sealB, if_neg (by simp [a1]), if_neg a2, if_neg a3]] at hd
          refine moves_new i (by rw [(e1 hd).1]; rfl) (.inl k1) (by rw [(e1 hd).2]) (by rw [(e1 hd).2]; rfl) (by rw [(e1 hd).2]; rfl) (fun e he => ?_) hok
          rw [(e1 hd).2]
          have sm := i.ok.setmem s.Owner
          have := held_mod (f := fun x => (insS (setB B s.Owner) B.now, x.2)) (D := B.die) (now := B.now + 1) (sw := B.sw) (e := e) (ho _ a1)
          refine this.trans ?_
          rw [held_at (ho _ a1)]
          simp only [mem_ins sm.1]
          constructor
          · rintro ((( h | h) | h) | h)
            · exact .inr h
            · exact .inl (.inl (.inl h))
            · exact .inl (.inl (.inr h))
            · exact .inl (.inr h)
          · rintro (((h | h) | h) | h)
            · exact .inl (.inl (.inr h))
            · exact .inl (.inr h)
            · exact .inr h
            · exact .inl (.inl (.inl h))
    · rw [show sealB B s.Owner = (0, 1, B) from by rw [sealB, if_pos (by simpa using a1)]] at hd
      exact moves_same i (e1 hd).2 fun h => by rw [(e1 hd).1] at h; simp at h
  by_cases k2 : s.Kind = 2
  · have hd : doB B s = ((innerB B s.Owner).2.1 == 0, (innerB B s.Owner).2.2) := by rw [doB, if_neg k1, if_pos k2]
    by_cases a1 : isO s.Owner = true
    · by_cases a2 : innB B s.Owner ≠ 0
      · rw [show innerB B s.Owner = (0, 43, B) from by rw [innerB, if_neg (by simp [a1]), if_pos a2]] at hd
        exact moves_same i (e1 hd).2 fun h => by rw [(e1 hd).1] at h; simp at h
      · by_cases a3 : B.now = 1099511627776
        · rw [show innerB B s.Owner = (0, 2, B) from by rw [innerB, if_neg (by simp [a1]), if_neg a2, if_pos a3]] at hd
          exact moves_same i (e1 hd).2 fun h => by rw [(e1 hd).1] at h; simp at h
        · rw [show innerB B s.Owner = (B.now, 0, { setIn B s.Owner.toNat B.now with now := B.now + 1 }) from by rw [innerB, if_neg (by simp [a1]), if_neg a2, if_neg a3]] at hd
          refine moves_new i (by rw [(e1 hd).1]; rfl) (.inr k2) (by rw [(e1 hd).2]) (by rw [(e1 hd).2]; rfl) (by rw [(e1 hd).2]; rfl) (fun e he => ?_) hok
          rw [(e1 hd).2]
          have := held_mod (f := fun x => (x.1, B.now)) (D := B.die) (now := B.now + 1) (sw := B.sw) (e := e) (ho _ a1)
          refine this.trans ?_
          rw [held_at (ho _ a1)]
          simp only [ne_eq, Decidable.not_not] at a2
          simp only [a2]
          constructor
          · rintro ((h | h) | h)
            · exact .inl (.inl (.inl h))
            · exact .inr h.symm
            · exact .inl (.inr h)
          · rintro (((h | h) | h) | h)
            · exact .inl (.inl h)
            · omega
            · exact .inr h
            · exact .inl (.inr h.symm)
    · rw [show innerB B s.Owner = (0, 1, B) from by rw [innerB, if_pos (by simpa using a1)]] at hd
      exact moves_same i (e1 hd).2 fun h => by rw [(e1 hd).1] at h; simp at h
  by_cases k3 : s.Kind = 3
  · have hd : doB B s = ((joinB B s.Owner (ofB s B.now)).1 == 0, (joinB B s.Owner (ofB s B.now)).2) := by rw [doB, if_neg k1, if_neg k2, if_pos k3]
    generalize ofB s B.now = x at hd
    by_cases a1 : isO s.Owner = true
    · by_cases a2 : pinB B x = false
      · rw [show joinB B s.Owner x = (33, B) from by rw [joinB, if_neg (by simp [a1]), if_pos a2]] at hd
        exact moves_same i (e1 hd).2 fun h => k3
      · by_cases a3 : x ∈ setB B s.Owner
        · rw [show joinB B s.Owner x = (0, B) from by rw [joinB, if_neg (by simp [a1]), if_neg a2, if_pos a3]] at hd
          exact moves_same i (e1 hd).2 fun h => k3
        · by_cases a4 : ((setB B s.Owner).length : Int) = B.pins
          · rw [show joinB B s.Owner x = (34, B) from by rw [joinB, if_neg (by simp [a1]), if_neg a2, if_neg a3, if_pos a4]] at hd
            exact moves_same i (e1 hd).2 fun h => k3
          · rw [show joinB B s.Owner x = (0, setS B s.Owner.toNat (insS (setB B s.Owner) x)) from by rw [joinB, if_neg (by simp [a1]), if_neg a2, if_neg a3, if_neg a4]] at hd
            have sm := i.ok.setmem s.Owner
            refine moves_lets (l := []) (B1 := setS B s.Owner.toNat (insS (setB B s.Owner) x)) i ⟨by omega, by omega, by omega⟩ (e1 hd).2 rfl rfl rfl (by simp) (fun e he => ?_) (fun _ => rfl) hok (by have := hok; rw [(e1 hd).2] at this; exact this)
            have hx : heldB B x = true := by simp [heldB]; exact .inl (by simpa using a2)
            have := held_mod (f := fun y => (insS (setB B s.Owner) x, y.2)) (D := B.die) (now := B.now) (sw := B.sw) (e := e) (ho _ a1)
            simp only [List.not_mem_nil, or_false]
            refine Iff.trans ?_ this.symm
            rw [held_at (ho _ a1)] at hx ⊢
            simp only [mem_ins sm.1]
            constructor
            · rintro ((h | h) | h)
              · exact .inl (.inl (.inr h))
              · exact .inl (.inr h)
              · exact .inr h
            · rintro (((h | h) | h) | h)
              · subst h; exact hx
              · exact .inl (.inl h)
              · exact .inl (.inr h)
              · exact .inr h
    · rw [show joinB B s.Owner x = (1, B) from by rw [joinB, if_pos (by simpa using a1)]] at hd
      exact moves_same i (e1 hd).2 fun h => k3
  by_cases k4 : s.Kind = 4
  · have hd : doB B s = ((releaseB B s.Owner (ofB s B.now)).1 == 0, (releaseB B s.Owner (ofB s B.now)).2) := by rw [doB, if_neg k1, if_neg k2, if_neg k3, if_pos k4]
    generalize ofB s B.now = x at hd
    by_cases a1 : isO s.Owner = true
    · by_cases a2 : x ∉ setB B s.Owner
      · rw [show releaseB B s.Owner x = (33, B) from by rw [releaseB, if_neg (by simp [a1]), if_pos a2]] at hd
        exact moves_same i (e1 hd).2 fun h => by rw [(e1 hd).1] at h; simp at h
      · rw [show releaseB B s.Owner x = (0, letB (setS B s.Owner.toNat ((setB B s.Owner).filter (· != x))) x) from by rw [releaseB, if_neg (by simp [a1]), if_neg a2]] at hd
        have sm := i.ok.setmem s.Owner
        have hx : x ∈ setB B s.Owner := by simpa using a2
        refine moves_lets (l := [x]) (B1 := setS B s.Owner.toNat ((setB B s.Owner).filter (· != x))) i ⟨by omega, by omega, by omega⟩ (e1 hd).2 rfl rfl rfl (fun e he => by simp at he; subst he; exact (sm.2.1 _ hx).1) (fun e he => ?_) (fun h => by rw [(e1 hd).1] at h; simp at h) hok ((i.ok.mono (by omega)).setS (sm.1.filter _) fun a ha => sm.2.1 a (List.mem_filter.1 ha).1)
        have := held_mod (f := fun y => ((setB B s.Owner).filter (· != x), y.2)) (D := B.die) (now := B.now) (sw := B.sw) (e := e) (ho _ a1)
        refine Iff.trans ?_ (or_congr this Iff.rfl).symm
        rw [held_at (ho _ a1)]
        simp only [List.mem_filter, bne_iff_ne, List.mem_singleton]
        constructor
        · rintro ((h | h) | h)
          · by_cases e' : e = x
            · exact .inr e'
            · exact .inl (.inl (.inl ⟨h, e'⟩))
          · exact .inl (.inl (.inr h))
          · exact .inl (.inr h)
        · rintro (((h | h) | h) | h)
          · exact .inl (.inl h.1)
          · exact .inl (.inr h)
          · exact .inr h
          · subst h; exact .inl (.inl hx)
    · rw [show releaseB B s.Owner x = (1, B) from by rw [releaseB, if_pos (by simpa using a1)]] at hd
      exact moves_same i (e1 hd).2 fun h => by rw [(e1 hd).1] at h; simp at h
  by_cases k5 : s.Kind = 5
  · have hd : doB B s = ((doneO B s.Owner).1 == 0, (doneO B s.Owner).2) := by rw [doB, if_neg k1, if_neg k2, if_neg k3, if_neg k4, if_pos k5]
    by_cases a1 : isO s.Owner = true
    · by_cases a2 : innB B s.Owner = 0
      · rw [show doneO B s.Owner = (44, B) from by rw [doneO, if_neg (by simp [a1]), if_pos a2]] at hd
        exact moves_same i (e1 hd).2 fun h => by rw [(e1 hd).1] at h; simp at h
      · rw [show doneO B s.Owner = (0, letB (setIn B s.Owner.toNat 0) (innB B s.Owner)) from by rw [doneO, if_neg (by simp [a1]), if_neg a2]] at hd
        have sm := i.ok.setmem s.Owner
        refine moves_lets (l := [innB B s.Owner]) (B1 := setIn B s.Owner.toNat 0) i ⟨by omega, by omega, by omega⟩ (e1 hd).2 rfl rfl rfl (fun e he => by simp at he; subst he; omega) (fun e he => ?_) (fun h => by rw [(e1 hd).1] at h; simp at h) hok ((i.ok.mono (by omega)).setIn (by omega) (by omega))
        have := held_mod (f := fun y => (y.1, (0 : Int))) (D := B.die) (now := B.now) (sw := B.sw) (e := e) (ho _ a1)
        refine Iff.trans ?_ (or_congr this Iff.rfl).symm
        rw [held_at (ho _ a1)]
        simp only [List.mem_singleton]
        constructor
        · rintro ((h | h) | h)
          · exact .inl (.inl (.inl h))
          · exact .inr h.symm
          · exact .inl (.inr h)
        · rintro (((h | h) | h) | h)
          · exact .inl (.inl h)
          · omega
          · exact .inr h
          · exact .inl (.inr h.symm)
    · rw [show doneO B s.Owner = (1, B) from by rw [doneO, if_pos (by simpa using a1)]] at hd
      exact moves_same i (e1 hd).2 fun h => by rw [(e1 hd).1] at h; simp at h
  by_cases k6 : s.Kind = 6
  · have hd : doB B s = (decide ((dropB B s.Owner).1 > 0), (dropB B s.Owner).2) := by rw [doB, if_neg k1, if_neg k2, if_neg k3, if_neg k4, if_neg k5, if_pos k6]
    by_cases a1 : isO s.Owner = true
    · rw [show dropB B s.Owner = (((setB B s.Owner).length : Int) + (if innB B s.Owner ≠ 0 then 1 else 0), ((setB B s.Owner) ++ (if innB B s.Owner ≠ 0 then [innB B s.Owner] else [])).foldl letB { B with os := B.os.modify s.Owner.toNat fun _ => ([], 0) }) from by rw [dropB, if_neg (by simp [a1])]] at hd
      have sm := i.ok.setmem s.Owner
      have okm : Ok { B with os := B.os.modify s.Owner.toNat fun _ => ([], 0) } (c + 1) := by
        refine ⟨by simp [i.ok.lo], by simp only; omega, fun x hx => ?_, i.ok.die⟩
        rcases mem_modify hx with hx | ⟨y, hy, rfl⟩
        · exact i.ok.sets x hx
        · simp; omega
      refine moves_lets (l := (setB B s.Owner) ++ (if innB B s.Owner ≠ 0 then [innB B s.Owner] else [])) (B1 := { B with os := B.os.modify s.Owner.toNat fun _ => ([], 0) }) i ⟨by omega, by omega, by omega⟩ (e1 hd).2 rfl rfl rfl (fun e he => ?_) (fun e he => ?_) (fun h => ?_) hok okm
      · rcases List.mem_append.1 he with he | he
        · exact (sm.2.1 e he).1
        · split at he
          · simp at he; subst he; omega
          · cases he
      · have := held_mod (f := fun _ => (([] : List Int), (0 : Int))) (D := B.die) (now := B.now) (sw := B.sw) (e := e) (ho _ a1)
        refine Iff.trans ?_ (or_congr this Iff.rfl).symm
        rw [held_at (ho _ a1)]
        simp only [List.mem_append, List.not_mem_nil, false_or]
        constructor
        · rintro ((h | h) | h)
          · exact .inr (.inl h)
          · refine .inr (.inr ?_)
            rw [if_pos (by omega)]; simp [h]
          · exact .inl (.inr h)
        · rintro ((h | h) | (h | h))
          · omega
          · exact .inr h
          · exact .inl (.inl h)
          · split at h
            · simp at h; exact .inl (.inr h.symm)
            · cases h
      · rw [(e1 hd).1] at h
        simp only [decide_eq_false_iff_not] at h
        split at h
        · omega
        · rename_i hz
          rw [if_neg hz, List.append_nil]
          exact List.eq_nil_of_length_eq_zero (by omega)
    · rw [show dropB B s.Owner = (0, B) from by rw [dropB, if_pos (by simpa using a1)]] at hd
      exact moves_same i (e1 hd).2 fun h => by rw [(e1 hd).1] at h; simp at h
  by_cases k7 : s.Kind = 7
  · have hd : doB B s = ((beginB B).1 == 0, (beginB B).2) := by rw [doB, if_neg k1, if_neg k2, if_neg k3, if_neg k4, if_neg k5, if_neg k6, if_pos k7]
    by_cases a1 : B.sw = true
    · rw [show beginB B = (43, B) from by rw [beginB, if_pos a1]] at hd
      exact moves_same i (e1 hd).2 fun h => by rw [(e1 hd).1] at h; simp at h
    · rw [show beginB B = (0, { B with sw := true, die := B.die.map fun p => (p.1, 1) }) from by rw [beginB, if_neg a1]] at hd
      have h1 : (doB B s).1 = true := by rw [(e1 hd).1]; rfl
      have n12 : ¬ ((doB B s).1 = true ∧ (s.Kind = 1 ∨ s.Kind = 2)) := fun ⟨_, b⟩ => by omega
      have n8 : ¬ ((doB B s).1 = true ∧ s.Kind = 8) := fun ⟨_, b⟩ => by omega
      have hst : ∀ e, st1 B s sw e = stF B e := fun e => by unfold st1; rw [if_neg (fun h => n12 h.1), if_neg (fun h => n8 h.1)]
      have hdl : dieL (doB B s).2 = dieL B := by rw [(e1 hd).2]; simp [dieL, List.map_map, Function.comp_def]
      have hhl : ∀ e, heldB (doB B s).2 e = heldB B e := fun e => by rw [(e1 hd).2]; rfl
      refine ⟨fun h => (by rw [h1] at h; cases h), by rw [(e1 hd).2, if_neg n12]; simp, fun e _ he => ?_, fun e he => ?_, fun e h3 h4 he => ?_, ?_⟩
      · rw [hhl] at he; rw [hst, stF, if_pos he]
      · rw [hdl] at he; rw [hst, stF, if_neg (by rw [i.dis e he]; simp), if_pos he]; exact .inr rfl
      · rw [hst, stF] at he
        rw [hhl, hdl]
        by_cases hh : heldB B e = true
        · exact .inl hh
        · rw [if_neg hh] at he
          by_cases hd : e ∈ dieL B
          · exact .inr hd
          · rw [if_neg hd] at he; exact absurd rfl he
      · rw [if_pos ⟨h1, k7⟩]
        refine ⟨hok, fun e he => by rw [hhl]; rw [hdl] at he; exact i.dis e he, fun h => by rw [(e1 hd).2] at h; simp at h, fun _ => ⟨fun p hp => ?_, fun e he => by rw [hdl]; exact he⟩, by unfold dieL; rw [List.pairwise_map]; exact i.ok.die.1⟩
        rw [(e1 hd).2] at hp
        simp only [List.mem_map] at hp
        obtain ⟨q, hq, rfl⟩ := hp
        exact ⟨⟨fun _ => List.mem_map.2 ⟨q, hq, rfl⟩, fun _ => rfl⟩, .inr rfl⟩
  by_cases k8 : s.Kind = 8
  · have hd : doB B s = ((endB B).2.1 == 0, (endB B).2.2) := by rw [doB, if_neg k1, if_neg k2, if_neg k3, if_neg k4, if_neg k5, if_neg k6, if_neg k7, if_pos k8]
    by_cases a1 : B.sw = false
    · rw [show endB B = (0, 44, B) from by rw [endB, if_pos a1]] at hd
      exact moves_same i (e1 hd).2 fun h => by rw [(e1 hd).1] at h; simp at h
    · rw [show endB B = ((B.die.length : Int) - ((B.die.filter (·.2 != 1)).length : Int), 0, { B with sw := false, die := B.die.filter (·.2 != 1) }) from by rw [endB, if_neg a1]] at hd
      have h1 : (doB B s).1 = true := by rw [(e1 hd).1]; rfl
      have a1' : B.sw = true := by simpa using a1
      obtain ⟨on1, on2⟩ := i.on a1'
      have n12 : ¬ ((doB B s).1 = true ∧ (s.Kind = 1 ∨ s.Kind = 2)) := fun ⟨_, b⟩ => by omega
      have n7 : ¬ ((doB B s).1 = true ∧ s.Kind = 7) := fun ⟨_, b⟩ => by omega
      have hst : ∀ e, st1 B s sw e = if e ∈ sw then 3 else stF B e := fun e => by
        unfold st1
        rw [if_neg (fun h => n12 h.1)]
        by_cases h : e ∈ sw
        · rw [if_pos ⟨⟨h1, k8⟩, h⟩, if_pos h]
        · rw [if_neg (fun h' => h h'.2), if_neg h]
      have hml : ∀ e, e ∈ dieL (doB B s).2 ↔ e ∈ dieL B ∧ e ∉ sw := fun e => by
        rw [(e1 hd).2]
        simp only [dieL, List.mem_map, List.mem_filter, bne_iff_ne]
        constructor
        · rintro ⟨p, ⟨hp, hne⟩, rfl⟩
          exact ⟨⟨p, hp, rfl⟩, fun h => hne ((on1 p hp).1.2 h)⟩
        · rintro ⟨⟨p, hp, rfl⟩, hne⟩
          exact ⟨p, ⟨hp, fun h => hne ((on1 p hp).1.1 h)⟩, rfl⟩
      have hhl : ∀ e, heldB (doB B s).2 e = heldB B e := fun e => by rw [(e1 hd).2]; rfl
      refine ⟨fun h => (by rw [h1] at h; cases h), by rw [(e1 hd).2, if_neg n12]; simp, fun e _ he => ?_, fun e he => ?_, fun e h3 h4 he => ?_, ?_⟩
      · rw [hhl] at he
        rw [hst, if_neg (fun h => by have := i.dis e (on2 e h); rw [he] at this; cases this), stF, if_pos he]
      · obtain ⟨h2, h3⟩ := (hml e).1 he
        rw [hst, if_neg h3, stF, if_neg (by rw [i.dis e h2]; simp), if_pos h2]; exact .inr rfl
      · rw [hst] at he
        rw [hhl, hml]
        by_cases hsw : e ∈ sw
        · rw [if_pos hsw] at he; exact absurd rfl he
        · rw [if_neg hsw, stF] at he
          by_cases hh : heldB B e = true
          · exact .inl hh
          · rw [if_neg hh] at he
            by_cases hd : e ∈ dieL B
            · exact .inr ⟨hd, hsw⟩
            · rw [if_neg hd] at he; exact absurd rfl he
      · rw [if_neg n7]
        refine ⟨hok, fun e he => by rw [hhl]; exact i.dis e ((hml e).1 he).1, fun _ p hp => ?_, fun h => by rw [(e1 hd).2] at h; simp at h, i.srt⟩
        rw [(e1 hd).2] at hp
        obtain ⟨hp1, hp2⟩ := List.mem_filter.1 hp
        simp only [bne_iff_ne] at hp2
        exact (on1 p hp1).2.resolve_right hp2
  · have hd : doB B s = (false, B) := by rw [doB, if_neg k1, if_neg k2, if_neg k3, if_neg k4, if_neg k5, if_neg k6, if_neg k7, if_neg k8]
    exact moves_same i (e1 hd).2 fun h => by rw [(e1 hd).1] at h; cases h
end
end Go.Proofs.YtgcmojbajjajgaaGreat.V
