/- The law EpochSets: the law's own maps; no condition. -/
import Derived.Test.YtgcmojbajjajgaaEn
namespace Go.Proofs.Ytgcmojbajjajgaa.V
open Go Go.Proofs.Ytgcmojbajjajgaa.V.N
set_option linter.unusedVariables false
set_option linter.unusedSimpArgs false
abbrev Os := List (List Int × Int)
abbrev tS (S : List Int) : KL := S.map fun k => (k, .bool true)
theorem tS_ins (k : Int) : ∀ S, putS (tS S) k (.bool true) = tS (insS S k)
  | [] => rfl
  | p :: r => by
    simp only [tS, List.map_cons, putS, insS]
    split
    · rfl
    · split
      · rfl
      · rw [List.map_cons]; congr 1; exact tS_ins k r
theorem tS_del (k : Int) (S : List Int) : delS (tS S) k = tS (S.filter (· != k)) := by
  simp only [delS, tS, List.filter_map]; rfl
theorem getK_tS (S : List Int) (e : Int) : N.getK (tS S) e = if e ∈ S then some (.bool true) else none := by
  induction S with
  | nil => rfl
  | cons a r ih =>
    unfold N.getK at ih ⊢
    simp only [List.map_cons, List.find?_cons]
    by_cases h : e = a
    · subst h; simp
    · have : (e == a) = false := by simpa using h
      rw [this]
      simp only [List.mem_cons, h, false_or]
      exact ih
theorem zvB : ∀ w, (zeroValue 4).run PP w = .ok (.bool false) w := Try.zeroValue4
theorem zvM : ∀ w, (zeroValue tn_map_int_bool).run PP w = .ok (.map none) w := fun w => by kernel_rfl
/-- The law's maps: W tells each owner's set and inner epoch. -/
structure SM (h : H) (sb ib : Nat) (ms : Nat → Nat) (W : Os) : Prop where
  lw : W.length = 65
  sets : ∃ L, MS h sb L ∧ ∀ e, N.getK L e = if isO e = true then some (.map (some (ms e.toNat))) else none
  each : ∀ o x, 1 ≤ o → o ≤ 64 → W[o]? = some x → MS h (ms o) (tS x.1)
  inn : ∃ g, MI h ib g ∧ ∀ (o : Nat) x, 1 ≤ o → o ≤ 64 → W[o]? = some x → (g (o : Int)).getD 0 = x.2
  dj : sb ≠ ib ∧ ∀ o, 1 ≤ o → o ≤ 64 → ms o ≠ sb ∧ ms o ≠ ib ∧ ∀ p, 1 ≤ p → p ≤ 64 → ms o = ms p → o = p
def LB (sb ib : Nat) (ms : Nat → Nat) (x : Nat) : Prop := x = sb ∨ x = ib ∨ ∃ o, 1 ≤ o ∧ o ≤ 64 ∧ x = ms o
section
variable {h h' : H} {sb ib : Nat} {ms : Nat → Nat} {W : Os}
theorem SM.at (s : SM h sb ib ms W) {o : Nat} (h2 : o ≤ 64) : ∃ x, W[o]? = some x := ⟨_, List.getElem?_eq_getElem (by rw [s.lw]; omega)⟩
theorem SM.lt (s : SM h sb ib ms W) : ∀ x, LB sb ib ms x → x < h.size := fun x hx => by
  rcases hx with rfl | rfl | ⟨o, h1, h2, rfl⟩
  · obtain ⟨L, m, _⟩ := s.sets; exact m.lt
  · obtain ⟨g, m, _⟩ := s.inn; exact m.lt
  · obtain ⟨x, hx⟩ := s.at h2; exact (s.each o x h1 h2 hx).lt
theorem SM.only {S : Nat → Prop} (s : SM h sb ib ms W) (o : Only S h h') (hs : ∀ x, LB sb ib ms x → ¬ S x) : SM h' sb ib ms W := by
  refine ⟨s.lw, ?_, fun p x h1 h2 hx => (s.each p x h1 h2 hx).only o (hs _ (.inr (.inr ⟨p, h1, h2, rfl⟩))), ?_, s.dj⟩
  · obtain ⟨L, m, e⟩ := s.sets; exact ⟨L, m.only o (hs _ (.inl rfl)), e⟩
  · obtain ⟨g, m, e⟩ := s.inn; exact ⟨g, m.only o (hs _ (.inr (.inl rfl))), e⟩
theorem SM.notblk (s : SM h sb ib ms W) {x : Nat} (hx : LB sb ib ms x) {c : Array Value} {e : TypeId} : ¬ Blk h x c e := fun k => by
  rcases hx with rfl | rfl | ⟨o, h1, h2, rfl⟩
  · obtain ⟨L, m, _⟩ := s.sets; exact m.not_blk k
  · obtain ⟨g, m, _⟩ := s.inn; exact m.not_blk k
  · obtain ⟨x, hx⟩ := s.at h2; exact (s.each o x h1 h2 hx).not_blk k
theorem iso_nat {o : Int} (h : isO o = true) : 1 ≤ o.toNat ∧ o.toNat ≤ 64 ∧ ((o.toNat : Nat) : Int) = o := by
  simp [isO] at h; omega
/-- sets[o] -/
theorem SM.get (s : SM h sb ib ms W) {o : Int} {K : Value → H → Prop} (k : K (.map (if isO o = true then some (ms o.toNat) else none)) h) : RunS PP (Instr.lookup tn_map_int_map_int_bool (.map (some sb)) (.int .i64 o) false) h K := by
  obtain ⟨L, m, e⟩ := s.sets
  refine lookS_of mt_map_int_map_int_bool intT zvM m ?_
  rw [e o]
  by_cases ho : isO o = true
  · rw [if_pos ho] at k ⊢; exact k
  · rw [if_neg ho] at k ⊢; exact k
theorem look_tS {m : Nat} {S : List Int} {e : Int} {K : Value → H → Prop} (mS : MS h m (tS S)) (k : K (.bool (decide (e ∈ S))) h) : RunS PP (Instr.lookup tn_map_int_bool (.map (some m)) (.int .i64 e) false) h K := by
  refine lookS_of mt_map_int_bool intT zvB mS ?_
  rw [getK_tS]
  by_cases he : e ∈ S
  · rw [decide_eq_true he] at k; rw [if_pos he]; exact k
  · rw [decide_eq_false he] at k; rw [if_neg he]; exact k
/-- sets[o][e] -/
theorem SM.has (s : SM h sb ib ms W) {o e : Int} {K : Value → H → Prop} (k : K (.bool (isO o && ((W[o.toNat]?).any fun x => decide (e ∈ x.1)))) h) : RunS PP (Instr.lookup tn_map_int_bool (.map (if isO o = true then some (ms o.toNat) else none)) (.int .i64 e) false) h K := by
  by_cases ho : isO o = true
  · obtain ⟨h1, h2, h3⟩ := iso_nat ho
    obtain ⟨x, hx⟩ := s.at h2
    rw [if_pos ho]
    refine look_tS (s.each _ x h1 h2 hx) ?_
    rw [ho, hx] at k; exact k
  · rw [if_neg ho]
    refine lookN_of mt_map_int_bool intT zvB ?_
    rw [show isO o = false from by simpa using ho] at k; exact k
theorem SM.inner (s : SM h sb ib ms W) {o : Int} (ho : isO o = true) {x : List Int × Int} (hx : W[o.toNat]? = some x) {K : Value → H → Prop} (k : K (.int .i64 x.2) h) : RunS PP (Instr.lookup tn_map_int_int (.map (some ib)) (.int .i64 o) false) h K := by
  obtain ⟨h1, h2, h3⟩ := iso_nat ho
  obtain ⟨g, m, e⟩ := s.inn
  refine lookI_of m ?_
  have := e o.toNat x h1 h2 hx
  rw [h3] at this
  rw [this]; exact k
/-- An owner's set turned. -/
theorem SM.reset {i : Nat} (s : SM h sb ib ms W) (h1 : 1 ≤ i) (h2 : i ≤ 64) {S : List Int} (o : Only (· = ms i) h h') (m : MS h' (ms i) (tS S)) : SM h' sb ib ms (W.modify i fun x => (S, x.2)) := by
  have hd := s.dj.2 i h1 h2
  refine ⟨by simp [s.lw], ?_, fun p x p1 p2 hx => ?_, ?_, s.dj⟩
  · obtain ⟨L, mL, e⟩ := s.sets; exact ⟨L, mL.only o (fun e => hd.1 e.symm), e⟩
  · rw [get_mod] at hx
    by_cases e : i = p
    · subst e
      obtain ⟨y, hy⟩ := s.at h2
      rw [if_pos rfl, hy] at hx; simp at hx; subst hx; exact m
    · rw [if_neg e] at hx
      exact (s.each p x p1 p2 hx).only o fun he => e (hd.2.2 p p1 p2 he.symm)
  · obtain ⟨g, mg, e⟩ := s.inn
    refine ⟨g, mg.only o (fun e => hd.2.1 e.symm), fun p x p1 p2 hx => ?_⟩
    rw [get_mod] at hx
    by_cases e' : i = p
    · subst e'
      obtain ⟨y, hy⟩ := s.at h2
      rw [if_pos rfl, hy] at hx; simp at hx; subst hx; exact e i y p1 p2 hy
    · rw [if_neg e'] at hx; exact e p x p1 p2 hx
/-- An owner's inner epoch turned. -/
theorem SM.reinn {o v : Int} {K : Unit → H → Prop} (s : SM h sb ib ms W) (ho : isO o = true) (k : ∀ h', SM h' sb ib ms (W.modify o.toNat fun x => (x.1, v)) → Only (· = ib) h h' → h'.size = h.size → K () h') : RunS PP (Instr.mapUpdate tn_map_int_int (.map (some ib)) (.int .i64 o) (.int .i64 v)) h K := by
  obtain ⟨h1, h2, h3⟩ := iso_nat ho
  obtain ⟨g, mg, e⟩ := s.inn
  refine updI_of mg fun h' m' oo ss => k h' ⟨by simp [s.lw], ?_, fun p x p1 p2 hx => ?_, ⟨_, m', fun p x p1 p2 hx => ?_⟩, s.dj⟩ oo ss
  · obtain ⟨L, mL, e⟩ := s.sets; exact ⟨L, mL.only oo s.dj.1, e⟩
  · rw [get_mod] at hx
    have hne := (s.dj.2 p p1 p2).2.1
    by_cases e : o.toNat = p
    · subst e
      obtain ⟨y, hy⟩ := s.at h2
      rw [if_pos rfl, hy] at hx; simp at hx; subst hx; exact (s.each _ y p1 p2 hy).only oo hne
    · rw [if_neg e] at hx
      exact (s.each p x p1 p2 hx).only oo hne
  · rw [get_mod] at hx
    by_cases e' : o.toNat = p
    · subst e'
      obtain ⟨y, hy⟩ := s.at h2
      rw [if_pos rfl, hy] at hx; simp at hx; subst hx
      simp only [h3, if_true, Option.getD_some]
    · rw [if_neg e'] at hx
      have : ¬ ((p : Int) = o) := fun h => e' (by omega)
      simp only [this, if_false]
      exact e p x p1 p2 hx
theorem SM.put {o e : Int} {x : List Int × Int} {K : Unit → H → Prop} (s : SM h sb ib ms W) (ho : isO o = true) (hx : W[o.toNat]? = some x) (k : ∀ h', SM h' sb ib ms (W.modify o.toNat fun x => (insS x.1 e, x.2)) → Only (· = ms o.toNat) h h' → K () h') : RunS PP (Instr.mapUpdate tn_map_int_bool (.map (some (ms o.toNat))) (.int .i64 e) (.bool true)) h K := by
  obtain ⟨h1, h2, h3⟩ := iso_nat ho
  refine updS_of mt_map_int_bool intT (s.each _ x h1 h2 hx) fun h' m' oo ss => k h' ?_ oo
  rw [tS_ins] at m'
  have := s.reset h1 h2 oo m'
  have e2 : (W.modify o.toNat fun y => (insS x.1 e, y.2)) = W.modify o.toNat fun y => (insS y.1 e, y.2) := by
    apply List.ext_getElem?; intro j
    rw [get_mod, get_mod]
    split
    · rename_i hj; subst hj; rw [hx]; rfl
    · rfl
  rw [← e2]; exact this
theorem SM.del {o e : Int} {x : List Int × Int} {K : Value → H → Prop} {ty : TypeId} (s : SM h sb ib ms W) (ho : isO o = true) (hx : W[o.toNat]? = some x) (k : ∀ h', SM h' sb ib ms (W.modify o.toNat fun x => (x.1.filter (· != e), x.2)) → Only (· = ms o.toNat) h h' → K (.tuple #[]) h') : RunS PP (Builtin.delete_ #[tn_map_int_bool, 3] ty #[.map (some (ms o.toNat)), .int .i64 e]) h K := by
  obtain ⟨h1, h2, h3⟩ := iso_nat ho
  refine delS_of mt_map_int_bool intT (s.each _ x h1 h2 hx) fun h' m' oo ss => k h' ?_ oo
  rw [tS_del] at m'
  have := s.reset h1 h2 oo m'
  have e2 : (W.modify o.toNat fun y => (x.1.filter (· != e), y.2)) = W.modify o.toNat fun y => (y.1.filter (· != e), y.2) := by
    apply List.ext_getElem?; intro j
    rw [get_mod, get_mod]
    split
    · rename_i hj; subst hj; rw [hx]; rfl
    · rfl
  rw [← e2]; exact this
/-- An owner is handed a new set. -/
theorem SM.new {o : Int} {c : Nat} {K : Unit → H → Prop} (s : SM h sb ib ms W) (ho : isO o = true) (mc : MS h c []) (hc : ∀ x, LB sb ib ms x → x ≠ c) (k : ∀ h', SM h' sb ib (fun p => if p = o.toNat then c else ms p) (W.modify o.toNat fun x => ([], x.2)) → Only (· = sb) h h' → K () h') :
    RunS PP (Instr.mapUpdate tn_map_int_map_int_bool (.map (some sb)) (.int .i64 o) (.map (some c))) h K := by
  obtain ⟨h1, h2, h3⟩ := iso_nat ho
  obtain ⟨L, mL, e⟩ := s.sets
  refine updS_of mt_map_int_map_int_bool intT mL fun h' m' oo ss => k h' ⟨by simp [s.lw], ⟨_, m', fun x => ?_⟩, fun p x p1 p2 hx => ?_, ?_, s.dj.1, fun p p1 p2 => ?_⟩ oo
  · rw [getK_put mL.sk, e x]
    by_cases hx : x = o
    · subst hx; simp [ho]
    · rw [if_neg hx]
      by_cases hi : isO x = true
      · obtain ⟨g1, g2, g3⟩ := iso_nat hi
        rw [if_pos hi, if_pos hi, if_neg (by omega)]
      · rw [if_neg hi, if_neg hi]
  · rw [get_mod] at hx
    by_cases e' : o.toNat = p
    · subst e'
      obtain ⟨y, hy⟩ := s.at h2
      rw [if_pos rfl, hy] at hx; simp at hx; subst hx
      rw [if_pos rfl]
      exact mc.only oo fun e => hc sb (.inl rfl) e.symm
    · rw [if_neg e'] at hx
      rw [if_neg (fun h => e' h.symm)]
      exact (s.each p x p1 p2 hx).only oo (s.dj.2 p p1 p2).1
  · obtain ⟨g, mg, e⟩ := s.inn
    refine ⟨g, mg.only oo (fun e => s.dj.1 e.symm), fun p x p1 p2 hx => ?_⟩
    rw [get_mod] at hx
    by_cases e' : o.toNat = p
    · subst e'
      obtain ⟨y, hy⟩ := s.at h2
      rw [if_pos rfl, hy] at hx; simp at hx; subst hx; exact e _ y p1 p2 hy
    · rw [if_neg e'] at hx; exact e p x p1 p2 hx
  · have hd := s.dj.2 p p1 p2
    by_cases e' : p = o.toNat
    · rw [if_pos e']
      refine ⟨fun h => hc sb (.inl rfl) h.symm, fun h => hc ib (.inr (.inl rfl)) h.symm, fun q q1 q2 h => ?_⟩
      by_cases e2 : q = o.toNat
      · omega
      · rw [if_neg e2] at h
        exact absurd h.symm (hc _ (.inr (.inr ⟨q, q1, q2, rfl⟩)))
    · rw [if_neg e']
      refine ⟨hd.1, hd.2.1, fun q q1 q2 h => ?_⟩
      by_cases e2 : q = o.toNat
      · rw [if_pos e2] at h
        exact absurd h (hc _ (.inr (.inr ⟨p, p1, p2, rfl⟩)))
      · rw [if_neg e2] at h
        exact hd.2.2 q q1 q2 h
end
/-! ### A book beside them -/
structure SV (h1 h : H) (n : Nat) (B : Bk) (sb ib : Nat) (ms : Nat → Nat) (W : Os) : Prop where
  bk : ∃ F, BKs h1 h F [(n, B)] ∧ ∀ x, LB sb ib ms x → ¬ F x
  sm : SM h sb ib ms W
  lo : ∀ x, LB sb ib ms x → h1.size ≤ x
section
variable {h1 h h' : H} {n sb ib : Nat} {B B' : Bk} {ms : Nat → Nat} {W W' : Os}
theorem SV.step {F F' : Nat → Prop} (v : SV h1 h n B sb ib ms W) (b : BKs h1 h F [(n, B)]) (hm : ∀ x, LB sb ib ms x → ¬ F x) (b' : BKs h1 h' F' [(n, B')]) (st : Stpp F h F' h') : SV h1 h' n B' sb ib ms W :=
  ⟨⟨F', b', fun x hx hf => (st.new x hf).elim (hm x hx) fun hs => by have := v.sm.lt x hx; omega⟩, v.sm.only st.only fun x hx => hm x hx, v.lo⟩
theorem SV.ext (v : SV h1 h n B sb ib ms W) (e : Ext h h') : SV h1 h' n B sb ib ms W := by
  obtain ⟨F, b, hm⟩ := v.bk
  exact ⟨⟨F, b.ext e, hm⟩, v.sm.only e (fun _ _ f => f), v.lo⟩
theorem SV.upd {y : Nat} (v : SV h1 h n B sb ib ms W) (o : Only (· = y) h h') (hy : LB sb ib ms y) (m : SM h' sb ib ms W') : SV h1 h' n B sb ib ms W' := by
  obtain ⟨F, b, hm⟩ := v.bk
  exact ⟨⟨F, b.only o (fun x hx e => hm x (e ▸ hy) hx) (fun x hx e => by have := v.lo y hy; omega), hm⟩, m, v.lo⟩
theorem SV.ext0 (v : SV h1 h n B sb ib ms W) : Ext h1 h := by obtain ⟨F, b, _⟩ := v.bk; exact b.ext0
theorem SV.now {Q : Int → H → Prop} (v : SV h1 h n B sb ib ms W) {x : Nat} {cs : Array Value} {e : TypeId} (kb : Blk h x cs e) (he : e ≠ tn_epoch_Book) (k : ∀ h', SV h1 h' n B sb ib ms W → Blk h' x cs e → Q B.now h') : F.epoch_Book_Now (some ⟨n, 0, none⟩) h Q := by
  obtain ⟨F, b, hm⟩ := v.bk
  exact now_bk (i := 0) b rfl fun h' F' b' st => k h' (v.step b hm b' st) (b.blk st kb he)
theorem SV.holds {o e : Int} {Q : Bool → H → Prop} (v : SV h1 h n B sb ib ms W) (k : ∀ h' F F', SV h1 h' n B sb ib ms W → (∀ x, LB sb ib ms x → ¬ F x) → BKs h1 h F [(n, B)] → Stpp F h F' h' → Q (holdsB B o e) h') : F.epoch_Book_Holds (some ⟨n, 0, none⟩) o e h Q := by
  obtain ⟨F, b, hm⟩ := v.bk
  exact holds_bk (i := 0) b rfl fun h' F' b' st => k h' F F' (v.step b hm b' st) hm b st
end
end Go.Proofs.Ytgcmojbajjajgaa.V
