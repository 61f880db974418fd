/- What each call of the book does; no condition. -/
import Derived.Test.YtgcmojbajjajgaaGreatEc
namespace Go.Proofs.YtgcmojbajjajgaaGreat.V
open Go Go.Proofs.YtgcmojbajjajgaaGreat.V.N
set_option linter.unusedVariables false
set_option linter.unusedSimpArgs false
/-! ### The calls, as plain functions -/
def insS : List Int → Int → List Int
  | [], k => [k]
  | p :: r, k => if k < p then k :: p :: r else if k = p then k :: r else p :: insS r k
theorem uS_ins (k : Int) : ∀ S, putS (uS S) k uV = uS (insS S k)
  | [] => rfl
  | p :: r => by
    simp only [uS, List.map_cons, putS, insS]
    split
    · rfl
    · split
      · rfl
      · rw [List.map_cons]; congr 1; exact uS_ins k r
theorem uS_del (k : Int) (S : List Int) : delS (uS S) k = uS (S.filter (· != k)) := by
  simp only [delS, uS, List.filter_map]; rfl
def isO (o : Int) : Bool := decide (1 ≤ o) && decide (o ≤ 64)
def setB (B : Bk) (o : Int) : List Int := ((B.os[o.toNat]?).getD ([], 0)).1
def innB (B : Bk) (o : Int) : Int := ((B.os[o.toNat]?).getD ([], 0)).2
def setS (B : Bk) (i : Nat) (S : List Int) : Bk := { B with os := B.os.modify i fun x => (S, x.2) }
def sealB (B : Bk) (o : Int) : Int × Int × Bk :=
  if isO o = false then (0, 1, B)
  else if ((setB B o).length : Int) = B.pins then (0, 34, B)
  else if B.now = 1099511627776 then (0, 2, B)
  else (B.now, 0, { setS B o.toNat (insS (setB B o) B.now) with now := B.now + 1 })
def innerB (B : Bk) (o : Int) : Int × Int × Bk :=
  if isO o = false then (0, 1, B)
  else if innB B o ≠ 0 then (0, 43, B)
  else if B.now = 1099511627776 then (0, 2, B)
  else (B.now, 0, { setIn B o.toNat B.now with now := B.now + 1 })
def joinB (B : Bk) (o e : Int) : Int × Bk :=
  if isO o = false then (1, B)
  else if pinB B e = false then (33, B)
  else if e ∈ setB B o then (0, B)
  else if ((setB B o).length : Int) = B.pins then (34, B)
  else (0, setS B o.toNat (insS (setB B o) e))
def releaseB (B : Bk) (o e : Int) : Int × Bk :=
  if isO o = false then (1, B)
  else if e ∉ setB B o then (33, B)
  else (0, letB (setS B o.toNat ((setB B o).filter (· != e))) e)
def doneO (B : Bk) (o : Int) : Int × Bk :=
  if isO o = false then (1, B)
  else if innB B o = 0 then (44, B)
  else (0, letB (setIn B o.toNat 0) (innB B o))
def dropB (B : Bk) (o : Int) : Int × Bk :=
  if isO o = false then (0, B)
  else (((setB B o).length : Int) + (if innB B o ≠ 0 then 1 else 0),
    ((setB B o) ++ (if innB B o ≠ 0 then [innB B o] else [])).foldl letB { B with os := B.os.modify o.toNat fun _ => ([], 0) })
def holdsB (B : Bk) (o e : Int) : Bool := isO o && decide (e ∈ setB B o)
def dieL (B : Bk) : List Int := B.die.map (·.1)
def beginB (B : Bk) : Int × Bk := if B.sw then (43, B) else (0, { B with sw := true, die := B.die.map fun p => (p.1, 1) })
def endB (B : Bk) : Int × Int × Bk :=
  if B.sw = false then (0, 44, B)
  else ((B.die.length : Int) - ((B.die.filter (·.2 != 1)).length : Int), 0, { B with sw := false, die := B.die.filter (·.2 != 1) })
section
variable {lk : Int} {h : H} {n db : Nat} {bs : List Nat} {B : Bk}
theorem is_spec {o : Int} {K : Bool → H → Prop} (k : K (isO o) h) : F.epoch_is o h K := by
  unfold F.epoch_is
  unfold isO at k
  refine ⟨fun g => ?_, fun g => ?_⟩
  · rwa [show decide (1 ≤ o) = true from g, Bool.true_and] at k
  · rwa [show decide (1 ≤ o) = false from g, Bool.false_and] at k
theorem isO_rng {o : Int} (h : isO o = true) : 0 ≤ o ∧ o < 65 := by
  simp [isO] at h; omega
theorem Only.fb {h' : H} (o : Only (· = n) h h') : Only (FB n bs db) h h' := o.mono fun _ _ e => .inl e
theorem Only.fd {h' : H} (o : Only (· = db) h h') : Only (FB n bs db) h h' := o.mono fun _ _ e => .inr (.inl e)
theorem only_trans {S : Nat → Prop} {a b c : H} (o : Only S a b) (p : Only S b c) : Only S a c := o.trans p fun _ _ e => e
theorem BH.os (b : BH lk h n bs db B) {o : Int} (hi : isO o = true) : B.os[o.toNat]? = some (setB B o, innB B o) := by
  have := isO_rng hi
  have : o.toNat < B.os.length := by rw [b.lo]; omega
  rw [setB, innB, List.getElem?_eq_getElem this]; rfl
theorem BH.own (b : BH lk h n bs db B) {o : Int} (hi : isO o = true) : ∃ m, bs[o.toNat]? = some m ∧ m ∈ bs ∧ cellH h ⟨n, 4 + o.toNat * 2, none⟩ = some (.map (some m)) ∧ cellH h ⟨n, 4 + o.toNat * 2 + 1, none⟩ = some (.int .i64 (innB B o)) ∧ MS h m (uS (setB B o)) := by
  have hr := isO_rng hi
  obtain ⟨m, y, hm, hy, hw, ms⟩ := b.ow (i := o.toNat) (by omega)
  rw [b.os hi] at hy; cases hy
  exact ⟨m, hm, List.mem_of_getElem? hm, b.cmap hm (b.os hi), b.cinn (by omega) (b.os hi), ms⟩
/-- An owner's set turned. -/
theorem BH.reset {h' : H} {i m : Nat} {S : List Int} (b : BH lk h n bs db B) (hm : bs[i]? = some m) (o : Only (· = m) h h') (d : MS h' m (uS S)) : BH lk h' n bs db (setS B i S) := by
  have hmb := List.mem_of_getElem? hm
  obtain ⟨q, t⟩ := b.tb
  refine ⟨⟨q, ?_⟩, b.lb, by simp [setS, b.lo], fun j c x hc hx => ?_, b.dy.only o fun e => ?_, b.nd⟩
  · have := o.block t (fun e => b.nb m hmb e.symm)
    have e : owL bs (setS B i S).os = owL bs B.os := by
      apply List.ext_getElem?
      intro j
      simp only [owL, setS, List.getElem?_zipWith, List.getElem?_modify]
      cases bs[j]? with
      | none => rfl
      | some c =>
        cases B.os[j]? with
        | none => rfl
        | some y => simp only [Option.map_eq_map, Option.map_some]; split <;> rfl
    rw [e]; exact this
  · simp only [setS, List.getElem?_modify] at hx
    by_cases e : i = j
    · subst e
      rw [hm] at hc; cases hc
      cases hj : B.os[i]? with
      | none => rw [hj] at hx; cases hx
      | some z => rw [hj] at hx; simp at hx; subst hx; exact d
    · have hcm : c ≠ m := fun ec => by
        subst ec
        have hnd := (List.nodup_cons.1 b.nd).2
        exact e ((List.getElem?_inj (List.getElem?_eq_some_iff.1 hm).1 hnd).1 (hm.trans hc.symm))
      cases hj : B.os[j]? with
      | none => rw [hj] at hx; cases hx
      | some z =>
        rw [hj] at hx; simp [e] at hx; subst hx
        exact (b.sets j c z hc hj).only o hcm
  · have := (List.nodup_cons.1 b.nd).1
    subst e; exact this hmb
theorem Now_spec {Q : Int → H → Prop} (b : BH 0 h n bs db B) (k : ∀ h', BH 0 h' n bs db B → Only (FB n bs db) h h' → Q B.now h') : F.epoch_Book_Now (some ⟨n, 0, none⟩) h Q := by
  unfold F.epoch_Book_Now
  refine guard_spec b fun h1 b1 o1 s1 => ⟨_, rfl, (ldI_iff b1.c3).2 (unlock_spec b1 fun h2 b2 o2 s2 => k h2 b2 (only_trans o1 o2).fb)⟩
theorem Holds_spec {o e : Int} {Q : Bool → H → Prop} (b : BH 0 h n bs db B) (k : ∀ h', BH 0 h' n bs db B → Only (FB n bs db) h h' → Q (holdsB B o e) h') : F.epoch_Book_Holds (some ⟨n, 0, none⟩) o e h Q := by
  unfold F.epoch_Book_Holds
  refine guard_spec b fun h1 b1 o1 s1 => is_spec ⟨fun g => ?_, fun g => ?_⟩
  · have hr := isO_rng g
    refine has_spec b1 hr.1 hr.2 (b1.os g) fun h2 b2 e2 => unlock_spec b2 fun h3 b3 o3 s3 => ?_
    have := k h3 b3 (only_trans (only_trans o1 e2.only) o3).fb
    rwa [holdsB, g, Bool.true_and] at this
  · refine unlock_spec b1 fun h3 b3 o3 s3 => ?_
    have := k h3 b3 (only_trans o1 o3).fb
    rwa [holdsB, g, Bool.false_and] at this
theorem Held_spec {Q : Sl → H → Prop} (b : BH 0 h n bs db B) (hs : (heldL B).length < 1073741824) (k : ∀ r h', BH 0 h' n bs db B → Only (FB n bs db) h h' → Owns h' r 3 1 ((heldL B).flatMap cI) → Mine h r → Q r h') : F.epoch_Book_Held (some ⟨n, 0, none⟩) h Q := by
  unfold F.epoch_Book_Held
  refine guard_spec b fun h1 b1 o1 s1 => all_spec b1 hs fun r h2 w2 e2 m2 => unlock_spec (b1.ext e2) fun h3 b3 o3 s3 => ?_
  refine k r h3 b3 (only_trans (only_trans o1 e2.only) o3).fb (w2.only o3 fun x hx e => ?_) fun x hx => by have := m2 x hx; omega
  have := m2 x hx; have := b.lt n (.inl rfl); omega
theorem Dying_spec {Q : Sl → H → Prop} (b : BH 0 h n bs db B) (hs : B.die.length < 1073741824) (k : ∀ r h', BH 0 h' n bs db B → Only (FB n bs db) h h' → Owns h' r 3 1 ((dieL B).flatMap cI) → Mine h r → Q r h') : F.epoch_Book_Dying (some ⟨n, 0, none⟩) h Q := by
  unfold F.epoch_Book_Dying
  refine guard_spec b fun h1 b1 o1 s1 => ?_
  simp only [nn_some, add_lit, Nat.zero_add]
  refine (ldM_iff b1.cd).2 ?_
  refine sorted_ii b1.dy (by simpa using hs) (fun p hp => by obtain ⟨q, _, rfl⟩ := List.mem_map.1 hp; exact ⟨_, rfl⟩) fun r h2 w2 e2 m2 => unlock_spec (b1.ext e2) fun h3 b3 o3 s3 => ?_
  have hk : (dS B.die).map (·.1) = dieL B := by simp [dS, dieL, List.map_map, Function.comp_def]
  rw [hk] at w2
  refine k r h3 b3 (only_trans (only_trans o1 e2.only) o3).fb (w2.only o3 fun x hx e => ?_) fun x hx => by have := m2 x hx; omega
  have := m2 x hx; have := b.lt n (.inl rfl); omega
theorem Live_spec {Q : Int → H → Prop} (b : BH 0 h n bs db B) (hs : (heldL B).length < 1073741824) (hd : B.die.length < 1073741824) (k : ∀ h', BH 0 h' n bs db B → Only (FB n bs db) h h' → Q (((heldL B).length + B.die.length : Nat) : Int) h') : F.epoch_Book_Live (some ⟨n, 0, none⟩) h Q := by
  unfold F.epoch_Book_Live
  refine guard_spec b fun h1 b1 o1 s1 => ?_
  simp only [nn_some, add_lit, Nat.zero_add]
  refine (ldM_iff b1.cd).2 ?_
  refine all_spec b1 hs fun r h2 w2 e2 m2 => ⟨(b1.ext e2).cd, ?_⟩
  refine lenS_of mt_map_int_int (b1.ext e2).dy ⟨_, rfl, unlock_spec (b1.ext e2) fun h3 b3 o3 s3 => ?_⟩
  have hl : r.len = (heldL B).length := own_len cI_len (by omega) w2
  have := k h3 b3 (only_trans (only_trans o1 e2.only) o3).fb
  rw [hl, List.length_map, w64 (by omega) (by omega)]
  rw [show ((heldL B).length : Int) + (B.die.length : Int) = (((heldL B).length + B.die.length : Nat) : Int) from by omega]
  exact this
theorem Seal_spec {o : Int} {Q : Int → Int → H → Prop} (b : BH 0 h n bs db B) (hn : 0 ≤ B.now ∧ B.now ≤ 1099511627776) (k : ∀ h', BH 0 h' n bs db (sealB B o).2.2 → Only (FB n bs db) h h' → Q (sealB B o).1 (sealB B o).2.1 h') : F.epoch_Book_Seal (some ⟨n, 0, none⟩) o h Q := by
  unfold F.epoch_Book_Seal
  refine guard_spec b fun h1 b1 o1 s1 => ?_
  simp only [nn_some, add_lit, Nat.zero_add, Nat.add_zero]
  refine is_spec ⟨fun g => ?_, fun g => ?_⟩
  · have g' : isO o = false := by simpa using g
    refine unlock_spec b1 fun h3 b3 o3 s3 => ?_
    have e : sealB B o = (0, 1, B) := by rw [sealB, if_pos g']
    have := k h3; rw [e] at this
    exact this b3 (only_trans o1 o3).fb
  · have g' : isO o = true := by simpa using g
    obtain ⟨m, hm, hmb, c1, c2, ms⟩ := b1.own g'
    refine ⟨isO_rng g', (ldM_iff c1).2 ((ldI_iff b1.c2).2 (lenS_of mt_map_int_struct ms ⟨_, rfl, b1.c2, fun g2 => ?_, fun g2 => ?_⟩))⟩
    · have g2' : ((setB B o).length : Int) = B.pins := by simpa using g2
      refine unlock_spec b1 fun h3 b3 o3 s3 => ?_
      have e : sealB B o = (0, 34, B) := by rw [sealB, if_neg (by simp [g']), if_pos g2']
      have := k h3; rw [e] at this
      exact this b3 (only_trans o1 o3).fb
    · have g2' : ¬ ((setB B o).length : Int) = B.pins := by simpa using g2
      refine (ldI_iff b1.c3).2 ⟨fun g3 => ?_, fun g3 => ?_⟩
      · have g3' : B.now = 1099511627776 := by simpa using g3
        refine unlock_spec b1 fun h3 b3 o3 s3 => ?_
        have e : sealB B o = (0, 2, B) := by rw [sealB, if_neg (by simp [g']), if_neg g2', if_pos g3']
        have := k h3; rw [e] at this
        exact this b3 (only_trans o1 o3).fb
      · have g3' : ¬ B.now = 1099511627776 := by simpa using g3
        refine ⟨isO_rng g', (ldM_iff c1).2 ((ldI_iff b1.c3).2 ?_)⟩
        refine updS_of mt_map_int_struct intT ms fun h2 m2 o2 s2 => ?_
        replace m2 : MS h2 m (uS (insS (setB B o) B.now)) := by rw [← uS_ins]; exact m2
        have b2 := b1.reset hm o2 m2
        refine (ldI_iff b2.c3).2 ?_
        rw [show IntKind.wrap .i64 ((setS B o.toNat (insS (setB B o) B.now)).now + 1) = B.now + 1 from w64 (by show _ ≤ B.now + 1; omega) (by show B.now + 1 < _; omega)]
        refine st_head (lk' := 1) (B' := { setS B o.toNat (insS (setB B o) B.now) with now := B.now + 1 }) b2 (i := 3) (by omega) rfl rfl rfl (fun q => ⟨q, rfl⟩) fun h4 b4 o4 s4 => ?_
        refine (ldI_iff b4.c3).2 (unlock_spec b4 fun h5 b5 o5 s5 => ?_)
        have e : sealB B o = (B.now, 0, { setS B o.toNat (insS (setB B o) B.now) with now := B.now + 1 }) := by rw [sealB, if_neg (by simp [g']), if_neg g2', if_neg g3']
        have := k h5; rw [e] at this
        simp only
        rw [show B.now + 1 - 1 = B.now from by omega, w64 (by omega) (by omega)]
        exact this b5 (only_trans (only_trans (only_trans o1.fb (o2.mono fun x _ e => .inr (.inr (by rw [e]; exact hmb)))) o4.fb) o5.fb)
theorem Inner_spec {o : Int} {Q : Int → Int → H → Prop} (b : BH 0 h n bs db B) (hn : 0 ≤ B.now ∧ B.now ≤ 1099511627776) (k : ∀ h', BH 0 h' n bs db (innerB B o).2.2 → Only (FB n bs db) h h' → Q (innerB B o).1 (innerB B o).2.1 h') : F.epoch_Book_Inner (some ⟨n, 0, none⟩) o h Q := by
  unfold F.epoch_Book_Inner
  refine guard_spec b fun h1 b1 o1 s1 => ?_
  simp only [nn_some, add_lit, Nat.zero_add, Nat.add_zero]
  refine is_spec ⟨fun g => ?_, fun g => ?_⟩
  · have g' : isO o = false := by simpa using g
    refine unlock_spec b1 fun h3 b3 o3 s3 => ?_
    have e : innerB B o = (0, 1, B) := by rw [innerB, if_pos g']
    have := k h3; rw [e] at this
    exact this b3 (only_trans o1 o3).fb
  · have g' : isO o = true := by simpa using g
    obtain ⟨m, hm, hmb, c1, c2, ms⟩ := b1.own g'
    refine ⟨isO_rng g', (ldI_iff c2).2 ⟨fun g2 => ?_, fun g2 => ?_⟩⟩
    · have g2' : innB B o ≠ 0 := by simpa using g2
      refine unlock_spec b1 fun h3 b3 o3 s3 => ?_
      have e : innerB B o = (0, 43, B) := by rw [innerB, if_neg (by simp [g']), if_pos g2']
      have := k h3; rw [e] at this
      exact this b3 (only_trans o1 o3).fb
    · have g2' : ¬ innB B o ≠ 0 := by simpa using g2
      refine (ldI_iff b1.c3).2 ⟨fun g3 => ?_, fun g3 => ?_⟩
      · have g3' : B.now = 1099511627776 := by simpa using g3
        refine unlock_spec b1 fun h3 b3 o3 s3 => ?_
        have e : innerB B o = (0, 2, B) := by rw [innerB, if_neg (by simp [g']), if_neg g2', if_pos g3']
        have := k h3; rw [e] at this
        exact this b3 (only_trans o1 o3).fb
      · have g3' : ¬ B.now = 1099511627776 := by simpa using g3
        have hr := isO_rng g'
        refine (ldI_iff b1.c3).2 ⟨hr, st_inn b1 (i := o.toNat) (by omega) fun h2 b2 o2 s2 => ?_⟩
        refine (ldI_iff b2.c3).2 ?_
        rw [show IntKind.wrap .i64 ((setIn B o.toNat B.now).now + 1) = B.now + 1 from w64 (by show _ ≤ B.now + 1; omega) (by show B.now + 1 < _; omega)]
        refine st_head (lk' := 1) (B' := { setIn B o.toNat B.now with now := B.now + 1 }) b2 (i := 3) (by omega) rfl rfl rfl (fun q => ⟨q, rfl⟩) fun h4 b4 o4 s4 => ?_
        refine (ldI_iff b4.c3).2 (unlock_spec b4 fun h5 b5 o5 s5 => ?_)
        have e : innerB B o = (B.now, 0, { setIn B o.toNat B.now with now := B.now + 1 }) := by rw [innerB, if_neg (by simp [g']), if_neg g2', if_neg g3']
        have := k h5; rw [e] at this
        simp only
        rw [show B.now + 1 - 1 = B.now from by omega, w64 (by omega) (by omega)]
        exact this b5 (only_trans (only_trans (only_trans o1 o2) o4) o5).fb
theorem Join_spec {o e : Int} {Q : Int → H → Prop} (b : BH 0 h n bs db B) (k : ∀ h', BH 0 h' n bs db (joinB B o e).2 → Only (FB n bs db) h h' → Q (joinB B o e).1 h') : F.epoch_Book_Join (some ⟨n, 0, none⟩) o e h Q := by
  unfold F.epoch_Book_Join
  refine guard_spec b fun h1 b1 o1 s1 => ?_
  simp only [nn_some, add_lit, Nat.zero_add, Nat.add_zero]
  refine is_spec ⟨fun g => ?_, fun g => ?_⟩
  · have g' : isO o = false := by simpa using g
    refine unlock_spec b1 fun h3 b3 o3 s3 => ?_
    have e : joinB B o e = (1, B) := by rw [joinB, if_pos g']
    have := k h3; rw [e] at this
    exact this b3 (only_trans o1 o3).fb
  · have g' : isO o = true := by simpa using g
    have hr := isO_rng g'
    refine pinned_spec b1 fun h2 b2 e2 => ⟨fun g2 => ?_, fun g2 => ?_⟩
    · have g2' : pinB B e = false := by simpa using g2
      refine unlock_spec b2 fun h3 b3 o3 s3 => ?_
      have e : joinB B o e = (33, B) := by rw [joinB, if_neg (by simp [g']), if_pos g2']
      have := k h3; rw [e] at this
      exact this b3 (only_trans (only_trans o1 e2.only) o3).fb
    · have g2' : ¬ pinB B e = false := by simpa using g2
      refine has_spec b2 hr.1 hr.2 (b2.os g') fun h4 b4 e4 => ⟨fun g3 => ?_, fun g3 => ?_⟩
      · have g3' : e ∈ setB B o := by simpa using g3
        refine unlock_spec b4 fun h3 b3 o3 s3 => ?_
        have e : joinB B o e = (0, B) := by rw [joinB, if_neg (by simp [g']), if_neg g2', if_pos g3']
        have := k h3; rw [e] at this
        exact this b3 (only_trans (only_trans (only_trans o1 e2.only) e4.only) o3).fb
      · have g3' : ¬ e ∈ setB B o := by simpa using g3
        obtain ⟨m, hm, hmb, c1, c2, ms⟩ := b4.own g'
        refine ⟨hr, (ldM_iff c1).2 ((ldI_iff b4.c2).2 (lenS_of mt_map_int_struct ms ⟨_, rfl, b4.c2, fun g4 => ?_, fun g4 => ?_⟩))⟩
        · have g4' : ((setB B o).length : Int) = B.pins := by simpa using g4
          refine unlock_spec b4 fun h3 b3 o3 s3 => ?_
          have e : joinB B o e = (34, B) := by rw [joinB, if_neg (by simp [g']), if_neg g2', if_neg g3', if_pos g4']
          have := k h3; rw [e] at this
          exact this b3 (only_trans (only_trans (only_trans o1 e2.only) e4.only) o3).fb
        · have g4' : ¬ ((setB B o).length : Int) = B.pins := by simpa using g4
          refine ⟨hr, (ldM_iff c1).2 (updS_of mt_map_int_struct intT ms fun h5 m5 o5 s5 => ?_)⟩
          replace m5 : MS h5 m (uS (insS (setB B o) e)) := by rw [← uS_ins]; exact m5
          refine unlock_spec (b4.reset hm o5 m5) fun h3 b3 o3 s3 => ?_
          have e : joinB B o e = (0, setS B o.toNat (insS (setB B o) e)) := by rw [joinB, if_neg (by simp [g']), if_neg g2', if_neg g3', if_neg g4']
          have := k h3; rw [e] at this
          exact this b3 (only_trans (only_trans (only_trans (only_trans o1 e2.only) e4.only).fb (o5.mono fun x _ e => .inr (.inr (by rw [e]; exact hmb)))) o3.fb)
theorem Release_spec {o e : Int} {Q : Int → H → Prop} (b : BH 0 h n bs db B) (k : ∀ h', BH 0 h' n bs db (releaseB B o e).2 → Only (FB n bs db) h h' → Q (releaseB B o e).1 h') : F.epoch_Book_Release (some ⟨n, 0, none⟩) o e h Q := by
  unfold F.epoch_Book_Release
  refine guard_spec b fun h1 b1 o1 s1 => ?_
  simp only [nn_some, add_lit, Nat.zero_add, Nat.add_zero]
  refine is_spec ⟨fun g => ?_, fun g => ?_⟩
  · have g' : isO o = false := by simpa using g
    refine unlock_spec b1 fun h3 b3 o3 s3 => ?_
    have e : releaseB B o e = (1, B) := by rw [releaseB, if_pos g']
    have := k h3; rw [e] at this
    exact this b3 (only_trans o1 o3).fb
  · have g' : isO o = true := by simpa using g
    have hr := isO_rng g'
    refine has_spec b1 hr.1 hr.2 (b1.os g') fun h4 b4 e4 => ⟨fun g3 => ?_, fun g3 => ?_⟩
    · have g3' : e ∉ setB B o := by simpa using g3
      refine unlock_spec b4 fun h3 b3 o3 s3 => ?_
      have e : releaseB B o e = (33, B) := by rw [releaseB, if_neg (by simp [g']), if_pos g3']
      have := k h3; rw [e] at this
      exact this b3 (only_trans (only_trans o1 e4.only) o3).fb
    · have g3' : ¬ e ∉ setB B o := by simpa using g3
      obtain ⟨m, hm, hmb, c1, c2, ms⟩ := b4.own g'
      refine ⟨hr, (ldM_iff c1).2 (delS_of mt_map_int_struct intT ms fun h5 m5 o5 s5 => ⟨rfl, ?_⟩)⟩
      rw [uS_del] at m5
      refine let_spec (b4.reset hm o5 m5) fun h6 b6 o6 => unlock_spec b6 fun h3 b3 o3 s3 => ?_
      have e : releaseB B o e = (0, letB (setS B o.toNat ((setB B o).filter (· != e))) e) := by rw [releaseB, if_neg (by simp [g']), if_neg g3']
      have := k h3; rw [e] at this
      exact this b3 (only_trans (only_trans (only_trans (only_trans o1 e4.only).fb (o5.mono fun x _ e => .inr (.inr (by rw [e]; exact hmb)))) o6.fd) o3.fb)
theorem Done_spec {o : Int} {Q : Int → H → Prop} (b : BH 0 h n bs db B) (k : ∀ h', BH 0 h' n bs db (doneO B o).2 → Only (FB n bs db) h h' → Q (doneO B o).1 h') : F.epoch_Book_Done (some ⟨n, 0, none⟩) o h Q := by
  unfold F.epoch_Book_Done
  refine guard_spec b fun h1 b1 o1 s1 => ?_
  simp only [nn_some, add_lit, Nat.zero_add, Nat.add_zero]
  refine is_spec ⟨fun g => ?_, fun g => ?_⟩
  · have g' : isO o = false := by simpa using g
    refine unlock_spec b1 fun h3 b3 o3 s3 => ?_
    have e : doneO B o = (1, B) := by rw [doneO, if_pos g']
    have := k h3; rw [e] at this
    exact this b3 (only_trans o1 o3).fb
  · have g' : isO o = true := by simpa using g
    have hr := isO_rng g'
    obtain ⟨m, hm, hmb, c1, c2, ms⟩ := b1.own g'
    refine ⟨hr, (ldI_iff c2).2 ⟨fun g2 => ?_, fun g2 => ?_⟩⟩
    · have g2' : innB B o = 0 := by simpa using g2
      refine unlock_spec b1 fun h3 b3 o3 s3 => ?_
      have e : doneO B o = (44, B) := by rw [doneO, if_neg (by simp [g']), if_pos g2']
      have := k h3; rw [e] at this
      exact this b3 (only_trans o1 o3).fb
    · have g2' : ¬ innB B o = 0 := by simpa using g2
      refine ⟨hr, st_inn b1 (i := o.toNat) (by omega) fun h2 b2 o2 s2 => let_spec b2 fun h6 b6 o6 => unlock_spec b6 fun h3 b3 o3 s3 => ?_⟩
      have e : doneO B o = (0, letB (setIn B o.toNat 0) (innB B o)) := by rw [doneO, if_neg (by simp [g']), if_neg g2']
      have := k h3; rw [e] at this
      exact this b3 (only_trans (only_trans (only_trans o1 o2).fb o6.fd) o3.fb)
end
end Go.Proofs.YtgcmojbajjajgaaGreat.V
