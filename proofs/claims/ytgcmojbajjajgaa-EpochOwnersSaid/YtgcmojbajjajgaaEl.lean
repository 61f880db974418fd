/- The law EpochOwners: owners are names alone; no condition. -/
import Derived.Test.YtgcmojbajjajgaaEk
namespace Go.Proofs.Ytgcmojbajjajgaa.V
open Go Go.Proofs.Ytgcmojbajjajgaa.V.N
set_option linter.unusedVariables false
set_option linter.unusedSimpArgs false
/-- Owners changed about. -/
def rho (y i : Nat) : Nat := if i = 0 then 0 else if i < 65 then (i - 1 + y) % 64 + 1 else i
theorem rho_lt {y i : Nat} (h : i < 65) : rho y i < 65 := by
  unfold rho
  split
  · omega
  · omega
theorem rho_inj {y i j : Nat} (hi : i < 65) (hj : j < 65) (h : rho y i = rho y j) : i = j := by
  unfold rho at h
  split at h <;> split at h <;> (try omega) <;> (try split at h) <;> (try split at h) <;> omega
theorem rho_onto {y j : Nat} (hy : y < 64) (hj : j < 65) : ∃ i, i < 65 ∧ rho y i = j := by
  by_cases h : j = 0
  · exact ⟨0, by omega, by simp [rho, h]⟩
  · refine ⟨(j - 1 + (64 - y)) % 64 + 1, by omega, ?_⟩
    unfold rho
    rw [if_neg (by omega), if_pos (by omega)]
    omega
structure RO (y : Nat) (B B' : Bk) : Prop where
  pins : B'.pins = B.pins
  now : B'.now = B.now
  die : B'.die = B.die
  sw : B'.sw = B.sw
  l : B.os.length = 65
  l' : B'.os.length = 65
  os : ∀ i, i < 65 → B'.os[rho y i]? = B.os[i]?
section
variable {y : Nat} {B B' : Bk}
theorem RO.mem (r : RO y B B') (hy : y < 64) (x : List Int × Int) : x ∈ B'.os ↔ x ∈ B.os := by
  constructor
  · intro h
    obtain ⟨j, hj⟩ := List.mem_iff_getElem?.1 h
    have hjl := (List.getElem?_eq_some_iff.1 hj).1
    rw [r.l'] at hjl
    obtain ⟨i, hi, rfl⟩ := rho_onto hy hjl
    rw [r.os i hi] at hj
    exact List.mem_of_getElem? hj
  · intro h
    obtain ⟨i, hi⟩ := List.mem_iff_getElem?.1 h
    have hil := (List.getElem?_eq_some_iff.1 hi).1
    rw [r.l] at hil
    rw [← r.os i hil] at hi
    exact List.mem_of_getElem? hi
theorem RO.any (r : RO y B B') (hy : y < 64) (p : List Int × Int → Bool) : B'.os.any p = B.os.any p := by
  rw [Bool.eq_iff_iff, List.any_eq_true, List.any_eq_true]
  exact exists_congr fun x => by rw [r.mem hy]
theorem RO.held (r : RO y B B') (hy : y < 64) (e : Int) : heldB B' e = heldB B e := by
  unfold heldB pinB inB
  rw [r.any hy, r.any hy]
theorem RO.heldL (r : RO y B B') (hy : y < 64) : V.heldL B' = V.heldL B := by
  have hn : ∀ {l : List Int}, l.Pairwise (· < ·) → l.Nodup := fun h => by
    rw [List.nodup_iff_pairwise_ne]; exact h.imp fun h => by omega
  have hp : (V.heldL B').Perm (V.heldL B) := (List.perm_ext_iff_of_nodup (hn (heldL_sorted _)) (hn (heldL_sorted _))).2 fun a => by
    rw [mem_heldL, mem_heldL]
    exact exists_congr fun x => by rw [r.mem hy]
  exact hp.eq_of_pairwise (le := fun a b : Int => a < b) (fun a b _ _ h1 h2 => by omega) (heldL_sorted _) (heldL_sorted _)
theorem RO.mod (r : RO y B B') {i : Nat} (hi : i < 65) (f : List Int × Int → List Int × Int) {D : List (Int × Int)} {sw : Bool} {now : Int} :
    RO y { B with os := B.os.modify i f, die := D, sw := sw, now := now } { B' with os := B'.os.modify (rho y i) f, die := D, sw := sw, now := now } := by
  refine ⟨r.pins, rfl, rfl, rfl, by simp [r.l], by simp [r.l'], fun j hj => ?_⟩
  simp only [List.getElem?_modify]
  rw [r.os j hj]
  by_cases e : i = j
  · subst e; simp
  · have : rho y i ≠ rho y j := fun h => e (rho_inj hi hj h)
    simp [e, this]
theorem RO.let_ (r : RO y B B') (hy : y < 64) (e : Int) : RO y (letB B e) (letB B' e) := by
  unfold letB
  rw [r.held hy]
  split
  · exact r
  · exact ⟨r.pins, r.now, by simp only [r.die], r.sw, r.l, r.l', r.os⟩
theorem RO.lets (hy : y < 64) : ∀ (l : List Int) {B B' : Bk}, RO y B B' → RO y (l.foldl letB B) (l.foldl letB B')
  | [], _, _, r => r
  | e :: l, _, _, r => RO.lets hy l (r.let_ hy e)
theorem iso_toNat {o : Int} (h : isO o = true) : 1 ≤ o.toNat ∧ o.toNat < 65 := by
  have := isO_rng h; simp [isO] at h; omega
/-- An owner by its other name. -/
def oth (y : Nat) (o : Int) : Int := if isO o = true then ((rho y o.toNat : Nat) : Int) else o
theorem oth_iso (o : Int) : isO (oth y o) = isO o := by
  unfold oth
  split
  · rename_i h
    obtain ⟨h1, h2⟩ := iso_toNat h
    rw [h]
    have a := rho_lt (y := y) h2
    have b : 1 ≤ rho y o.toNat := by unfold rho; rw [if_neg (by omega), if_pos h2]; omega
    simp [isO]; omega
  · rfl
theorem oth_nat {o : Int} (h : isO o = true) : (oth y o).toNat = rho y o.toNat := by simp [oth, h]
theorem RO.set (r : RO y B B') {o : Int} (h : isO o = true) : setB B' (oth y o) = setB B o ∧ innB B' (oth y o) = innB B o := by
  unfold setB innB
  rw [oth_nat h, r.os _ (iso_toNat h).2]
  exact ⟨rfl, rfl⟩
theorem RO.seal (r : RO y B B') (o : Int) : (sealB B' (oth y o)).1 = (sealB B o).1 ∧ (sealB B' (oth y o)).2.1 = (sealB B o).2.1 ∧ RO y (sealB B o).2.2 (sealB B' (oth y o)).2.2 := by
  unfold sealB
  by_cases h : isO o = true
  · simp only [oth_iso, h, reduceCtorEq, if_false, (r.set h).1, r.pins, r.now]
    split
    · exact ⟨(by first | rfl | trivial), (by first | rfl | trivial), r⟩
    · split
      · exact ⟨(by first | rfl | trivial), (by first | rfl | trivial), r⟩
      · refine ⟨(by first | rfl | trivial), (by first | rfl | trivial), ?_⟩
        have := r.mod (iso_toNat h).2 (fun x => (insS (setB B o) B.now, x.2)) (D := B.die) (sw := B.sw) (now := B.now + 1)
        simp only [setS, oth_nat h]
        rw [r.die, r.sw]
        exact this
  · have h' : isO o = false := by simpa using h
    simp only [oth_iso, h', if_true]
    exact ⟨(by first | rfl | trivial), (by first | rfl | trivial), r⟩
theorem RO.inner (r : RO y B B') (o : Int) : (innerB B' (oth y o)).1 = (innerB B o).1 ∧ (innerB B' (oth y o)).2.1 = (innerB B o).2.1 ∧ RO y (innerB B o).2.2 (innerB B' (oth y o)).2.2 := by
  unfold innerB
  by_cases h : isO o = true
  · simp only [oth_iso, h, reduceCtorEq, if_false, (r.set h).2, r.now]
    split
    · exact ⟨(by first | rfl | trivial), (by first | rfl | trivial), r⟩
    · split
      · exact ⟨(by first | rfl | trivial), (by first | rfl | trivial), r⟩
      · refine ⟨(by first | rfl | trivial), (by first | rfl | trivial), ?_⟩
        have := r.mod (iso_toNat h).2 (fun x => (x.1, B.now)) (D := B.die) (sw := B.sw) (now := B.now + 1)
        simp only [setIn, oth_nat h]
        rw [r.die, r.sw]
        exact this
  · have h' : isO o = false := by simpa using h
    simp only [oth_iso, h', if_true]
    exact ⟨(by first | rfl | trivial), (by first | rfl | trivial), r⟩
theorem RO.setS (r : RO y B B') {o : Int} (h : isO o = true) (S : List Int) : RO y (V.setS B o.toNat S) (V.setS B' (oth y o).toNat S) := by
  have := r.mod (iso_toNat h).2 (fun x => (S, x.2)) (D := B.die) (sw := B.sw) (now := B.now)
  simp only [V.setS, oth_nat h]
  have e : B' = { B' with die := B.die, sw := B.sw, now := B.now } := by
    rw [← r.die, ← r.sw, ← r.now]
  rw [e]; exact this
theorem RO.join (r : RO y B B') (hy : y < 64) (o e : Int) : (joinB B' (oth y o) e).1 = (joinB B o e).1 ∧ RO y (joinB B o e).2 (joinB B' (oth y o) e).2 := by
  have hp : pinB B' e = pinB B e := r.any hy _
  unfold joinB
  rw [hp]
  by_cases h : isO o = true
  · simp only [oth_iso, h, reduceCtorEq, if_false, (r.set h).1, r.pins]
    split
    · exact ⟨(by first | rfl | trivial), r⟩
    · split
      · exact ⟨(by first | rfl | trivial), r⟩
      · split
        · exact ⟨(by first | rfl | trivial), r⟩
        · exact ⟨(by first | rfl | trivial), r.setS h _⟩
  · have h' : isO o = false := by simpa using h
    simp only [oth_iso, h', if_true]
    exact ⟨(by first | rfl | trivial), r⟩
theorem RO.release (r : RO y B B') (hy : y < 64) (o e : Int) : (releaseB B' (oth y o) e).1 = (releaseB B o e).1 ∧ RO y (releaseB B o e).2 (releaseB B' (oth y o) e).2 := by
  unfold releaseB
  by_cases h : isO o = true
  · simp only [oth_iso, h, reduceCtorEq, if_false, (r.set h).1]
    split
    · exact ⟨(by first | rfl | trivial), r⟩
    · exact ⟨(by first | rfl | trivial), (r.setS h _).let_ hy e⟩
  · have h' : isO o = false := by simpa using h
    simp only [oth_iso, h', if_true]
    exact ⟨(by first | rfl | trivial), r⟩
theorem RO.done (r : RO y B B') (hy : y < 64) (o : Int) : (doneO B' (oth y o)).1 = (doneO B o).1 ∧ RO y (doneO B o).2 (doneO B' (oth y o)).2 := by
  unfold doneO
  by_cases h : isO o = true
  · simp only [oth_iso, h, reduceCtorEq, if_false, (r.set h).2]
    split
    · exact ⟨(by first | rfl | trivial), r⟩
    · refine ⟨(by first | rfl | trivial), ?_⟩
      have := r.mod (iso_toNat h).2 (fun x => (x.1, (0 : Int))) (D := B.die) (sw := B.sw) (now := B.now)
      have e : B' = { B' with die := B.die, sw := B.sw, now := B.now } := by
        rw [← r.die, ← r.sw, ← r.now]
      simp only [setIn, oth_nat h]
      refine RO.let_ ?_ hy _
      rw [e]; exact this
  · have h' : isO o = false := by simpa using h
    simp only [oth_iso, h', if_true]
    exact ⟨(by first | rfl | trivial), r⟩
theorem RO.drop (r : RO y B B') (hy : y < 64) (o : Int) : (dropB B' (oth y o)).1 = (dropB B o).1 ∧ RO y (dropB B o).2 (dropB B' (oth y o)).2 := by
  unfold dropB
  by_cases h : isO o = true
  · simp only [oth_iso, h, reduceCtorEq, if_false, (r.set h).1, (r.set h).2]
    refine ⟨(by first | rfl | trivial), RO.lets hy _ ?_⟩
    have := r.mod (iso_toNat h).2 (fun _ => (([] : List Int), (0 : Int))) (D := B.die) (sw := B.sw) (now := B.now)
    have e : B' = { B' with die := B.die, sw := B.sw, now := B.now } := by
      rw [← r.die, ← r.sw, ← r.now]
    simp only [oth_nat h]
    rw [e]; exact this
  · have h' : isO o = false := by simpa using h
    simp only [oth_iso, h', if_true]
    exact ⟨(by first | rfl | trivial), r⟩
theorem RO.begin_ (r : RO y B B') : (beginB B').1 = (beginB B).1 ∧ RO y (beginB B).2 (beginB B').2 := by
  unfold beginB
  rw [r.sw]
  split
  · exact ⟨(by first | rfl | trivial), r⟩
  · exact ⟨rfl, r.pins, r.now, by simp only [r.die], rfl, r.l, r.l', r.os⟩
theorem RO.end_ (r : RO y B B') : (endB B').1 = (endB B).1 ∧ (endB B').2.1 = (endB B).2.1 ∧ RO y (endB B).2.2 (endB B').2.2 := by
  unfold endB
  rw [r.sw]
  split
  · exact ⟨(by first | rfl | trivial), (by first | rfl | trivial), r⟩
  · exact ⟨by simp only [r.die], rfl, r.pins, r.now, by simp only [r.die], rfl, r.l, r.l', r.os⟩
theorem RO.do_ (r : RO y B B') (hy : y < 64) (s : Stp9) : (doB B' { s with Owner := oth y s.Owner }).1 = (doB B s).1 ∧ RO y (doB B s).2 (doB B' { s with Owner := oth y s.Owner }).2 := by
  have ho : ofB { s with Owner := oth y s.Owner } B'.now = ofB s B.now := by unfold ofB; rw [r.now]
  unfold doB
  rw [ho]
  simp only
  split
  · have := r.seal s.Owner; exact ⟨by rw [this.2.1], this.2.2⟩
  · split
    · have := r.inner s.Owner; exact ⟨by rw [this.2.1], this.2.2⟩
    · split
      · have := r.join hy s.Owner (ofB s B.now); exact ⟨by rw [this.1], this.2⟩
      · split
        · have := r.release hy s.Owner (ofB s B.now); exact ⟨by rw [this.1], this.2⟩
        · split
          · have := r.done hy s.Owner; exact ⟨by rw [this.1], this.2⟩
          · split
            · have := r.drop hy s.Owner; exact ⟨by rw [this.1], this.2⟩
            · split
              · have := r.begin_; exact ⟨by rw [this.1], this.2⟩
              · split
                · have := r.end_; exact ⟨by rw [this.2.1], this.2.2⟩
                · exact ⟨(by first | rfl | trivial), r⟩
theorem RO.new {pins : Int} (hy : y < 64) : RO y (newB pins) (newB pins) := by
  refine ⟨rfl, rfl, rfl, rfl, by simp [newB], by simp [newB], fun i hi => ?_⟩
  have h1 := rho_lt (y := y) hi
  have : ∀ j, j < 65 → (newB pins).os[j]? = some ([], 0) := fun j hj => by
    rw [show (newB pins).os = List.replicate 65 ([], 0) from rfl, List.getElem?_replicate, if_pos hj]
  rw [this _ h1, this _ hi]
end
section
variable {h : H}
theorem oth_val {y : Nat} {o : Int} (h1 : 1 ≤ o) (h2 : o ≤ 64) (hy : y < 64) : IntKind.wrap .i64 ((Int.tmod (IntKind.wrap .i64 ((IntKind.wrap .i64 (o - 1)) + (y : Int))) 64) + 1) = oth y o := by
  rw [w64 (n := o - 1) (by omega) (by omega), w64 (n := o - 1 + (y : Int)) (by omega) (by omega)]
  have hi : isO o = true := by simp [isO]; omega
  unfold oth
  rw [if_pos hi]
  unfold rho
  rw [if_neg (by omega), if_pos (by omega)]
  have : Int.tmod (o - 1 + (y : Int)) 64 = (((o.toNat - 1 + y) % 64 : Nat) : Int) := by
    rw [show o - 1 + (y : Int) = ((o.toNat - 1 + y : Nat) : Int) from by omega]
    rfl
  rw [this, w64 (by omega) (by omega)]
  omega
theorem EpochOwners_spec {pins z : Int} {s1 : Sl} {S1 : List Stp9} {Q : Bool → H → Prop} (t1 : Reads h s1 4 (S1.flatMap (·.cells))) (k : ∀ h', Ext h h' → Q true h') : F.spatelaw9_EpochOwners pins s1 z h Q := by
  have l1 := rd_len step_len (by omega) t1
  unfold F.spatelaw9_EpochOwners
  refine known_spec fun h1 e1 => ⟨fun g => by simp at g, fun _ => ?_⟩
  have j10 : ∀ x : Bool, (x = true ∨ (x = false ∧ s1.len ≤ 3000 ∧ 1 ≤ pins ∧ pins ≤ 64)) → F.spatelaw9_EpochOwners.j10 Q pins s1 z x h1 := by
    intro x hx
    unfold F.spatelaw9_EpochOwners.j10
    refine ⟨fun _ => k h1 e1, fun g => ?_⟩
    rcases hx with hx | ⟨_, b1, p1, p2⟩
    · rw [hx] at g; cases g
    rw [l1] at b1
    have j2 : ∀ y : Nat, y < 64 → F.spatelaw9_EpochOwners.j2 Q pins s1 (y : Int) h1 := by
      intro y hy
      unfold F.spatelaw9_EpochOwners.j2
      refine new_bk (BKs.nil h1) (fun e => by omega) fun _ _ n h2 F2 q2 _ => new_bk q2 (fun e => by omega) fun _ _ m h3 F3 q3 _ => ?_
      refine ⟨fun g => by simp at g, fun _ => ⟨fun g => by simp at g, fun _ => ⟨fun g => by simp at g, fun _ => ?_⟩⟩⟩
      unfold F.spatelaw9_EpochOwners.j9 F.spatelaw9_EpochOwners.j3
      refine ⟨fun g => by simp at g, fun _ => ⟨S1.length + 1, ?_⟩⟩
      have key : ∀ (d i : Nat) (h' : H) (F' : Nat → Prop) (B B' : Bk), i ≤ S1.length → S1.length - i < d → BKs h1 h' F' [(n, B), (m, B')] → RO y B B' → Ok B i → Ok B' i → F.spatelaw9_EpochOwners.l4 Q d s1 (y : Int) (some ⟨n, 0, none⟩) (some ⟨m, 0, none⟩) (i : Int) h' := by
        intro d
        induction d with
        | zero => intro i h' F' B B' _ hm; omega
        | succ d ih =>
          intro i h' F' B B' hi hm b' r ok ok'
          unfold F.spatelaw9_EpochOwners.l4
          simp only [decide_eq_true_eq, decide_eq_false_iff_not]
          rw [l1]
          refine ⟨fun g => ?_, fun g => k h' (e1.trans b'.ext0)⟩
          obtain ⟨x, hx⟩ : ∃ x, S1[i]? = some x := ⟨_, List.getElem?_eq_getElem (by omega)⟩
          refine step_at (h0 := h) (e := e1.trans b'.ext0) t1 hx (e1.trans b'.ext0) ?_
          refine new_of fun a h4 ha k4 e4 s4 => ?_
          refine stH_of k4 (by simp [S_spatelaw9_Step.cells]) fun h5 k5 o5 s5 => ?_
          rw [writeA_all (by simp [S_spatelaw9_Step.cells])] at k5
          have cl : ∀ {hh : H} {a : Nat} {x : Stp9}, Blk hh a x.cells.toArray tn_spatelaw9_Step → Cells hh ⟨a, 0, none⟩ x.cells := fun kk j v hv => by rw [add_lit, Nat.zero_add]; exact kk.cell (by simpa using hv)
          refine ⟨x, cl k5, ?_⟩
          refine new_of fun c h6 hc k6 e6 s6 => ?_
          refine stH_of k6 (by simp [S_spatelaw9_Step.cells]) fun h7 k7 o7 s7 => ?_
          rw [writeA_all (by simp [S_spatelaw9_Step.cells])] at k7
          have hac : a ≠ c := by omega
          have ka7 : Blk h7 a x.cells.toArray tn_spatelaw9_Step := o7.block (e6.block k5 (fun f => f)) hac
          have b7 : BKs h1 h7 F' [(n, B), (m, B')] := by
            refine ((((b'.ext e4).only o5 (fun y hy e => ?_) fun y hy e => ?_).ext e6).only o7 (fun y hy e => ?_) fun y hy e => ?_)
            · have := b'.lt y hy; omega
            · have := b'.ext0.size; omega
            · have := b'.lt y hy; omega
            · have := b'.ext0.size; omega
          -- once the other's owner is set
          have go : ∀ (h8 : H), BKs h1 h8 F' [(n, B), (m, B')] → Blk h8 a x.cells.toArray tn_spatelaw9_Step → Blk h8 c ({ x with Owner := oth y x.Owner } : Stp9).cells.toArray tn_spatelaw9_Step →
              F.spatelaw9_EpochOwners.j6 Q (F.spatelaw9_EpochOwners.l4 Q d) s1 (y : Int) (some ⟨n, 0, none⟩) (some ⟨m, 0, none⟩) (i : Int) ⟨a, 0, none⟩ ⟨c, 0, none⟩ h8 := by
            intro h8 b8 ka8 kc8
            unfold F.spatelaw9_EpochOwners.j6
            refine ⟨x, cl ka8, { x with Owner := oth y x.Owner }, cl kc8, ?_⟩
            refine do_bk (i := 0) b8 rfl ok (by omega) fun h9 F9 b9 st9 => ?_
            have kc9 := b8.blk st9 kc8 (by decide)
            refine ⟨cl kc9, ?_⟩
            refine do_bk (i := 1) b9 rfl ok' (by omega) fun h10 F10 b10 st10 => ?_
            obtain ⟨r1, r2⟩ := r.do_ hy x
            have oka := ok.do_ x
            have okb := ok'.do_ { x with Owner := oth y x.Owner }
            refine ⟨fun g => by rw [r1] at g; simp at g, fun _ => ?_⟩
            refine held_bk (i := 0) b10 rfl oka (by omega) fun r3 h11 F11 b11 s11 w3 _ => held_bk (i := 1) b11 rfl okb (by omega) fun r4 h12 F12 b12 s12 w4 _ => ?_
            have w3' := b11.row s12 w3 (by decide)
            refine ints_spec w3'.reads w4.reads (by have := oka.heldlen; omega) ?_
            rw [decide_eq_true (r2.heldL hy).symm]
            refine ⟨fun g => by simp at g, fun _ => ?_⟩
            refine dying_bk (i := 0) b12 rfl oka (by omega) fun r5 h13 F13 b13 s13 w5 _ => dying_bk (i := 1) b13 rfl okb (by omega) fun r6 h14 F14 b14 s14 w6 _ => ?_
            have w5' := b13.row s14 w5 (by decide)
            refine ints_spec w5'.reads w6.reads (by have := oka.dielen; simp [dieL]; omega) ?_
            rw [decide_eq_true (by unfold dieL; rw [r2.die])]
            refine ⟨fun g => by simp at g, fun _ => ?_⟩
            refine now_bk (i := 0) b14 rfl fun h15 F15 b15 s15 => now_bk (i := 1) b15 rfl fun h16 F16 b16 s16 => ?_
            rw [r2.now]
            unfold F.spatelaw9_EpochOwners.j7 F.spatelaw9_EpochOwners.j5
            refine ⟨fun g => by simp at g, fun _ => ?_⟩
            rw [w64n (by omega)]
            exact ih (i + 1) h16 F16 _ _ (by omega) (by omega) b16 r2 oka okb
          have c7 : cellH h7 ⟨a, 1, none⟩ = some (.int .i64 x.Owner) := ka7.cell rfl
          simp only [add_lit, Nat.zero_add]
          refine (ldI_iff c7).2 ⟨fun g1 => (ldI_iff c7).2 ?_, fun g1 => ?_⟩
          · unfold F.spatelaw9_EpochOwners.j8
            simp only [add_lit, Nat.zero_add]
            refine ⟨fun g2 => (ldI_iff c7).2 ⟨by decide, ?_⟩, fun g2 => ?_⟩
            · have g2' : x.Owner ≤ 64 := by simpa using g2
              rw [oth_val (by omega) g2' hy]
              refine stH_of k7 (by simp [S_spatelaw9_Step.cells]) fun h8 k8 o8 s8 => ?_
              refine go h8 (b7.only o8 (fun y hy e => ?_) fun y hy e => ?_) (o8.block ka7 hac) ?_
              · have := b'.lt y hy; omega
              · have := b'.ext0.size; omega
              · have : writeA x.cells.toArray 1 [.int .i64 (oth y x.Owner)] = ({ x with Owner := oth y x.Owner } : Stp9).cells.toArray := rfl
                rw [← this]; exact k8
            · refine go h7 b7 ka7 ?_
              have g2' : ¬ x.Owner ≤ 64 := by simpa using g2
              have : oth y x.Owner = x.Owner := by unfold oth; rw [if_neg (by simp [isO]; omega)]
              rw [show ({ x with Owner := oth y x.Owner } : Stp9) = x from by rw [this]]
              exact k7
          · unfold F.spatelaw9_EpochOwners.j8
            refine ⟨fun g2 => by simp at g2, fun _ => go h7 b7 ka7 ?_⟩
            have : oth y x.Owner = x.Owner := by unfold oth; rw [if_neg (by simp [isO]; omega)]
            rw [show ({ x with Owner := oth y x.Owner } : Stp9) = x from by rw [this]]
            exact k7
      exact key _ 0 h3 F3 _ _ (by omega) (by omega) q3 (.new hy) .new .new
    unfold F.spatelaw9_EpochOwners.j1
    have hz1 : -64 < Int.tmod z 64 := by
      have := Int.lt_tmod_of_pos z (show (0 : Int) < 64 by omega); omega
    have hz2 : Int.tmod z 64 < 64 := Int.tmod_lt_of_pos z (by omega)
    refine ⟨by decide, fun g => ?_, fun g => ?_⟩
    · have g' : Int.tmod z 64 < 0 := by simpa using g
      rw [w64 (by omega) (by omega)]
      have := j2 (Int.tmod z 64 + 64).toNat (by omega)
      rwa [show (((Int.tmod z 64 + 64).toNat : Nat) : Int) = Int.tmod z 64 + 64 from by omega] at this
    · have g' : ¬ Int.tmod z 64 < 0 := by simpa using g
      have := j2 (Int.tmod z 64).toNat (by omega)
      rwa [show (((Int.tmod z 64).toNat : Nat) : Int) = Int.tmod z 64 from by omega] at this
  refine ⟨fun g => j10 true (.inl rfl), fun g1 => ⟨fun g => j10 true (.inl rfl), fun g2 => j10 _ ?_⟩⟩
  simp only [decide_eq_false_iff_not] at g1 g2
  by_cases hp : pins > 64
  · exact .inl (by simp [hp])
  · exact .inr ⟨by simp [hp], by omega, by omega, by omega⟩
end
end Go.Proofs.Ytgcmojbajjajgaa.V
