/- The law EpochSets: what is held, told by the law's maps; no condition. -/
import Derived.Test.YtgcmojbajjajgaaEp
namespace Go.Proofs.Ytgcmojbajjajgaa.V
open Go Go.Proofs.Ytgcmojbajjajgaa.V.N
set_option linter.unusedVariables false
set_option linter.unusedSimpArgs false
theorem sk_tS {S : List Int} : SK (tS S) ↔ S.Pairwise (· < ·) := by
  unfold SK tS
  rw [List.pairwise_map]
/-- A map whose keys are told by P. -/
def AM (h : H) (b : Nat) (P : Int → Prop) : Prop := ∃ A, MS h b (tS A) ∧ A.Pairwise (· < ·) ∧ ∀ e, e ∈ A ↔ P e
section
variable {h h' : H} {b : Nat} {P P' : Int → Prop}
theorem AM.only {S : Nat → Prop} (m : AM h b P) (o : Only S h h') (hn : ¬ S b) : AM h' b P := by obtain ⟨A, m, s⟩ := m; exact ⟨A, m.only o hn, s⟩
theorem AM.lt (m : AM h b P) : b < h.size := by obtain ⟨A, m, s⟩ := m; exact m.lt
theorem AM.congr (m : AM h b P) (e : ∀ x, P x ↔ P' x) : AM h b P' := by obtain ⟨A, m, s, t⟩ := m; exact ⟨A, m, s, fun x => (t x).trans (e x)⟩
theorem AM.put {e : Int} {K : Unit → H → Prop} (m : AM h b P) (k : ∀ h', AM h' b (fun x => P x ∨ x = e) → Only (· = b) h h' → K () h') : RunS PP (Instr.mapUpdate tn_map_int_bool (.map (some b)) (.int .i64 e) (.bool true)) h K := by
  obtain ⟨A, m, s, t⟩ := m
  refine updS_of mt_map_int_bool intT m fun h' m' oo ss => k h' ⟨insS A e, ?_, ins_sorted s, fun x => ?_⟩ oo
  · rw [tS_ins] at m'; exact m'
  · rw [mem_ins s, t x]; exact Or.comm
end
theorem sorted_eq {A C : List Int} (sa : A.Pairwise (· < ·)) (sc : C.Pairwise (· < ·)) (h : ∀ e, e ∈ A ↔ e ∈ C) : A = C := by
  have hn : ∀ {l : List Int}, l.Pairwise (· < ·) → l.Nodup := fun h => by
    rw [List.nodup_iff_pairwise_ne]; exact h.imp fun h => by omega
  exact ((List.perm_ext_iff_of_nodup (hn sa) (hn sc)).2 h).eq_of_pairwise (le := fun a b : Int => a < b) (fun a b _ _ h1 h2 => by omega) sa sc
structure HV (h1 h : H) (G : Nat → Prop) (n : Nat) (B : Bk) (sb ib : Nat) (ms : Nat → Nat) (W : Os) (ab : Nat) (P : Int → Prop) : Prop where
  b : BKs h1 h G [(n, B)]
  hm : ∀ x, (LB sb ib ms x ∨ x = ab) → ¬ G x
  sm : SM h sb ib ms W
  am : AM h ab P
  lo : ∀ x, (LB sb ib ms x ∨ x = ab) → h1.size ≤ x
  dj : ∀ x, LB sb ib ms x → x ≠ ab
section
variable {h1 h h' : H} {n sb ib ab : Nat} {G G' : Nat → Prop} {B : Bk} {ms : Nat → Nat} {W : Os} {P P' : Int → Prop}
theorem HV.lt (v : HV h1 h G n B sb ib ms W ab P) {x : Nat} (hx : LB sb ib ms x ∨ x = ab) : x < h.size := by
  rcases hx with hx | rfl
  · exact v.sm.lt x hx
  · exact v.am.lt
theorem HV.step (v : HV h1 h G n B sb ib ms W ab P) (b' : BKs h1 h' G' [(n, B)]) (st : Stpp G h G' h') : HV h1 h' G' n B sb ib ms W ab P :=
  ⟨b', fun x hx hf => (st.new x hf).elim (v.hm x hx) fun hs => by have := v.lt hx; omega, v.sm.only st.only fun x hx => v.hm x (.inl hx), v.am.only st.only (v.hm _ (.inr rfl)), v.lo, v.dj⟩
theorem HV.updA (v : HV h1 h G n B sb ib ms W ab P) (o : Only (· = ab) h h') (m : AM h' ab P') : HV h1 h' G n B sb ib ms W ab P' :=
  ⟨v.b.only o (fun x hx e => v.hm _ (.inr rfl) (e ▸ hx)) (fun x hx e => by have := v.lo ab (.inr rfl); omega), v.hm, v.sm.only o v.dj, m, v.lo, v.dj⟩
theorem HV.at (v : HV h1 h G n B sb ib ms W ab P) {r : Nat} (o : Only (· = r) h h') (h2 : ¬ G r) (h3 : h1.size ≤ r) (h4 : ∀ x, LB sb ib ms x → x ≠ r) (h5 : ab ≠ r) : HV h1 h' G n B sb ib ms W ab P :=
  ⟨v.b.only o (fun x hx e => h2 (e ▸ hx)) (fun x hx e => by omega), v.hm, v.sm.only o h4, v.am.only o h5, v.lo, v.dj⟩
theorem HV.ext (v : HV h1 h G n B sb ib ms W ab P) (e : Ext h h') : HV h1 h' G n B sb ib ms W ab P :=
  ⟨v.b.ext e, v.hm, v.sm.only e (fun _ _ f => f), v.am.only e (fun f => f), v.lo, v.dj⟩
theorem HV.congr (v : HV h1 h G n B sb ib ms W ab P) (e : ∀ x, P x ↔ P' x) : HV h1 h G n B sb ib ms W ab P' := ⟨v.b, v.hm, v.sm, v.am.congr e, v.lo, v.dj⟩
theorem HV.holds {o e : Int} {Q : Bool → H → Prop} (v : HV h1 h G n B sb ib ms W ab P) (k : ∀ h' G', HV h1 h' G' n B sb ib ms W ab P → Q (holdsB B o e) h') : F.epoch_Book_Holds (some ⟨n, 0, none⟩) o e h Q :=
  holds_bk (i := 0) v.b rfl fun h' G' b' st => k h' G' (v.step b' st)
theorem HV.now {Q : Int → H → Prop} (v : HV h1 h G n B sb ib ms W ab P) (k : ∀ h' G', HV h1 h' G' n B sb ib ms W ab P → Q B.now h') : F.epoch_Book_Now (some ⟨n, 0, none⟩) h Q :=
  now_bk (i := 0) v.b rfl fun h' G' b' st => k h' G' (v.step b' st)
end
theorem holds_any {B : Bk} {o e : Int} : (isO o && ((B.os[o.toNat]?).any fun x => decide (e ∈ x.1))) = holdsB B o e := by
  unfold holdsB setB
  cases B.os[o.toNat]? <;> simp
/-- What is held by the owners ahead of o. -/
def Upto (B : Bk) (o : Nat) (e : Int) : Prop := ∃ x ∈ B.os.take o, e ∈ x.1 ∨ (e = x.2 ∧ x.2 ≠ 0)
theorem upto_snoc {B : Bk} {o : Nat} {x : List Int × Int} (hx : B.os[o]? = some x) {e : Int} : Upto B (o + 1) e ↔ Upto B o e ∨ e ∈ x.1 ∨ (e = x.2 ∧ x.2 ≠ 0) := by
  unfold Upto
  rw [take_snoc hx]
  simp only [List.mem_append, List.mem_singleton]
  constructor
  · rintro ⟨y, hy | rfl, hz⟩
    · exact .inl ⟨y, hy, hz⟩
    · exact .inr hz
  · rintro (⟨y, hy, hz⟩ | hz)
    · exact ⟨y, .inl hy, hz⟩
    · exact ⟨x, .inr rfl, hz⟩
theorem heldlaw_spec {h1 h : H} {n sb ib : Nat} {B : Bk} {ms : Nat → Nat} {c : Nat} {Q : Bool → H → Prop} (v : SV h1 h n B sb ib ms B.os) (ok : Ok B c) (hc : c < 900000) (os0 : B.os[0]? = some ([], 0)) (k : ∀ h', Ext h1 h' → Q true h') :
    F.spatelaw9_held (some ⟨n, 0, none⟩) (some sb) (some ib) h Q := by
  unfold F.spatelaw9_held
  obtain ⟨F0, b0, hm0⟩ := v.bk
  refine make0_of fun ab h2 hab m2 e2 s2 => ⟨_, rfl, 65, ?_⟩
  have hnow := ok.now
  have v2 : HV h1 h2 F0 n B sb ib ms B.os ab (Upto B 1) := by
    refine ⟨b0.ext e2, fun x hx hf => ?_, v.sm.only e2 (fun _ _ f => f), ⟨[], m2, .nil, fun e => ?_⟩, fun x hx => ?_, fun x hx => ?_⟩
    · rcases hx with hx | rfl
      · exact hm0 x hx hf
      · have := b0.lt _ hf; omega
    · rw [upto_snoc os0]; simp [Upto]
    · rcases hx with hx | rfl
      · exact v.lo x hx
      · have := b0.ext0.size; omega
    · have := v.sm.lt x hx; omega
  -- an owner's names
  have names : ∀ (o : Nat) (C1 : Option Addr → Option Nat → Option Nat → Option Nat → Int → H → Prop) (P : Int → Prop), o ≤ 64 →
      (∀ h' F', HV h1 h' F' n B sb ib ms B.os ab P → C1 (some ⟨n, 0, none⟩) (some sb) (some ib) (some ab) ((o + 1 : Nat) : Int) h') →
      ∀ (d e : Nat) (h' : H) (F' : Nat → Prop), (e : Int) ≤ B.now + 1 → B.now + 1 - e < d → HV h1 h' F' n B sb ib ms B.os ab P →
      F.spatelaw9_held.l5 Q C1 d (some ⟨n, 0, none⟩) (some sb) (some ib) (some ab) (o : Int) (e : Int) h' := by
    intro o C1 P ho64 hC d
    induction d with
    | zero => intro e h' F' he hm; omega
    | succ d ih =>
      intro e h' F' he hm v
      unfold F.spatelaw9_held.l5
      simp only [decide_eq_true_eq, decide_eq_false_iff_not]
      refine v.now fun h3 F3 v3 => ⟨fun g => ?_, fun g => ?_⟩
      · have next : ∀ h4 F4 (b : Bool), HV h1 h4 F4 n B sb ib ms B.os ab P → b = false → F.spatelaw9_held.j7 Q C1 (F.spatelaw9_held.l5 Q C1 d) (some ⟨n, 0, none⟩) (some sb) (some ib) (some ab) (o : Int) (e : Int) b h4 := by
          intro h4 F4 b v4 hb
          unfold F.spatelaw9_held.j7 F.spatelaw9_held.j6
          refine ⟨fun g => (by rw [hb] at g; cases g), fun _ => ?_⟩
          rw [w64n (by omega)]
          exact ih (e + 1) h4 F4 (by omega) (by omega) v4
        refine ⟨?_, ?_⟩
        · refine v3.holds fun h4 F4 v4 => v4.sm.get ⟨_, rfl, v4.sm.has ⟨_, rfl, next _ _ _ v4 ?_⟩⟩
          rw [holds_any]; simp
        · refine v3.sm.get ⟨_, rfl, ?_, ?_⟩
          · refine v3.holds fun h4 F4 v4 => v4.sm.has ⟨_, rfl, next _ _ _ v4 ?_⟩
            rw [holds_any]; simp
          · refine v3.sm.has ⟨_, rfl, v3.holds fun h4 F4 v4 => next _ _ _ v4 ?_⟩
            rw [holds_any]; simp
      · unfold F.spatelaw9_held.j2
        rw [w64n (by omega)]
        exact hC h3 F3 v3
  -- the owners
  have owners : ∀ (d o : Nat) (h' : H) (F' : Nat → Prop), 1 ≤ o → o ≤ 65 → 65 - o < d → HV h1 h' F' n B sb ib ms B.os ab (Upto B o) →
      F.spatelaw9_held.l1 Q d (some ⟨n, 0, none⟩) (some sb) (some ib) (some ab) (o : Int) h' := by
    intro d
    induction d with
    | zero => intro o h' F' _ _ hm; omega
    | succ d ih =>
      intro o h' F' h1o h2o hm v
      unfold F.spatelaw9_held.l1
      simp only [decide_eq_true_eq, decide_eq_false_iff_not]
      refine ⟨fun g => ?_, fun g => ?_⟩
      · have hio : isO (o : Int) = true := by simp [isO]; omega
        obtain ⟨x, hx⟩ : ∃ x, B.os[o]? = some x := ⟨_, List.getElem?_eq_getElem (by rw [ok.lo]; omega)⟩
        have hxl : (x.1.length : Int) ≤ c := by
          have := ok.setlen (o : Int)
          unfold setB at this
          rw [Int.toNat_natCast, hx] at this
          simp only [Option.getD_some] at this
          omega
        refine v.sm.get ⟨_, rfl, ?_⟩
        rw [if_pos hio, Int.toNat_natCast]
        refine rangeS_of mt_map_int_bool (v.sm.each o x h1o (by omega) hx) fun r h3 hr it3 e3 s3 => ⟨_, rfl, x.1.length + 1, ?_⟩
        have v3 := v.ext e3
        have hrF : ¬ F' r := fun hf => by have := v.b.lt _ hf; omega
        have hr1 : h1.size ≤ r := by have := v.b.ext0.size; omega
        have hrL : ∀ y, LB sb ib ms y → y ≠ r := fun y hy => by have := v.sm.lt y hy; omega
        have hrA : ab ≠ r := by have := v.am.lt; omega
        have j4 : ∀ h4, HV h1 h4 F' n B sb ib ms B.os ab (Upto B (o + 1)) → F.spatelaw9_held.j4 Q (F.spatelaw9_held.l1 Q d) (some ⟨n, 0, none⟩) (some sb) (some ib) (some ab) (o : Int) h4 := by
          intro h4 v4
          unfold F.spatelaw9_held.j4
          refine ⟨(B.now + 2).toNat, ?_⟩
          exact names o _ _ (by omega) (fun h5 F5 v5 => ih (o + 1) h5 F5 (by omega) (by omega) (by omega) v5) _ 0 h4 F' (by omega) (by omega) v4
        have keys : ∀ (d2 : Nat) (D : List Int) (h4 : H), D.Nodup → (∀ e ∈ D, e ∈ x.1) → x.1.length - D.length < d2 → ItS h4 r (ms o) (tS x.1) D → HV h1 h4 F' n B sb ib ms B.os ab (fun e => Upto B o e ∨ e ∈ D) →
            F.spatelaw9_held.l3 Q (F.spatelaw9_held.l1 Q d) d2 (some ⟨n, 0, none⟩) (some sb) (some ib) (some ab) (o : Int) ⟨r, 0, none⟩ h4 := by
          intro d2
          induction d2 with
          | zero => intro D h4 _ _ hm; omega
          | succ d2 ih2 =>
            intro D h4 hnd hsub hm it v4
            unfold F.spatelaw9_held.l3
            refine nextS_of it (fun hall => ⟨false, #[], rfl, fun g => (by cases g), fun _ => ?_⟩) fun h5 kk val it5 hmem hkD o5 s5 hen => ⟨true, #[.int .i64 kk, val], rfl, fun _ => ?_, fun g => (by cases g)⟩
            · refine v4.sm.inner hio (by rw [Int.toNat_natCast]; exact hx) ⟨_, rfl, fun g2 => ?_, fun g2 => ?_⟩
              · refine v4.sm.inner hio (by rw [Int.toNat_natCast]; exact hx) ⟨_, rfl, ?_⟩
                refine v4.am.put fun h6 a6 o6 => j4 h6 ((v4.updA o6 a6).congr fun e => ?_)
                rw [upto_snoc hx]
                have : x.2 ≠ 0 := by simpa using g2
                constructor
                · rintro ((h | h) | h)
                  · exact .inl h
                  · exact .inr (.inl (hsub e h))
                  · exact .inr (.inr ⟨h, this⟩)
                · rintro (h | h | h)
                  · exact .inl (.inl h)
                  · exact .inl (.inr (hall (e, .bool true) (List.mem_map.2 ⟨e, h, rfl⟩)))
                  · exact .inr h.1
              · refine j4 h4 (v4.congr fun e => ?_)
                rw [upto_snoc hx]
                have : x.2 = 0 := by simpa using g2
                constructor
                · rintro (h | h)
                  · exact .inl h
                  · exact .inr (.inl (hsub e h))
                · rintro (h | h | h)
                  · exact .inl h
                  · exact .inr (hall (e, .bool true) (List.mem_map.2 ⟨e, h, rfl⟩))
                  · exact absurd this h.2
            · obtain ⟨k2, hk2, hk3⟩ := List.mem_map.1 hmem
              have hkk : k2 = kk := congrArg Prod.fst hk3
              have hval : val = .bool true := (congrArg Prod.snd hk3).symm
              subst hkk; subst hval
              refine hen _ ⟨k2, true, rfl, ?_⟩
              have v5 := v4.at o5 hrF hr1 hrL hrA
              refine v5.am.put fun h6 a6 o6 => ?_
              have hnd2 : (D ++ [k2]).Nodup := by
                rw [List.nodup_append]
                refine ⟨hnd, by simp, fun a ha b hb => ?_⟩
                simp at hb; subst hb
                exact fun e => hkD (e ▸ ha)
              have hsub2 : ∀ e ∈ D ++ [k2], e ∈ x.1 := fun e he => by
                rcases List.mem_append.1 he with he | he
                · exact hsub e he
                · simp at he; subst he; exact hk2
              have hl2 := nodup_len hnd2 hsub2
              simp only [List.length_append, List.length_singleton] at hl2
              refine ih2 (D ++ [k2]) h6 hnd2 hsub2 (by simp only [List.length_append, List.length_singleton]; omega) (it5.only o6 (fun e => v5.dj _ (.inr (.inr ⟨o, h1o, by omega, rfl⟩)) e) hrA.symm) ((v5.updA o6 a6).congr fun e => ?_)
              simp only [List.mem_append, List.mem_singleton]
              exact or_assoc
        exact keys _ [] h3 .nil (by simp) (by simp) it3 (v3.congr fun e => by simp)
      · have ho : o = 65 := by omega
        subst ho
        refine held_bk (i := 0) v.b rfl ok (by omega) fun r h3 F3 b3 st3 w3 _ => ⟨(heldL B).length + 1, ?_⟩
        have v3 := v.step b3 st3
        have hl := own_len cI_len (by have := ok.heldlen; omega) w3
        obtain ⟨A, mA, sA, tA⟩ := v3.am
        have hA : A = heldL B := sorted_eq sA (heldL_sorted B) fun e => by
          rw [tA e, mem_heldL]
          unfold Upto
          rw [List.take_of_length_le (by rw [ok.lo]; omega)]
        subst hA
        have loop : ∀ (d i : Nat), i ≤ (heldL B).length → (heldL B).length - i < d → F.spatelaw9_held.l8 Q d (some ⟨n, 0, none⟩) (some ab) r (i : Int) h3 := by
          intro d
          induction d with
          | zero => intro i _ hm; omega
          | succ d ih =>
            intro i hi hm
            unfold F.spatelaw9_held.l8
            simp only [decide_eq_true_eq, decide_eq_false_iff_not]
            rw [hl]
            refine ⟨fun g => ?_, fun g => ?_⟩
            · obtain ⟨x, hx⟩ : ∃ x, (heldL B)[i]? = some x := ⟨_, List.getElem?_eq_getElem (by omega)⟩
              obtain ⟨bb, p1, p2⟩ := own_at cI_len (by have := ok.heldlen; omega) w3 hx
              refine idxA_of (i := i) p1 (by omega) rfl ((ldI_iff (n := x) p2.one).2 ?_)
              refine look_tS mA ⟨_, rfl, ?_⟩
              rw [decide_eq_true (List.mem_of_getElem? hx)]
              refine ⟨fun g => by simp at g, fun _ => ?_⟩
              rw [w64n (by have := ok.heldlen; omega)]
              exact ih (i + 1) (by omega) (by omega)
            · refine lenS_of mt_map_int_bool mA ⟨_, rfl, ?_⟩
              have : ((tS (heldL B)).length : Int) = (heldL B).length := by simp [tS]
              rw [this]
              refine ⟨fun _ => ?_, fun g => by simp at g⟩
              refine v3.holds fun h4 F4 v4 => ⟨fun _ => ?_, fun g => by simp [holdsB, isO] at g⟩
              refine v4.holds fun h5 F5 v5 => ⟨fun _ => ?_, fun g => by simp [holdsB, isO] at g⟩
              refine v5.holds fun h6 F6 v6 => ?_
              rw [show holdsB B (-1) 1 = false from by simp [holdsB, isO]]
              exact k h6 v6.b.ext0
        exact loop _ 0 (by omega) (by omega)
  exact owners 65 1 h2 F0 (by omega) (by omega) (by omega) v2
end Go.Proofs.Ytgcmojbajjajgaa.V
