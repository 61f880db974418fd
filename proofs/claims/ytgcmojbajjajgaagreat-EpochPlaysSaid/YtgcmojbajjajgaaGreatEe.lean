/- The book's other calls: a sweep's beginning and end, a drop, a twin, a new book; no condition. -/
import Derived.Test.YtgcmojbajjajgaaGreatEd
namespace Go.Proofs.YtgcmojbajjajgaaGreat.V
open Go Go.Proofs.YtgcmojbajjajgaaGreat.V.N
set_option maxRecDepth 20000
set_option linter.unusedVariables false
set_option linter.unusedSimpArgs false
theorem dS_keys (D : List (Int × Int)) : (dS D).map (·.1) = D.map (·.1) := by simp [dS, List.map_map, Function.comp_def]
theorem mem_dS {D : List (Int × Int)} {p : Int × Value} : p ∈ dS D ↔ ∃ v, p.2 = .int .i64 v ∧ (p.1, v) ∈ D := by
  rw [dS, List.mem_map]
  constructor
  · rintro ⟨⟨a, v⟩, h, rfl⟩; exact ⟨v, rfl, h⟩
  · rintro ⟨v, h1, h2⟩; obtain ⟨a, b⟩ := p; simp only at h1 h2; subst h1; exact ⟨_, h2, rfl⟩
section
variable {lk : Int} {h : H} {n db : Nat} {bs : List Nat} {B : Bk}
/-- The list with the told keys' values 1. -/
def mark1 (D : List (Int × Int)) (T : List Int) : List (Int × Int) := D.map fun p => if p.1 ∈ T then (p.1, 1) else p
theorem mark1_keys (D : List (Int × Int)) (T : List Int) : (mark1 D T).map (·.1) = D.map (·.1) := by
  rw [mark1, List.map_map]; congr 1; funext p; simp only [Function.comp]; split <;> rfl
theorem mem_mark1 {D : List (Int × Int)} {T : List Int} {a v : Int} : (a, v) ∈ mark1 D T ↔ (a ∈ T ∧ v = 1 ∧ ∃ u, (a, u) ∈ D) ∨ (a ∉ T ∧ (a, v) ∈ D) := by
  rw [mark1, List.mem_map]
  constructor
  · rintro ⟨⟨x, y⟩, h1, h2⟩
    simp only at h2
    split at h2
    · rename_i ht; cases h2; exact .inl ⟨ht, rfl, y, h1⟩
    · rename_i ht; cases h2; exact .inr ⟨ht, h1⟩
  · rintro (⟨h1, rfl, u, h3⟩ | ⟨h1, h2⟩)
    · exact ⟨_, h3, by simp [h1]⟩
    · exact ⟨_, h2, by simp [h1]⟩
theorem sk_of_keys {L M : KL} (h : L.map (·.1) = M.map (·.1)) (s : SK M) : SK L := by
  unfold SK at s ⊢
  have := (List.pairwise_map (f := fun p : Int × Value => p.1) (R := (· < ·))).2 s
  rw [← h] at this
  exact List.pairwise_map.1 this
theorem mark1_put {D : List (Int × Int)} {T : List Int} {k v : Int} (s : SK (dS D)) (hk : (k, v) ∈ D) : putS (dS (mark1 D T)) k (.int .i64 1) = dS (mark1 D (T ++ [k])) := by
  have s1 : SK (dS (mark1 D T)) := sk_of_keys (by rw [dS_keys, dS_keys, mark1_keys]) s
  have s2 : SK (dS (mark1 D (T ++ [k]))) := sk_of_keys (by rw [dS_keys, dS_keys, mark1_keys]) s
  refine sk_ext (sk_putS s1) s2 fun p => ?_
  rw [mem_putS s1, mem_dS, mem_dS]
  obtain ⟨a, w⟩ := p
  simp only [Prod.mk.injEq]
  constructor
  · rintro (⟨rfl, rfl⟩ | ⟨⟨u, rfl, h2⟩, hne⟩)
    · exact ⟨1, rfl, mem_mark1.2 (.inl ⟨by simp, rfl, v, hk⟩)⟩
    · refine ⟨u, rfl, ?_⟩
      rw [mem_mark1] at h2 ⊢
      rcases h2 with ⟨h3, h4⟩ | ⟨h3, h4⟩
      · exact .inl ⟨by simp [h3], h4⟩
      · exact .inr ⟨by simp [h3, hne], h4⟩
  · rintro ⟨u, rfl, h2⟩
    rw [mem_mark1] at h2
    by_cases e : a = k
    · subst e
      rcases h2 with ⟨_, rfl, _⟩ | ⟨h3, _⟩
      · exact .inl ⟨rfl, rfl⟩
      · simp at h3
    · refine .inr ⟨⟨u, rfl, ?_⟩, e⟩
      rw [mem_mark1]
      rcases h2 with ⟨h3, h4⟩ | ⟨h3, h4⟩
      · simp [e] at h3; exact .inl ⟨h3, h4⟩
      · simp [e] at h3; exact .inr ⟨h3, h4⟩
theorem mark1_all {D : List (Int × Int)} {T : List Int} (h : ∀ p ∈ dS D, p.1 ∈ T) : mark1 D T = D.map fun p => (p.1, 1) := by
  unfold mark1
  refine List.map_congr_left fun p hp => ?_
  rw [if_pos (h (p.1, .int .i64 p.2) (List.mem_map.2 ⟨p, hp, rfl⟩))]
theorem mark1_nil (D : List (Int × Int)) : mark1 D [] = D := by simp [mark1]
theorem dS_len (D : List (Int × Int)) : (dS D).length = D.length := by simp
/-- A sweep begins. -/
theorem Begin_spec {Q : Int → H → Prop} (b : BH 0 h n bs db B) (k : ∀ h', BH 0 h' n bs db (beginB B).2 → Only (FB n bs db) h h' → Q (beginB B).1 h') : F.epoch_Book_Begin (some ⟨n, 0, none⟩) h Q := by
  unfold F.epoch_Book_Begin
  refine guard_spec b fun h1 b1 o1 s1 => ?_
  simp only [nn_some, add_lit, Nat.zero_add, Nat.add_zero]
  refine (ldB_iff b1.cs).2 ⟨fun g => ?_, fun g => ?_⟩
  · refine unlock_spec b1 fun h3 b3 o3 s3 => ?_
    have e : beginB B = (43, B) := by rw [beginB, if_pos g]
    have := k h3; rw [e] at this
    exact this b3 (only_trans o1 o3).fb
  · have e : beginB B = (0, { B with sw := true, die := B.die.map fun p => (p.1, 1) }) := by rw [beginB, if_neg (by simp [g])]
    refine st_tail (B' := { B with sw := true }) b1 (i := 1) (by omega) rfl rfl (fun q => rfl) rfl fun h2 b2 o2 s2 => ?_
    refine (ldM_iff b2.cd).2 (rangeS_of mt_map_int_int b2.dy fun r h3 hr it3 e3 s3 => ⟨_, rfl, B.die.length + 1, ?_⟩)
    have key : ∀ (m : Nat) (T : List Int) (h' : H), BH 1 h' n bs db { B with sw := true, die := mark1 B.die T } → ItS h' r db (dS (mark1 B.die T)) T → T.Nodup → (∀ x ∈ T, x ∈ B.die.map (·.1)) → Only (fun m => m = db ∨ m = r) h3 h' → T.length ≤ B.die.length → B.die.length - T.length < m →
        F.epoch_Book_Begin.l1 Q no_sync_Mutex_Unlock #[.pointer (some ⟨n, 0, none⟩)] #[] m (some ⟨n, 0, none⟩) ⟨r, 0, none⟩ h' := by
      intro m
      induction m with
      | zero => intro T h' _ _ _ _ _ _ hm; omega
      | succ m ih =>
        intro T h' b' it nd sub o hl hlt
        unfold F.epoch_Book_Begin.l1
        simp only [nn_some, add_lit, Nat.zero_add, Nat.add_zero]
        have hrn : r ≠ n := by have := b.lt n (.inl rfl); have := o1.size; have := o2.size; omega
        have hrd : r ≠ db := by have := b.lt db (.inr (.inl rfl)); have := o1.size; have := o2.size; omega
        have hrb : ∀ x, FB n bs db x → x ≠ r := fun x hx => by have := b.lt x hx; have := o1.size; have := o2.size; omega
        refine nextS_of it (fun hp => ?_) (fun h5 kk v it5 hpM hkD e5 sz5 hen => ?_)
        · refine ⟨false, #[], rfl, (fun h => by cases h), fun _ => unlock_spec b' fun h6 b6 o6 s6 => ?_⟩
          have hall : ∀ p ∈ dS B.die, p.1 ∈ T := fun p hp' => by
            obtain ⟨v, h1, h2⟩ := mem_dS.1 hp'
            have hkp : p.1 ∈ (mark1 B.die T).map (·.1) := by rw [mark1_keys]; exact List.mem_map.2 ⟨_, h2, rfl⟩
            obtain ⟨⟨a, u⟩, hq, hqe⟩ := List.mem_map.1 hkp
            have := hp (a, .int .i64 u) (mem_dS.2 ⟨u, rfl, hq⟩)
            simp only at hqe this
            rw [← hqe]; exact this
          rw [mark1_all hall] at b6
          have := k h6; rw [e] at this
          refine this b6 ?_
          have oa : Only (FB n bs db) h h3 := only_trans (only_trans o1 o2).fb e3.only
          refine only_trans (oa.trans (o.mono (S' := fun m => m = db ∨ m = r) fun _ _ e => e) fun x hx e => ?_) o6.fb
          rcases e with e | e
          · exact .inr (.inl e)
          · have := o1.size; have := o2.size; omega
        · refine ⟨true, #[.int .i64 kk, v], rfl, fun _ => ?_, fun h => by cases h⟩
          obtain ⟨u, hu1, hu2⟩ := mem_dS.1 hpM
          simp only at hu1 hu2
          subst hu1
          refine hen _ ⟨kk, u, rfl, ?_⟩
          have b5 := b'.only e5 fun x hx => hrb x hx
          refine (ldM_iff b5.cd).2 ?_
          refine it5.upd_of mt_map_int_int intT hpM fun h6 it6 o6 s6 => ?_
          have hkD' : ∃ w, (kk, w) ∈ B.die := by
            rcases mem_mark1.1 hu2 with ⟨_, _, w, hw⟩ | ⟨_, hw⟩
            · exact ⟨w, hw⟩
            · exact ⟨_, hw⟩
          obtain ⟨w, hw⟩ := hkD'
          rw [mark1_put (by exact b.dy.sk) hw] at it6
          have hkp : kk ∈ B.die.map (·.1) := List.mem_map.2 ⟨_, hw, rfl⟩
          have hnd : (T ++ [kk]).Nodup := by
            rw [List.nodup_append]
            refine ⟨nd, by simp, fun a ha c hc => ?_⟩
            simp at hc; subst hc
            exact fun e => hkD (e ▸ ha)
          have hsub : ∀ x ∈ T ++ [kk], x ∈ B.die.map (·.1) := fun x hx => by
            rcases List.mem_append.1 hx with hx | hx
            · exact sub x hx
            · simp at hx; subst hx; exact hkp
          have hlen : (T ++ [kk]).length ≤ B.die.length := by
            have := nodup_len hnd hsub
            simpa using this
          have b6 := b5.redie (D := mark1 B.die (T ++ [kk])) o6 it6.map
          exact ih (T ++ [kk]) h6 b6 it6 hnd hsub (only_trans (only_trans o (e5.mono fun x _ e => .inr e)) (o6.mono fun x _ e => .inl e)) hlen (by simp only [List.length_append, List.length_singleton] at hlen ⊢; omega)
    have b3 : BH 1 h3 n bs db { B with sw := true, die := mark1 B.die [] } := by rw [mark1_nil]; exact b2.ext e3
    exact key _ [] h3 b3 (by rw [mark1_nil]; exact it3) (by simp) (by simp) (.refl _) (by simp) (by simp)
/-! ### A sweep's end -/
theorem dS_del {D : List (Int × Int)} {k : Int} : delS (dS D) k = dS (D.filter (·.1 != k)) := by
  simp only [delS, dS, List.filter_map]; rfl
/-- maps.DeleteFunc with End's test. -/
theorem delete_spec {D : List (Int × Int)} {Q : H → Prop} (m : MS h db (dS D)) (k : ∀ h', MS h' db (dS (D.filter (·.2 != 1))) → Only (· = db) h h' → Q h') :
    F.maps_DeleteFunc_map_int_int_int_int (some db) (.func (.func no_epoch_Book_End_1) #[] #[]) h Q := by
  unfold F.maps_DeleteFunc_map_int_int_int_int
  refine rangeS_of mt_map_int_int m fun r h1 hr it1 e1 sz1 => ⟨_, rfl, D.length + 1, ?_⟩
  have hsk := m.sk
  -- those of T with 1 are gone
  have key : ∀ (c : Nat) (T : List Int) (D' : List (Int × Int)) (h' : H), ItS h' r db (dS D') T → (∀ p, p ∈ D' ↔ p ∈ D ∧ ¬ (p.1 ∈ T ∧ p.2 = 1)) → T.Nodup → (∀ x ∈ T, x ∈ D.map (·.1)) → Only (fun m => m = db ∨ m = r) h1 h' → T.length ≤ D.length → D.length - T.length < c →
      F.maps_DeleteFunc_map_int_int_int_int.l1 Q c (some db) (.func (.func no_epoch_Book_End_1) #[] #[]) ⟨r, 0, none⟩ h' := by
    intro c
    induction c with
    | zero => intro T D' h' _ _ _ _ _ _ hm; omega
    | succ c ih =>
      intro T D' h' it hD nd sub o hl hlt
      unfold F.maps_DeleteFunc_map_int_int_int_int.l1
      refine nextS_of it (fun hp => ?_) (fun h5 kk v it5 hpM hkD e5 sz5 hen => ?_)
      · refine ⟨false, #[], rfl, (fun h => by cases h), fun _ => k h' ?_ ?_⟩
        · have : dS D' = dS (D.filter (·.2 != 1)) := by
            have s2 : SK (dS (D.filter (·.2 != 1))) := by
              unfold SK dS at hsk ⊢
              rw [List.pairwise_map] at hsk ⊢
              exact hsk.filter _
            refine sk_ext it.map.sk s2 fun p => ?_
            rw [mem_dS, mem_dS]
            refine exists_congr fun v => and_congr_right fun e => ?_
            rw [hD, List.mem_filter]
            constructor
            · rintro ⟨h1, h2⟩
              refine ⟨h1, ?_⟩
              have hT : p.1 ∈ T := hp p (mem_dS.2 ⟨v, e, (hD _).2 ⟨h1, h2⟩⟩)
              simp only [bne_iff_ne]
              exact fun e => h2 ⟨hT, e⟩
            · rintro ⟨h1, h2⟩
              simp only [bne_iff_ne] at h2
              exact ⟨h1, fun ⟨_, e⟩ => h2 e⟩
          rw [← this]; exact it.map
        · refine (e1.only (S := fun m => m = db)).trans o fun x hx e => ?_
          rcases e with e | e
          · exact e
          · omega
      · refine ⟨true, #[.int .i64 kk, v], rfl, fun _ => ?_, fun h => by cases h⟩
        obtain ⟨u, hu1, hu2⟩ := mem_dS.1 hpM
        simp only at hu1 hu2
        subst hu1
        refine hen _ ⟨kk, u, rfl, ?_⟩
        have hkp : kk ∈ D.map (·.1) := List.mem_map.2 ⟨_, ((hD _).1 hu2).1, rfl⟩
        have hnd : (T ++ [kk]).Nodup := by
          rw [List.nodup_append]
          refine ⟨nd, by simp, fun a ha c hc => ?_⟩
          simp at hc; subst hc
          exact fun e => hkD (e ▸ ha)
        have hsub : ∀ x ∈ T ++ [kk], x ∈ D.map (·.1) := fun x hx => by
          rcases List.mem_append.1 hx with hx | hx
          · exact sub x hx
          · simp at hx; subst hx; exact hkp
        have hlen : (T ++ [kk]).length ≤ D.length := by
          have := nodup_len hnd hsub
          simpa using this
        have oo : Only (fun m => m = db ∨ m = r) h1 h5 := only_trans o (e5.mono fun x _ e => .inr e)
        have huniq : ∀ p ∈ D, p.1 = kk → p.2 = u := fun p hp e => by
          have h1 : (p.1, Value.int .i64 p.2) ∈ dS D := mem_dS.2 ⟨p.2, rfl, hp⟩
          have h2 : (kk, Value.int .i64 u) ∈ dS D := mem_dS.2 ⟨u, rfl, ((hD _).1 hu2).1⟩
          rw [e] at h1
          have g1 := (mem_getK hsk.nodup).2 h1
          have g2 := (mem_getK hsk.nodup).2 h2
          rw [g1] at g2; cases g2; rfl
        refine CV_func no_epoch_Book_End_1_call ?_
        refine (F.epoch_Book_End_1_ok (p0 := kk) (p1 := u) (h := h5) (Q := fun r0 h'' => h'' = h5 ∧ r0 = (u == 1)) ⟨rfl, rfl⟩).mono fun r0 h'' ⟨r1, e0, e2, e3⟩ => ?_
        subst e2
        refine ⟨r1, e0, fun g => ?_, fun g => ?_⟩
        · rw [g] at e3
          have hu : u = 1 := by simpa using e3.symm
          refine it5.del_of mt_map_int_int intT fun h6 it6 o6 s6 => ⟨rfl, ?_⟩
          rw [dS_del] at it6
          refine ih (T ++ [kk]) _ h6 it6 (fun p => ?_) hnd hsub (only_trans oo (o6.mono fun x _ e => .inl e)) hlen (by simp only [List.length_append, List.length_singleton] at hlen ⊢; omega)
          rw [List.mem_filter, hD]
          simp only [bne_iff_ne, List.mem_append, List.mem_singleton]
          constructor
          · rintro ⟨⟨h1, h2⟩, h3⟩
            exact ⟨h1, fun ⟨h4, h5⟩ => h4.elim (fun h4 => h2 ⟨h4, h5⟩) h3⟩
          · rintro ⟨h1, h2⟩
            refine ⟨⟨h1, fun ⟨h3, h4⟩ => h2 ⟨.inl h3, h4⟩⟩, fun e => h2 ⟨.inr e, ?_⟩⟩
            rw [huniq p h1 e]; exact hu
        · rw [g] at e3
          have hu : u ≠ 1 := fun e => by rw [e] at e3; simp at e3
          refine ih (T ++ [kk]) _ h'' it5 (fun p => ?_) hnd hsub oo hlen (by simp only [List.length_append, List.length_singleton] at hlen ⊢; omega)
          rw [hD]
          simp only [List.mem_append, List.mem_singleton]
          refine and_congr_right fun h1 => ?_
          constructor
          · rintro h2 ⟨h3 | h3, h4⟩
            · exact h2 ⟨h3, h4⟩
            · exact hu (by rw [← huniq p h1 h3]; exact h4)
          · rintro h2 ⟨h3, h4⟩; exact h2 ⟨.inl h3, h4⟩
  exact key _ [] D h1 it1 (by simp) (by simp) (by simp) (.refl _) (by simp) (by simp)
theorem End_spec {Q : Int → Int → H → Prop} (b : BH 0 h n bs db B) (hd : B.die.length < 1073741824) (k : ∀ h', BH 0 h' n bs db (endB B).2.2 → Only (FB n bs db) h h' → Q (endB B).1 (endB B).2.1 h') : F.epoch_Book_End (some ⟨n, 0, none⟩) h Q := by
  unfold F.epoch_Book_End
  refine guard_spec b fun h1 b1 o1 s1 => ?_
  simp only [nn_some, add_lit, Nat.zero_add, Nat.add_zero]
  refine (ldB_iff b1.cs).2 ⟨fun g => ?_, fun g => ?_⟩
  · have g' : B.sw = false := by simpa using g
    refine unlock_spec b1 fun h3 b3 o3 s3 => ?_
    have e : endB B = (0, 44, B) := by rw [endB, if_pos g']
    have := k h3; rw [e] at this
    exact this b3 (only_trans o1 o3).fb
  · have g' : ¬ B.sw = false := by simpa using g
    have e : endB B = ((B.die.length : Int) - ((B.die.filter (·.2 != 1)).length : Int), 0, { B with sw := false, die := B.die.filter (·.2 != 1) }) := by rw [endB, if_neg g']
    refine st_tail (B' := { B with sw := false }) b1 (i := 1) (by omega) rfl rfl (fun q => rfl) rfl fun h2 b2 o2 s2 => ?_
    refine (ldM_iff b2.cd).2 (lenS_of mt_map_int_int b2.dy ⟨_, rfl, (ldM_iff b2.cd).2 ?_⟩)
    refine delete_spec b2.dy fun h3 m3 o3 => ?_
    have b3 := b2.redie o3 m3
    refine (ldM_iff b3.cd).2 (lenS_of mt_map_int_int m3 ⟨_, rfl, unlock_spec b3 fun h4 b4 o4 s4 => ?_⟩)
    have := k h4; rw [e] at this
    have hle := List.length_filter_le (fun p : Int × Int => p.2 != 1) B.die
    rw [dS_len, dS_len]
    dsimp only
    rw [w64 (by omega) (by omega)]
    exact this b4 (only_trans (only_trans (only_trans o1 o2).fb o3.fd) o4.fb)
end
end Go.Proofs.YtgcmojbajjajgaaGreat.V
