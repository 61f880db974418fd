/- The law ChainOlder answers true; no condition. -/
import Derived.Test.YtapomjhjpejimaaCp
namespace Go.Proofs.Ytapomjhjpejimaa.V
open Go
set_option linter.unusedVariables false
set_option linter.unusedSimpArgs false

theorem lay_at {L : List Ver} {x : Ver} {e : Int} (he : e < x.epoch) : atM (layM L x) e = atM L e := by
  refine atM_of ?_
  have hx : ([x].filter fun x => decide (x.epoch ≤ e)) = [] := by simp; omega
  unfold layM
  split
  · rename_i h
    obtain ⟨hn, hE⟩ := h
    have hd : L = L.dropLast ++ [L.getLast hn] := (List.dropLast_concat_getLast hn).symm
    have hle : lastE L = (L.getLast hn).epoch := by unfold lastE; rw [List.getLast?_eq_some_getLast hn]
    have hl : ([L.getLast hn].filter fun x => decide (x.epoch ≤ e)) = [] := by simp; omega
    conv => rhs; rw [hd]
    rw [List.filter_append, List.filter_append, hx, hl]
  · rw [List.filter_append, hx, List.append_nil]
theorem lay_last (L : List Ver) (x : Ver) : (layM L x).getLast? = some x := by
  unfold layM; split <;> simp
theorem lay_newest (L : List Ver) (x : Ver) : newestM (layM L x) = (x.value, x.epoch, !x.dead) := by
  unfold newestM; rw [lay_last]
theorem lay_at_own {L : List Ver} {x : Ver} (hr : Rise (layM L x)) : atM (layM L x) x.epoch = if x.dead then (0, false) else (x.value, true) := by
  have hn : layM L x ≠ [] := fun e => by have := lay_last L x; rw [e] at this; simp at this
  have hg : (layM L x).getLast hn = x := by have := lay_last L x; rw [List.getLast?_eq_some_getLast hn] at this; exact Option.some.inj this
  have := at_new hr hn (e := x.epoch) (by rw [hg]; exact Int.le_refl _)
  unfold atM
  rw [this, hg]
theorem lay_length (L : List Ver) (x : Ver) : ((layM L x).length : Int) = L.length + layN L x := by
  unfold layM layN
  split
  · rename_i h
    have : 0 < L.length := List.length_pos_iff.2 h.1
    simp; omega
  · simp
theorem layN_01 (L : List Ver) (x : Ver) : layN L x = 0 ∨ layN L x = 1 := by unfold layN; split <;> simp

section
variable {h0 : H} {p : Nat} {L L' : List Ver} {B : Option Nat} {x15 x17 : Sl} {A : List Int} {v up : Int} {kl : Bool} {Q : Bool → H → Prop}
theorem older_j5 {x14 x18 x19 x26 w u : Int} {h : H} (c : Ch h p L' B) (hr : Rise L') (hL : L'.length ≤ 3000) (e0 : Ext h0 h) (r15 : Reads h x15 1 (A.flatMap cI)) (r17 : Reads h x17 1 ((atL L A).flatMap cI)) (hA : A.length ≤ 3000) (hat : atL L' A = atL L A)
    (g19 : x19 = x26) (g18 : (L'.length : Int) = x18 + x19) (gv : if kl then w = 0 ∧ u = 0 else w = v ∧ u = v) (k : ∀ h', Ext h0 h' → Q true h') :
    F.spatelaw5_ChainOlder.j5 Q v kl (some ⟨p, 0, none⟩) x14 x15 x17 x18 x19 0 w (!kl) u x14 (!kl) x26 h := by
  unfold F.spatelaw5_ChainOlder.j5
  refine ⟨fun _ => ⟨fun _ => ?_, fun g => absurd g19 (by simpa using g)⟩, fun g => by simp at g⟩
  refine Len_spec c ?_
  rw [w64 (n := x18 + x19) (by omega) (by omega)]
  refine ⟨fun _ => ?_, fun g => absurd g18 (by simpa using g)⟩
  refine at_spec c hr (by omega) r15 (by omega) fun r44 h43 o44 e43 m44 => ?_
  rw [hat] at o44
  refine same_spec o44.reads (r17.ext e43) (by rw [atL_len]; omega) ?_
  rw [decide_eq_true rfl]
  have k := k h43 (e0.trans e43)
  cases kl with
  | true =>
    obtain ⟨rfl, rfl⟩ : w = 0 ∧ u = 0 := by simpa using gv
    simp [k]
  | false =>
    obtain ⟨rfl, rfl⟩ : w = v ∧ u = v := by simpa using gv
    simp [k]
/-- Something was written. -/
theorem older_j4 {x12 x14 : Int} {x : Ver} {h : H} (hL0 : L.length ≤ 2000) (c : Ch h p (layM L x) B) (hr : Rise (layM L x)) (e0 : Ext h0 h) (r15 : Reads h x15 1 (A.flatMap cI)) (r17 : Reads h x17 1 ((atL L A).flatMap cI)) (hA : A.length ≤ 3000) (hAe : ∀ e ∈ A, e < x.epoch)
    (h14 : x14 = x.epoch) (h12 : x12 = (newestM L).2.1) (h1 : 1 ≤ x.epoch) (hx : x = if kl then ⟨x14, 0, true⟩ else ⟨x14, v, false⟩) (k : ∀ h', Ext h0 h' → Q true h') :
    F.spatelaw5_ChainOlder.j4 Q v kl (some ⟨p, 0, none⟩) x12 x14 x15 x17 (L.length : Int) (layN L x) 0 h := by
  unfold F.spatelaw5_ChainOlder.j4
  have hll := lay_length L x
  have h01 := layN_01 L x
  have hlen : (layM L x).length ≤ 2001 := by omega
  refine At_spec c hr (by omega) fun h2 e2 => Newest_spec (c.ext e2) (by omega) fun h3 e3 => ?_
  rw [h14, lay_at_own hr, lay_newest]
  have hat : atL (layM L x) A = atL L A := by
    unfold atL
    have : ∀ e ∈ A, atV (layM L x) e = atV L e := fun e he => by unfold atV; rw [lay_at (hAe e he)]
    rw [List.flatMap_def, List.flatMap_def, List.map_congr_left this]
  have x3 := e2.trans e3
  have hN : layN L x = if x.epoch == x12 then 0 else 1 := by
    unfold layN
    by_cases hn : L = []
    · subst hn
      have : x12 = 0 := h12
      rw [if_neg (fun h => h.1 rfl), if_neg (by simp; omega)]
    · have hle : lastE L = x12 := by rw [h12]; unfold lastE newestM; cases L.getLast? <;> rfl
      rw [hle]
      by_cases he : x12 = x.epoch
      · rw [if_pos ⟨hn, he⟩, if_pos (by simp [he])]
      · rw [if_neg (fun h => he h.2), if_neg (by simp; omega)]
  have main : ∀ one : Int, layN L x = one → F.spatelaw5_ChainOlder.j5 Q v kl (some ⟨p, 0, none⟩) x.epoch x15 x17 (L.length : Int) (layN L x) 0 (if x.dead then ((0 : Int), false) else (x.value, true)).1 (if x.dead then ((0 : Int), false) else (x.value, true)).2 x.value x.epoch (!x.dead) one h3 := fun one ho => by
    have hd : x.dead = kl := by rw [hx]; cases kl <;> rfl
    have hv : x.value = if kl then 0 else v := by rw [hx]; cases kl <;> rfl
    rw [hd, hv]
    have := older_j5 (Q := Q) (kl := kl) (v := v) (w := (if kl then ((0 : Int), false) else (if kl then 0 else v, true)).1) (u := if kl then 0 else v) (x14 := x.epoch) (x18 := (L.length : Int)) (x26 := one) (c.ext x3) hr (by omega) (e0.trans x3) (r15.ext x3) (r17.ext x3) hA hat ho hll (by cases kl <;> simp) k
    cases kl <;> exact this
  refine ⟨fun g => main 0 ?_, fun g => main 1 ?_⟩
  · rw [hN, if_pos g]
  · rw [hN, if_neg (by rw [g]; simp)]
end
section
variable {h0 : H} {p : Nat} {L : List Ver} {B : Option Nat} {A : List Int} {v up : Int} {kl : Bool} {Q : Bool → H → Prop}
theorem older_loop {ep : Int} {x10 : Sl} {Es : List Int} (hp : h0.size ≤ p) (hB : ∀ b, B = some b → h0.size ≤ b) (hr : Rise L) (hL : L.length ≤ 2000) (hep : EpOk L) (hE : Es = L.map (fun x : Ver => x.epoch)) (hlo : (newestM L).2.1 ≤ ep) (hhi : ep ≤ (newestM L).2.1 + 4) (k : ∀ h', Ext h0 h' → Q true h')
    {h1 : H} (c : Ch h1 p L B) (e0 : Ext h0 h1) (o10 : Reads h1 x10 1 (Es.flatMap cI)) :
    ∀ (m i : Nat) (x15 : Sl) (h : H), Ext h1 h → Owns h x15 3 1 (((Es.take i).map (· - 1)).flatMap cI) → Mine h1 x15 → i ≤ Es.length → Es.length - i < m →
      F.spatelaw5_ChainOlder.l1 Q m v kl (some ⟨p, 0, none⟩) x10 (newestM L).2.1 (newestM L).2.2 ep x15 (i : Int) h
  | 0, i, x15, h, _, _, _, _, hm => by omega
  | m + 1, i, x15, h, e1, o, mi, hi, hm => by
    unfold F.spatelaw5_ChainOlder.l1
    have hl := rd_len cI_len (by omega) o10
    have hEl : Es.length = L.length := by rw [hE]; simp
    rw [hl]
    simp only [decide_eq_true_eq, decide_eq_false_iff_not]
    have hnb := hep.newest
    refine ⟨fun g => ?_, fun g => ?_⟩
    · obtain ⟨y, hy⟩ : ∃ y, Es[i]? = some y := ⟨_, List.getElem?_eq_getElem (by omega)⟩
      obtain ⟨q, a1, a2, a3⟩ := rd_at cI_len (by omega) (o10.ext e1) hy
      refine idxR_of (i := i) a1 (by omega) rfl ?_
      rw [ldI_iff a3.one]
      have hyb : 1 ≤ y ∧ y ≤ 1099511627776 := by
        have := List.mem_of_getElem? hy
        rw [hE] at this
        obtain ⟨a, ha, rfl⟩ := List.mem_map.1 this
        exact hep a ha
      rw [w64 (n := y - 1) (by omega) (by omega)]
      refine newL_of fun n h2 f1 f2 f3 f4 => ?_
      refine app_mine (f := cI) (M := [y - 1]) (e1.trans f3) mi cI_len (by omega) elI (o.ext f3) (blk_reads (size := 1) (m := 1) (show Blk h2 n (([y - 1] : List Int).flatMap cI).toArray 3 from f2) rfl) (fun x => one1 rfl) (by simp; omega) fun r h' q1 q2 q3 q4 q5 => ?_
      rw [wrap_succ (by omega)]
      refine older_loop hp hB hr hL hep hE hlo hhi k c e0 o10 m (i + 1) r h' q2 ?_ q3 (by omega) (by omega)
      rw [List.take_add_one, hy]; simpa using q1
    · have htk : Es.take i = Es := List.take_of_length_le (by omega)
      rw [htk] at o
      rw [w64 (n := ep - 1) (by omega) (by omega)]
      refine newL_of fun n h2 f1 f2 f3 f4 => ?_
      refine app_mine (f := cI) (M := [ep - 1, 0, -5]) (e1.trans f3) mi cI_len (by omega) elI (o.ext f3) (blk_reads (size := 1) (m := 3) (show Blk h2 n (([ep - 1, 0, -5] : List Int).flatMap cI).toArray 3 from f2) rfl) (fun x => one1 rfl) (by simp; omega) fun s26 h3 q1 q2 q3 q4 q5 => ?_
      obtain ⟨A, hA⟩ : ∃ A, A = Es.map (· - 1) ++ [ep - 1, 0, -5] := ⟨_, rfl⟩
      rw [← hA] at q1
      have hAl : A.length ≤ 2003 := by rw [hA]; simp; omega
      have c3 := c.ext q2
      refine at_spec c3 hr (by omega) q1.reads (by omega) fun r28 h4 o28 e4 m28 => ?_
      have c4 := c3.ext e4
      refine Len_spec c4 ?_
      have o15 := q1.ext e4
      have x4 := q2.trans e4
      have hs := x4.size
      have hs0 := e0.size
      have hp1 := c.lt
      have hB1 := c.ltB
      have hs3 := q2.size
      have hAe : ∀ e ∈ A, 1 ≤ ep → e < ep := fun e he h1 => by
        rw [hA] at he
        rcases List.mem_append.1 he with he | he
        · obtain ⟨a, ha, rfl⟩ := List.mem_map.1 he
          rw [hE] at ha
          obtain ⟨b, hb, rfl⟩ := List.mem_map.1 ha
          have := newest_ge hr hb; omega
        · simp at he; rcases he with rfl | rfl | rfl <;> omega
      have hmay : mayM L ep = if ep < 1 ∨ ep > 1099511627776 then 1 else 0 := by
        unfold mayM
        split
        · rfl
        · rw [if_neg]
          rintro ⟨hn, hlt⟩
          have : lastE L = (newestM L).2.1 := by unfold lastE newestM; cases L.getLast? <;> rfl
          omega
      -- refused
      have bad : ∀ h', (ep < 1 ∨ ep > 1099511627776) → Ext h0 h' → F.spatelaw5_ChainOlder.j2 Q v kl (some ⟨p, 0, none⟩) (newestM L).2.1 (newestM L).2.2 ep s26 r28 (L.length : Int) 0 1 h' := fun h' hb e' => by
        unfold F.spatelaw5_ChainOlder.j2 F.spatelaw5_ChainOlder.j7
        simp only [decide_eq_true_eq, decide_eq_false_iff_not]
        exact ⟨fun _ => ⟨fun _ => k h' e', fun h => by cases h⟩, fun g2 => ⟨fun _ => k h' e', fun g3 => by omega⟩⟩
      have good : ∀ (n g : Int) (h' : H), ¬ (ep < 1 ∨ ep > 1099511627776) → F.spatelaw5_ChainOlder.j3 Q v kl (some ⟨p, 0, none⟩) (newestM L).2.1 (newestM L).2.2 ep s26 r28 (L.length : Int) n g h' → F.spatelaw5_ChainOlder.j2 Q v kl (some ⟨p, 0, none⟩) (newestM L).2.1 (newestM L).2.2 ep s26 r28 (L.length : Int) n g h' := fun n g h' hb hj => by
        unfold F.spatelaw5_ChainOlder.j2 F.spatelaw5_ChainOlder.j7
        simp only [decide_eq_true_eq, decide_eq_false_iff_not]
        exact ⟨fun g1 => by omega, fun g2 => ⟨fun g3 => by omega, fun _ => hj⟩⟩
      have wrote : ∀ (x : Ver) (h' : H) (B' : Option Nat), x = (if kl then ⟨ep, 0, true⟩ else ⟨ep, v, false⟩) → mayM L ep = 0 → Ch h' p (layM L x) B' → Only (FP p B) h4 h' → (kl = true → (newestM L).2.2 = true) → F.spatelaw5_ChainOlder.j2 Q v kl (some ⟨p, 0, none⟩) (newestM L).2.1 (newestM L).2.2 ep s26 r28 (L.length : Int) (layN L x) 0 h' := fun x h' B' hx hm c' o' hkl => by
        have hb : ¬ (ep < 1 ∨ ep > 1099511627776) := fun hb => by rw [hmay, if_pos hb] at hm; omega
        have hxe : x.epoch = ep := by rw [hx]; cases kl <;> rfl
        refine good _ _ h' hb ?_
        have main : F.spatelaw5_ChainOlder.j4 Q v kl (some ⟨p, 0, none⟩) (newestM L).2.1 ep s26 r28 (L.length : Int) (layN L x) 0 h' := by
          have hoff : ∀ n, (FP p B) n → n < h1.size := fun n hn => by
            rcases hn with hn | hn
            · omega
            · exact hB1 n hn
          refine older_j4 (h0 := h0) (A := A) hL c' (rise_lay hr (by rw [hxe]; exact hm)) ((e0.trans x4).step o' fun n hn e => ?_) (o15.reads.only o' fun b hb e => ?_) (o28.reads.only o' fun b hb e => ?_) (by omega) (fun e he => by rw [hxe]; exact hAe e he (by omega)) hxe.symm rfl (by omega) hx k
          · rcases e with e | e
            · omega
            · have := hB n e; omega
          · have := hoff b e; have := q3 b hb; omega
          · have := hoff b e; have := m28 b hb; omega
        unfold F.spatelaw5_ChainOlder.j3 F.spatelaw5_ChainOlder.j6
        refine ⟨fun g => ?_, fun g => ⟨(fun h => by cases h), fun _ => main⟩⟩
        rw [hkl g]
        exact ⟨(fun h => by cases h), fun _ => main⟩
      cases hk : kl with
      | true =>
        subst hk
        refine ⟨fun _ => ?_, fun h => by cases h⟩
        refine Kill_spec c4 (by omega) (fun g => ?_) (fun g g2 h' x => ?_) fun g g2 h' B' q1 q2 q3 => ?_
        · by_cases hb : ep < 1 ∨ ep > 1099511627776
          · rw [hmay, if_pos hb]; exact bad h4 hb (e0.trans x4)
          · rw [hmay, if_neg hb] at g; omega
        · have hb : ¬ (ep < 1 ∨ ep > 1099511627776) := fun hb => by rw [hmay, if_pos hb] at g; omega
          refine good _ _ h' hb ?_
          unfold F.spatelaw5_ChainOlder.j3 F.spatelaw5_ChainOlder.j6
          rw [g2]
          refine ⟨fun _ => ⟨fun _ => ⟨fun _ => ?_, fun g => by simp at g⟩, fun h => by cases h⟩, fun h => by cases h⟩
          refine at_spec (c4.ext x) hr (by omega) (o15.reads.ext x) (by omega) fun r64 h63 o64 e63 m64 => ?_
          refine same_spec o64.reads ((o28.reads.ext x).ext e63) (by rw [atL_len]; omega) ?_
          rw [decide_eq_true rfl]
          refine ⟨fun _ => ?_, fun h => by cases h⟩
          refine Len_spec ((c4.ext x).ext e63) ?_
          rw [show ((L.length : Int) == (L.length : Int)) = true from by simp]
          exact k h63 (((e0.trans x4).trans x).trans e63)
        · exact wrote _ h' B' rfl g q1 q2 fun _ => g2
      | false =>
        subst hk
        refine ⟨(fun h => by cases h), fun _ => ?_⟩
        refine Put_spec c4 (by omega) (fun g => ?_) fun g h' B' q1 q2 q3 => ?_
        · by_cases hb : ep < 1 ∨ ep > 1099511627776
          · rw [hmay, if_pos hb]; exact bad h4 hb (e0.trans x4)
          · rw [hmay, if_neg hb] at g; omega
        · exact wrote _ h' B' rfl g q1 q2 fun h => by cases h
end
theorem ChainOlder_spec {h : H} {s : Sl} {S : List (Step × List Int)} {up v : Int} {kl : Bool} {Q : Bool → H → Prop} (t : Script h s S) (k : ∀ h', Ext h h' → Q true h') : F.spatelaw5_ChainOlder s up v kl h Q := by
  unfold F.spatelaw5_ChainOlder
  refine known_spec fun h1 e1 => ⟨(fun h => by cases h), fun _ => ?_⟩
  refine open_facts (t.ext e1) fun p h4 B L hL hp c4 e4 hB hr hep hln => ?_
  refine epochs_spec c4 (by omega) fun r7 h6 o7 e6 m7 => ?_
  refine Newest_spec (c4.ext e6) (by omega) fun h8 e8 => ?_
  refine within_eq (by omega) (by omega) fun w0 w1 => ?_
  have hnb := hep.newest
  rw [w64 (by omega) (by omega)]
  have hs1 := e1.size
  refine ⟨L.length + 1, ?_⟩
  refine older_loop (h0 := h) (h1 := h8) (by omega) (fun b hb => by have := hB b hb; omega) hr hln hep rfl (by omega) (by omega) k ((c4.ext e6).ext e8) (((e1.trans e4).trans e6).trans e8) (o7.ext e8).reads _ 0 _ h8 (.refl _) (by simpa using Owns.nil h8 3 1) (Mine.nil _ _ _) (by omega) (by simp)
end Go.Proofs.Ytapomjhjpejimaa.V
