/- A new book, a twin; no condition. -/
import Derived.Test.YtgcmojbajjajgaaGreatEf
namespace Go.Proofs.YtgcmojbajjajgaaGreat.V
open Go Go.Proofs.YtgcmojbajjajgaaGreat.V.N
set_option linter.unusedVariables false
set_option linter.unusedSimpArgs false
def ow0 : S_epoch_owner := ⟨none, 0⟩
/-- A book that is being made: its first i owners are there. -/
structure BB (h0 h : H) (n i : Nat) (bs : List Nat) (db : Nat) (B : Bk) : Prop where
  tb : Blk h n (hdB 0 0 B ++ (owL bs (B.os.take i) ++ List.replicate (65 - i) ow0).flatMap S_epoch_owner.cells ++ tlB db B).toArray tn_epoch_Book
  lb : bs.length = i
  li : i ≤ 65
  lo : B.os.length = 65
  sets : ∀ (j b : Nat) (x : List Int × Int), bs[j]? = some b → B.os[j]? = some x → MS h b (uS x.1)
  dy : MS h db (dS B.die)
  nd : (db :: bs).Nodup
  new : ∀ b, FB n bs db b → h0.size ≤ b
  ext : Ext h0 h
section
variable {h0 h h' : H} {n db i : Nat} {bs : List Nat} {B : Bk}
theorem BB.done (b : BB h0 h n 65 bs db B) : BH 0 h n bs db B := by
  refine ⟨⟨0, ?_⟩, b.lb, b.lo, b.sets, b.dy, b.nd⟩
  have := b.tb
  rwa [← b.lo, List.take_length, b.lo, Nat.sub_self, List.replicate_zero, List.append_nil] at this
theorem BB.lt (b : BB h0 h n i bs db B) : ∀ m, FB n bs db m → m < h.size := fun m hm => by
  rcases hm with rfl | rfl | hm
  · exact block_lt b.tb
  · exact b.dy.lt
  · obtain ⟨j, hj⟩ := List.mem_iff_getElem?.1 hm
    have hl := (List.getElem?_eq_some_iff.1 hj).1
    have := b.lb; have := b.li; have := b.lo
    exact (b.sets j m _ hj (List.getElem?_eq_getElem (by omega))).lt
theorem BB.only {S : Nat → Prop} (b : BB h0 h n i bs db B) (o : Only S h h') (hs : ∀ m, FB n bs db m → ¬ S m) (h00 : ∀ m, m < h0.size → ¬ S m) : BB h0 h' n i bs db B :=
  ⟨o.block b.tb (hs n (.inl rfl)), b.lb, b.li, b.lo, fun j m x hm hx => (b.sets j m x hm hx).only o (hs m (.inr (.inr (List.mem_of_getElem? hm)))), b.dy.only o (hs db (.inr (.inl rfl))), b.nd, b.new, b.ext.step o fun m hm hf => h00 m hm hf⟩
theorem BB.e (b : BB h0 h n i bs db B) (o : Ext h h') : BB h0 h' n i bs db B := b.only o (fun _ _ e => e) fun _ _ e => e
theorem BB.nb (b : BB h0 h n i bs db B) : ∀ m ∈ bs, m ≠ n := fun m hm e => by
  obtain ⟨j, hj⟩ := List.mem_iff_getElem?.1 hm
  have hl := (List.getElem?_eq_some_iff.1 hj).1
  have := b.lb; have := b.li; have := b.lo
  have := b.sets j m _ hj (List.getElem?_eq_getElem (by omega))
  subst e; exact this.not_blk b.tb
theorem BB.nd' (b : BB h0 h n i bs db B) : db ≠ n := fun e => by
  have := b.dy
  subst e; exact this.not_blk b.tb
theorem row_set {c : Nat} {x : List Int × Int} (b : BB h0 h n i bs db B) (hi : i < 65) (hx : B.os[i]? = some x) :
    (owL bs (B.os.take i) ++ List.replicate (65 - i) ow0).set i ⟨some c, x.2⟩ = owL (bs ++ [c]) (B.os.take (i + 1)) ++ List.replicate (65 - (i + 1)) ow0 := by
  have hl : (owL bs (B.os.take i)).length = i := by simp [owL, b.lb, b.lo]; omega
  rw [List.set_append_right _ _ (by omega), hl, Nat.sub_self]
  rw [show 65 - i = (65 - (i + 1)) + 1 from by omega, List.replicate_succ, List.set_cons_zero]
  have : owL (bs ++ [c]) (B.os.take (i + 1)) = owL bs (B.os.take i) ++ [⟨some c, x.2⟩] := by
    rw [List.take_add_one, hx]
    simp only [Option.toList_some, owL]
    rw [List.zipWith_append (by simp [b.lb, b.lo]; omega)]
    rfl
  rw [this, List.append_assoc]; rfl
theorem row_get (b : BB h0 h n i bs db B) (hi : i < 65) : (owL bs (B.os.take i) ++ List.replicate (65 - i) ow0)[i]? = some ow0 := by
  have hl : (owL bs (B.os.take i)).length = i := by simp [owL, b.lb, b.lo]; omega
  rw [List.getElem?_append_right (by omega), hl, Nat.sub_self, List.getElem?_replicate]
  simp; omega
/-- One owner more. -/
theorem BB.more {K : H → Prop} {c j : Nat} {x : List Int × Int} {vs : List Value} (b : BB h0 h n i bs db B) (hi : i < 65) (hx : B.os[i]? = some x) (ms : MS h c (uS x.1)) (hc : c ∉ db :: bs) (hc0 : h0.size ≤ c) (hj : j + vs.length ≤ 2)
    (hv : ∀ t, t < 2 → ((⟨some c, x.2⟩ : S_epoch_owner).cells)[t]? = if j ≤ t ∧ t < j + vs.length then vs[t - j]? else ow0.cells[t]?)
    (k : ∀ h', BB h0 h' n (i + 1) (bs ++ [c]) db B → Only (· = n) h h' → h'.size = h.size → K h') : stH h ⟨n, 4 + i * 2 + j, none⟩ vs K := by
  have hcn : c ≠ n := fun e => by subst e; exact ms.not_blk b.tb
  have hn0 := b.new n (.inl rfl)
  refine pb_store (x' := ⟨some c, x.2⟩) b.tb rfl (row_get b hi) hj hv fun h' t' o e => k h' ?_ o e
  rw [row_set b hi hx] at t'
  refine ⟨t', by simp [b.lb], by omega, b.lo, fun t y z hy hz => ?_, b.dy.only o b.nd', ?_, fun y hy => ?_, b.ext.step o fun m hm hf => by omega⟩
  · by_cases ht : t < bs.length
    · rw [List.getElem?_append_left ht] at hy
      exact (b.sets t y z hy hz).only o (b.nb y (List.mem_of_getElem? hy))
    · rw [List.getElem?_append_right (by omega)] at hy
      have : t = bs.length := by
        have := (List.getElem?_eq_some_iff.1 hy).1
        simp at this; omega
      subst this
      simp at hy; subst hy
      rw [b.lb, hx] at hz; cases hz
      exact ms.only o hcn
  · simp only [List.mem_cons, not_or] at hc
    have hnd := List.nodup_cons.1 b.nd
    rw [List.nodup_cons]
    refine ⟨fun hd => ?_, ?_⟩
    · rcases List.mem_append.1 hd with h | h
      · exact hnd.1 h
      · simp at h; exact hc.1 h.symm
    · rw [List.nodup_append]
      refine ⟨hnd.2, by simp, fun a ha d hd => ?_⟩
      simp at hd; subst hd
      exact fun e => hc.2 (e ▸ ha)
  · rcases hy with h | h | h
    · exact b.new y (.inl h)
    · exact b.new y (.inr (.inl h))
    · rcases List.mem_append.1 h with h | h
      · exact b.new y (.inr (.inr h))
      · simp at h; subst h; exact hc0
def newB (pins : Int) : Bk := ⟨pins, 1, List.replicate 65 ([], 0), [], false⟩
theorem BB.start {q : Int} (t : Blk h n (hdB 0 0 B ++ (List.replicate 65 ow0).flatMap S_epoch_owner.cells ++ tlB db B).toArray tn_epoch_Book) (lo : B.os.length = 65) (dy : MS h db (dS B.die)) (hn : h0.size ≤ n) (hd : h0.size ≤ db) (e : Ext h0 h) : BB h0 h n 0 [] db B := by
  refine ⟨?_, rfl, by omega, lo, fun j b x hb => by simp at hb, dy, by simp, fun b hb => ?_, e⟩
  · rw [show owL [] (B.os.take 0) = [] from rfl, List.nil_append]; exact t
  · rcases hb with rfl | rfl | h
    · exact hn
    · exact hd
    · cases h
theorem book_cells (pins now : Int) (L : List S_epoch_owner) (db : Nat) (sw : Bool) (os : List (List Int × Int)) (die : List (Int × Int)) :
    (⟨⟨⟨⟩, ⟨0, 0⟩⟩, pins, now, L, some db, sw⟩ : S_epoch_Book).cells = hdB 0 0 ⟨pins, now, os, die, sw⟩ ++ L.flatMap S_epoch_owner.cells ++ tlB db ⟨pins, now, os, die, sw⟩ := by
  simp only [S_epoch_Book.cells, hdB, tlB, List.append_assoc]
  rfl
theorem New_spec {pins : Int} {Q : Option Addr → Int → H → Prop} (k0 : (pins < 1 ∨ pins > 64) → Q none 1 h) (k : 1 ≤ pins → pins ≤ 64 → ∀ n bs db h', BH 0 h' n bs db (newB pins) → Ext h h' → (∀ b, FB n bs db b → h.size ≤ b) → Q (some ⟨n, 0, none⟩) 0 h') : F.epoch_New pins h Q := by
  unfold F.epoch_New
  have j3 : ∀ x : Bool, (x = true ↔ (pins < 1 ∨ pins > 64)) → F.epoch_New.j3 Q pins x h := by
    intro x hx
    unfold F.epoch_New.j3
    refine ⟨fun g => k0 (hx.1 g), fun g => ?_⟩
    have hr : ¬ (pins < 1 ∨ pins > 64) := fun e => by rw [hx.2 e] at g; cases g
    unfold F.epoch_New.j1
    refine make0_of fun db h1 hd m1 e1 s1 => ⟨_, rfl, ?_⟩
    refine new_of fun n h2 hn b2 e2 s2 => ⟨66, ?_⟩
    rw [show (some db : Option Nat) = some db from rfl] at b2
    rw [book_cells pins 1 _ db false (List.replicate 65 ([], 0)) []] at b2
    have st : BB h h2 n 0 [] db (newB pins) := .start (q := 0) b2 (by simp [newB]) (m1.ext e2) (by omega) (by omega) (e1.trans e2)
    have key : ∀ (m i : Nat) (h' : H) (bs : List Nat), BB h h' n i bs db (newB pins) → 65 - i < m → F.epoch_New.l2 Q m ⟨n, 0, none⟩ (i : Int) h' := by
      intro m
      induction m with
      | zero => intro i h' bs b hm; omega
      | succ m ih =>
        intro i h' bs b hm
        have hli := b.li
        unfold F.epoch_New.l2
        simp only [decide_eq_true_eq, decide_eq_false_iff_not, add_lit, Nat.zero_add, Nat.add_zero]
        refine ⟨fun g => ?_, fun g => ?_⟩
        · refine make0_of fun c h3 hc m3 e3 s3 => ⟨_, rfl, ⟨by omega, by omega⟩, ?_⟩
          rw [show ((i : Int)).toNat = i from by simp]
          refine (b.e e3).more (j := 0) (vs := [.map (some c)]) (x := ([], 0)) (by omega) (by rw [show (newB pins).os = List.replicate 65 ([], 0) from rfl, List.getElem?_replicate, if_pos (by omega)]) m3 (fun hx => ?_) ?_ (by simp) (fun t ht => ?_) fun h4 b4 o4 s4 => ?_
          · have : c < h'.size := b.lt c (by
              rcases List.mem_cons.1 hx with h | h
              · exact .inr (.inl h)
              · exact .inr (.inr h))
            omega
          · have := b.ext.size; omega
          · rcases t with _ | _ | t
            · rfl
            · rfl
            · omega
          · rw [w64n (by omega)]
            exact ih (i + 1) h4 _ b4 (by omega)
        · have : i = 65 := by omega
          subst this
          exact k (by omega) (by omega) n bs db h' b.done b.ext b.new
    exact key 66 0 h2 [] st (by omega)
  refine ⟨fun g => j3 true ?_, fun g => j3 _ ?_⟩
  · simp only [decide_eq_true_eq] at g; simp [g]
  · simp only [decide_eq_false_iff_not] at g; simp [g]
theorem Twin_spec {Q : Option Addr → H → Prop} (b : BH 0 h n bs db B) (k : ∀ n' bs' db' h', BH 0 h' n' bs' db' B → BH 0 h' n bs db B → Only (FB n bs db) h h' → (∀ x, FB n' bs' db' x → h.size ≤ x) → Q (some ⟨n', 0, none⟩) h') : F.epoch_Book_Twin (some ⟨n, 0, none⟩) h Q := by
  unfold F.epoch_Book_Twin
  refine guard_spec b fun h1 b1 o1 s1 => ?_
  simp only [nn_some, add_lit, Nat.zero_add, Nat.add_zero]
  refine (ldI_iff b1.c2).2 ((ldI_iff b1.c3).2 ((ldM_iff b1.cd).2 ((ldB_iff b1.cs).2 ?_)))
  refine clone_ii b1.dy fun db2 h2 hd2 m2 e2 s2 => ?_
  have b2 := b1.ext e2
  refine ⟨b2.cs, b2.c3, b2.c2, ?_⟩
  refine new_of fun n2 h3 hn2 k3 e3 s3 => ?_
  rw [book_cells B.pins B.now _ db2 B.sw B.os B.die] at k3
  have b3 := b2.ext e3
  have hlen : ((owL bs B.os).flatMap S_epoch_owner.cells).length = 130 := by rw [flat_len _ 2 ow_len, b.low]
  refine ⟨owL bs B.os, hlen, b.low, b3.cells, 66, ?_⟩
  have st : BB h1 h3 n2 0 [] db2 B := .start (q := 0) k3 b.lo (m2.ext e3) (by omega) (by omega) (e2.trans e3)
  have key : ∀ (m i : Nat) (h' : H) (bs2 : List Nat), BB h1 h' n2 i bs2 db2 B → 65 - i < m →
      F.epoch_Book_Twin.l1 Q no_sync_Mutex_Unlock #[.pointer (some ⟨n, 0, none⟩)] #[] m ⟨n2, 0, none⟩ (owL bs B.os) (i : Int) h' := by
    intro m
    induction m with
    | zero => intro i h' bs2 t hm; omega
    | succ m ih =>
      intro i h' bs2 t hm
      have hli := t.li
      unfold F.epoch_Book_Twin.l1
      simp only [decide_eq_true_eq, decide_eq_false_iff_not, add_lit, Nat.zero_add, Nat.add_zero]
      have b' : BH 1 h' n bs db B := b1.ext t.ext
      refine ⟨fun g => ?_, fun g => ?_⟩
      · obtain ⟨c, x, hc, hx, hw, ms⟩ := b'.ow (i := i) (by omega)
        refine ⟨⟨some c, x.2⟩, ⟨by omega, by omega, b.low, by simpa using hw⟩, ?_⟩
        refine new_of fun a h4 ha k4 e4 s4 => ?_
        refine stH_of k4 (by simp [S_epoch_owner.cells]) fun h5 k5 o5 s5 => ?_
        refine (ldM_iff (n := some c) (k5.cell (i := 0) rfl)).2 ((ldI_iff (n := x.2) (k5.cell (i := 1) rfl)).2 ?_)
        have t5 : BB h1 h5 n2 i bs2 db2 B := (t.e e4).only o5 (fun y hy e => by have := t.lt y hy; omega) fun y hy e => by have := t.ext.size; omega
        have ms5 := (ms.ext e4).only o5 fun e => by have := ms.lt; omega
        refine clone_is ms5 fun d h6 hd6 m6 e6 s6 => ⟨(e6.block (show Blk h5 a _ _ from k5) (fun f => f) |> fun z : Blk h6 a _ _ => z.cell (i := 1) rfl), ⟨by omega, by omega⟩, ?_⟩
        rw [show ((i : Int)).toNat = i from by simp]
        refine (t5.e e6).more (j := 0) (vs := (⟨some d, x.2⟩ : S_epoch_owner).cells) (x := x) (by omega) hx m6 (fun hy => ?_) ?_ (by simp [ow_len]) (fun t ht => ?_) fun h7 t7 o7 s7 => ?_
        · have : d < h5.size := t5.lt d (by
            rcases List.mem_cons.1 hy with h | h
            · exact .inr (.inl h)
            · exact .inr (.inr h))
          omega
        · have := t5.ext.size; omega
        · rw [if_pos (by simp [ow_len]; omega)]; rfl
        · rw [w64n (by omega)]
          exact ih (i + 1) h7 _ t7 (by omega)
      · have : i = 65 := by omega
        subst this
        refine unlock_spec b' fun h4 b4 o4 s4 => ?_
        have hne : ∀ y, FB n2 bs2 db2 y → y ≠ n := fun y hy e => by
          have := t.new y hy; have := b.lt n (.inl rfl); omega
        refine k n2 bs2 db2 h4 (t.done.only o4 hne) b4 (only_trans (only_trans o1 t.ext.only) o4).fb fun y hy => ?_
        have := t.new y hy; omega
  exact key 66 0 h3 [] st (by omega)
end
end Go.Proofs.YtgcmojbajjajgaaGreat.V
