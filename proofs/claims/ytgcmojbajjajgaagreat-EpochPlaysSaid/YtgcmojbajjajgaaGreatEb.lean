/- The book of epochs in the heap; its lock; who holds what; no condition. -/
import Derived.Test.YtgcmojbajjajgaaGreatEa
namespace Go.Proofs.YtgcmojbajjajgaaGreat.V
open Go Go.Proofs.YtgcmojbajjajgaaGreat.V.N
set_option linter.unusedVariables false
set_option linter.unusedSimpArgs false

/-! ### Rows of structs within a block -/
theorem writeA_flat {α : Type} {f : α → List Value} {k : Nat} (hf : ∀ x, (f x).length = k) {A C vs : List Value} {L : List α} {i j : Nat} {x x' : α} (hx : L[i]? = some x) (hj : j + vs.length ≤ k)
    (hx' : ∀ t, t < k → (f x')[t]? = if j ≤ t ∧ t < j + vs.length then vs[t - j]? else (f x)[t]?) :
    writeA (A ++ L.flatMap f ++ C).toArray (A.length + i * k + j) vs = (A ++ (L.set i x').flatMap f ++ C).toArray := by
  have hi := (List.getElem?_eq_some_iff.1 hx).1
  have l1 := flat_len f k hf L
  have l2 := flat_len f k hf (L.set i x')
  have hik : (i + 1) * k ≤ L.length * k := Nat.mul_le_mul_right k (by omega)
  rw [Nat.add_mul, Nat.one_mul] at hik
  apply Array.ext_getElem?
  intro t
  rw [writeA_get (by simp only [List.size_toArray, List.length_append, l1]; omega)]
  simp only [List.getElem?_toArray]
  have hL2 : (L.set i x').length = L.length := by simp
  by_cases h1 : t < A.length
  · rw [if_pos (by omega), List.append_assoc, List.append_assoc, List.getElem?_append_left h1, List.getElem?_append_left h1]
  · by_cases h2 : t < A.length + L.length * k
    · have e1 : (A ++ L.flatMap f ++ C)[t]? = (L.flatMap f)[t - A.length]? := by
        rw [List.append_assoc, List.getElem?_append_right (by omega), List.getElem?_append_left (by omega)]
      have e2 : (A ++ (L.set i x').flatMap f ++ C)[t]? = ((L.set i x').flatMap f)[t - A.length]? := by
        rw [List.append_assoc, List.getElem?_append_right (by omega), List.getElem?_append_left (by rw [l2, hL2]; omega)]
      rw [e1, e2]
      have hk : 0 < k := by
        rcases Nat.eq_zero_or_pos k with h | h
        · subst h; omega
        · exact h
      obtain ⟨u, hu⟩ : ∃ u, u = t - A.length := ⟨_, rfl⟩
      rw [← hu]
      have hq : u / k < L.length := (Nat.div_lt_iff_lt_mul hk).2 (by omega)
      have hm : u = u / k * k + u % k := by rw [Nat.mul_comm]; exact (Nat.div_add_mod u k).symm
      have hr : u % k < k := Nat.mod_lt _ hk
      obtain ⟨y, hy⟩ : ∃ y, L[u / k]? = some y := ⟨_, List.getElem?_eq_getElem hq⟩
      have g1 := flat_get f k hf L (u / k) y hy (u % k) hr
      rw [← hm] at g1
      by_cases hi2 : u / k = i
      · have hy2 : (L.set i x')[u / k]? = some x' := by rw [hi2, List.getElem?_set]; simp [hi]
        have g2 := flat_get f k hf (L.set i x') (u / k) x' hy2 (u % k) hr
        rw [← hm] at g2
        rw [hi2, hx] at hy; cases hy
        rw [g1, g2, hx' _ hr]
        rw [hi2] at hm
        by_cases h3 : t < A.length + i * k + j
        · rw [if_pos h3, if_neg (by omega)]
        · rw [if_neg h3]
          by_cases h4 : t < A.length + i * k + j + vs.length
          · rw [if_pos h4, if_pos (by omega)]
            congr 1; omega
          · rw [if_neg h4, if_neg (by omega)]
      · have hy2 : (L.set i x')[u / k]? = some y := by rw [List.getElem?_set, if_neg (fun e => hi2 e.symm)]; exact hy
        have g2 := flat_get f k hf (L.set i x') (u / k) y hy2 (u % k) hr
        rw [← hm] at g2
        rw [g1, g2]
        have : ¬ (A.length + i * k + j ≤ t ∧ t < A.length + i * k + j + vs.length) := fun ⟨a, b⟩ => by
          rcases Nat.lt_or_gt_of_ne hi2 with h5 | h5
          · have := Nat.mul_le_mul_right k (show u / k + 1 ≤ i from h5)
            rw [Nat.add_mul, Nat.one_mul] at this; omega
          · have := Nat.mul_le_mul_right k (show i + 1 ≤ u / k from h5)
            rw [Nat.add_mul, Nat.one_mul] at this; omega
        by_cases h3 : t < A.length + i * k + j
        · rw [if_pos h3]
        · rw [if_neg h3, if_neg (by omega)]
    · have e1 : (A ++ L.flatMap f ++ C)[t]? = C[t - (A.length + L.length * k)]? := by
        rw [List.getElem?_append_right (by rw [List.length_append, l1]; omega), List.length_append, l1]
      have e2 : (A ++ (L.set i x').flatMap f ++ C)[t]? = C[t - (A.length + L.length * k)]? := by
        rw [List.getElem?_append_right (by rw [List.length_append, l2, hL2]; omega), List.length_append, l2, hL2]
      rw [e1, e2, if_neg (by omega), if_neg (by omega)]
theorem cells_mid {h : H} {n : Nat} {A B C : List Value} {e : TypeId} (b : Blk h n (A ++ B ++ C).toArray e) : Cells h ⟨n, A.length, none⟩ B := fun i v hv => by
  have hi := (List.getElem?_eq_some_iff.1 hv).1
  rw [add_lit]
  refine b.cell ?_
  rw [List.getElem?_toArray, List.append_assoc, List.getElem?_append_right (by omega), List.getElem?_append_left (by omega)]
  rw [show A.length + i - A.length = i from by omega]; exact hv

/-! ### The book -/
structure Bk where
  pins : Int
  now : Int
  os : List (List Int × Int)
  die : List (Int × Int)
  sw : Bool
abbrev uS (S : List Int) : KL := S.map fun k => (k, uV)
abbrev dS (D : List (Int × Int)) : KL := D.map fun p => (p.1, .int .i64 p.2)
def owL (bs : List Nat) (os : List (List Int × Int)) : List S_epoch_owner := List.zipWith (fun b x => ⟨some b, x.2⟩) bs os
def hdB (lk q : Int) (B : Bk) : List Value := [.int .i32 lk, .int .u32 q, .int .i64 B.pins, .int .i64 B.now]
def tlB (db : Nat) (B : Bk) : List Value := [.map (some db), .bool B.sw]
theorem ow_len (x : S_epoch_owner) : x.cells.length = 2 := rfl
structure BH (lk : Int) (h : H) (n : Nat) (bs : List Nat) (db : Nat) (B : Bk) : Prop where
  tb : ∃ q, Blk h n (hdB lk q B ++ (owL bs B.os).flatMap S_epoch_owner.cells ++ tlB db B).toArray tn_epoch_Book
  lb : bs.length = 65
  lo : B.os.length = 65
  sets : ∀ (i b : Nat) (x : List Int × Int), bs[i]? = some b → B.os[i]? = some x → MS h b (uS x.1)
  dy : MS h db (dS B.die)
  nd : (db :: bs).Nodup
/-- The blocks of a book. -/
def FB (n : Nat) (bs : List Nat) (db b : Nat) : Prop := b = n ∨ b = db ∨ b ∈ bs
structure Stp (h : H) (n : Nat) (bs : List Nat) (db : Nat) (h' : H) (bs' : List Nat) : Prop where
  only : Only (FB n bs db) h h'
  new : ∀ b, FB n bs' db b → FB n bs db b ∨ h.size ≤ b
theorem Stp.refl (h : H) (n : Nat) (bs : List Nat) (db : Nat) : Stp h n bs db h bs := ⟨.refl _, fun b hb => .inl hb⟩
theorem Stp.trans {h h' h'' : H} {n db : Nat} {bs bs' bs'' : List Nat} (a : Stp h n bs db h' bs') (b : Stp h' n bs' db h'' bs'') : Stp h n bs db h'' bs'' :=
  ⟨a.only.trans b.only fun m hm hf => (a.new m hf).resolve_right (by omega), fun m hm => by
    rcases b.new m hm with h1 | h1
    · exact a.new m h1
    · exact .inr (Nat.le_trans a.only.size h1)⟩
theorem Stp.of_only {h h' : H} {n db : Nat} {bs : List Nat} (o : Only (FB n bs db) h h') : Stp h n bs db h' bs := ⟨o, fun b hb => .inl hb⟩
section
variable {lk : Int} {h h' : H} {n db : Nat} {bs : List Nat} {B : Bk}
theorem BH.lt (b : BH lk h n bs db B) : ∀ m, FB n bs db m → m < h.size := fun m hm => by
  rcases hm with rfl | rfl | hm
  · obtain ⟨q, t⟩ := b.tb; exact block_lt t
  · exact b.dy.lt
  · obtain ⟨i, hi⟩ := List.mem_iff_getElem?.1 hm
    have hl := (List.getElem?_eq_some_iff.1 hi).1
    exact (b.sets i m _ hi (List.getElem?_eq_getElem (by rw [b.lo, ← b.lb]; exact hl))).lt
theorem BH.nb (b : BH lk h n bs db B) : ∀ m ∈ bs, m ≠ n := fun m hm e => by
  obtain ⟨q, t⟩ := b.tb
  obtain ⟨i, hi⟩ := List.mem_iff_getElem?.1 hm
  have hl := (List.getElem?_eq_some_iff.1 hi).1
  have := b.sets i m _ hi (List.getElem?_eq_getElem (by rw [b.lo, ← b.lb]; exact hl))
  subst e; exact this.not_blk t
theorem BH.nd' (b : BH lk h n bs db B) : db ≠ n := fun e => by
  obtain ⟨q, t⟩ := b.tb
  have := b.dy
  subst e; exact this.not_blk t
theorem BH.only {S : Nat → Prop} (b : BH lk h n bs db B) (o : Only S h h') (hs : ∀ m, FB n bs db m → ¬ S m) : BH lk h' n bs db B := by
  obtain ⟨q, t⟩ := b.tb
  refine ⟨⟨q, o.block t (hs n (.inl rfl))⟩, b.lb, b.lo, fun i m x hm hx => (b.sets i m x hm hx).only o (hs m (.inr (.inr (List.mem_of_getElem? hm)))), b.dy.only o (hs db (.inr (.inl rfl))), b.nd⟩
theorem BH.ext (b : BH lk h n bs db B) (o : Ext h h') : BH lk h' n bs db B := b.only o fun _ _ e => e
theorem BH.low (b : BH lk h n bs db B) : (owL bs B.os).length = 65 := by simp [owL, b.lb, b.lo]
theorem BH.ow (b : BH lk h n bs db B) {i : Nat} (hi : i < 65) : ∃ m x, bs[i]? = some m ∧ B.os[i]? = some x ∧ (owL bs B.os)[i]? = some ⟨some m, x.2⟩ ∧ MS h m (uS x.1) := by
  have h1 : i < bs.length := by rw [b.lb]; exact hi
  have h2 : i < B.os.length := by rw [b.lo]; exact hi
  refine ⟨bs[i], B.os[i], List.getElem?_eq_getElem h1, List.getElem?_eq_getElem h2, ?_, b.sets i _ _ (List.getElem?_eq_getElem h1) (List.getElem?_eq_getElem h2)⟩
  simp [owL, List.getElem?_zipWith, List.getElem?_eq_getElem h1, List.getElem?_eq_getElem h2]
theorem BH.cells (b : BH lk h n bs db B) : Cells h ⟨n, 4, none⟩ ((owL bs B.os).flatMap S_epoch_owner.cells) := by
  obtain ⟨q, t⟩ := b.tb
  exact cells_mid t
theorem BH.cmap (b : BH lk h n bs db B) {i m : Nat} {x : List Int × Int} (h1 : bs[i]? = some m) (h2 : B.os[i]? = some x) : cellH h ⟨n, 4 + i * 2, none⟩ = some (.map (some m)) := by
  have hw : (owL bs B.os)[i]? = some ⟨some m, x.2⟩ := by simp [owL, List.getElem?_zipWith, h1, h2]
  have := b.cells (i * 2 + 0) (.map (some m)) (by rw [flat_get _ 2 ow_len _ i _ hw 0 (by omega)]; rfl)
  rw [add_lit] at this; exact this
theorem BH.cinn (b : BH lk h n bs db B) {i : Nat} {x : List Int × Int} (h1 : i < 65) (h2 : B.os[i]? = some x) : cellH h ⟨n, 4 + i * 2 + 1, none⟩ = some (.int .i64 x.2) := by
  obtain ⟨m, y, hm, hy, hw, _⟩ := b.ow h1
  rw [h2] at hy; cases hy
  have := b.cells (i * 2 + 1) (.int .i64 x.2) (by rw [flat_get _ 2 ow_len _ i _ hw 1 (by omega)]; rfl)
  rw [add_lit] at this; exact this
theorem BH.c0 (b : BH lk h n bs db B) : cellH h ⟨n, 0, none⟩ = some (.int .i32 lk) := by obtain ⟨q, t⟩ := b.tb; exact t.cell rfl
theorem BH.f0 (b : BH lk h n bs db B) {i : Nat} : frozenH h ⟨n, i, none⟩ = false := by obtain ⟨q, t⟩ := b.tb; exact t.frozen
theorem BH.c2 (b : BH lk h n bs db B) : cellH h ⟨n, 2, none⟩ = some (.int .i64 B.pins) := by obtain ⟨q, t⟩ := b.tb; exact t.cell rfl
theorem BH.c3 (b : BH lk h n bs db B) : cellH h ⟨n, 3, none⟩ = some (.int .i64 B.now) := by obtain ⟨q, t⟩ := b.tb; exact t.cell rfl
theorem tl_get (b : BH lk h n bs db B) (q : Int) (i : Nat) : (hdB lk q B ++ (owL bs B.os).flatMap S_epoch_owner.cells ++ tlB db B)[134 + i]? = (tlB db B)[i]? := by
  have l1 := flat_len _ 2 ow_len (owL bs B.os)
  rw [b.low] at l1
  rw [List.getElem?_append_right (by simp [hdB, l1]), List.length_append, l1]
  simp [hdB, show 134 + i - (4 + 130) = i from by omega]
theorem BH.cd (b : BH lk h n bs db B) : cellH h ⟨n, 134, none⟩ = some (.map (some db)) := by
  obtain ⟨q, t⟩ := b.tb; exact t.cell (by rw [List.getElem?_toArray]; exact tl_get b q 0)
theorem BH.cs (b : BH lk h n bs db B) : cellH h ⟨n, 135, none⟩ = some (.bool B.sw) := by
  obtain ⟨q, t⟩ := b.tb; exact t.cell (by rw [List.getElem?_toArray]; exact tl_get b q 1)
/-- The block is written anew. -/
theorem BH.retb {lk' q : Int} {B' : Bk} (b : BH lk h n bs db B) (t : Blk h' n (hdB lk' q B' ++ (owL bs B'.os).flatMap S_epoch_owner.cells ++ tlB db B').toArray tn_epoch_Book) (o : Only (· = n) h h') (ho : B'.os.length = 65) (hs : ∀ (i : Nat) (x : List Int × Int), B'.os[i]? = some x → ∃ y : List Int × Int, B.os[i]? = some y ∧ y.1 = x.1) (hd : B'.die = B.die) : BH lk' h' n bs db B' :=
  ⟨⟨q, t⟩, b.lb, ho, fun i m x hm hx => by
    obtain ⟨y, hy, e⟩ := hs i x hx
    rw [← e]; exact (b.sets i m y hm hy).only o (b.nb m (List.mem_of_getElem? hm)), hd ▸ b.dy.only o b.nd', b.nd⟩
/-- A cell ahead of the owners is written. -/
theorem st_head {K : H → Prop} {i : Nat} {v : Value} {lk' : Int} {B' : Bk} (b : BH lk h n bs db B) (hi : i < 4) (ho : B'.os = B.os) (hd : B'.die = B.die) (hw : B'.sw = B.sw) (hc : ∀ q, ∃ q', (hdB lk q B).set i v = hdB lk' q' B')
    (k : ∀ h', BH lk' h' n bs db B' → Only (· = n) h h' → h'.size = h.size → K h') : stH h ⟨n, i, none⟩ [v] K := by
  obtain ⟨q, t⟩ := id b.tb
  obtain ⟨q', hq⟩ := hc q
  refine stH_of t (by simp [hdB]; omega) fun h' t' o e => k h' (b.retb (q := q') ?_ o (by rw [ho, b.lo]) (fun i x hx => ⟨x, ho ▸ hx, rfl⟩) hd) o e
  have : writeA (hdB lk q B ++ (owL bs B.os).flatMap S_epoch_owner.cells ++ tlB db B).toArray i [v] = (hdB lk' q' B' ++ (owL bs B'.os).flatMap S_epoch_owner.cells ++ tlB db B').toArray := by
    rw [ho, ← hq]
    simp only [writeA, tlB, hw]
    rw [List.setIfInBounds_toArray, List.append_assoc, List.set_append_left _ _ (by simpa [hdB] using hi), List.append_assoc]
  rw [← this]; exact t'
/-- A cell behind the owners is written. -/
theorem st_tail {K : H → Prop} {i : Nat} {v : Value} {B' : Bk} (b : BH lk h n bs db B) (hi : i < 2) (ho : B'.os = B.os) (hd : B'.die = B.die) (hh : ∀ q, hdB lk q B' = hdB lk q B) (hc : (tlB db B).set i v = tlB db B')
    (k : ∀ h', BH lk h' n bs db B' → Only (· = n) h h' → h'.size = h.size → K h') : stH h ⟨n, 134 + i, none⟩ [v] K := by
  obtain ⟨q, t⟩ := id b.tb
  have l1 := flat_len _ 2 ow_len (owL bs B.os)
  rw [b.low] at l1
  refine stH_of t (by simp [hdB, tlB, l1]; omega) fun h' t' o e => k h' (b.retb (q := q) ?_ o (by rw [ho, b.lo]) (fun i x hx => ⟨x, ho ▸ hx, rfl⟩) hd) o e
  have : writeA (hdB lk q B ++ (owL bs B.os).flatMap S_epoch_owner.cells ++ tlB db B).toArray (134 + i) [v] = (hdB lk q B' ++ (owL bs B'.os).flatMap S_epoch_owner.cells ++ tlB db B').toArray := by
    rw [ho, ← hc, hh]
    simp only [writeA]
    rw [List.setIfInBounds_toArray, List.set_append_right _ _ (by simp [hdB, l1])]
    congr 3
    simp [hdB, l1]
  rw [← this]; exact t'
/-- An owner's inner epoch is written. -/
def setIn (B : Bk) (i : Nat) (v : Int) : Bk := { B with os := B.os.modify i fun x => (x.1, v) }
theorem owL_mod {os : List (List Int × Int)} {i m : Nat} {x : List Int × Int} {v : Int} (h1 : bs[i]? = some m) (h2 : os[i]? = some x) : (owL bs os).set i ⟨some m, v⟩ = owL bs (os.modify i fun x => (x.1, v)) := by
  apply List.ext_getElem?
  intro j
  simp only [owL, List.getElem?_set, List.getElem?_zipWith, List.getElem?_modify, List.length_zipWith]
  have g1 := (List.getElem?_eq_some_iff.1 h1).1
  have g2 := (List.getElem?_eq_some_iff.1 h2).1
  by_cases e : i = j
  · subst e
    rw [if_pos rfl, if_pos (by omega), h1, h2]
    simp
  · rw [if_neg e]
    simp [e]
theorem st_inn {K : H → Prop} {i : Nat} {v : Int} (b : BH lk h n bs db B) (hi : i < 65) (k : ∀ h', BH lk h' n bs db (setIn B i v) → Only (· = n) h h' → h'.size = h.size → K h') : stH h ⟨n, 4 + i * 2 + 1, none⟩ [.int .i64 v] K := by
  obtain ⟨q, t⟩ := id b.tb
  obtain ⟨m, x, hm, hx, hw, _⟩ := b.ow hi
  have l1 := flat_len _ 2 ow_len (owL bs B.os)
  rw [b.low] at l1
  refine stH_of t (by simp [hdB, tlB, l1]; omega) fun h' t' o e => k h' (b.retb (B' := setIn B i v) (q := q) ?_ o (by simp [setIn, b.lo]) (fun j y hy => ?_) rfl) o e
  · have := writeA_flat (f := S_epoch_owner.cells) (k := 2) ow_len (A := hdB lk q B) (C := tlB db B) (vs := [.int .i64 v]) (j := 1) (x' := ⟨some m, v⟩) hw (by simp) (fun t ht => by
      rcases t with _ | _ | t
      · rfl
      · rfl
      · omega)
    rw [owL_mod hm hx] at this
    rw [show (hdB lk q B).length + i * 2 + 1 = 4 + i * 2 + 1 from rfl] at this
    rw [this] at t'; exact t'
  · simp only [setIn, List.getElem?_modify] at hy
    cases hj : B.os[j]? with
    | none => rw [hj] at hy; cases hy
    | some z =>
      rw [hj] at hy
      simp only [Option.map_eq_map, Option.map_some, Option.some.injEq] at hy
      refine ⟨z, rfl, ?_⟩
      rw [← hy]
      split <;> rfl
end
/-! ### The lock -/
theorem setH_stH {h : H} {a : Addr} {v : Value} {K : H → Prop} (s : stH h a [v] K) : K (setH h a v) := by
  have := s.2
  simpa [setHs, Addr.add] using this
section
variable {h : H} {n db : Nat} {bs : List Nat} {B : Bk}
theorem guard_spec {K : FuncId → Array Value → Array Value → H → Prop} (b : BH 0 h n bs db B)
    (k : ∀ h', BH 1 h' n bs db B → Only (· = n) h h' → h'.size = h.size → K no_sync_Mutex_Unlock #[.pointer (some ⟨n, 0, none⟩)] #[] h') : F.epoch_Book_guard (some ⟨n, 0, none⟩) h fun r h1 => fnV r fun f fi ca => K f fi ca h1 := by
  unfold F.epoch_Book_guard F.sync_Mutex_Lock F.internal_sync_Mutex_Lock
  refine ⟨_, rfl, _, rfl, _, rfl, ?_⟩
  refine ⟨0, b.c0, b.f0, fun _ => ⟨fun _ => ?_, fun h => by cases h⟩, fun h => absurd rfl h⟩
  have t := setH_stH (st_head (lk' := 1) (v := .int .i32 1) (K := fun h' => BH 1 h' n bs db B ∧ Only (· = n) h h' ∧ h'.size = h.size) (B' := B) (i := 0) b (by omega) rfl rfl rfl (fun q => ⟨q, rfl⟩) fun h' b' o e => ⟨b', o, e⟩)
  exact ⟨_, rfl, ⟨_, t.1.c0⟩, _, rfl, _, _, _, rfl, k _ t.1 t.2.1 t.2.2⟩
theorem unlock_spec {K : H → Prop} (b : BH 1 h n bs db B) (k : ∀ h', BH 0 h' n bs db B → Only (· = n) h h' → h'.size = h.size → K h') :
    dcall PP no_sync_Mutex_Unlock ((#[.pointer (some ⟨n, 0, none⟩)] ++ ([] : List Value).toArray) ++ #[]) h K := by
  refine ⟨no_sync_Mutex_Unlock_call, ?_⟩
  have : F.sync_Mutex_Unlock (some ⟨n, 0, none⟩) h K := by
    unfold F.sync_Mutex_Unlock F.internal_sync_Mutex_Unlock F.internal_sync_Mutex_Unlock.j1
    refine ⟨_, rfl, _, rfl, ldI_of b.c0 ⟨_, rfl, ⟨_, b.c0⟩, _, rfl, 1, b.c0, b.f0, ?_⟩⟩
    have t := setH_stH (st_head (lk' := 0) (v := .int .i32 0) (K := fun h' => BH 0 h' n bs db B ∧ Only (· = n) h h' ∧ h'.size = h.size) (B' := B) (i := 0) b (by omega) rfl rfl rfl (fun q => ⟨q, rfl⟩) fun h' b' o e => ⟨b', o, e⟩)
    exact ⟨fun h => absurd h (by decide), fun _ => k _ t.1 t.2.1 t.2.2⟩
  exact fun w u hw => (F.sync_Mutex_Unlock_dok this w u hw).mono fun e u' w' ⟨e1, r, e2, l, e3, q⟩ => ⟨e1, r, e2, l, q⟩
end
end Go.Proofs.YtgcmojbajjajgaaGreat.V
