/- Epochs, at, same, has, unlike of the laws over chains; no condition. -/
import Derived.Test.YtapomjhjpejimaaCm
import Derived.Test.YtapomjhjpejimaaCo
namespace Go.Proofs.Ytapomjhjpejimaa.V
open Go
set_option linter.unusedVariables false
set_option linter.unusedSimpArgs false

theorem epochs_spec {h : H} {p : Nat} {L : List Ver} {B : Option Nat} {Q : Sl → H → Prop} (c : Ch h p L B) (hL : L.length < 1073741824) (k : ∀ r h', Owns h' r 3 1 ((L.map (fun x : Ver => x.epoch)).flatMap cI) → Ext h h' → Mine h r → Q r h') : F.spatelaw5_epochs (some ⟨p, 0, none⟩) h Q := by
  unfold F.spatelaw5_epochs
  refine new_of fun n2 h1 e1 e2 e3 e4 => ?_
  refine All_spec (c.ext e3) hL fun a r h3 a1 a2 a3 a4 x3 => ⟨.inr (.inl ⟨_, _, _, rfl⟩), (fun h => by cases h), fun _ => ?_⟩
  have hsa : a < h3.size := block_lt a1
  have hsr : ∀ b, r.blk = some b → b < h3.size := fun b hb => a2.blk_lt hb
  have hs1 := e3.size
  have hs3 := x3.size
  have b2 : Blk h3 n2 #[(⟨none, 0, 0⟩ : Sl).enc] 24 := x3.block e2 (fun f => f)
  refine range_all (fun i h' => TellI h h3 n2 a r L ((L.take i).map (fun x : Ver => x.epoch)) h') (fun _ _ => False) hL (fun i h' h'' t o => t.put o (by omega) (by omega) hsa hsr) (fun _ _ _ f _ => f) (fun i h' t => ⟨t.box, t.row⟩)
    ⟨(e3.trans x3).trans (.push _ _), Only.block (.push (S := fun _ => False) _ _) a1 (fun f => f), a2.ext (.push _ _), by simp, ⟨⟨none, 0, 0⟩, Only.block (.push (S := fun _ => False) _ _) b2 (fun f => f), Owns.nil _ _ _, fun b hb => by simp [Sl.blk] at hb⟩, by simp⟩ ?_ ?_ (fun _ _ f => f.elim)
  · intro X i x h5 K J t hX hx kK kJ
    obtain ⟨s, s1, s2, s3⟩ := t.out
    have hc := s1.cell (i := 0) rfl
    rw [ldL_iff (n := s) hc]
    have htk : (L.take (i + 1)).map (fun x : Ver => x.epoch) = (L.take i).map (fun x : Ver => x.epoch) ++ [x.epoch] := by rw [List.take_add_one, hx]; simp
    exact (t.more hX (by omega) (by omega) hsa (by omega) (fun b hb => ⟨hsr b hb, by have := (a4 b hb).1; omega⟩) (by simp; omega) (fun h2 t2 => kK h2 (by rw [htk]; exact t2)) hc).2
  · intro h' t
    rw [List.take_length] at t
    obtain ⟨s, s1, s2, s3⟩ := t.out
    rw [ldL_iff (n := s) (s1.cell (i := 0) rfl)]
    refine ⟨t.def_, ?_⟩
    have o := put_only h' h3.size (.deferred none)
    exact k s _ (s2.only o fun b hb e => by have := s3 b hb; omega) (t.ext.step o fun n hn e => by omega) fun b hb => by have := s3 b hb; omega
/-! ### at, same, has, unlike -/
def atV (L : List Ver) (e : Int) : List Int := [(atM L e).1, if (atM L e).2 then 1 else 0]
def atL (L : List Ver) (E : List Int) : List Int := E.flatMap (atV L)
theorem atL_len (L : List Ver) (E : List Int) : (atL L E).length = 2 * E.length := by
  unfold atL
  induction E with
  | nil => rfl
  | cons e r ih => rw [List.flatMap_cons, List.length_append, ih]; simp [atV]; omega
theorem at_push {h0 h : H} {p : Option Addr} {s x5 : Sl} {i : Nat} {M : List Int} {v b : Int} {Q : Sl → H → Prop} {C1 : (Option Addr) → Sl → Sl → Int → H → Prop} (hi : i < 100000000) (e0 : Ext h0 h) (m : Mine h0 x5) (o : Owns h x5 3 1 (M.flatMap cI)) (hM : M.length < 1000000000)
    (k : ∀ r h', Owns h' r 3 1 ((M ++ [v, b]).flatMap cI) → Ext h0 h' → Mine h0 r → C1 p s r ((i + 1 : Nat) : Int) h') : F.spatelaw5_at.j3 Q C1 p s x5 (i : Int) v b h := by
  unfold F.spatelaw5_at.j3 F.spatelaw5_at.j2
  refine newL_of fun n h1 e1 e2 e3 e4 => ?_
  refine app_mine (f := cI) (M := [v, b]) (e0.trans e3) m cI_len (by omega) elI (o.ext e3) (blk_reads (size := 1) (m := 2) (show Blk h1 n (([v, b] : List Int).flatMap cI).toArray 3 from e2) rfl) (fun x => one1 rfl) (by simp; omega) fun r h' q1 q2 q3 q4 q5 => ?_
  rw [wrap_succ (by omega)]
  exact k r h' q1 q2 q3
theorem at_loop {h0 : H} {p : Nat} {L : List Ver} {B : Option Nat} {s : Sl} {E : List Int} {Q : Sl → H → Prop} (c0 : Ch h0 p L B) (hr : Rise L) (hL : L.length < 1073741824) (rd : Reads h0 s 1 (E.flatMap cI)) (hE : E.length < 100000000)
    (k : ∀ r h', Owns h' r 3 1 ((atL L E).flatMap cI) → Ext h0 h' → Mine h0 r → Q r h') :
    ∀ (m i : Nat) (x : Sl) (h : H), Ext h0 h → Owns h x 3 1 ((atL L (E.take i)).flatMap cI) → Mine h0 x → i ≤ E.length → E.length - i < m → F.spatelaw5_at.l1 Q m (some ⟨p, 0, none⟩) s x (i : Int) h
  | 0, i, x, h, _, _, _, _, hm => by omega
  | m + 1, i, x, h, e0, o, mi, hi, hm => by
    unfold F.spatelaw5_at.l1
    have hl := rd_len cI_len (by omega) rd
    rw [hl]
    simp only [decide_eq_true_eq, decide_eq_false_iff_not]
    refine ⟨fun g => ?_, fun g => ?_⟩
    · obtain ⟨e, he⟩ : ∃ e, E[i]? = some e := ⟨_, List.getElem?_eq_getElem (by omega)⟩
      obtain ⟨q, r1, r2, r3⟩ := rd_at cI_len (by omega) (rd.ext e0) he
      refine idxR_of (i := i) r1 (by omega) rfl ?_
      rw [ldI_iff r3.one]
      refine At_spec (c0.ext e0) hr hL fun h1 e1 => ?_
      have htk : ∀ b, b = (if (atM L e).2 then (1 : Int) else 0) → atL L (E.take (i + 1)) = atL L (E.take i) ++ [(atM L e).1, b] := fun b hb => by
        subst hb
        rw [List.take_add_one, he]; simp [atL, atV]
      have hln : (atL L (E.take i)).length < 1000000000 := by rw [atL_len, List.length_take]; omega
      refine ⟨fun g2 => ?_, fun g2 => ?_⟩
      · refine at_push (M := atL L (E.take i)) (by omega) (e0.trans e1) mi (o.ext e1) hln fun r h' q1 q2 q3 => ?_
        rw [← htk 1 (by rw [g2]; rfl)] at q1
        exact at_loop c0 hr hL rd hE k m (i + 1) r h' q2 q1 q3 (by omega) (by omega)
      · refine at_push (M := atL L (E.take i)) (by omega) (e0.trans e1) mi (o.ext e1) hln fun r h' q1 q2 q3 => ?_
        rw [← htk 0 (by rw [g2]; rfl)] at q1
        exact at_loop c0 hr hL rd hE k m (i + 1) r h' q2 q1 q3 (by omega) (by omega)
    · rw [List.take_of_length_le (by omega)] at o
      exact k x h o e0 mi
theorem at_spec {h : H} {p : Nat} {L : List Ver} {B : Option Nat} {s : Sl} {E : List Int} {Q : Sl → H → Prop} (c : Ch h p L B) (hr : Rise L) (hL : L.length < 1073741824) (rd : Reads h s 1 (E.flatMap cI)) (hE : E.length < 100000000)
    (k : ∀ r h', Owns h' r 3 1 ((atL L E).flatMap cI) → Ext h h' → Mine h r → Q r h') : F.spatelaw5_at (some ⟨p, 0, none⟩) s h Q :=
  ⟨E.length + 1, at_loop c hr hL rd hE k _ 0 _ h (.refl _) (Owns.nil _ _ _) (Mine.nil _ _ _) (by omega) (by omega)⟩
theorem same_loop {h : H} {s t : Sl} {A B : List Int} {Q : Bool → H → Prop} (ls : Reads h s 1 (A.flatMap cI)) (lt : Reads h t 1 (B.flatMap cI)) (hAB : A.length = B.length) (hA : A.length ≤ 1000000000) (k : Q (decide (A = B)) h) :
    ∀ (m i : Nat), A.take i = B.take i → i ≤ A.length → A.length - i < m → F.spatelaw5_same.l1 Q m s t (i : Int) h
  | 0, i, _, _, hm => by omega
  | m + 1, i, he, hi, hm => by
    unfold F.spatelaw5_same.l1
    have h1 := rd_len cI_len (by omega) ls
    have h2 := rd_len cI_len (by omega) lt
    rw [h1]
    simp only [decide_eq_true_eq, decide_eq_false_iff_not]
    refine ⟨fun g => ?_, fun g => ?_⟩
    · obtain ⟨x, hx⟩ : ∃ x, A[i]? = some x := ⟨_, List.getElem?_eq_getElem (by omega)⟩
      obtain ⟨y, hy⟩ : ∃ y, B[i]? = some y := ⟨_, List.getElem?_eq_getElem (by omega)⟩
      obtain ⟨p, a1, a2, a3⟩ := rd_at cI_len (by omega) ls hx
      refine idxR_of (i := i) a1 (by omega) rfl ?_
      rw [ldI_iff a3.one]
      obtain ⟨p, b1, b2, b3⟩ := rd_at cI_len (by omega) lt hy
      refine idxR_of (i := i) b1 (by omega) rfl ?_
      rw [ldI_iff b3.one, bne_iff_ne, bne_eq_false_iff_eq]
      refine ⟨fun g2 => ?_, fun g2 => ?_⟩
      · have : A ≠ B := fun e => by rw [e, hy] at hx; cases hx; exact g2 rfl
        rw [decide_eq_false this] at k; exact k
      · rw [wrap_succ (by omega)]
        exact same_loop ls lt hAB hA k m (i + 1) (by rw [List.take_add_one, List.take_add_one, he, hx, hy, g2]) (by omega) (by omega)
    · have : A = B := by
        rw [List.take_of_length_le (by omega), List.take_of_length_le (by omega)] at he; exact he
      rw [decide_eq_true this] at k; exact k
theorem same_spec {h : H} {s t : Sl} {A B : List Int} {Q : Bool → H → Prop} (ls : Reads h s 1 (A.flatMap cI)) (lt : Reads h t 1 (B.flatMap cI)) (hA : A.length ≤ 1000000000) (k : Q (decide (A = B)) h) : F.spatelaw5_same s t h Q := by
  unfold F.spatelaw5_same
  rw [rd_len cI_len (by omega) ls, rd_len cI_len (by omega) lt, bne_iff_ne, bne_eq_false_iff_eq]
  refine ⟨fun g => ?_, fun g => ⟨A.length + 1, same_loop ls lt (by omega) hA k _ 0 (by simp) (by omega) (by omega)⟩⟩
  rw [decide_eq_false (fun e => g (by rw [e]))] at k; exact k
theorem has_loop {h : H} {s : Sl} {A : List Int} {n : Int} {Q : Bool → H → Prop} (ls : Reads h s 1 (A.flatMap cI)) (hA : A.length ≤ 1000000000) (k : Q (decide (n ∈ A)) h) :
    ∀ (m i : Nat), n ∉ A.take i → i ≤ A.length → A.length - i < m → F.spatelaw5_has.l1 Q m s n (i : Int) h
  | 0, i, _, _, hm => by omega
  | m + 1, i, he, hi, hm => by
    unfold F.spatelaw5_has.l1
    have h1 := rd_len cI_len (by omega) ls
    rw [h1]
    simp only [decide_eq_true_eq, decide_eq_false_iff_not]
    refine ⟨fun g => ?_, fun g => ?_⟩
    · obtain ⟨x, hx⟩ : ∃ x, A[i]? = some x := ⟨_, List.getElem?_eq_getElem (by omega)⟩
      obtain ⟨p, a1, a2, a3⟩ := rd_at cI_len (by omega) ls hx
      refine idxR_of (i := i) a1 (by omega) rfl ?_
      rw [ldI_iff a3.one, beq_iff_eq, beq_eq_false_iff_ne]
      refine ⟨fun g2 => ?_, fun g2 => ?_⟩
      · rw [decide_eq_true (show n ∈ A from by rw [← g2]; exact List.mem_of_getElem? hx)] at k; exact k
      · rw [wrap_succ (by omega)]
        refine has_loop ls hA k m (i + 1) ?_ (by omega) (by omega)
        rw [List.take_add_one, hx]
        intro hm
        rcases List.mem_append.1 hm with hm | hm
        · exact he hm
        · simp at hm; exact g2 hm.symm
    · rw [List.take_of_length_le (by omega)] at he
      rw [decide_eq_false he] at k; exact k
theorem has_spec {h : H} {s : Sl} {A : List Int} {n : Int} {Q : Bool → H → Prop} (ls : Reads h s 1 (A.flatMap cI)) (hA : A.length ≤ 1000000000) (k : Q (decide (n ∈ A)) h) : F.spatelaw5_has s n h Q :=
  ⟨A.length + 1, has_loop ls hA k _ 0 (by simp) (by omega) (by omega)⟩
theorem unlike_loop {h : H} {s : Sl} {A : List Int} {Q : Int → H → Prop} (ls : Reads h s 1 (A.flatMap cI)) (hc : s.len ≤ s.cap) (hA : A.length ≤ 1000000000) (k : Q (cntU [] A : Int) h) :
    ∀ (m i n : Nat), n + cntU (A.take i) (A.drop i) = cntU [] A → n ≤ i → i ≤ A.length → A.length - i < m → F.spatelaw5_unlike.l1 Q m s (n : Int) (i : Int) h
  | 0, i, _, _, _, _, hm => by omega
  | m + 1, i, n, he, hn, hi, hm => by
    unfold F.spatelaw5_unlike.l1 F.spatelaw5_unlike.j2
    have h1 := rd_len cI_len (by omega) ls
    rw [h1]
    simp only [decide_eq_true_eq, decide_eq_false_iff_not]
    refine ⟨fun g => ?_, fun g => ?_⟩
    · have hi2 : i < A.length := by omega
      obtain ⟨x, hx⟩ : ∃ x, A[i]? = some x := ⟨_, List.getElem?_eq_getElem hi2⟩
      refine cutL_of (lo := 0) (hi := i) rfl rfl (by omega) (by omega) ?_
      have hcut := cut_reads cI_len (by omega) ls (lo := 0) (hi := i) (by omega) (by omega) hc
      obtain ⟨p, a1, a2, a3⟩ := rd_at cI_len (by omega) ls hx
      refine idxR_of (i := i) a1 (by omega) rfl ?_
      rw [ldI_iff a3.one]
      have hd : A.drop i = x :: A.drop (i + 1) := by
        rw [List.drop_eq_getElem_cons hi2]
        congr 1
        obtain ⟨_, h⟩ := List.getElem?_eq_some_iff.1 hx; exact h
      have htk : A.take (i + 1) = A.take i ++ [x] := by rw [List.take_add_one, hx]; rfl
      rw [hd] at he
      simp only [cntU] at he
      refine has_spec (A := A.take i) (by simpa using hcut) (by rw [List.length_take]; omega) ⟨fun g2 => ?_, fun g2 => ?_⟩
      · rw [wrap_succ (by omega), wrap_succ (by omega)]
        have hx : x ∉ A.take i := by simpa using g2
        rw [if_neg hx] at he
        exact unlike_loop ls hc hA k m (i + 1) (n + 1) (by rw [htk]; omega) (by omega) (by omega) (by omega)
      · rw [wrap_succ (by omega)]
        have hx : x ∈ A.take i := by simpa using g2
        rw [if_pos hx] at he
        exact unlike_loop ls hc hA k m (i + 1) n (by rw [htk]; omega) (by omega) (by omega) (by omega)
    · have : A.drop i = [] := List.drop_eq_nil_of_le (by omega)
      rw [this] at he
      simp only [cntU, Nat.add_zero] at he
      rw [he]; exact k
theorem unlike_spec {h : H} {s : Sl} {A : List Int} {Q : Int → H → Prop} (ls : Reads h s 1 (A.flatMap cI)) (hc : s.len ≤ s.cap) (hA : A.length ≤ 1000000000) (k : Q (cntU [] A : Int) h) : F.spatelaw5_unlike s h Q :=
  ⟨A.length + 1, unlike_loop ls hc hA k _ 0 0 (by simp) (by omega) (by omega) (by omega)⟩
end Go.Proofs.Ytapomjhjpejimaa.V
