/- two and Lists of the package merge, of numbers and of texts: what they tell; no condition. -/
import Derived.Test.YtidpbnbjpglhfaaMb
namespace Go.Proofs.Ytidpbnbjpglhfaa.V
open Go
set_option linter.unusedVariables false
set_option linter.unusedSimpArgs false

section
variable {α : Type} [DecidableEq α]
def addM (out : List α) (x : α) : List α := if out.getLast? = some x then out else out ++ [x]
def twoM (le : α → α → Bool) : Nat → List α → List α → List α → List α
  | 0, out, _, _ => out
  | n + 1, out, [], [] => out
  | n + 1, out, x :: a, [] => twoM le n (addM out x) a []
  | n + 1, out, [], y :: b => twoM le n (addM out y) [] b
  | n + 1, out, x :: a, y :: b => if le x y then twoM le n (addM out x) a (y :: b) else twoM le n (addM out y) (x :: a) b
def listsM (le : α → α → Bool) : Nat → List (List α) → List α
  | 0, _ => []
  | n + 1, [] => []
  | n + 1, [a] => twoM le a.length [] a []
  | n + 1, a :: b :: r => let l := listsM le n ((a :: b :: r).take ((a :: b :: r).length / 2)); let k := listsM le n ((a :: b :: r).drop ((a :: b :: r).length / 2)); twoM le (l.length + k.length) [] l k
theorem listsM_fuel (le : α → α → Bool) : ∀ (n m : Nat) (LL : List (List α)), LL.length < n → LL.length < m → listsM le n LL = listsM le m LL
  | 0, m, LL, hn, _ => by omega
  | n, 0, LL, _, hm => by omega
  | n + 1, m + 1, [], _, _ => rfl
  | n + 1, m + 1, [a], _, _ => rfl
  | n + 1, m + 1, a :: b :: r, hn, hm => by
    simp only [List.length_cons] at hn hm
    have h1 := listsM_fuel le n m ((a :: b :: r).take ((a :: b :: r).length / 2)) (by simp; omega) (by simp; omega)
    have h2 := listsM_fuel le n m ((a :: b :: r).drop ((a :: b :: r).length / 2)) (by simp; omega) (by simp; omega)
    simp only [listsM, h1, h2]
theorem addM_len (out : List α) (x : α) : (addM out x).length ≤ out.length + 1 := by unfold addM; split <;> simp
theorem twoM_len (le : α → α → Bool) : ∀ (n : Nat) (out a b : List α), (twoM le n out a b).length ≤ out.length + n
  | 0, out, _, _ => by simp [twoM]
  | n + 1, out, [], [] => by simp [twoM]
  | n + 1, out, x :: a, [] => by have := twoM_len le n (addM out x) a []; have := addM_len out x; simp only [twoM]; omega
  | n + 1, out, [], y :: b => by have := twoM_len le n (addM out y) [] b; have := addM_len out y; simp only [twoM]; omega
  | n + 1, out, x :: a, y :: b => by
    have := twoM_len le n (addM out x) a (y :: b); have := addM_len out x
    have := twoM_len le n (addM out y) (x :: a) b; have := addM_len out y
    simp only [twoM]; split <;> omega
end
abbrev cS (s : Sl) : List Value := [s.enc]
theorem cS_len (s : Sl) : (cS s).length = 1 := rfl
theorem bytes_inj {a b : ByteArray} : a.toList = b.toList ↔ a = b := by
  rw [toList_data, toList_data]
  obtain ⟨⟨x⟩⟩ := a
  obtain ⟨⟨y⟩⟩ := b
  simp
abbrev leI (x y : Int) : Bool := decide (x ≤ y)
abbrev leT (x y : ByteArray) : Bool := Op.bytesLess x.toList y.toList || (x.toList == y.toList)
theorem elT : El PP 29 9 1 16 (.string ⟨#[]⟩) := ⟨Try.underlying29, ⟨Try.t9, by kernel_rfl, by kernel_rfl, by kernel_rfl, by kernel_rfl⟩, rfl, by omega, by omega⟩
theorem elI : El PP 23 3 1 8 (.int .i64 0) := ⟨Try.underlying23, ⟨Try.t3, by kernel_rfl, by kernel_rfl, by kernel_rfl, by kernel_rfl⟩, rfl, by omega, by omega⟩
theorem drop1 {β : Type} (x : β) (r : List β) : ((x :: r).drop 1).take ((x :: r).length - 1) = r := by simp
/-- A slice that reads as a list, and is as long as it may be cut. -/
def Lst {α : Type} (h : H) (s : Sl) (f : α → List Value) (A : List α) : Prop := Reads h s 1 (A.flatMap f) ∧ s.len ≤ s.cap
theorem Lst.ext {α : Type} {h h' : H} {s : Sl} {f : α → List Value} {A : List α} (l : Lst h s f A) (e : Ext h h') : Lst h' s f A := ⟨l.1.ext e, l.2⟩
theorem Lst.only {α : Type} {S : Nat → Prop} {h h' : H} {s : Sl} {f : α → List Value} {A : List α} (l : Lst h s f A) (e : Only S h h') (hn : ∀ b, s.blk = some b → ¬ S b) : Lst h' s f A := ⟨l.1.only e hn, l.2⟩
theorem Lst.len {α : Type} {h : H} {s : Sl} {f : α → List Value} {A : List α} (hf : ∀ x, (f x).length = 1) (l : Lst h s f A) : s.len = A.length := rd_len hf (by omega) l.1
/-- The first thing of a list, and the list behind it. -/
theorem Lst.head {α : Type} {h : H} {s : Sl} {f : α → List Value} {x : α} {r : List α} {K : Addr → Prop} (hf : ∀ x, (f x).length = 1) (l : Lst h s f (x :: r)) (k : ∀ a, Cells h a (f x) → K a) : idxA s 0 1 K := by
  obtain ⟨p, q1, q2, q3⟩ := rd_at hf (by omega) l.1 (i := 0) (x := x) rfl
  refine idxR_of (i := 0) q1 (by rw [l.len hf]; simp) rfl (k _ ?_)
  simpa using q3
theorem Lst.tail {α : Type} {h : H} {s : Sl} {f : α → List Value} {x : α} {r : List α} {K : Sl → Prop} (hf : ∀ x, (f x).length = 1) (l : Lst h s f (x :: r)) (k : ∀ t, Lst h t f r → t.blk = s.blk → K t) : cutL s 1 (s.len : Int) 1 K := by
  have hl := l.len hf
  have hl' : s.len = r.length + 1 := by simpa using hl
  refine cutL_of (lo := 1) (hi := s.len) rfl rfl (by omega) l.2 (k _ ⟨?_, ?_⟩ slcut_blk)
  · have := cut_reads hf (by omega) l.1 (lo := 1) (hi := s.len) (by omega) (by omega) l.2
    rw [hl, drop1] at this
    rw [hl]; exact this
  · have := l.2; simp only [slcut]; omega
theorem Lst.get {α : Type} {h : H} {s : Sl} {f : α → List Value} {A : List α} {i : Nat} {x : α} {n : Int} {K : Addr → Prop} (hf : ∀ x, (f x).length = 1) (l : Lst h s f A) (hx : A[i]? = some x) (hn : n = (i : Int)) (k : ∀ a, Cells h a (f x) → K a) : idxA s n 1 K := by
  obtain ⟨p, q1, q2, q3⟩ := rd_at hf (by omega) l.1 hx
  have := (List.getElem?_eq_some_iff.1 hx).1
  exact idxR_of (i := i) q1 (by rw [l.len hf]; omega) hn (k _ q3)
theorem Owns.lst {α : Type} {h : H} {s : Sl} {e : TypeId} {f : α → List Value} {A : List α} (o : Owns h s e 1 (A.flatMap f)) : Lst h s f A := ⟨o.reads, o.le_cap⟩

/-! ### Of numbers -/
theorem two_int_loop {h0 : H} {Q : Sl → H → Prop} : ∀ (n m : Nat) (h : H) (s t u : Sl) (A B out : List Int), (∀ r h', Owns h' r 3 1 ((twoM leI n out A B).flatMap cI) → Ext h0 h' → Mine h0 r → Q r h') →
    Ext h0 h → Lst h s cI A → Lst h t cI B → Owns h u 3 1 (out.flatMap cI) → Mine h0 u → (∀ b, s.blk = some b → b < h0.size) → (∀ b, t.blk = some b → b < h0.size) → A.length + B.length ≤ n → out.length + n < 1000000000000 → n < m →
    F.merge_two_int.l1 Q m s t u h
  | n, 0, h, s, t, u, A, B, out, _, _, _, _, _, _, _, _, _, _, hm => by omega
  | n, m + 1, h, s, t, u, A, B, out, k, e0, ls, lt, ou, mu, hs, ht, hn, ho, hm => by
    have hsl := ls.len cI_len
    have htl := lt.len cI_len
    have hul := own_len cI_len (by omega) ou
    -- one thing is laid
    have hadd : ∀ (n' : Nat) (x : Int) (s' t' : Sl) (A' B' : List Int), n = n' + 1 → twoM leI n out A B = twoM leI n' (addM out x) A' B' → Lst h s' cI A' → Lst h t' cI B' → s'.blk = s.blk → t'.blk = t.blk → A'.length + B'.length ≤ n' → F.merge_two_int.j3 Q (F.merge_two_int.l1 Q m) s' t' u x h := by
      intro n' x s' t' A' B' hn' htw ls' lt' hsb htb hl'
      subst hn'
      rw [htw] at k
      have hlay : out.getLast? ≠ some x → newL h #[.int .i64 x] ty_3 1 fun s3 h2 => runL PP (Builtin.append_ #[23, 23] 23 #[u.enc, s3.enc]) h2 fun s5 h4 => (F.merge_two_int.l1 Q m) s' t' s5 h4 := fun hne => by
        refine push_mine (f := cI) x e0 mu cI_len (by omega) elI ou (fun x => one1 rfl) (by omega) fun r h1 q1 q2 q3 q4 q5 => ?_
        have hadd : addM out x = out ++ [x] := by unfold addM; rw [if_neg hne]
        have al := addM_len out x
        refine two_int_loop n' m h1 s' t' r A' B' (addM out x) k q2 (ls'.only q4 fun b hb e => by have := hs b (by rw [← hsb]; exact hb); have := mu b e; omega) (lt'.only q4 fun b hb e => by have := ht b (by rw [← htb]; exact hb); have := mu b e; omega) (by rw [hadd]; exact q1) q3 (by rw [hsb]; exact hs) (by rw [htb]; exact ht) hl' (by omega) (by omega)
      have hskip : out.getLast? = some x → (F.merge_two_int.l1 Q m) s' t' u h := fun he => by
        have hadd : addM out x = out := by unfold addM; rw [if_pos he]
        rw [hadd] at k
        exact two_int_loop n' m h s' t' u A' B' out k e0 ls' lt' ou mu (by rw [hsb]; exact hs) (by rw [htb]; exact ht) hl' (by omega) (by omega)
      unfold F.merge_two_int.j3 F.merge_two_int.j4
      rw [hul, beq_iff_eq, beq_eq_false_iff_ne]
      refine ⟨fun g => ⟨fun _ => hlay fun he => ?_, fun h => by cases h⟩, fun g => ?_⟩
      · have : out = [] := List.eq_nil_of_length_eq_zero (by omega)
        subst this; simp at he
      · have hne : out ≠ [] := fun e => by subst e; simp at g
        have hpos : 0 < out.length := List.length_pos_iff.2 hne
        obtain ⟨b, a1, a2⟩ := own_at cI_len (by omega) ou (i := out.length - 1) (x := out.getLast hne) (by rw [← List.getLast?_eq_getElem?, List.getLast?_eq_some_getLast hne])
        refine idxA_of (i := out.length - 1) a1 (by omega) (by rw [w64 (by omega) (by omega)]; omega) ?_
        rw [ldI_iff a2.one]
        have hlast := List.getLast?_eq_some_getLast hne
        rw [bne_iff_ne, bne_eq_false_iff_eq]
        refine ⟨fun g2 => hlay fun he => ?_, fun g2 => hskip ?_⟩
        · rw [hlast] at he; simp at he; simp [he] at g2
        · rw [hlast]; simpa using g2
    have htake1 : ∀ x r, A = x :: r → (∀ y r', B = y :: r' → leI x y = true) → F.merge_two_int.j5 Q (F.merge_two_int.l1 Q m) s t u true h := fun x r hA hB => by
      subst hA
      unfold F.merge_two_int.j5
      refine ⟨fun _ => ls.head cI_len fun a ha => ?_, fun h => by cases h⟩
      rw [ldI_iff ha.one]
      refine ls.tail cI_len fun s' ls' hb => ?_
      simp only [List.length_cons] at hn
      obtain ⟨n', rfl⟩ : ∃ n', n = n' + 1 := ⟨n - 1, by omega⟩
      refine hadd n' x s' t r B rfl ?_ ls' lt hb rfl (by omega)
      cases B with
      | nil => rfl
      | cons y r' => simp only [twoM]; rw [if_pos (hB y r' rfl)]
    have htake2 : ∀ y r, B = y :: r → (∀ x r', A = x :: r' → leI x y = false) → F.merge_two_int.j5 Q (F.merge_two_int.l1 Q m) s t u false h := fun y r hB hA => by
      subst hB
      unfold F.merge_two_int.j5
      refine ⟨(fun h => by cases h), fun _ => lt.head cI_len fun a ha => ?_⟩
      rw [ldI_iff ha.one]
      refine lt.tail cI_len fun t' lt' hb => ?_
      simp only [List.length_cons] at hn
      obtain ⟨n', rfl⟩ : ∃ n', n = n' + 1 := ⟨n - 1, by omega⟩
      refine hadd n' y s t' A r rfl ?_ ls lt' rfl hb (by omega)
      cases A with
      | nil => rfl
      | cons x r' => simp only [twoM]; rw [if_neg (by rw [hA x r' rfl]; simp)]
    unfold F.merge_two_int.l1 F.merge_two_int.j6 F.merge_two_int.j2
    rw [hsl, htl, beq_iff_eq, beq_eq_false_iff_ne]
    simp only [decide_eq_true_eq, decide_eq_false_iff_not]
    cases A with
    | nil =>
      refine ⟨fun g => by simp at g, fun _ => ⟨fun g => ⟨fun g2 => by omega, fun _ => ⟨fun g => by simp at g, fun _ => ?_⟩⟩, fun g => ?_⟩⟩
      · cases B with
        | nil => simp at g
        | cons y r => exact htake2 y r rfl fun x r' h => by cases h
      · have : B = [] := List.eq_nil_of_length_eq_zero (by omega)
        subst this
        have htw : twoM leI n out [] [] = out := by cases n <;> rfl
        rw [htw] at k
        exact k u h ou e0 mu
    | cons x r =>
      refine ⟨fun _ => ⟨fun _ => ⟨fun g => htake1 x r rfl fun y r' h => by subst h; exfalso; simp at g <;> omega, fun g => ⟨fun _ => ?_, fun g2 => by simp at g2 <;> omega⟩⟩, fun h => by cases h⟩, fun g => by simp at g <;> omega⟩
      cases B with
      | nil => simp at g
      | cons y r' =>
        refine ls.head cI_len fun a ha => ?_
        rw [ldI_iff ha.one]
        refine lt.head cI_len fun a hb => ?_
        rw [ldI_iff hb.one]
        show F.merge_two_int.j5 Q (F.merge_two_int.l1 Q m) s t u (leI x y) h
        cases hle : leI x y with
        | true => exact htake1 x r rfl fun y' r'' h => by cases h; exact hle
        | false => exact htake2 y r' rfl fun x' r'' h => by cases h; exact hle
theorem two_int_spec {h : H} {Q : Sl → H → Prop} {s t : Sl} {A B : List Int} (ls : Lst h s cI A) (lt : Lst h t cI B) (hlen : A.length + B.length < 100000000000) (hs : ∀ b, s.blk = some b → b < h.size) (ht : ∀ b, t.blk = some b → b < h.size)
    (k : ∀ r h', Owns h' r 3 1 ((twoM leI (A.length + B.length) [] A B).flatMap cI) → Ext h h' → Mine h r → Q r h') : F.merge_two_int s t h Q := by
  unfold F.merge_two_int
  exact ⟨_, two_int_loop _ _ h s t _ A B [] k (.refl _) ls lt (Owns.nil _ _ _) (Mine.nil _ _ _) hs ht (Nat.le_refl _) (by simp; omega) (Nat.lt_succ_self _)⟩

/-- Lists whose slices lie in a slice. -/
def Lsts_int (h : H) (SL : List Sl) (LL : List (List Int)) : Prop := SL.length = LL.length ∧ ∀ (i : Nat) (s : Sl) (A : List Int), SL[i]? = some s → LL[i]? = some A → Lst h s cI A ∧ ∀ b, s.blk = some b → b < h.size
theorem Lsts_int.ext {h h' : H} {SL : List Sl} {LL : List (List Int)} (l : Lsts_int h SL LL) (e : Ext h h') : Lsts_int h' SL LL := ⟨l.1, fun i s A h1 h2 => ⟨(l.2 i s A h1 h2).1.ext e, fun b hb => Nat.lt_of_lt_of_le ((l.2 i s A h1 h2).2 b hb) e.size⟩⟩
theorem Lsts_int.take {h : H} {SL : List Sl} {LL : List (List Int)} (l : Lsts_int h SL LL) (n : Nat) : Lsts_int h (SL.take n) (LL.take n) := ⟨by simp [l.1], fun i s A h1 h2 => by
  rw [List.getElem?_take] at h1 h2
  split at h1
  · rename_i hi; rw [if_pos hi] at h2; exact l.2 i s A h1 h2
  · cases h1⟩
theorem Lsts_int.drop {h : H} {SL : List Sl} {LL : List (List Int)} (l : Lsts_int h SL LL) (n : Nat) : Lsts_int h (SL.drop n) (LL.drop n) := ⟨by simp [l.1], fun i s A h1 h2 => by
  rw [List.getElem?_drop] at h1 h2
  exact l.2 _ s A h1 h2⟩
theorem listsM_int_len (le : Int → Int → Bool) : ∀ (n : Nat) (LL : List (List Int)), (listsM le n LL).length ≤ LL.flatten.length
  | 0, LL => by simp [listsM]
  | n + 1, [] => by simp [listsM]
  | n + 1, [a] => by have := twoM_len le a.length [] a []; simp only [listsM]; simp at this ⊢; omega
  | n + 1, a :: b :: r => by
    simp only [listsM]
    have h1 := listsM_int_len le n ((a :: b :: r).take ((a :: b :: r).length / 2))
    have h2 := listsM_int_len le n ((a :: b :: r).drop ((a :: b :: r).length / 2))
    have h3 := twoM_len le ((listsM le n ((a :: b :: r).take ((a :: b :: r).length / 2))).length + (listsM le n ((a :: b :: r).drop ((a :: b :: r).length / 2))).length) [] (listsM le n ((a :: b :: r).take ((a :: b :: r).length / 2))) (listsM le n ((a :: b :: r).drop ((a :: b :: r).length / 2)))
    have h4 : ((a :: b :: r).take ((a :: b :: r).length / 2)).flatten.length + ((a :: b :: r).drop ((a :: b :: r).length / 2)).flatten.length = (a :: b :: r).flatten.length := by
      rw [← List.length_append, ← List.flatten_append, List.take_append_drop]
    simp only [List.length_nil, Nat.zero_add] at h3
    exact Nat.le_trans h3 (by omega)
theorem Lists_int_fu : ∀ (m : Nat) (h : H) (p : Sl) (SL : List Sl) (LL : List (List Int)) (Q : Sl → H → Prop), Lst h p cS SL → Lsts_int h SL LL → LL.flatten.length < 10000000000 → LL.length < 10000000000 → LL.length < m → (∀ b, p.blk = some b → b < h.size) →
    (∀ r h', Owns h' r 3 1 ((listsM leI (LL.length + 1) LL).flatMap cI) → Ext h h' → Mine h r → Q r h') → ∀ n, LL.length + 1 = n → F.merge_Lists_int.fu m p h Q
  | 0, h, p, SL, LL, Q, _, _, _, _, hm, _, _ => by omega
  | m + 1, h, p, SL, LL, Q, lp, ll, hf, hll, hm, hp, k => fun n hn => by
    subst hn
    have hpl := lp.len cS_len
    have hl := ll.1
    unfold F.merge_Lists_int.fu
    rw [hpl, hl, beq_iff_eq, beq_eq_false_iff_ne, beq_iff_eq, beq_eq_false_iff_ne]
    match LL, SL, hl with
    | [], [], _ => exact ⟨fun _ => k _ h (Owns.nil _ _ _) (.refl _) (Mine.nil _ _ _), fun g => by simp at g⟩
    | [A], [s], _ =>
      refine ⟨fun g => by simp at g, fun _ => ⟨fun _ => ?_, fun g => by simp at g⟩⟩
      obtain ⟨l1, l2⟩ := ll.2 0 s A rfl rfl
      refine lp.head cS_len fun a ha => ?_
      rw [ldL_iff ha.one]
      refine two_int_spec (B := []) l1 ⟨(Owns.nil h 3 1).reads, Nat.le_refl _⟩ (by simp at hf ⊢; omega) l2 (fun b hb => by simp [Sl.blk] at hb) fun r h' q1 q2 q3 => k r h' (by simpa [listsM] using q1) q2 q3
    | A :: B :: r, s :: t :: r', hl =>
      generalize hLL : A :: B :: r = LL at *
      generalize hSL : s :: t :: r' = SL at *
      have h2 : 2 ≤ LL.length := by rw [← hLL]; simp
      refine ⟨fun g => by omega, fun _ => ⟨fun g => by omega, fun _ => ⟨by omega, ?_⟩⟩⟩
      have hq : Int.tdiv (LL.length : Int) 2 = ((LL.length / 2 : Nat) : Int) := Int.ofNat_tdiv _ 2
      rw [hq, w64 (by omega) (by omega)]
      have hcap := lp.2
      refine cutL_of (lo := 0) (hi := LL.length / 2) rfl rfl (by omega) (by omega) ?_
      refine cutL_of (lo := LL.length / 2) (hi := LL.length) rfl rfl (by omega) (by omega) ?_
      have hsl : SL.length = LL.length := ll.1
      have c1 : Lst h (slcut p 0 (LL.length / 2) 1) cS (SL.take (LL.length / 2)) := ⟨by
        have := cut_reads cS_len (by omega) lp.1 (lo := 0) (hi := LL.length / 2) (by omega) (by omega) hcap
        simpa using this, by simp only [slcut]; omega⟩
      have c2 : Lst h (slcut p (LL.length / 2) LL.length 1) cS (SL.drop (LL.length / 2)) := ⟨by
        have := cut_reads cS_len (by omega) lp.1 (lo := LL.length / 2) (hi := LL.length) (by omega) (by omega) hcap
        rw [List.take_of_length_le (by simp; omega)] at this
        exact this, by simp only [slcut]; omega⟩
      have f1 : (LL.take (LL.length / 2)).flatten.length + (LL.drop (LL.length / 2)).flatten.length = LL.flatten.length := by rw [← List.length_append, ← List.flatten_append, List.take_append_drop]
      have t1 : (LL.take (LL.length / 2)).length = LL.length / 2 := by rw [List.length_take]; omega
      have t2 : (LL.drop (LL.length / 2)).length = LL.length - LL.length / 2 := by rw [List.length_drop]
      refine Lists_int_fu m h _ _ _ _ c1 (ll.take _) (by omega) (by omega) (by omega) (by rw [slcut_blk]; exact hp) (fun r1 h1 q1 q2 q3 => ?_) _ rfl
      refine Lists_int_fu m h1 _ _ _ _ (c2.ext q2) ((ll.drop _).ext q2) (by omega) (by omega) (by omega) (by rw [slcut_blk]; exact fun b hb => Nat.lt_of_lt_of_le (hp b hb) q2.size) (fun r2 h2' p1 p2 p3 => ?_) _ rfl
      have n1 := listsM_int_len leI ((LL.take (LL.length / 2)).length + 1) (LL.take (LL.length / 2))
      have n2 := listsM_int_len leI ((LL.drop (LL.length / 2)).length + 1) (LL.drop (LL.length / 2))
      refine two_int_spec (q1.ext p2).lst p1.lst (by omega) (fun b hb => (q1.ext p2).blk_lt hb) (fun b hb => p1.blk_lt hb) fun r3 h3 u1 u2 u3 => k r3 h3 ?_ ((q2.trans p2).trans u2) (u3.older (q2.trans p2))
      have e1 : listsM leI (LL.length + 1) LL = twoM leI ((listsM leI LL.length (LL.take (LL.length / 2))).length + (listsM leI LL.length (LL.drop (LL.length / 2))).length) [] (listsM leI LL.length (LL.take (LL.length / 2))) (listsM leI LL.length (LL.drop (LL.length / 2))) := by
        rw [← hLL]; rfl
      have e2 : listsM leI ((LL.take (LL.length / 2)).length + 1) (LL.take (LL.length / 2)) = listsM leI LL.length (LL.take (LL.length / 2)) := listsM_fuel _ _ _ _ (by omega) (by omega)
      have e3 : listsM leI ((LL.drop (LL.length / 2)).length + 1) (LL.drop (LL.length / 2)) = listsM leI LL.length (LL.drop (LL.length / 2)) := listsM_fuel _ _ _ _ (by omega) (by omega)
      rw [e1, ← e2, ← e3]
      exact u1
theorem Lists_int_spec {h : H} {p : Sl} {SL : List Sl} {LL : List (List Int)} {Q : Sl → H → Prop} (lp : Lst h p cS SL) (ll : Lsts_int h SL LL) (hf : LL.flatten.length < 10000000000) (hll : LL.length < 10000000000) (hp : ∀ b, p.blk = some b → b < h.size)
    (k : ∀ r h', Owns h' r 3 1 ((listsM leI (LL.length + 1) LL).flatMap cI) → Ext h h' → Mine h r → Q r h') : F.merge_Lists_int p h Q := ⟨LL.length + 1, Lists_int_fu _ h p SL LL Q lp ll hf hll (Nat.lt_succ_self _) hp k _ rfl⟩

/-! ### Of texts -/
theorem two_string_loop {h0 : H} {Q : Sl → H → Prop} : ∀ (n m : Nat) (h : H) (s t u : Sl) (A B out : List ByteArray), (∀ r h', Owns h' r 9 1 ((twoM leT n out A B).flatMap cT) → Ext h0 h' → Mine h0 r → Q r h') →
    Ext h0 h → Lst h s cT A → Lst h t cT B → Owns h u 9 1 (out.flatMap cT) → Mine h0 u → (∀ b, s.blk = some b → b < h0.size) → (∀ b, t.blk = some b → b < h0.size) → A.length + B.length ≤ n → out.length + n < 1000000000000 → n < m →
    F.merge_two_string.l1 Q m s t u h
  | n, 0, h, s, t, u, A, B, out, _, _, _, _, _, _, _, _, _, _, hm => by omega
  | n, m + 1, h, s, t, u, A, B, out, k, e0, ls, lt, ou, mu, hs, ht, hn, ho, hm => by
    have hsl := ls.len cT_len
    have htl := lt.len cT_len
    have hul := own_len cT_len (by omega) ou
    -- one thing is laid
    have hadd : ∀ (n' : Nat) (x : ByteArray) (s' t' : Sl) (A' B' : List ByteArray), n = n' + 1 → twoM leT n out A B = twoM leT n' (addM out x) A' B' → Lst h s' cT A' → Lst h t' cT B' → s'.blk = s.blk → t'.blk = t.blk → A'.length + B'.length ≤ n' → F.merge_two_string.j3 Q (F.merge_two_string.l1 Q m) s' t' u x h := by
      intro n' x s' t' A' B' hn' htw ls' lt' hsb htb hl'
      subst hn'
      rw [htw] at k
      have hlay : out.getLast? ≠ some x → newL h #[.string x] ty_9 1 fun s3 h2 => runL PP (Builtin.append_ #[29, 29] 29 #[u.enc, s3.enc]) h2 fun s5 h4 => (F.merge_two_string.l1 Q m) s' t' s5 h4 := fun hne => by
        refine push_mine (f := cT) x e0 mu cT_len (by omega) elT ou (fun x => one1 rfl) (by omega) fun r h1 q1 q2 q3 q4 q5 => ?_
        have hadd : addM out x = out ++ [x] := by unfold addM; rw [if_neg hne]
        have al := addM_len out x
        refine two_string_loop n' m h1 s' t' r A' B' (addM out x) k q2 (ls'.only q4 fun b hb e => by have := hs b (by rw [← hsb]; exact hb); have := mu b e; omega) (lt'.only q4 fun b hb e => by have := ht b (by rw [← htb]; exact hb); have := mu b e; omega) (by rw [hadd]; exact q1) q3 (by rw [hsb]; exact hs) (by rw [htb]; exact ht) hl' (by omega) (by omega)
      have hskip : out.getLast? = some x → (F.merge_two_string.l1 Q m) s' t' u h := fun he => by
        have hadd : addM out x = out := by unfold addM; rw [if_pos he]
        rw [hadd] at k
        exact two_string_loop n' m h s' t' u A' B' out k e0 ls' lt' ou mu (by rw [hsb]; exact hs) (by rw [htb]; exact ht) hl' (by omega) (by omega)
      unfold F.merge_two_string.j3 F.merge_two_string.j4
      rw [hul, beq_iff_eq, beq_eq_false_iff_ne]
      refine ⟨fun g => ⟨fun _ => hlay fun he => ?_, fun h => by cases h⟩, fun g => ?_⟩
      · have : out = [] := List.eq_nil_of_length_eq_zero (by omega)
        subst this; simp at he
      · have hne : out ≠ [] := fun e => by subst e; simp at g
        have hpos : 0 < out.length := List.length_pos_iff.2 hne
        obtain ⟨b, a1, a2⟩ := own_at cT_len (by omega) ou (i := out.length - 1) (x := out.getLast hne) (by rw [← List.getLast?_eq_getElem?, List.getLast?_eq_some_getLast hne])
        refine idxA_of (i := out.length - 1) a1 (by omega) (by rw [w64 (by omega) (by omega)]; omega) ?_
        rw [ldS_iff a2.one]
        have hlast := List.getLast?_eq_some_getLast hne
        rw [Bool.not_eq_true', Bool.not_eq_false', beq_iff_eq, beq_eq_false_iff_ne, Ne, bytes_inj]
        refine ⟨fun g2 => hlay fun he => ?_, fun g2 => hskip ?_⟩
        · rw [hlast] at he; simp at he; simp [he] at g2
        · rw [hlast]; simpa using g2
    have htake1 : ∀ x r, A = x :: r → (∀ y r', B = y :: r' → leT x y = true) → F.merge_two_string.j5 Q (F.merge_two_string.l1 Q m) s t u true h := fun x r hA hB => by
      subst hA
      unfold F.merge_two_string.j5
      refine ⟨fun _ => ls.head cT_len fun a ha => ?_, fun h => by cases h⟩
      rw [ldS_iff ha.one]
      refine ls.tail cT_len fun s' ls' hb => ?_
      simp only [List.length_cons] at hn
      obtain ⟨n', rfl⟩ : ∃ n', n = n' + 1 := ⟨n - 1, by omega⟩
      refine hadd n' x s' t r B rfl ?_ ls' lt hb rfl (by omega)
      cases B with
      | nil => rfl
      | cons y r' => simp only [twoM]; rw [if_pos (hB y r' rfl)]
    have htake2 : ∀ y r, B = y :: r → (∀ x r', A = x :: r' → leT x y = false) → F.merge_two_string.j5 Q (F.merge_two_string.l1 Q m) s t u false h := fun y r hB hA => by
      subst hB
      unfold F.merge_two_string.j5
      refine ⟨(fun h => by cases h), fun _ => lt.head cT_len fun a ha => ?_⟩
      rw [ldS_iff ha.one]
      refine lt.tail cT_len fun t' lt' hb => ?_
      simp only [List.length_cons] at hn
      obtain ⟨n', rfl⟩ : ∃ n', n = n' + 1 := ⟨n - 1, by omega⟩
      refine hadd n' y s t' A r rfl ?_ ls lt' rfl hb (by omega)
      cases A with
      | nil => rfl
      | cons x r' => simp only [twoM]; rw [if_neg (by rw [hA x r' rfl]; simp)]
    unfold F.merge_two_string.l1 F.merge_two_string.j6 F.merge_two_string.j2
    rw [hsl, htl, beq_iff_eq, beq_eq_false_iff_ne]
    simp only [decide_eq_true_eq, decide_eq_false_iff_not]
    cases A with
    | nil =>
      refine ⟨fun g => by simp at g, fun _ => ⟨fun g => ⟨fun g2 => by omega, fun _ => ⟨fun g => by simp at g, fun _ => ?_⟩⟩, fun g => ?_⟩⟩
      · cases B with
        | nil => simp at g
        | cons y r => exact htake2 y r rfl fun x r' h => by cases h
      · have : B = [] := List.eq_nil_of_length_eq_zero (by omega)
        subst this
        have htw : twoM leT n out [] [] = out := by cases n <;> rfl
        rw [htw] at k
        exact k u h ou e0 mu
    | cons x r =>
      refine ⟨fun _ => ⟨fun _ => ⟨fun g => htake1 x r rfl fun y r' h => by subst h; exfalso; simp at g <;> omega, fun g => ⟨fun _ => ?_, fun g2 => by simp at g2 <;> omega⟩⟩, fun h => by cases h⟩, fun g => by simp at g <;> omega⟩
      cases B with
      | nil => simp at g
      | cons y r' =>
        refine ls.head cT_len fun a ha => ?_
        rw [ldS_iff ha.one]
        refine lt.head cT_len fun a hb => ?_
        rw [ldS_iff hb.one]
        show F.merge_two_string.j5 Q (F.merge_two_string.l1 Q m) s t u (leT x y) h
        cases hle : leT x y with
        | true => exact htake1 x r rfl fun y' r'' h => by cases h; exact hle
        | false => exact htake2 y r' rfl fun x' r'' h => by cases h; exact hle
theorem two_string_spec {h : H} {Q : Sl → H → Prop} {s t : Sl} {A B : List ByteArray} (ls : Lst h s cT A) (lt : Lst h t cT B) (hlen : A.length + B.length < 100000000000) (hs : ∀ b, s.blk = some b → b < h.size) (ht : ∀ b, t.blk = some b → b < h.size)
    (k : ∀ r h', Owns h' r 9 1 ((twoM leT (A.length + B.length) [] A B).flatMap cT) → Ext h h' → Mine h r → Q r h') : F.merge_two_string s t h Q := by
  unfold F.merge_two_string
  exact ⟨_, two_string_loop _ _ h s t _ A B [] k (.refl _) ls lt (Owns.nil _ _ _) (Mine.nil _ _ _) hs ht (Nat.le_refl _) (by simp; omega) (Nat.lt_succ_self _)⟩

/-- Lists whose slices lie in a slice. -/
def Lsts_string (h : H) (SL : List Sl) (LL : List (List ByteArray)) : Prop := SL.length = LL.length ∧ ∀ (i : Nat) (s : Sl) (A : List ByteArray), SL[i]? = some s → LL[i]? = some A → Lst h s cT A ∧ ∀ b, s.blk = some b → b < h.size
theorem Lsts_string.ext {h h' : H} {SL : List Sl} {LL : List (List ByteArray)} (l : Lsts_string h SL LL) (e : Ext h h') : Lsts_string h' SL LL := ⟨l.1, fun i s A h1 h2 => ⟨(l.2 i s A h1 h2).1.ext e, fun b hb => Nat.lt_of_lt_of_le ((l.2 i s A h1 h2).2 b hb) e.size⟩⟩
theorem Lsts_string.take {h : H} {SL : List Sl} {LL : List (List ByteArray)} (l : Lsts_string h SL LL) (n : Nat) : Lsts_string h (SL.take n) (LL.take n) := ⟨by simp [l.1], fun i s A h1 h2 => by
  rw [List.getElem?_take] at h1 h2
  split at h1
  · rename_i hi; rw [if_pos hi] at h2; exact l.2 i s A h1 h2
  · cases h1⟩
theorem Lsts_string.drop {h : H} {SL : List Sl} {LL : List (List ByteArray)} (l : Lsts_string h SL LL) (n : Nat) : Lsts_string h (SL.drop n) (LL.drop n) := ⟨by simp [l.1], fun i s A h1 h2 => by
  rw [List.getElem?_drop] at h1 h2
  exact l.2 _ s A h1 h2⟩
theorem listsM_string_len (le : ByteArray → ByteArray → Bool) : ∀ (n : Nat) (LL : List (List ByteArray)), (listsM le n LL).length ≤ LL.flatten.length
  | 0, LL => by simp [listsM]
  | n + 1, [] => by simp [listsM]
  | n + 1, [a] => by have := twoM_len le a.length [] a []; simp only [listsM]; simp at this ⊢; omega
  | n + 1, a :: b :: r => by
    simp only [listsM]
    have h1 := listsM_string_len le n ((a :: b :: r).take ((a :: b :: r).length / 2))
    have h2 := listsM_string_len le n ((a :: b :: r).drop ((a :: b :: r).length / 2))
    have h3 := twoM_len le ((listsM le n ((a :: b :: r).take ((a :: b :: r).length / 2))).length + (listsM le n ((a :: b :: r).drop ((a :: b :: r).length / 2))).length) [] (listsM le n ((a :: b :: r).take ((a :: b :: r).length / 2))) (listsM le n ((a :: b :: r).drop ((a :: b :: r).length / 2)))
    have h4 : ((a :: b :: r).take ((a :: b :: r).length / 2)).flatten.length + ((a :: b :: r).drop ((a :: b :: r).length / 2)).flatten.length = (a :: b :: r).flatten.length := by
      rw [← List.length_append, ← List.flatten_append, List.take_append_drop]
    simp only [List.length_nil, Nat.zero_add] at h3
    exact Nat.le_trans h3 (by omega)
theorem Lists_string_fu : ∀ (m : Nat) (h : H) (p : Sl) (SL : List Sl) (LL : List (List ByteArray)) (Q : Sl → H → Prop), Lst h p cS SL → Lsts_string h SL LL → LL.flatten.length < 10000000000 → LL.length < 10000000000 → LL.length < m → (∀ b, p.blk = some b → b < h.size) →
    (∀ r h', Owns h' r 9 1 ((listsM leT (LL.length + 1) LL).flatMap cT) → Ext h h' → Mine h r → Q r h') → ∀ n, LL.length + 1 = n → F.merge_Lists_string.fu m p h Q
  | 0, h, p, SL, LL, Q, _, _, _, _, hm, _, _ => by omega
  | m + 1, h, p, SL, LL, Q, lp, ll, hf, hll, hm, hp, k => fun n hn => by
    subst hn
    have hpl := lp.len cS_len
    have hl := ll.1
    unfold F.merge_Lists_string.fu
    rw [hpl, hl, beq_iff_eq, beq_eq_false_iff_ne, beq_iff_eq, beq_eq_false_iff_ne]
    match LL, SL, hl with
    | [], [], _ => exact ⟨fun _ => k _ h (Owns.nil _ _ _) (.refl _) (Mine.nil _ _ _), fun g => by simp at g⟩
    | [A], [s], _ =>
      refine ⟨fun g => by simp at g, fun _ => ⟨fun _ => ?_, fun g => by simp at g⟩⟩
      obtain ⟨l1, l2⟩ := ll.2 0 s A rfl rfl
      refine lp.head cS_len fun a ha => ?_
      rw [ldL_iff ha.one]
      refine two_string_spec (B := []) l1 ⟨(Owns.nil h 9 1).reads, Nat.le_refl _⟩ (by simp at hf ⊢; omega) l2 (fun b hb => by simp [Sl.blk] at hb) fun r h' q1 q2 q3 => k r h' (by simpa [listsM] using q1) q2 q3
    | A :: B :: r, s :: t :: r', hl =>
      generalize hLL : A :: B :: r = LL at *
      generalize hSL : s :: t :: r' = SL at *
      have h2 : 2 ≤ LL.length := by rw [← hLL]; simp
      refine ⟨fun g => by omega, fun _ => ⟨fun g => by omega, fun _ => ⟨by omega, ?_⟩⟩⟩
      have hq : Int.tdiv (LL.length : Int) 2 = ((LL.length / 2 : Nat) : Int) := Int.ofNat_tdiv _ 2
      rw [hq, w64 (by omega) (by omega)]
      have hcap := lp.2
      refine cutL_of (lo := 0) (hi := LL.length / 2) rfl rfl (by omega) (by omega) ?_
      refine cutL_of (lo := LL.length / 2) (hi := LL.length) rfl rfl (by omega) (by omega) ?_
      have hsl : SL.length = LL.length := ll.1
      have c1 : Lst h (slcut p 0 (LL.length / 2) 1) cS (SL.take (LL.length / 2)) := ⟨by
        have := cut_reads cS_len (by omega) lp.1 (lo := 0) (hi := LL.length / 2) (by omega) (by omega) hcap
        simpa using this, by simp only [slcut]; omega⟩
      have c2 : Lst h (slcut p (LL.length / 2) LL.length 1) cS (SL.drop (LL.length / 2)) := ⟨by
        have := cut_reads cS_len (by omega) lp.1 (lo := LL.length / 2) (hi := LL.length) (by omega) (by omega) hcap
        rw [List.take_of_length_le (by simp; omega)] at this
        exact this, by simp only [slcut]; omega⟩
      have f1 : (LL.take (LL.length / 2)).flatten.length + (LL.drop (LL.length / 2)).flatten.length = LL.flatten.length := by rw [← List.length_append, ← List.flatten_append, List.take_append_drop]
      have t1 : (LL.take (LL.length / 2)).length = LL.length / 2 := by rw [List.length_take]; omega
      have t2 : (LL.drop (LL.length / 2)).length = LL.length - LL.length / 2 := by rw [List.length_drop]
      refine Lists_string_fu m h _ _ _ _ c1 (ll.take _) (by omega) (by omega) (by omega) (by rw [slcut_blk]; exact hp) (fun r1 h1 q1 q2 q3 => ?_) _ rfl
      refine Lists_string_fu m h1 _ _ _ _ (c2.ext q2) ((ll.drop _).ext q2) (by omega) (by omega) (by omega) (by rw [slcut_blk]; exact fun b hb => Nat.lt_of_lt_of_le (hp b hb) q2.size) (fun r2 h2' p1 p2 p3 => ?_) _ rfl
      have n1 := listsM_string_len leT ((LL.take (LL.length / 2)).length + 1) (LL.take (LL.length / 2))
      have n2 := listsM_string_len leT ((LL.drop (LL.length / 2)).length + 1) (LL.drop (LL.length / 2))
      refine two_string_spec (q1.ext p2).lst p1.lst (by omega) (fun b hb => (q1.ext p2).blk_lt hb) (fun b hb => p1.blk_lt hb) fun r3 h3 u1 u2 u3 => k r3 h3 ?_ ((q2.trans p2).trans u2) (u3.older (q2.trans p2))
      have e1 : listsM leT (LL.length + 1) LL = twoM leT ((listsM leT LL.length (LL.take (LL.length / 2))).length + (listsM leT LL.length (LL.drop (LL.length / 2))).length) [] (listsM leT LL.length (LL.take (LL.length / 2))) (listsM leT LL.length (LL.drop (LL.length / 2))) := by
        rw [← hLL]; rfl
      have e2 : listsM leT ((LL.take (LL.length / 2)).length + 1) (LL.take (LL.length / 2)) = listsM leT LL.length (LL.take (LL.length / 2)) := listsM_fuel _ _ _ _ (by omega) (by omega)
      have e3 : listsM leT ((LL.drop (LL.length / 2)).length + 1) (LL.drop (LL.length / 2)) = listsM leT LL.length (LL.drop (LL.length / 2)) := listsM_fuel _ _ _ _ (by omega) (by omega)
      rw [e1, ← e2, ← e3]
      exact u1
theorem Lists_string_spec {h : H} {p : Sl} {SL : List Sl} {LL : List (List ByteArray)} {Q : Sl → H → Prop} (lp : Lst h p cS SL) (ll : Lsts_string h SL LL) (hf : LL.flatten.length < 10000000000) (hll : LL.length < 10000000000) (hp : ∀ b, p.blk = some b → b < h.size)
    (k : ∀ r h', Owns h' r 9 1 ((listsM leT (LL.length + 1) LL).flatMap cT) → Ext h h' → Mine h r → Q r h') : F.merge_Lists_string p h Q := ⟨LL.length + 1, Lists_string_fu _ h p SL LL Q lp ll hf hll (Nat.lt_succ_self _) hp k _ rfl⟩
end Go.Proofs.Ytidpbnbjpglhfaa.V
