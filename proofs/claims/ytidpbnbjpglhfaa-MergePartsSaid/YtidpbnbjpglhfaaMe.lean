/- Plain facts: what rises is told by what stands in it; merging; numbers as texts that rise as they do; no condition. -/
import Derived.Test.YtidpbnbjpglhfaaMd
namespace Go.Proofs.Ytidpbnbjpglhfaa.V
open Go
set_option linter.unusedVariables false
set_option linter.unusedSimpArgs false

abbrev Up (L : List Int) : Prop := L.Pairwise (· ≤ ·)
abbrev SUp (L : List Int) : Prop := L.Pairwise (· < ·)
theorem sup_unique : ∀ (A B : List Int), SUp A → SUp B → (∀ x, x ∈ A ↔ x ∈ B) → A = B
  | [], [], _, _, _ => rfl
  | [], y :: b, _, _, h => by have := (h y).2 (by simp); cases this
  | x :: a, [], _, _, h => by have := (h x).1 (by simp); cases this
  | x :: a, y :: b, ha, hb, h => by
    have ha' := List.pairwise_cons.1 ha
    have hb' := List.pairwise_cons.1 hb
    have hxy : x = y := by
      have h1 := (h x).1 (by simp)
      have h2 := (h y).2 (by simp)
      rcases List.mem_cons.1 h1 with e | e
      · exact e
      · rcases List.mem_cons.1 h2 with e2 | e2
        · exact e2.symm
        · have := hb'.1 x e; have := ha'.1 y e2; omega
    subst hxy
    congr 1
    refine sup_unique a b ha'.2 hb'.2 fun z => ⟨fun hz => ?_, fun hz => ?_⟩
    · rcases List.mem_cons.1 ((h z).1 (List.mem_cons_of_mem _ hz)) with e | e
      · have := ha'.1 z hz; omega
      · exact e
    · rcases List.mem_cons.1 ((h z).2 (List.mem_cons_of_mem _ hz)) with e | e
      · have := hb'.1 z hz; omega
      · exact e
theorem addM_mem {out : List Int} {x z : Int} : z ∈ addM out x ↔ z ∈ out ∨ z = x := by
  unfold addM
  split
  · rename_i h
    have := List.mem_of_getLast? h
    constructor
    · exact .inl
    · rintro (h | h)
      · exact h
      · subst h; exact this
  · simp
theorem addM_sup {out : List Int} {x : Int} (h : SUp out) (hle : ∀ y ∈ out, y ≤ x) : SUp (addM out x) := by
  unfold addM
  split
  · exact h
  · rename_i hne
    refine List.pairwise_append.2 ⟨h, by simp, fun y hy z hz => ?_⟩
    simp at hz; subst hz
    have h1 := hle y hy
    have : y ≠ z := fun e => by
      subst e
      obtain ⟨v, hv⟩ : ∃ v, out.getLast? = some v := ⟨_, List.getLast?_eq_some_getLast (List.ne_nil_of_mem hy)⟩
      obtain ⟨l, hl⟩ := List.getLast?_eq_some_iff.1 hv
      have hvm := List.mem_of_getLast? hv
      have h2 := hle v hvm
      rw [hl] at hy h
      rcases List.mem_append.1 hy with hm | hm
      · have := (List.pairwise_append.1 h).2.2 y hm v (by simp); omega
      · simp at hm; subst hm; exact hne hv
    omega
theorem two_facts : ∀ (n : Nat) (out a b : List Int), a.length + b.length ≤ n → SUp out → Up a → Up b → (∀ x ∈ out, ∀ y ∈ a, x ≤ y) → (∀ x ∈ out, ∀ y ∈ b, x ≤ y) → SUp (twoM leI n out a b) ∧ ∀ z, z ∈ twoM leI n out a b ↔ z ∈ out ∨ z ∈ a ∨ z ∈ b
  | 0, out, a, b, hn, ho, _, _, _, _ => by
    have h1 : a = [] := List.eq_nil_of_length_eq_zero (by omega)
    have h2 : b = [] := List.eq_nil_of_length_eq_zero (by omega)
    subst h1; subst h2
    simp [twoM, ho]
  | n + 1, out, [], [], hn, ho, _, _, _, _ => by simp [twoM, ho]
  | n + 1, out, x :: a, [], hn, ho, ha, hb, h1, h2 => by
    have ha' := List.pairwise_cons.1 ha
    simp only [List.length_cons, List.length_nil] at hn
    have := two_facts n (addM out x) a [] (by simp; omega) (addM_sup ho fun y hy => h1 y hy x (by simp)) ha'.2 hb (fun y hy z hz => by
      rcases addM_mem.1 hy with h | h
      · exact h1 y h z (List.mem_cons_of_mem _ hz)
      · subst h; exact ha'.1 z hz) (fun y hy z hz => by cases hz)
    refine ⟨this.1, fun z => ?_⟩
    simp only [twoM]
    rw [this.2, addM_mem]; simp [or_assoc]
  | n + 1, out, [], y :: b, hn, ho, ha, hb, h1, h2 => by
    have hb' := List.pairwise_cons.1 hb
    simp only [List.length_cons, List.length_nil] at hn
    have := two_facts n (addM out y) [] b (by simp; omega) (addM_sup ho fun z hz => h2 z hz y (by simp)) ha hb'.2 (fun y hy z hz => by cases hz) (fun x hx z hz => by
      rcases addM_mem.1 hx with h | h
      · exact h2 x h z (List.mem_cons_of_mem _ hz)
      · subst h; exact hb'.1 z hz)
    refine ⟨this.1, fun z => ?_⟩
    simp only [twoM]
    rw [this.2, addM_mem]; simp [or_assoc]
  | n + 1, out, x :: a, y :: b, hn, ho, ha, hb, h1, h2 => by
    have ha' := List.pairwise_cons.1 ha
    have hb' := List.pairwise_cons.1 hb
    simp only [List.length_cons] at hn
    simp only [twoM]
    split
    · rename_i hle
      have hle : x ≤ y := by simpa using hle
      have := two_facts n (addM out x) a (y :: b) (by simp; omega) (addM_sup ho fun z hz => h1 z hz x (by simp)) ha'.2 hb (fun w hw z hz => by
        rcases addM_mem.1 hw with h | h
        · exact h1 w h z (List.mem_cons_of_mem _ hz)
        · subst h; exact ha'.1 z hz) (fun w hw z hz => by
        rcases addM_mem.1 hw with h | h
        · exact h2 w h z hz
        · subst h
          rcases List.mem_cons.1 hz with e | e
          · omega
          · have := hb'.1 z e; omega)
      refine ⟨this.1, fun z => ?_⟩
      rw [this.2, addM_mem]; simp only [List.mem_cons]; constructor
      · rintro ((h | h) | h | h | h) <;> simp [h]
      · rintro (h | (h | h) | h | h) <;> simp [h]
    · rename_i hle
      have hle : y < x := by simpa using hle
      have := two_facts n (addM out y) (x :: a) b (by simp; omega) (addM_sup ho fun z hz => h2 z hz y (by simp)) ha hb'.2 (fun w hw z hz => by
        rcases addM_mem.1 hw with h | h
        · exact h1 w h z hz
        · subst h
          rcases List.mem_cons.1 hz with e | e
          · omega
          · have := ha'.1 z e; omega) (fun w hw z hz => by
        rcases addM_mem.1 hw with h | h
        · exact h2 w h z (List.mem_cons_of_mem _ hz)
        · subst h; exact hb'.1 z hz)
      refine ⟨this.1, fun z => ?_⟩
      rw [this.2, addM_mem]; simp only [List.mem_cons]; constructor
      · rintro ((h | h) | (h | h) | h) <;> simp [h]
      · rintro (h | (h | h) | h | h) <;> simp [h]
theorem lists_facts : ∀ (n : Nat) (LL : List (List Int)), LL.length < n → (∀ A ∈ LL, Up A) → SUp (listsM leI n LL) ∧ ∀ z, z ∈ listsM leI n LL ↔ ∃ A ∈ LL, z ∈ A
  | 0, LL, hn, _ => by omega
  | n + 1, [], _, _ => by simp [listsM]
  | n + 1, [a], _, h => by
    have := two_facts a.length [] a [] (by simp) (by simp) (h a (by simp)) (by simp) (by simp) (by simp)
    refine ⟨this.1, fun z => ?_⟩
    simp only [listsM]
    rw [this.2]; simp
  | n + 1, a :: b :: r, hn, h => by
    simp only [List.length_cons] at hn
    have h1 := lists_facts n ((a :: b :: r).take ((a :: b :: r).length / 2)) (by simp; omega) fun A hA => h A (List.mem_of_mem_take hA)
    have h2 := lists_facts n ((a :: b :: r).drop ((a :: b :: r).length / 2)) (by simp; omega) fun A hA => h A (List.mem_of_mem_drop hA)
    have hu : ∀ {L : List Int}, SUp L → Up L := fun h => h.imp (fun h => by omega)
    have := two_facts _ [] _ _ (Nat.le_refl _) (by simp) (hu h1.1) (hu h2.1) (by simp) (by simp)
    refine ⟨by simpa only [listsM] using this.1, fun z => ?_⟩
    simp only [listsM]
    rw [this.2, h1.2, h2.2]
    have hm : ∀ A, A ∈ a :: b :: r ↔ A ∈ (a :: b :: r).take ((a :: b :: r).length / 2) ∨ A ∈ (a :: b :: r).drop ((a :: b :: r).length / 2) := fun A => by
      rw [← List.mem_append, List.take_append_drop]
    simp only [List.not_mem_nil, false_or]
    constructor
    · rintro (⟨A, hA, hz⟩ | ⟨A, hA, hz⟩)
      · exact ⟨A, (hm A).2 (.inl hA), hz⟩
      · exact ⟨A, (hm A).2 (.inr hA), hz⟩
    · rintro ⟨A, hA, hz⟩
      rcases (hm A).1 hA with h | h
      · exact .inl ⟨A, h, hz⟩
      · exact .inr ⟨A, h, hz⟩

/-! ### Numbers put into order -/
def insL (out : List Int) (x : Int) : List Int := out.takeWhile (fun y => decide (y ≤ x)) ++ [x] ++ out.dropWhile (fun y => decide (y ≤ x))
def risL (A : List Int) : List Int := (A.take 200).foldl insL []
theorem insL_mem {out : List Int} {x z : Int} : z ∈ insL out x ↔ z ∈ out ∨ z = x := by
  have h := List.takeWhile_append_dropWhile (p := fun y => decide (y ≤ x)) (l := out)
  have : z ∈ out ↔ z ∈ out.takeWhile (fun y => decide (y ≤ x)) ∨ z ∈ out.dropWhile (fun y => decide (y ≤ x)) := by rw [← List.mem_append, h]
  rw [this]; unfold insL; simp only [List.mem_append, List.mem_singleton]; constructor
  · rintro ((h | h) | h) <;> simp [h]
  · rintro ((h | h) | h) <;> simp [h]
theorem insL_up : ∀ {out : List Int} {x : Int}, Up out → Up (insL out x)
  | [], x, _ => by simp [insL]
  | y :: r, x, h => by
    have h' := List.pairwise_cons.1 h
    unfold insL
    by_cases hy : y ≤ x
    · have ih := insL_up (x := x) h'.2
      unfold insL at ih
      simp only [List.takeWhile_cons, List.dropWhile_cons, hy, decide_true, if_true, List.cons_append]
      refine List.pairwise_cons.2 ⟨fun z hz => ?_, ih⟩
      have : z ∈ insL r x := hz
      rcases insL_mem.1 this with h | h
      · exact h'.1 z h
      · subst h; exact hy
    · simp only [List.takeWhile_cons, List.dropWhile_cons, hy, decide_false, Bool.false_eq_true, if_false, List.nil_append, List.singleton_append]
      refine List.pairwise_cons.2 ⟨fun z hz => ?_, h⟩
      rcases List.mem_cons.1 hz with e | e
      · omega
      · have := h'.1 z e; omega
theorem insL_len (out : List Int) (x : Int) : (insL out x).length = out.length + 1 := by
  have h := congrArg List.length (List.takeWhile_append_dropWhile (p := fun y => decide (y ≤ x)) (l := out))
  unfold insL; simp only [List.length_append, List.length_singleton] at h ⊢; omega
theorem fold_facts : ∀ (A out : List Int), Up out → Up (A.foldl insL out) ∧ (∀ z, z ∈ A.foldl insL out ↔ z ∈ out ∨ z ∈ A) ∧ (A.foldl insL out).length = out.length + A.length
  | [], out, h => by simp [h]
  | x :: r, out, h => by
    have := fold_facts r (insL out x) (insL_up h)
    refine ⟨this.1, fun z => ?_, ?_⟩
    · rw [List.foldl_cons, this.2.1, insL_mem]; simp [or_assoc]
    · rw [List.foldl_cons, this.2.2, insL_len]; simp; omega
theorem risL_up (A : List Int) : Up (risL A) := (fold_facts _ [] (by simp)).1
theorem risL_mem {A : List Int} {z : Int} (h : z ∈ risL A) : z ∈ A := by
  have := ((fold_facts (A.take 200) [] (by simp)).2.1 z).1 h
  rcases this with h | h
  · cases h
  · exact List.mem_of_mem_take h
theorem risL_len (A : List Int) : (risL A).length ≤ 200 := by
  have := (fold_facts (A.take 200) [] (by simp)).2.2
  unfold risL; rw [this]; simp; omega

/-! ### Numbers as texts -/
def wordT (n : Int) : ByteArray := ⟨(beT (upU n) 8).toArray⟩
abbrev I64 (n : Int) : Prop := -9223372036854775808 ≤ n ∧ n < 9223372036854775808
theorem beT_less : ∀ (j u v : Nat), Op.bytesLess (beT u j) (beT v j) = decide (u % 2 ^ (8 * j) < v % 2 ^ (8 * j))
  | 0, u, v => by simp [beT, Op.bytesLess, Nat.mod_one]
  | j + 1, u, v => by
    have e : (2 : Nat) ^ (8 * (j + 1)) = 2 ^ (8 * j) * 256 := by rw [show 8 * (j + 1) = 8 * j + 8 from by omega, Nat.pow_add]
    rw [e, Nat.mod_mul, Nat.mod_mul]
    have hp : 0 < 2 ^ (8 * j) := Nat.pow_pos (by omega)
    have hu := Nat.mod_lt u hp
    have hv := Nat.mod_lt v hp
    have ih := beT_less j u v
    simp only [beT]
    generalize 2 ^ (8 * j) = N at *
    have c1 : (UInt8.ofNat (u / N)).toNat = u / N % 256 := by simp
    have c2 : (UInt8.ofNat (v / N)).toNat = v / N % 256 := by simp
    generalize UInt8.ofNat (u / N) = a at *
    generalize UInt8.ofNat (v / N) = b at *
    generalize u / N % 256 = p at *
    generalize v / N % 256 = q at *
    generalize u % N = u' at *
    generalize v % N = v' at *
    simp only [Op.bytesLess, ih]
    have hlt : a < b ↔ p < q := by rw [UInt8.lt_iff_toNat_lt, c1, c2]
    have heq : a = b ↔ p = q := by rw [← UInt8.toNat_inj, c1, c2]
    rw [Bool.eq_iff_iff]
    simp only [Bool.or_eq_true, decide_eq_true_eq, Bool.and_eq_true, beq_iff_eq, hlt, heq]
    rcases Nat.lt_trichotomy p q with h | h | h
    · have : N * (p + 1) ≤ N * q := Nat.mul_le_mul_left _ h
      rw [Nat.mul_add] at this
      constructor
      · intro _; omega
      · intro _; exact .inl h
    · subst h
      constructor
      · rintro (g | ⟨_, g⟩) <;> omega
      · intro g; exact .inr ⟨rfl, by omega⟩
    · have : N * (q + 1) ≤ N * p := Nat.mul_le_mul_left _ h
      rw [Nat.mul_add] at this
      constructor
      · rintro (g | ⟨g, _⟩) <;> omega
      · intro g; omega
theorem upU_i64 {x : Int} (h : I64 x) : ((upU x : Nat) : Int) = x + 9223372036854775808 := by
  rw [upU_eq, wrap_u64, wrap_u64]; unfold I64 at h; omega
theorem word_toList (x : Int) : (wordT x).toList = beT (upU x) 8 := by rw [toList_data]; simp [wordT]
theorem word_le {x y : Int} (hx : I64 x) (hy : I64 y) : leT (wordT x) (wordT y) = leI x y := by
  have h1 := upU_i64 hx
  have h2 := upU_i64 hy
  unfold leT leI
  rw [word_toList, word_toList, beT_less, Bool.eq_iff_iff]
  unfold I64 at hx hy
  have m1 : upU x % 2 ^ (8 * 8) = upU x := Nat.mod_eq_of_lt (by omega)
  have m2 : upU y % 2 ^ (8 * 8) = upU y := Nat.mod_eq_of_lt (by omega)
  rw [m1, m2]
  simp only [Bool.or_eq_true, decide_eq_true_eq, beq_iff_eq]
  constructor
  · rintro (h | h)
    · omega
    · have := congrArg (fun l => Op.bytesLess l (beT (upU y) 8)) h
      have e1 := beT_less 8 (upU x) (upU y)
      have e2 := beT_less 8 (upU y) (upU x)
      rw [h] at e1
      rw [← h] at e2
      have e3 := beT_less 8 (upU x) (upU x)
      have e4 := beT_less 8 (upU y) (upU y)
      rw [e4] at e1; rw [e3] at e2
      simp only [m1, m2, Nat.lt_irrefl, decide_false] at e1 e2
      have := of_decide_eq_false e1.symm
      have := of_decide_eq_false e2.symm
      omega
  · intro h
    by_cases e : x = y
    · subst e; exact .inr rfl
    · exact .inl (by omega)
theorem word_inj {x y : Int} (hx : I64 x) (hy : I64 y) (h : wordT x = wordT y) : x = y := by
  have h1 := word_le hx hy
  have h2 := word_le hy hx
  have h3 := word_le hx hx
  rw [← h] at h1 h2
  rw [h3] at h1 h2
  simp only [leI, Int.le_refl, decide_true] at h1 h2
  have := of_decide_eq_true h1.symm
  have := of_decide_eq_true h2.symm
  omega
theorem addM_map {out : List Int} {x : Int} (ho : ∀ y ∈ out, I64 y) (hx : I64 x) : addM (out.map wordT) (wordT x) = (addM out x).map wordT := by
  unfold addM
  rw [List.getLast?_map]
  by_cases h : out.getLast? = some x
  · rw [if_pos h, if_pos (by rw [h]; rfl)]
  · rw [if_neg h, if_neg]
    · simp
    · intro e
      cases hl : out.getLast? with
      | none => rw [hl] at e; cases e
      | some y =>
        rw [hl] at e
        simp only [Option.map_some, Option.some.injEq] at e
        exact h (by rw [hl, word_inj (ho y (List.mem_of_getLast? hl)) hx e])
theorem addM_i64 {out : List Int} {x : Int} (ho : ∀ y ∈ out, I64 y) (hx : I64 x) : ∀ y ∈ addM out x, I64 y := fun y hy => by
  rcases addM_mem.1 hy with h | h
  · exact ho y h
  · subst h; exact hx
theorem twoM_map : ∀ (n : Nat) (out a b : List Int), (∀ y ∈ out, I64 y) → (∀ y ∈ a, I64 y) → (∀ y ∈ b, I64 y) → twoM leT n (out.map wordT) (a.map wordT) (b.map wordT) = (twoM leI n out a b).map wordT
  | 0, out, _, _, _, _, _ => rfl
  | n + 1, out, [], [], _, _, _ => rfl
  | n + 1, out, x :: a, [], ho, ha, hb => by
    have hx := ha x (by simp)
    have := twoM_map n (addM out x) a [] (addM_i64 ho hx) (fun y hy => ha y (List.mem_cons_of_mem _ hy)) hb
    simp only [List.map_cons, List.map_nil, twoM] at this ⊢
    rw [addM_map ho hx, this]
  | n + 1, out, [], x :: b, ho, ha, hb => by
    have hx := hb x (by simp)
    have := twoM_map n (addM out x) [] b (addM_i64 ho hx) ha (fun y hy => hb y (List.mem_cons_of_mem _ hy))
    simp only [List.map_cons, List.map_nil, twoM] at this ⊢
    rw [addM_map ho hx, this]
  | n + 1, out, x :: a, y :: b, ho, ha, hb => by
    have hx := ha x (by simp)
    have hy := hb y (by simp)
    have h1 := twoM_map n (addM out x) a (y :: b) (addM_i64 ho hx) (fun y hy => ha y (List.mem_cons_of_mem _ hy)) hb
    have h2 := twoM_map n (addM out y) (x :: a) b (addM_i64 ho hy) ha (fun y hy => hb y (List.mem_cons_of_mem _ hy))
    simp only [List.map_cons, twoM] at h1 h2 ⊢
    rw [word_le hx hy, addM_map ho hx, addM_map ho hy, h1, h2]
    split <;> rfl
theorem listsM_map : ∀ (n : Nat) (LL : List (List Int)), (∀ A ∈ LL, ∀ y ∈ A, I64 y) → LL.length < n → (∀ A ∈ LL, Up A) → listsM leT n (LL.map (List.map wordT)) = (listsM leI n LL).map wordT
  | 0, LL, _, h, _ => by omega
  | n + 1, [], _, _, _ => rfl
  | n + 1, [a], h, _, _ => by
    have := twoM_map a.length [] a [] (by simp) (h a (by simp)) (by simp)
    simp only [List.map_cons, List.map_nil, listsM, List.length_map] at this ⊢
    exact this
  | n + 1, a :: b :: r, h, hn, hu => by
    simp only [List.length_cons] at hn
    have h1 := listsM_map n ((a :: b :: r).take ((a :: b :: r).length / 2)) (fun A hA => h A (List.mem_of_mem_take hA)) (by simp; omega) fun A hA => hu A (List.mem_of_mem_take hA)
    have h2 := listsM_map n ((a :: b :: r).drop ((a :: b :: r).length / 2)) (fun A hA => h A (List.mem_of_mem_drop hA)) (by simp; omega) fun A hA => hu A (List.mem_of_mem_drop hA)
    have m1 := (lists_facts n ((a :: b :: r).take ((a :: b :: r).length / 2)) (by simp; omega) fun A hA => hu A (List.mem_of_mem_take hA)).2
    have m2 := (lists_facts n ((a :: b :: r).drop ((a :: b :: r).length / 2)) (by simp; omega) fun A hA => hu A (List.mem_of_mem_drop hA)).2
    have h3 := twoM_map ((listsM leI n ((a :: b :: r).take ((a :: b :: r).length / 2))).length + (listsM leI n ((a :: b :: r).drop ((a :: b :: r).length / 2))).length) [] (listsM leI n ((a :: b :: r).take ((a :: b :: r).length / 2))) (listsM leI n ((a :: b :: r).drop ((a :: b :: r).length / 2))) (by simp)
      (fun y hy => by obtain ⟨A, hA, hz⟩ := (m1 y).1 hy; exact h A (List.mem_of_mem_take hA) y hz) (fun y hy => by obtain ⟨A, hA, hz⟩ := (m2 y).1 hy; exact h A (List.mem_of_mem_drop hA) y hz)
    have e1 : (a :: b :: r).map (List.map wordT) = a.map wordT :: b.map wordT :: r.map (List.map wordT) := rfl
    rw [e1]
    simp only [listsM]
    rw [← e1, List.length_map, ← List.map_take, ← List.map_drop, h1, h2, List.length_map, List.length_map]
    exact h3
end Go.Proofs.Ytidpbnbjpglhfaa.V
