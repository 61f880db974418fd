/- known tells true; the laws TableNames and TableHash; no condition. -/
import Derived.Test.YtkedkajdiclmjaaTf
namespace Go.Proofs.Ytkedkajdiclmjaa.V
open Go
set_option linter.unusedVariables false
set_option linter.unusedSimpArgs false

/-- All that a table has was made behind h0. -/
structure Kept (h0 h : H) (n : Nat) (rs es : Sl) : Prop where
  ext : Ext h0 h
  mine : ∀ b, FT n rs es b → h0.size ≤ b
theorem Kept.step {h0 h h' : H} {n : Nat} {rs es rs' es' : Sl} (k : Kept h0 h n rs es) (s : Stp h n rs es h' rs' es') : Kept h0 h' n rs' es' :=
  ⟨k.ext.step s.only fun m hm hf => by have := k.mine m hf; omega, fun b hb => by
    rcases s.new b hb with h1 | h1
    · exact k.mine b h1
    · exact Nat.le_trans k.ext.size h1⟩
theorem Kept.add {h0 h h' : H} {n : Nat} {rs es : Sl} (k : Kept h0 h n rs es) (e : Ext h h') : Kept h0 h' n rs es := ⟨k.ext.trans e, k.mine⟩
def keyN (i : Nat) : ByteArray := ⟨#[UInt8.ofNat (97 + i)]⟩
def lookN (i : Nat) (k : ByteArray) : Option Int := (List.range i).foldr (fun j r => if kL k = kL (keyN j) then some (j : Int) else r) none
theorem keyN_inj : ∀ i, i < 8 → ∀ j, j < 8 → kL (keyN i) = kL (keyN j) → i = j := by decide
theorem lookN_none (i : Nat) (k : ByteArray) (h : ∀ j, j < i → kL k ≠ kL (keyN j)) : lookN i k = none := by
  unfold lookN
  have : ∀ (L : List Nat), (∀ j ∈ L, j < i) → L.foldr (fun j r => if kL k = kL (keyN j) then some (j : Int) else r) none = none := by
    intro L
    induction L with
    | nil => intro _; rfl
    | cons j L ih =>
      intro hL
      rw [List.foldr_cons, if_neg (h j (hL j (by simp))), ih fun x hx => hL x (by simp [hx])]
  exact this _ fun j hj => List.mem_range.1 hj
theorem lookN_succ (i : Nat) (k : ByteArray) (hi : i < 7) : lookN (i + 1) k = if kL k = kL (keyN i) then some (i : Int) else lookN i k := by
  by_cases hk : kL k = kL (keyN i)
  · rw [if_pos hk]
    have : ∀ (L : List Nat) (r : Option Int), (∀ j ∈ L, j < i) → L.foldr (fun j r => if kL k = kL (keyN j) then some (j : Int) else r) r = r := by
      intro L
      induction L with
      | nil => intro r _; rfl
      | cons j L ih =>
        intro r hL
        rw [List.foldr_cons, if_neg (fun e => by
          have h1 := hL j (by simp)
          have := keyN_inj i (by omega) j (by omega) (hk.symm.trans e)
          omega), ih _ fun x hx => hL x (by simp [hx])]
    unfold lookN
    rw [List.range_succ, List.foldr_append, this _ _ fun j hj => List.mem_range.1 hj]
    simp [hk]
  · rw [if_neg hk]
    unfold lookN
    rw [List.range_succ, List.foldr_append, List.foldr_cons, List.foldr_nil, if_neg hk]
theorem lookN_val : lookN 7 ⟨#[99]⟩ = some 2 ∧ lookN 7 ⟨#[120]⟩ = none := by decide
theorem hash_a : hashM ⟨#[97]⟩ = 12638187200555641996 := by decide +kernel
theorem hash_b : hashM ⟨#[98]⟩ = 12638190499090526629 := by decide +kernel
theorem hash_0 : hashM ⟨#[]⟩ = 14695981039346656037 := by decide +kernel
theorem known_loop {h0 : H} {n : Nat} {Q : Bool → H → Prop} (k : ∀ h', Ext h0 h' → Q true h') : ∀ (m i : Nat) (h : H) (rs es : Sl) (T : Tb Int), TH h n rs es T → TOk T → Kept h0 h n rs es → i ≤ 6 → 6 - i < m → T.count = i → T.row.length = 8 → leftT T = 0 → (∀ k, getM T k = lookN i k) → F.spatelaw6_known.l2 Q m (some ⟨n, 0, none⟩) (i : Int) h
  | 0, i, h, rs, es, T, t, ok, kp, h1, h2, hc, hr, hl, hg => by omega
  | m + 1, i, h, rs, es, T, t, ok, kp, h1, h2, hc, hr, hl, hg => by
    unfold F.spatelaw6_known.l2
    simp only [decide_eq_true_eq, decide_eq_false_iff_not]
    have fresh : ∀ i, i < 7 → (∀ k, getM T k = lookN i k) → getM T (keyN i) = none := fun i hi hg => by
      rw [hg]
      exact lookN_none i _ fun j hj e => by have := keyN_inj i (by omega) j (by omega) e; omega
    refine ⟨fun g => ?_, fun g => ?_⟩
    · refine newL_of fun b h3 hb b3 e3 _ => ?_
      have hw : IntKind.wrap .u8 (IntKind.wrap .i64 (97 + (i : Int))) = ((UInt8.ofNat (97 + i)).toNat : Int) := by
        rw [w64 (by omega) (by omega)]
        rcases (show i = 0 ∨ i = 1 ∨ i = 2 ∨ i = 3 ∨ i = 4 ∨ i = 5 by omega) with rfl | rfl | rfl | rfl | rfl | rfl <;> rfl
      rw [hw] at b3
      have ow : Reads h3 ⟨some ⟨b, 0, none⟩, 1, 1⟩ 1 ([UInt8.ofNat (97 + i)].flatMap cU) := blk_reads (m := 1) b3 rfl
      refine cvtT_of Try.underlying70 Try.underlying5 Try.underlying9 ow ?_
      have t3 := t.ext e3
      obtain ⟨T', p1, p2, p3, p4, p5, p6⟩ := put_ok (z := (0 : Int)) ok (keyN i) (i : Int)
      have hf := fresh i (by omega) hg
      rw [hf] at p5
      have p6' : T'.row.length = T.row.length ∧ leftT T' = leftT T - 4 := by
        rcases p6 with ⟨_, a, _⟩ | ⟨_, a, b⟩
        · omega
        · exact ⟨a, b⟩
      simp only [Option.isSome_none, Bool.false_eq_true, if_false] at p5
      refine Put_spec (key := keyN i) (v := (i : Int)) t3 ok (by show 1 ≤ _; decide) p1 (by simp only [BIG]; omega) (by simp only [BIG]; omega) fun h4 rs4 es4 t4 s4 => ?_
      rw [w64 (by omega) (by omega), show (i : Int) + 1 = ((i + 1 : Nat) : Int) from by omega]
      refine known_loop k m (i + 1) h4 rs4 es4 T' t4 p2 ((kp.add e3).step s4) (by omega) (by omega) (by omega) (by omega) (by omega) fun key => ?_
      rw [p4, lookN_succ i key (by omega), hg]
    · have hi : i = 6 := by omega
      subst hi
      refine Len_spec t ?_
      rw [hc]
      refine ⟨fun g => by simp at g, fun _ => ?_⟩
      refine Slots_spec t ?_
      rw [hr]
      refine ⟨fun g => by simp at g, fun _ => ?_⟩
      refine Left_spec t ?_
      rw [hl]
      unfold F.spatelaw6_known.j4
      refine ⟨fun g => by simp at g, fun _ => ?_⟩
      unfold F.spatelaw6_known.j3
      obtain ⟨T', p1, p2, p3, p4, p5, p6⟩ := put_ok (z := (0 : Int)) ok (keyN 6) 6
      have hf := fresh 6 (by omega) hg
      rw [hf] at p5
      simp only [Option.isSome_none, Bool.false_eq_true, if_false] at p5
      have p6' : T'.row.length = 2 * T.row.length ∧ leftT T' = T.row.length := by
        rcases p6 with ⟨_, _, a, b, _⟩ | ⟨a | a, _, _⟩
        · exact ⟨a, b⟩
        · rw [hf] at a; cases a
        · omega
      refine Put_spec (key := keyN 6) (v := 6) t ok (by show 1 ≤ _; decide) p1 (by simp only [BIG]; omega) (by simp only [BIG]; omega) fun h4 rs4 es4 t4 s4 => ?_
      have hg' : ∀ key, getM T' key = lookN 7 key := fun key => by rw [p4, lookN_succ 6 key (by omega), hg]; rfl
      refine Get_spec t4 p2 (by show 1 ≤ _; decide) fun h5 e5 => ?_
      refine Get_spec (t4.ext e5) p2 (by show 1 ≤ _; decide) fun h6 e6 => ?_
      have t6 := (t4.ext e5).ext e6
      refine Slots_spec t6 ?_
      rw [hg', hg', lookN_val.1, lookN_val.2, p6'.1, hr]
      refine ⟨fun _ => ?_, fun g => by simp at g⟩
      refine Left_spec t6 ?_
      rw [p6'.2, hr]
      refine ⟨fun _ => ⟨fun _ => ⟨fun _ => ?_, fun g => by simp at g⟩, fun g => by simp at g⟩, fun g => by simp at g⟩
      exact k h6 ((((kp.step s4).add e5).add e6).ext)
theorem known_spec {h : H} {Q : Bool → H → Prop} (k : ∀ h', Ext h h' → Q true h') : F.spatelaw6_known h Q := by
  unfold F.spatelaw6_known
  refine New_spec fun h1 n rs t1 e1 m1 => ?_
  refine ⟨fun h => (by cases h), fun _ => ?_⟩
  refine Hash_spec (by show 1 ≤ _; decide) fun h2 e2 => ?_
  rw [hash_a]
  refine ⟨fun g => by simp at g, fun _ => ?_⟩
  refine Hash_spec (by show 0 ≤ _; decide) fun h3 e3 => ?_
  rw [hash_0]
  unfold F.spatelaw6_known.j5
  refine ⟨fun g => by simp at g, fun _ => ?_⟩
  unfold F.spatelaw6_known.j1
  obtain ⟨n1, n2, n3⟩ := new_ok (0 : Int)
  exact ⟨7, known_loop (i := 0) k 7 h3 rs _ _ ((t1.ext e2).ext e3) n1 (((⟨e1, m1⟩ : Kept h h1 n rs ⟨none, 0, 0⟩).add e2).add e3) (by omega) (by omega) rfl (by simp [newT]) (by simp [newT, leftT]) fun k => by rw [n3]; rfl⟩
theorem refhash_loop {h : H} {key : ByteArray} {z : Nat} {Q : Int → H → Prop} (hl : key.size ≤ 9223372036854775807) (k : Q (z : Int) h) :
    ∀ (m i : Nat) (x : Nat), i ≤ key.data.toList.length → key.data.toList.length - i < m → x < 18446744073709551616 → (key.data.toList.drop i).foldl hstep x = z → F.spateref6_Hash.l1 Q m key (x : Int) (i : Int) h
  | 0, i, x, h1, h2, _, _ => by omega
  | m + 1, i, x, h1, h2, hlt, hx => by
    unfold F.spateref6_Hash.l1
    rw [size_data] at hl ⊢
    simp only [decide_eq_true_eq, decide_eq_false_iff_not]
    refine ⟨fun g => ?_, fun g => ?_⟩
    · obtain ⟨c, hc⟩ : ∃ c, key.data.toList[i]? = some c := ⟨_, List.getElem?_eq_getElem (by omega)⟩
      refine idxS_of hc rfl ?_
      rw [hash_step c hlt, w64 (by omega) (by omega)]
      refine refhash_loop (by rw [size_data]; exact hl) k m (i + 1) (hstep x c) (by omega) (by omega) (hstep_lt x c) ?_
      rw [← hx, List.drop_eq_getElem_cons (show i < key.data.toList.length by omega), List.foldl_cons]
      have : key.data.toList[i] = c := (List.getElem?_eq_some_iff.1 hc).2
      rw [this]
    · have : i = key.data.toList.length := by omega
      subst this
      rw [List.drop_length] at hx
      cases hx
      exact k
theorem refHash_spec {h : H} {key : ByteArray} {Q : Int → H → Prop} (hk : key.size ≤ 9223372036854775807) (k : Q ((hashM key : Nat) : Int) h) : F.spateref6_Hash key h Q := by
  unfold F.spateref6_Hash
  refine ⟨key.data.toList.length + 1, ?_⟩
  exact refhash_loop (Q := Q) (z := hashM key) hk k (key.data.toList.length + 1) 0 14695981039346656037 (by omega) (by omega) (by omega) (by rw [List.drop_zero]; unfold hashM; rw [hashL_eq])
theorem TableHash_spec {h : H} {a : ByteArray} {Q : Bool → H → Prop} (k : ∀ h', Ext h h' → Q true h') : F.spatelaw6_TableHash a h Q := by
  unfold F.spatelaw6_TableHash
  refine known_spec fun h1 e1 => ?_
  refine ⟨fun g => by simp at g, fun _ => ?_⟩
  simp only [decide_eq_true_eq, decide_eq_false_iff_not]
  refine ⟨fun _ => k h1 e1, fun g => ?_⟩
  refine Hash_spec (by omega) fun h2 e2 => ?_
  refine refHash_spec (by omega) ?_
  simp only [beq_self_eq_true]
  exact k h2 (e1.trans e2)
theorem elPs : El PP 63 68 3 40 (.agg #[.int .u8 0, .string ⟨#[]⟩, .string ⟨#[]⟩]) := ⟨Try.underlying63, ⟨Try.t68, by kernel_rfl, by kernel_rfl, by kernel_rfl, by kernel_rfl⟩, rfl, by omega, by omega⟩
theorem TableNames_spec {h : H} {Q : Bool → H → Prop} (k : ∀ h', Ext h h' → Q true h') : F.spatelaw6_TableNames h Q := by
  unfold F.spatelaw6_TableNames F.table_New_string
  refine make_of (n := 8) elPs (by omega) (by simp [maxLen]) fun b h1 hb o1 e1 => ?_
  refine new_of fun n h2 hn b2 e2 _ => ?_
  refine ⟨fun _ => ?_, fun h => by cases h⟩
  have tell : ∀ (h' : H) (hb : Blk h' n (S_table_Table_string.cells ⟨⟨some ⟨b, 0, none⟩, 8, 8⟩, ⟨none, 0, 0⟩, 0, 0⟩).toArray 65), cellH h' ⟨n, 0, none⟩ = some (Sl.enc ⟨some ⟨b, 0, none⟩, 8, 8⟩) ∧ cellH h' ⟨n, 1, none⟩ = some (Sl.enc ⟨none, 0, 0⟩) ∧ cellH h' ⟨n, 2, none⟩ = some (.int .i64 0) ∧ cellH h' ⟨n, 3, none⟩ = some (.int .i64 0) :=
    fun h' hb => ⟨hb.cell rfl, hb.cell rfl, hb.cell rfl, hb.cell rfl⟩
  obtain ⟨c0, c1, c2, c3⟩ := tell h2 b2
  unfold F.table_Table_string_Len
  simp only [nn_some, add_lit, Nat.zero_add]
  rw [ldI_iff c3]
  refine ⟨fun _ => ?_, fun g => by simp at g⟩
  unfold F.table_Table_string_Slots
  simp only [nn_some, add_lit, Nat.zero_add]
  rw [ldL_iff c0]
  refine ⟨fun _ => ?_, fun g => by simp at g⟩
  unfold F.table_Table_string_Left
  simp only [nn_some, add_lit, Nat.zero_add]
  rw [ldL_iff c1, ldI_iff c2]
  refine ⟨fun _ => ?_, fun g => absurd g (by decide)⟩
  unfold F.table_Table_string_Move
  refine ⟨1, ?_⟩
  unfold F.table_Table_string_Move.l1
  refine ⟨fun _ => ?_, fun g => by simp at g⟩
  simp only [nn_some, add_lit, Nat.zero_add]
  rw [ldI_iff c2, ldL_iff c1]
  unfold F.table_Table_string_Move.j5
  refine ⟨fun g => by simp at g, fun _ => ?_⟩
  simp only [nn_some, add_lit, Nat.zero_add]
  rw [ldI_iff c2, ldL_iff c1]
  refine ⟨fun _ => ?_, fun g => by simp at g⟩
  refine stH_of b2 (by simp [S_table_Table_string.cells]) fun h3 b3 e3 _ => ?_
  refine stH_of b3 (by rw [writeA_size]; simp [S_table_Table_string.cells]) fun h4 b4 e4 _ => ?_
  have b4' : Blk h4 n (S_table_Table_string.cells ⟨⟨some ⟨b, 0, none⟩, 8, 8⟩, ⟨none, 0, 0⟩, 0, 0⟩).toArray 65 := b4
  obtain ⟨c0, c1, c2, c3⟩ := tell h4 b4'
  unfold F.table_Table_string_Move.j6 F.table_Table_string_Left
  simp only [nn_some, add_lit, Nat.zero_add]
  rw [ldL_iff c1, ldI_iff c2]
  refine ⟨fun _ => ?_, fun g => absurd g (by decide)⟩
  have ex : Ext h h4 := (((e1.trans e2).step e3 fun m hm hf => by have := e1.size; omega).step e4 fun m hm hf => by have := e1.size; omega)
  refine Hash_spec (by show 0 ≤ _; decide) fun h5 e5 => ?_
  rw [hash_0]
  refine ⟨fun _ => ?_, fun g => by simp at g⟩
  refine Hash_spec (by show 1 ≤ _; decide) fun h6 e6 => ?_
  rw [hash_a]
  refine ⟨fun _ => ?_, fun g => by simp at g⟩
  refine Hash_spec (by show 1 ≤ _; decide) fun h7 e7 => ?_
  rw [hash_b]
  exact k h7 (((ex.trans e5).trans e6).trans e7)
end Go.Proofs.Ytkedkajdiclmjaa.V
