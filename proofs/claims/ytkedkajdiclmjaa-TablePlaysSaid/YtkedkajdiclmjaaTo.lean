/- Twin, Place and one step of the table of whole numbers; no condition. -/
import Derived.Test.YtkedkajdiclmjaaTh
import Derived.Test.YtkedkajdiclmjaaTg
import Derived.Test.YtkedkajdiclmjaaTn
import Derived.Test.YtkedkajdiclmjaaTm
namespace Go.Proofs.Ytkedkajdiclmjaa.V
open Go
set_option linter.unusedVariables false
set_option linter.unusedSimpArgs false

def plA : Option (Bool × Nat) → Int × Bool × Bool
  | some (e, i) => ((i : Int), e, true)
  | none => (0, false, false)
theorem Place_spec {h : H} {n : Nat} {rs es : Sl} {T : Tb Int} {key : ByteArray} {w : Option (Bool × Nat)} {Q : Int → Bool → Bool → H → Prop} (t : TH h n rs es T) (hk : SmallK key) (hw : whereM T key = some w)
    (k : ∀ h', Ext h h' → Q (plA w).1 (plA w).2.1 (plA w).2.2 h') : F.table_Table_int_Place (some ⟨n, 0, none⟩) key h Q := by
  unfold F.table_Table_int_Place
  simp only [nn_some, add_lit, Nat.zero_add]
  rw [ldL_iff t.c0]
  unfold whereM at hw
  cases hf : findM T.row key with
  | none => rw [hf] at hw; cases hw
  | some r =>
    rw [hf] at hw
    obtain ⟨i, b⟩ := r
    refine find_spec t.row.reads t.br hk hf fun h1 e1 => ?_
    have t1 := t.ext e1
    cases b with
    | true =>
      simp only at hw
      cases hw
      exact ⟨fun _ => k h1 e1, fun h => by cases h⟩
    | false =>
      refine ⟨fun h => (by cases h), fun _ => ?_⟩
      simp only at hw
      rw [ldL_iff t1.c1]
      cases hg : findM T.elder key with
      | none => rw [hg] at hw; cases hw
      | some r =>
        rw [hg] at hw
        obtain ⟨i, b⟩ := r
        refine find_spec t1.el.reads t.be hk hg fun h2 e2 => ?_
        cases b with
        | true =>
          simp only at hw
          cases hw
          exact ⟨fun _ => k h2 (e1.trans e2), fun h => by cases h⟩
        | false =>
          simp only at hw
          cases hw
          exact ⟨fun h => (by cases h), fun _ => k h2 (e1.trans e2)⟩
theorem Clone_spec {h : H} {s : Sl} {R : List (Pl Int)} {Q : Sl → H → Prop} (ow : Owns h s 77 3 (R.flatMap cP)) (hR : R.length ≤ BIG)
    (k : ∀ r h', Owns h' r 77 3 (R.flatMap cP) → Ext h h' → (∀ b, r.blk = some b → h.size ≤ b) → Q r h') : F.slices_Clone_Sltable_place_int_table_place_int s h Q := by
  unfold F.slices_Clone_Sltable_place_int_table_place_int
  simp only [BIG] at hR
  refine ⟨fun g => ?_, fun g => ?_⟩
  · have hp : s.ptr = none := by simpa using g
    have hl : s.len = 0 := by
      obtain ⟨_, ⟨_, h2, _⟩ | ⟨b, c, h1, _⟩⟩ := ow
      · exact h2
      · rw [hp] at h1; cases h1
    have hRn : R = [] := by
      have := own_len cP_len (by omega) ow
      exact List.eq_nil_of_length_eq_zero (by omega)
    subst hRn
    exact k _ h (Owns.nil _ _ _) (.refl _) fun b hb => by simp [Sl.blk] at hb
  · refine newL_of fun n h1 hn b1 e1 _ => ?_
    have o1 : Owns h1 ⟨some ⟨n, 0, none⟩, 0, 0⟩ 77 3 (([] : List (Pl Int)).flatMap cP) := blk_owns (m := 0) b1 rfl (by simp [maxLen])
    refine app_list (f := cP) (M := R) cP_len (by omega) elP o1 (ow.ext e1).reads (fun x v hv => by
      simp at hv
      rcases hv with rfl | rfl | rfl <;> rfl) (by simp; omega) fun r h2 q1 q2 q3 => ?_
    refine k r h2 (by simpa using q1) (e1.step q2 fun j hj hf => by simp [Sl.blk] at hf; omega) fun b hb => ?_
    rcases q3 with q3 | ⟨b', q3, q4⟩
    · rw [q3] at hb; simp [Sl.blk] at hb; omega
    · rw [q3] at hb; cases hb
      have := e1.size; omega
theorem Twin_spec {h : H} {n : Nat} {rs es : Sl} {T : Tb Int} {Q : Option Addr → H → Prop} (t : TH h n rs es T)
    (k : ∀ h' n' rs' es', TH h' n' rs' es' T → Ext h h' → (∀ b, FT n' rs' es' b → h.size ≤ b) → Q (some ⟨n', 0, none⟩) h') : F.table_Table_int_Twin (some ⟨n, 0, none⟩) h Q := by
  unfold F.table_Table_int_Twin
  simp only [nn_some, add_lit, Nat.zero_add]
  refine ⟨⟨rs, es, (T.moved : Int), (T.count : Int)⟩, fun j v hv => ?_, ?_⟩
  · rw [add_lit, Nat.zero_add]
    exact t.tb.cell (by simpa [S_table_Table_int.cells] using hv)
  · refine new_of fun m h1 hm b1 e1 sz1 => ?_
    refine stH_of b1 (by simp [S_table_Table_int.cells]) fun h2 b2 e2 sz2 => ?_
    rw [writeA_all (by simp [S_table_Table_int.cells])] at b2
    have x2 : Ext h h2 := e1.step e2 fun j hj hf => by omega
    have t2 := t.ext x2
    rw [ldL_iff t2.c0, ldL_iff t2.c1]
    refine Clone_spec t2.row t.br fun r h3 o3 e3 m3 => ?_
    have t3 := t2.ext e3
    refine ⟨t3.c1, ?_⟩
    refine Clone_spec t3.el t.be fun r' h4 o4 e4 m4 => ?_
    have b4 : Blk h4 m #[rs.enc, es.enc, .int .i64 (T.moved : Int), .int .i64 (T.count : Int)] 73 := e4.block (e3.block b2 (fun f => f)) (fun f => f)
    have hr : ∀ b, r.blk = some b → h2.size ≤ b ∧ b < h3.size := fun b hb => ⟨m3 b hb, o3.blk_lt hb⟩
    have hml : m < h2.size := block_lt b2
    have s3 := e3.size
    refine stH_of b4 (by simp) fun h5 b5 e5 _ => ?_
    refine stH_of b5 (by simp [writeA_size]) fun h6 b6 e6 _ => ?_
    have e46 : Only (· = m) h4 h6 := e5.trans e6 fun _ _ e => e
    have hr' : ∀ b, r'.blk = some b → h3.size ≤ b := m4
    refine k h6 m r r' ⟨b6, (o3.ext e4).only e46 fun b hb e => by have := hr b hb; omega, o4.only e46 fun b hb e => by have := hr' b hb; omega, fun b hb hb' => by have := hr b hb; have := hr' b hb'; omega, t.kr, t.ke, t.pos, t.br, t.be, t.bc, t.bm⟩ (((x2.trans e3).trans e4).step e46 fun j hj hf => by omega) fun b hb => ?_
    have := x2.size
    rcases hb with rfl | hb | hb
    · omega
    · have := hr b hb; omega
    · have := hr' b hb; omega
def doT (T : Tb Int) (x : Step) : Tb Int :=
  if x.Kind = 1 then (putM 0 T x.Key x.N).getD T else if x.Kind = 3 then ((dropM 0 T x.Key).map (·.1)).getD T else if x.Kind = 4 then (moveM 0 T x.N).getD T else T
def Bd (N : Nat) (T : Tb Int) : Prop := T.count ≤ N ∧ T.row.length ≤ 8 + 4 * N
theorem do_ok {T : Tb Int} (t : TOk T) (x : Step) : TOk (doT T x) ∧ ∀ N, Bd N T → Bd (N + 1) (doT T x) := by
  unfold doT
  split
  · obtain ⟨T', p1, p2, p3, p4, p5, p6⟩ := put_ok (z := (0 : Int)) t x.Key x.N
    rw [p1]
    refine ⟨p2, fun N ⟨b1, b2⟩ => ⟨?_, ?_⟩⟩
    · show T'.count ≤ N + 1
      split at p5 <;> omega
    · show T'.row.length ≤ 8 + 4 * (N + 1)
      have := t.load
      rcases p6 with ⟨_, a, b, _⟩ | ⟨_, b, _⟩
      · have h3 : 3 * T.row.length < 4 * (T.count + 1) := a
        omega
      · omega
  · split
    · obtain ⟨T', p1, p2, p3, p4, p5, p6, p7⟩ := drop_ok (z := (0 : Int)) t x.Key
      rw [p1]
      refine ⟨p2, fun N ⟨b1, b2⟩ => ⟨?_, ?_⟩⟩
      · show T'.count ≤ N + 1; omega
      · show T'.row.length ≤ 8 + 4 * (N + 1); omega
    · split
      · obtain ⟨T', p1, p2, p3, p4, p5, p6, p7⟩ := move_ok (z := (0 : Int)) t x.N
        rw [p1]
        refine ⟨p2, fun N ⟨b1, b2⟩ => ⟨?_, ?_⟩⟩
        · show T'.count ≤ N + 1; omega
        · show T'.row.length ≤ 8 + 4 * (N + 1); omega
      · exact ⟨t, fun N ⟨b1, b2⟩ => ⟨by omega, by omega⟩⟩
theorem do_spec {h : H} {n : Nat} {rs es : Sl} {T : Tb Int} {x : Step} {N : Nat} {Q : H → Prop} (t : TH h n rs es T) (ok : TOk T) (hx : StepOk x) (hb : Bd N T) (hN : N ≤ 1000000000)
    (k : ∀ h' rs' es', TH h' n rs' es' (doT T x) → Stp h n rs es h' rs' es' → Q h') : F.spatelaw6_do (some ⟨n, 0, none⟩) x h Q := by
  obtain ⟨d1, d2⟩ := do_ok ok x
  obtain ⟨b1, b2⟩ := d2 N hb
  unfold F.spatelaw6_do
  refine new_of fun a h1 ha bl e1 _ => ?_
  have t1 := t.ext e1
  simp only [add_lit, Nat.zero_add]
  rw [ldI_iff (bl.cell (i := 0) (v := .int .i64 x.Kind) rfl)]
  simp only [beq_iff_eq, beq_eq_false_iff_ne]
  unfold doT at *
  refine ⟨fun g => ?_, fun g => ⟨fun g2 => ?_, fun g2 => ⟨fun g3 => ?_, fun g3 => ?_⟩⟩⟩
  · rw [ldS_iff (bl.cell (i := 2) (v := .string x.Key) rfl), ldI_iff (bl.cell (i := 1) (v := .int .i64 x.N) rfl)]
    rw [if_pos g] at b1 b2
    simp only [if_pos g] at k
    obtain ⟨T', p1, _⟩ := put_ok (z := (0 : Int)) ok x.Key x.N
    rw [p1] at b1 b2 k
    exact Put_spec t1 ok hx.2.2 p1 (by simp only [BIG]; simp only [Option.getD_some] at b2; omega) (by simp only [BIG]; simp only [Option.getD_some] at b1; omega) fun h2 rs2 es2 t2 s2 => k h2 rs2 es2 t2 ((Stp.of_ext e1).trans s2)
  · rw [ldS_iff (bl.cell (i := 2) (v := .string x.Key) rfl)]
    simp only [if_neg g, if_pos g2] at k
    obtain ⟨T', p1, _⟩ := drop_ok (z := (0 : Int)) ok x.Key
    rw [p1] at k
    exact Drop_spec t1 ok hx.2.2 p1 fun h2 es2 t2 s2 => k h2 rs es2 t2 ((Stp.of_ext e1).trans s2)
  · rw [ldI_iff (bl.cell (i := 1) (v := .int .i64 x.N) rfl)]
    simp only [if_neg g, if_neg g2, if_pos g3] at k
    obtain ⟨T', p1, _⟩ := move_ok (z := (0 : Int)) ok x.N
    rw [p1] at k
    exact Move_spec t1 p1 hx.2.1.2 fun h2 es2 t2 s2 => k h2 rs es2 t2 ((Stp.of_ext e1).trans s2)
  · simp only [if_neg g, if_neg g2, if_neg g3] at k
    exact k h1 rs es t1 (Stp.of_ext e1)
end Go.Proofs.Ytkedkajdiclmjaa.V
