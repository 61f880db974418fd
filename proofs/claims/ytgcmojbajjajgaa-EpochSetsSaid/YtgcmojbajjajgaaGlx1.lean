/- Printed by a program of this session (gen.py): Go functions as Lean functions over the heap, and that the Go code does what they say; no condition. -/
import Derived.Test.YtgcmojbajjajgaaGlx0
namespace Go.Proofs.Ytgcmojbajjajgaa.V
open Go
set_option linter.unusedVariables false
set_option maxRecDepth 100000
def F.spatelaw9_EpochLives.j4 (Q : Bool → H → Prop) (C1 : Sl → (Option Addr) → Int → (Option Nat) → Sl → Int → H → Prop) (x1 : Sl) (x5 : Option Addr) (x7 : Int) (x8 : Option Nat) (x9 : Sl) (x10 : Int) (h : H) : Prop :=
  C1 x1 x5 x7 x8 x9 (IntKind.wrap .i64 (x10 + 1)) h
def F.spatelaw9_EpochLives.j9 (Q : Bool → H → Prop) (C1 : Sl → (Option Addr) → Int → (Option Nat) → Sl → Int → H → Prop) (x1 : Sl) (x5 : Option Addr) (x7 : Int) (x8 : Option Nat) (x9 : Sl) (x10 : Int) (x139 : Bool) (h : H) : Prop :=
  (x139 = true →
  Q false h) ∧
  (x139 = false →
  F.spatelaw9_EpochLives.j4 Q C1 x1 x5 x7 x8 x9 x10 h)
def F.spatelaw9_EpochLives.j8 (Q : Bool → H → Prop) (C1 : Sl → (Option Addr) → Int → (Option Nat) → Sl → Int → H → Prop) (x1 : Sl) (x5 : Option Addr) (x7 : Int) (x8 : Option Nat) (x9 : Sl) (x10 : Int) (h : H) : Prop :=
  F.epoch_Book_Now x5 h fun r27 h26 =>
  (((r27 != (IntKind.wrap .i64 (x7 + 1)))) = true →
  F.spatelaw9_EpochLives.j9 Q C1 x1 x5 x7 x8 x9 x10 true h26) ∧
  (((r27 != (IntKind.wrap .i64 (x7 + 1)))) = false →
  F.epoch_Book_Live x5 h26 fun r30 h29 =>
  F.epoch_Book_Held x5 h29 fun r32 h31 =>
  F.epoch_Book_Dying x5 h31 fun r34 h33 =>
  (((r30 != (IntKind.wrap .i64 ((r32.len : Int) + (r34.len : Int))))) = true →
  F.spatelaw9_EpochLives.j9 Q C1 x1 x5 x7 x8 x9 x10 true h33) ∧
  (((r30 != (IntKind.wrap .i64 ((r32.len : Int) + (r34.len : Int))))) = false →
  F.epoch_Book_Held x5 h33 fun r37 h36 =>
  F.epoch_Book_Dying x5 h36 fun r39 h38 =>
  F.spatelaw9_moved x8 r37 r39 x7 h38 fun r41 h40 =>
  F.spatelaw9_EpochLives.j9 Q C1 x1 x5 x7 x8 x9 x10 (!r41) h40))
def F.spatelaw9_EpochLives.l11 (Q : Bool → H → Prop) (C1 : Sl → (Option Addr) → Int → (Option Nat) → Sl → Int → H → Prop) : Nat → Sl → (Option Addr) → Int → (Option Nat) → Sl → Int → Int → H → Prop
  | 0, _, _, _, _, _, _, _, _ => False
  | q11 + 1, x1, x5, x7, x8, x9, x10, x15, h =>
    ((decide (x15 < (x9.len : Int))) = true →
    idxA x9 x15 1 fun a44 =>
    ldI .i64 h a44 fun y46 =>
    RunS PP (Instr.mapUpdate 28 (.map x8) (.int .i64 y46) (.int .i64 3)) h fun _ h48 =>
    (F.spatelaw9_EpochLives.l11 Q C1 q11) x1 x5 x7 x8 x9 x10 (IntKind.wrap .i64 (x15 + 1)) h48) ∧
    ((decide (x15 < (x9.len : Int))) = false →
    F.spatelaw9_EpochLives.j8 Q C1 x1 x5 x7 x8 x9 x10 h)
def F.spatelaw9_EpochLives.j10 (Q : Bool → H → Prop) (C1 : Sl → (Option Addr) → Int → (Option Nat) → Sl → Int → H → Prop) (x1 : Sl) (x5 : Option Addr) (x7 : Int) (x8 : Option Nat) (x9 : Sl) (x10 : Int) (x101 : Bool) (h : H) : Prop :=
  (x101 = true →
  ∃ m, F.spatelaw9_EpochLives.l11 Q C1 m x1 x5 x7 x8 x9 x10 0 h) ∧
  (x101 = false →
  F.spatelaw9_EpochLives.j8 Q C1 x1 x5 x7 x8 x9 x10 h)
def F.spatelaw9_EpochLives.j7 (Q : Bool → H → Prop) (C1 : Sl → (Option Addr) → Int → (Option Nat) → Sl → Int → H → Prop) (x1 : Sl) (x5 : Option Addr) (x7 : Int) (x8 : Option Nat) (x9 : Sl) (x10 : Int) (x11 : Addr) (x14 : Bool) (h : H) : Prop :=
  (x14 = true →
  ldI .i64 h (x11.add 0) fun y51 =>
  F.spatelaw9_EpochLives.j10 Q C1 x1 x5 x7 x8 x9 x10 ((y51 == 8)) h) ∧
  (x14 = false →
  F.spatelaw9_EpochLives.j10 Q C1 x1 x5 x7 x8 x9 x10 false h)
def F.spatelaw9_EpochLives.j12 (Q : Bool → H → Prop) (C1 : Sl → (Option Addr) → Int → (Option Nat) → Sl → Int → H → Prop) (x1 : Sl) (x5 : Option Addr) (x7 : Int) (x8 : Option Nat) (x9 : Sl) (x10 : Int) (x11 : Addr) (x13 : Sl) (x14 : Bool) (x94 : Bool) (h : H) : Prop :=
  (x94 = true →
  F.spatelaw9_EpochLives.j7 Q C1 x1 x5 x7 x8 x13 x10 x11 x14 h) ∧
  (x94 = false →
  F.spatelaw9_EpochLives.j7 Q C1 x1 x5 x7 x8 x9 x10 x11 x14 h)
def F.spatelaw9_EpochLives.j6 (Q : Bool → H → Prop) (C1 : Sl → (Option Addr) → Int → (Option Nat) → Sl → Int → H → Prop) (x1 : Sl) (x5 : Option Addr) (x7 : Int) (x8 : Option Nat) (x9 : Sl) (x10 : Int) (x11 : Addr) (x13 : Sl) (x14 : Bool) (h : H) : Prop :=
  (x14 = true →
  ldI .i64 h (x11.add 0) fun y55 =>
  F.spatelaw9_EpochLives.j12 Q C1 x1 x5 x7 x8 x9 x10 x11 x13 x14 ((y55 == 7)) h) ∧
  (x14 = false →
  F.spatelaw9_EpochLives.j12 Q C1 x1 x5 x7 x8 x9 x10 x11 x13 x14 false h)
def F.spatelaw9_EpochLives.j13 (Q : Bool → H → Prop) (C1 : Sl → (Option Addr) → Int → (Option Nat) → Sl → Int → H → Prop) (x1 : Sl) (x5 : Option Addr) (x7 : Int) (x8 : Option Nat) (x9 : Sl) (x10 : Int) (x11 : Addr) (x13 : Sl) (x14 : Bool) (x88 : Bool) (h : H) : Prop :=
  (x88 = true →
  Q false h) ∧
  (x88 = false →
  F.spatelaw9_EpochLives.j6 Q C1 x1 x5 x7 x8 x9 x10 x11 x13 x14 h)
def F.spatelaw9_EpochLives.j5 (Q : Bool → H → Prop) (C1 : Sl → (Option Addr) → Int → (Option Nat) → Sl → Int → H → Prop) (x1 : Sl) (x5 : Option Addr) (x7 : Int) (x8 : Option Nat) (x9 : Sl) (x10 : Int) (x11 : Addr) (x12 : Sl) (x13 : Sl) (x14 : Bool) (h : H) : Prop :=
  ((!x14) = true →
  F.epoch_Book_Held x5 h fun r60 h59 =>
  F.spatelaw9_ints x12 r60 h59 fun r62 h61 =>
  ((!r62) = true →
  F.spatelaw9_EpochLives.j13 Q C1 x1 x5 x7 x8 x9 x10 x11 x13 x14 true h61) ∧
  ((!r62) = false →
  F.epoch_Book_Dying x5 h61 fun r65 h64 =>
  F.spatelaw9_ints x13 r65 h64 fun r67 h66 =>
  F.spatelaw9_EpochLives.j13 Q C1 x1 x5 x7 x8 x9 x10 x11 x13 x14 (!r67) h66)) ∧
  ((!x14) = false →
  F.spatelaw9_EpochLives.j13 Q C1 x1 x5 x7 x8 x9 x10 x11 x13 x14 false h)
def F.spatelaw9_EpochLives.j14 (Q : Bool → H → Prop) (C1 : Sl → (Option Addr) → Int → (Option Nat) → Sl → Int → H → Prop) (x1 : Sl) (x5 : Option Addr) (x7 : Int) (x8 : Option Nat) (x9 : Sl) (x10 : Int) (x11 : Addr) (x12 : Sl) (x13 : Sl) (x14 : Bool) (x68 : Bool) (h : H) : Prop :=
  (x68 = true →
  RunS PP (Instr.mapUpdate 28 (.map x8) (.int .i64 (IntKind.wrap .i64 (x7 + 1))) (.int .i64 1)) h fun _ h69 =>
  F.spatelaw9_EpochLives.j5 Q C1 x1 x5 (IntKind.wrap .i64 (x7 + 1)) x8 x9 x10 x11 x12 x13 x14 h69) ∧
  (x68 = false →
  F.spatelaw9_EpochLives.j5 Q C1 x1 x5 x7 x8 x9 x10 x11 x12 x13 x14 h)
def F.spatelaw9_EpochLives.l3 (Q : Bool → H → Prop) : Nat → Sl → (Option Addr) → Int → (Option Nat) → Sl → Int → H → Prop
  | 0, _, _, _, _, _, _, _ => False
  | q3 + 1, x1, x5, x7, x8, x9, x10, h =>
    ((decide (x10 < (x1.len : Int))) = true →
    idxA x1 x10 4 fun a10 =>
    ld_S_spatelaw9_Step h a10 fun y12 =>
    new h (((⟨0, 0, 0, false⟩ : S_spatelaw9_Step) : S_spatelaw9_Step).cells.toArray) ty_31 fun a15 h14 =>
    stH h14 a15 y12.cells fun h16 =>
    F.epoch_Book_Held x5 h16 fun r18 h17 =>
    F.epoch_Book_Dying x5 h17 fun r20 h19 =>
    ld_S_spatelaw9_Step h19 a15 fun y21 =>
    F.spatelaw9_do x5 y21 h19 fun r24 h23 =>
    (r24 = true →
    ldI .i64 h23 (a15.add 0) fun y71 =>
    (((y71 == 1)) = true →
    F.spatelaw9_EpochLives.j14 Q (F.spatelaw9_EpochLives.l3 Q q3) x1 x5 x7 x8 x9 x10 a15 r18 r20 r24 true h23) ∧
    (((y71 == 1)) = false →
    ldI .i64 h23 (a15.add 0) fun y74 =>
    F.spatelaw9_EpochLives.j14 Q (F.spatelaw9_EpochLives.l3 Q q3) x1 x5 x7 x8 x9 x10 a15 r18 r20 r24 ((y74 == 2)) h23)) ∧
    (r24 = false →
    F.spatelaw9_EpochLives.j14 Q (F.spatelaw9_EpochLives.l3 Q q3) x1 x5 x7 x8 x9 x10 a15 r18 r20 r24 false h23)) ∧
    ((decide (x10 < (x1.len : Int))) = false →
    Q true h)
def F.spatelaw9_EpochLives.j2 (Q : Bool → H → Prop) (x1 : Sl) (x5 : Option Addr) (h : H) : Prop :=
  RunS PP (Instr.makeMap 28 none) h fun u h7 => ∃ m8 : Option Nat, u = (.map m8) ∧
  ∃ m, F.spatelaw9_EpochLives.l3 Q m x1 x5 0 m8 (⟨none, 0, 0⟩ : Sl) 0 h7
def F.spatelaw9_EpochLives.j15 (Q : Bool → H → Prop) (x1 : Sl) (x5 : Option Addr) (x39 : Bool) (h : H) : Prop :=
  (x39 = true →
  Q false h) ∧
  (x39 = false →
  F.spatelaw9_EpochLives.j2 Q x1 x5 h)
def F.spatelaw9_EpochLives.j1 (Q : Bool → H → Prop) (x0 : Int) (x1 : Sl) (h : H) : Prop :=
  F.epoch_New x0 h fun r5 r6 h4 =>
  (((r6 != 0)) = true →
  F.spatelaw9_EpochLives.j15 Q x1 r5 true h4) ∧
  (((r6 != 0)) = false →
  F.spatelaw9_EpochLives.j15 Q x1 r5 r5.isNone h4)
def F.spatelaw9_EpochLives.j16 (Q : Bool → H → Prop) (x0 : Int) (x1 : Sl) (x28 : Bool) (h : H) : Prop :=
  (x28 = true →
  Q true h) ∧
  (x28 = false →
  F.spatelaw9_EpochLives.j1 Q x0 x1 h)
/-- spate/spatelaw9.EpochLives -/
def F.spatelaw9_EpochLives (p0 : Int) (p1 : Sl) (h : H) (Q : Bool → H → Prop) : Prop :=
  F.spatelaw9_known  h fun r2 h1 =>
  ((!r2) = true →
  Q false h1) ∧
  ((!r2) = false →
  ((decide ((p1.len : Int) > 3000)) = true →
  F.spatelaw9_EpochLives.j16 Q p0 p1 true h1) ∧
  ((decide ((p1.len : Int) > 3000)) = false →
  ((decide (p0 < 1)) = true →
  F.spatelaw9_EpochLives.j16 Q p0 p1 true h1) ∧
  ((decide (p0 < 1)) = false →
  F.spatelaw9_EpochLives.j16 Q p0 p1 (decide (p0 > 64)) h1)))
theorem F.spatelaw9_EpochLives_ok {p0 : Int} {p1 : Sl} {h : H} {Q : Bool → H → Prop} (H : F.spatelaw9_EpochLives p0 p1 h Q) : Fn PP 4 ([(.int .i64 p0), p1.enc] : List Value).toArray h fun r h' => ∃ r0, r = (.bool r0) ∧ Q r0 h' := by
  unfold F.spatelaw9_EpochLives at H
  refine fn_of Try.func4 Try.ntmps4 rfl rfl fun w0 => ?_
  refine tr_sub [(0, (.int .i64 p0)), (1, p1.enc)] ⟨rfl, rfl, trivial⟩ ?_
  refine tr_seq ?_
  refine tr_region ?_
  refine tr_p (y_assign rfl) rfl rfl ?_
  refine tr_nil ?_
  refine tr_thenN ?_
  refine tr_seq ?_
  refine tr_seq ?_
  refine tr_region ?_
  refine tr_e (e_call Try.call9 rfl (F.spatelaw9_known_ok H)) rfl rfl ?_
  rintro _ h1 ⟨r2, rfl, H⟩
  refine tr_p (y_not rfl) rfl rfl ?_
  refine tr_nil ?_
  refine tr_thenN ?_
  refine tr_cond rfl (fun g3 => ?_) (fun g3 => ?_)
  · replace H := H.1 g3
    refine tr_seq ?_
    refine tr_region ?_
    refine tr_p (y_assign rfl) rfl rfl ?_
    refine tr_nil ?_
    refine tr_thenN ?_
    refine tr_ret ?_
    refine tr_thenR ?_
    exact tr_ret1 rfl rfl ⟨_, rfl, H⟩
  · replace H := H.2 g3
    refine tr_skip ?_
    refine tr_thenN ?_
    refine tr_seq_j (fun L' h => ∃ (x0 : Int) (x1 : Sl), L' = [(0, (.int .i64 x0)), (1, x1.enc)] ∧ F.spatelaw9_EpochLives.j1 Q x0 x1 h) ?_ ?_
    · rintro L' h ⟨x0, x1, rfl, H⟩
      unfold F.spatelaw9_EpochLives.j1 at H
      refine tr_seq ?_
      refine tr_region ?_
      refine tr_p (y_move rfl) rfl rfl ?_
      refine tr_e (e_call Try.call10 rfl (F.epoch_New_ok H)) rfl rfl ?_
      rintro _ h4 ⟨r5, r6, rfl, H⟩
      refine tr_p (y_move rfl) rfl rfl ?_
      refine tr_p (y_ext rfl rfl) rfl rfl ?_
      refine tr_p (y_ext rfl rfl) rfl rfl ?_
      refine tr_p (y_assign rfl) rfl rfl ?_
      refine tr_p (y_assign rfl) rfl rfl ?_
      refine tr_nil ?_
      refine tr_thenN ?_
      refine tr_seq_j (fun L' h => ∃ (x1 : Sl) (x5 : Option Addr), L' = [(1, x1.enc), (5, (.pointer x5))] ∧ F.spatelaw9_EpochLives.j2 Q x1 x5 h) ?_ ?_
      · rintro L' h ⟨x1, x5, rfl, H⟩
        unfold F.spatelaw9_EpochLives.j2 at H
        refine tr_seq ?_
        refine tr_region ?_
        refine tr_p (y_assign rfl) rfl rfl ?_
        refine tr_nil ?_
        refine tr_thenN ?_
        refine tr_seq ?_
        refine tr_region ?_
        refine tr_e (f_mkN H) rfl rfl ?_
        rintro _ h7 ⟨m8, rfl, H⟩
        refine tr_p (y_assign rfl) rfl rfl ?_
        refine tr_nil ?_
        refine tr_thenN ?_
        refine tr_seq ?_
        refine tr_region ?_
        refine tr_p (y_assign rfl) rfl rfl ?_
        refine tr_nil ?_
        refine tr_thenN ?_
        refine tr_seq ?_
        refine tr_seq ?_
        refine tr_region ?_
        refine tr_p (y_assign rfl) rfl rfl ?_
        refine tr_nil ?_
        refine tr_thenN ?_
        refine tr_block ?_
        obtain ⟨m76, H⟩ := H
        refine tr_sub [(1, x1.enc), (5, (.pointer x5)), (7, (.int .i64 0)), (8, (.map m8)), (9, (⟨none, 0, 0⟩ : Sl).enc), (10, (.int .i64 0))] ⟨rfl, rfl, rfl, rfl, rfl, rfl, trivial⟩ ?_
        refine tr_loop_j (fun m L' h => ∃ (x1 : Sl) (x5 : Option Addr) (x7 : Int) (x8 : Option Nat) (x9 : Sl) (x10 : Int), L' = [(1, x1.enc), (5, (.pointer x5)), (7, (.int .i64 x7)), (8, (.map x8)), (9, x9.enc), (10, (.int .i64 x10))] ∧ F.spatelaw9_EpochLives.l3 Q m x1 x5 x7 x8 x9 x10 h) ?_ ?_ m76 ⟨_, _, _, _, _, _, rfl, H⟩
        · rintro L' h ⟨_, _, _, _, _, _, _, H⟩; exact H
        · rintro q3 L' h ⟨x1, x5, x7, x8, x9, x10, rfl, H⟩
          unfold F.spatelaw9_EpochLives.l3 at H
          refine tr_seq ?_
          refine tr_seq ?_
          refine tr_region ?_
          refine tr_p (y_move rfl) rfl rfl ?_
          refine tr_p (y_move rfl) rfl rfl ?_
          refine tr_p (y_len (ts := #[]) Try.runUnderlying23 (o := x1.ptr) (n := x1.len) (cap := x1.cap) rfl) rfl rfl ?_
          refine tr_p (y_lss rfl rfl) rfl rfl ?_
          refine tr_nil ?_
          refine tr_thenN ?_
          refine tr_cond rfl (fun g9 => ?_) (fun g9 => ?_)
          · replace H := H.1 g9
            refine tr_skip ?_
            refine tr_thenN ?_
            refine tr_seq_j (fun L' h => ∃ (x1 : Sl) (x5 : Option Addr) (x7 : Int) (x8 : Option Nat) (x9 : Sl) (x10 : Int), L' = [(1, x1.enc), (5, (.pointer x5)), (7, (.int .i64 x7)), (8, (.map x8)), (9, x9.enc), (10, (.int .i64 x10))] ∧ F.spatelaw9_EpochLives.j4 Q (F.spatelaw9_EpochLives.l3 Q q3) x1 x5 x7 x8 x9 x10 h) ?_ ?_
            · rintro L' h ⟨x1, x5, x7, x8, x9, x10, rfl, H⟩
              unfold F.spatelaw9_EpochLives.j4 at H
              refine tr_region ?_
              refine tr_p (y_move rfl) rfl rfl ?_
              refine tr_p (y_add rfl rfl) rfl rfl ?_
              refine tr_p (y_assign rfl) rfl rfl ?_
              refine tr_nil ?_
              refine tr_thenN ?_
              exact tr_join [(1, x1.enc), (5, (.pointer x5)), (7, (.int .i64 x7)), (8, (.map x8)), (9, x9.enc), (10, (.int .i64 (IntKind.wrap .i64 (x10 + 1))))] ⟨rfl, rfl, rfl, rfl, rfl, rfl, trivial⟩ ⟨_, _, _, _, _, _, rfl, H⟩
            · refine tr_block ?_
              refine tr_seq ?_
              refine tr_region ?_
              refine tr_p (y_move rfl) rfl rfl ?_
              refine tr_p (y_move rfl) rfl rfl ?_
              obtain ⟨a10, e11, H⟩ := H
              refine tr_p (f_idx (s := x1) Try.runUnderlying23 Try.sizeOf31 rfl rfl e11) rfl rfl ?_
              obtain ⟨y12, k13, H⟩ := H
              refine tr_h (y_ldS Try.isAgg31 Try.sizeOf31 rfl rfl) k13 rfl rfl ?_
              refine tr_e (f_alloc (cs := ((⟨0, 0, 0, false⟩ : S_spatelaw9_Step) : S_spatelaw9_Step).cells.toArray) Try.zeroValue31 rfl H) rfl rfl ?_
              rintro _ h14 ⟨a15, rfl, H⟩
              refine tr_e (f_store (vs := y12.cells) Try.sizeOf31 rfl rfl cellsOfStruct rfl (by intro v hv; exact ones_S_spatelaw9_Step _ v hv) H) rfl rfl ?_
              rintro _ h16 ⟨rfl, H⟩
              refine tr_nil ?_
              refine tr_thenN ?_
              refine tr_seq ?_
              refine tr_region ?_
              refine tr_p (y_move rfl) rfl rfl ?_
              refine tr_e (e_call Try.call11 rfl (F.epoch_Book_Held_ok H)) rfl rfl ?_
              rintro _ h17 ⟨r18, rfl, H⟩
              refine tr_p (y_assign rfl) rfl rfl ?_
              refine tr_nil ?_
              refine tr_thenN ?_
              refine tr_seq ?_
              refine tr_region ?_
              refine tr_p (y_move rfl) rfl rfl ?_
              refine tr_e (e_call Try.call12 rfl (F.epoch_Book_Dying_ok H)) rfl rfl ?_
              rintro _ h19 ⟨r20, rfl, H⟩
              refine tr_p (y_assign rfl) rfl rfl ?_
              refine tr_nil ?_
              refine tr_thenN ?_
              refine tr_seq ?_
              refine tr_region ?_
              refine tr_p (y_move rfl) rfl rfl ?_
              obtain ⟨y21, k22, H⟩ := H
              refine tr_h (y_ldS Try.isAgg31 Try.sizeOf31 rfl rfl) k22 rfl rfl ?_
              refine tr_e (e_call Try.call13 rfl (F.spatelaw9_do_ok H)) rfl rfl ?_
              rintro _ h23 ⟨r24, rfl, H⟩
              refine tr_p (y_assign rfl) rfl rfl ?_
              refine tr_nil ?_
              refine tr_thenN ?_
              refine tr_seq_j (fun L' h => ∃ (x1 : Sl) (x5 : Option Addr) (x7 : Int) (x8 : Option Nat) (x9 : Sl) (x10 : Int) (x11 : Addr) (x12 : Sl) (x13 : Sl) (x14 : Bool), L' = [(1, x1.enc), (5, (.pointer x5)), (7, (.int .i64 x7)), (8, (.map x8)), (9, x9.enc), (10, (.int .i64 x10)), (11, (.pointer (some x11))), (12, x12.enc), (13, x13.enc), (14, (.bool x14))] ∧ F.spatelaw9_EpochLives.j5 Q (F.spatelaw9_EpochLives.l3 Q q3) x1 x5 x7 x8 x9 x10 x11 x12 x13 x14 h) ?_ ?_
              · rintro L' h ⟨x1, x5, x7, x8, x9, x10, x11, x12, x13, x14, rfl, H⟩
                unfold F.spatelaw9_EpochLives.j5 at H
                refine tr_seq_j (fun L' h => ∃ (x1 : Sl) (x5 : Option Addr) (x7 : Int) (x8 : Option Nat) (x9 : Sl) (x10 : Int) (x11 : Addr) (x13 : Sl) (x14 : Bool), L' = [(1, x1.enc), (5, (.pointer x5)), (7, (.int .i64 x7)), (8, (.map x8)), (9, x9.enc), (10, (.int .i64 x10)), (11, (.pointer (some x11))), (13, x13.enc), (14, (.bool x14))] ∧ F.spatelaw9_EpochLives.j6 Q (F.spatelaw9_EpochLives.l3 Q q3) x1 x5 x7 x8 x9 x10 x11 x13 x14 h) ?_ ?_
                · rintro L' h ⟨x1, x5, x7, x8, x9, x10, x11, x13, x14, rfl, H⟩
                  unfold F.spatelaw9_EpochLives.j6 at H
                  refine tr_seq_j (fun L' h => ∃ (x1 : Sl) (x5 : Option Addr) (x7 : Int) (x8 : Option Nat) (x9 : Sl) (x10 : Int) (x11 : Addr) (x14 : Bool), L' = [(1, x1.enc), (5, (.pointer x5)), (7, (.int .i64 x7)), (8, (.map x8)), (9, x9.enc), (10, (.int .i64 x10)), (11, (.pointer (some x11))), (14, (.bool x14))] ∧ F.spatelaw9_EpochLives.j7 Q (F.spatelaw9_EpochLives.l3 Q q3) x1 x5 x7 x8 x9 x10 x11 x14 h) ?_ ?_
                  · rintro L' h ⟨x1, x5, x7, x8, x9, x10, x11, x14, rfl, H⟩
                    unfold F.spatelaw9_EpochLives.j7 at H
                    refine tr_seq_j (fun L' h => ∃ (x1 : Sl) (x5 : Option Addr) (x7 : Int) (x8 : Option Nat) (x9 : Sl) (x10 : Int), L' = [(1, x1.enc), (5, (.pointer x5)), (7, (.int .i64 x7)), (8, (.map x8)), (9, x9.enc), (10, (.int .i64 x10))] ∧ F.spatelaw9_EpochLives.j8 Q (F.spatelaw9_EpochLives.l3 Q q3) x1 x5 x7 x8 x9 x10 h) ?_ ?_
                    · rintro L' h ⟨x1, x5, x7, x8, x9, x10, rfl, H⟩
                      unfold F.spatelaw9_EpochLives.j8 at H
                      refine tr_seq_j (fun L' h => ∃ (x1 : Sl) (x5 : Option Addr) (x7 : Int) (x8 : Option Nat) (x9 : Sl) (x10 : Int) (x139 : Bool), L' = [(1, x1.enc), (5, (.pointer x5)), (7, (.int .i64 x7)), (8, (.map x8)), (9, x9.enc), (10, (.int .i64 x10)), (139, (.bool x139))] ∧ F.spatelaw9_EpochLives.j9 Q (F.spatelaw9_EpochLives.l3 Q q3) x1 x5 x7 x8 x9 x10 x139 h) ?_ ?_
                      · rintro L' h ⟨x1, x5, x7, x8, x9, x10, x139, rfl, H⟩
                        unfold F.spatelaw9_EpochLives.j9 at H
                        refine tr_cond rfl (fun g25 => ?_) (fun g25 => ?_)
                        · replace H := H.1 g25
                          refine tr_seq ?_
                          refine tr_region ?_
                          refine tr_p (y_assign rfl) rfl rfl ?_
                          refine tr_nil ?_
                          refine tr_thenN ?_
                          refine tr_ret ?_
                          refine tr_blockR ?_
                          refine tr_thenR ?_
                          refine tr_thenR ?_
                          refine tr_blockR ?_
                          refine tr_thenR ?_
                          exact tr_ret1 rfl rfl ⟨_, rfl, H⟩
                        · replace H := H.2 g25
                          refine tr_skip ?_
                          refine tr_blockN ?_
                          refine tr_thenN ?_
                          exact tr_join [(1, x1.enc), (5, (.pointer x5)), (7, (.int .i64 x7)), (8, (.map x8)), (9, x9.enc), (10, (.int .i64 x10))] ⟨rfl, rfl, rfl, rfl, rfl, rfl, trivial⟩ ⟨_, _, _, _, _, _, rfl, H⟩
                      · refine tr_region ?_
                        refine tr_p (y_move rfl) rfl rfl ?_
                        refine tr_e (e_call Try.call15 rfl (F.epoch_Book_Now_ok H)) rfl rfl ?_
                        rintro _ h26 ⟨r27, rfl, H⟩
                        refine tr_p (y_move rfl) rfl rfl ?_
                        refine tr_p (y_add rfl rfl) rfl rfl ?_
                        refine tr_p (y_neq rfl rfl) rfl rfl ?_
                        refine tr_p (y_move rfl) rfl rfl ?_
                        refine tr_split (t := 118) rfl (fun g28 => ?_) (fun g28 => ?_)
                        · replace H := H.1 g28
                          refine tr_s rfl rfl ?_
                          refine tr_s rfl rfl ?_
                          refine tr_s rfl rfl ?_
                          refine tr_s rfl rfl ?_
                          refine tr_s rfl rfl ?_
                          refine tr_s rfl rfl ?_
                          refine tr_s rfl rfl ?_
                          refine tr_s rfl rfl ?_
                          refine tr_s rfl rfl ?_
                          refine tr_s rfl rfl ?_
                          refine tr_p (y_pick_t rfl rfl) rfl rfl ?_
                          refine tr_p (y_move rfl) rfl rfl ?_
                          refine tr_s rfl rfl ?_
                          refine tr_s rfl rfl ?_
                          refine tr_s rfl rfl ?_
                          refine tr_s rfl rfl ?_
                          refine tr_s rfl rfl ?_
                          refine tr_s rfl rfl ?_
                          refine tr_s rfl rfl ?_
                          refine tr_s rfl rfl ?_
                          refine tr_p (y_pick_t rfl rfl) rfl rfl ?_
                          refine tr_nil ?_
                          refine tr_thenN ?_
                          exact tr_join [(1, x1.enc), (5, (.pointer x5)), (7, (.int .i64 x7)), (8, (.map x8)), (9, x9.enc), (10, (.int .i64 x10)), (139, (.bool true))] ⟨rfl, rfl, rfl, rfl, rfl, rfl, rfl, trivial⟩ ⟨_, _, _, _, _, _, _, rfl, H⟩
                        · replace H := H.2 g28
                          refine tr_p (y_move rfl) rfl rfl ?_
                          refine tr_e (e_call Try.call16 rfl (F.epoch_Book_Live_ok H)) rfl rfl ?_
                          rintro _ h29 ⟨r30, rfl, H⟩
                          refine tr_p (y_move rfl) rfl rfl ?_
                          refine tr_e (e_call Try.call11 rfl (F.epoch_Book_Held_ok H)) rfl rfl ?_
                          rintro _ h31 ⟨r32, rfl, H⟩
                          refine tr_p (y_len (ts := #[]) Try.runUnderlying29 (o := r32.ptr) (n := r32.len) (cap := r32.cap) rfl) rfl rfl ?_
                          refine tr_p (y_move rfl) rfl rfl ?_
                          refine tr_e (e_call Try.call12 rfl (F.epoch_Book_Dying_ok H)) rfl rfl ?_
                          rintro _ h33 ⟨r34, rfl, H⟩
                          refine tr_p (y_len (ts := #[]) Try.runUnderlying29 (o := r34.ptr) (n := r34.len) (cap := r34.cap) rfl) rfl rfl ?_
                          refine tr_p (y_add rfl rfl) rfl rfl ?_
                          refine tr_p (y_neq rfl rfl) rfl rfl ?_
                          refine tr_p (y_pick_f rfl rfl) rfl rfl ?_
                          refine tr_p (y_move rfl) rfl rfl ?_
                          refine tr_split (t := 130) rfl (fun g35 => ?_) (fun g35 => ?_)
                          · replace H := H.1 g35
                            refine tr_s rfl rfl ?_
                            refine tr_s rfl rfl ?_
                            refine tr_s rfl rfl ?_
                            refine tr_s rfl rfl ?_
                            refine tr_s rfl rfl ?_
                            refine tr_s rfl rfl ?_
                            refine tr_s rfl rfl ?_
                            refine tr_s rfl rfl ?_
                            refine tr_p (y_pick_t rfl rfl) rfl rfl ?_
                            refine tr_nil ?_
                            refine tr_thenN ?_
                            exact tr_join [(1, x1.enc), (5, (.pointer x5)), (7, (.int .i64 x7)), (8, (.map x8)), (9, x9.enc), (10, (.int .i64 x10)), (139, (.bool true))] ⟨rfl, rfl, rfl, rfl, rfl, rfl, rfl, trivial⟩ ⟨_, _, _, _, _, _, _, rfl, H⟩
                          · replace H := H.2 g35
                            refine tr_p (y_move rfl) rfl rfl ?_
                            refine tr_p (y_move rfl) rfl rfl ?_
                            refine tr_e (e_call Try.call11 rfl (F.epoch_Book_Held_ok H)) rfl rfl ?_
                            rintro _ h36 ⟨r37, rfl, H⟩
                            refine tr_p (y_move rfl) rfl rfl ?_
                            refine tr_e (e_call Try.call12 rfl (F.epoch_Book_Dying_ok H)) rfl rfl ?_
                            rintro _ h38 ⟨r39, rfl, H⟩
                            refine tr_p (y_move rfl) rfl rfl ?_
                            refine tr_e (e_call Try.call17 rfl (F.spatelaw9_moved_ok H)) rfl rfl ?_
                            rintro _ h40 ⟨r41, rfl, H⟩
                            refine tr_p (y_not rfl) rfl rfl ?_
                            refine tr_p (y_pick_f rfl rfl) rfl rfl ?_
                            refine tr_nil ?_
                            refine tr_thenN ?_
                            exact tr_join [(1, x1.enc), (5, (.pointer x5)), (7, (.int .i64 x7)), (8, (.map x8)), (9, x9.enc), (10, (.int .i64 x10)), (139, (.bool (!r41)))] ⟨rfl, rfl, rfl, rfl, rfl, rfl, rfl, trivial⟩ ⟨_, _, _, _, _, _, _, rfl, H⟩
                    · refine tr_seq_j (fun L' h => ∃ (x1 : Sl) (x5 : Option Addr) (x7 : Int) (x8 : Option Nat) (x9 : Sl) (x10 : Int) (x101 : Bool), L' = [(1, x1.enc), (5, (.pointer x5)), (7, (.int .i64 x7)), (8, (.map x8)), (9, x9.enc), (10, (.int .i64 x10)), (101, (.bool x101))] ∧ F.spatelaw9_EpochLives.j10 Q (F.spatelaw9_EpochLives.l3 Q q3) x1 x5 x7 x8 x9 x10 x101 h) ?_ ?_
                      · rintro L' h ⟨x1, x5, x7, x8, x9, x10, x101, rfl, H⟩
                        unfold F.spatelaw9_EpochLives.j10 at H
                        refine tr_cond rfl (fun g42 => ?_) (fun g42 => ?_)
                        · replace H := H.1 g42
                          refine tr_seq ?_
                          refine tr_region ?_
                          refine tr_p (y_assign rfl) rfl rfl ?_
                          refine tr_nil ?_
                          refine tr_thenN ?_
                          refine tr_block ?_
                          obtain ⟨m49, H⟩ := H
                          refine tr_sub [(1, x1.enc), (5, (.pointer x5)), (7, (.int .i64 x7)), (8, (.map x8)), (9, x9.enc), (10, (.int .i64 x10)), (15, (.int .i64 0))] ⟨rfl, rfl, rfl, rfl, rfl, rfl, rfl, trivial⟩ ?_
                          refine tr_loop_j (fun m L' h => ∃ (x1 : Sl) (x5 : Option Addr) (x7 : Int) (x8 : Option Nat) (x9 : Sl) (x10 : Int) (x15 : Int), L' = [(1, x1.enc), (5, (.pointer x5)), (7, (.int .i64 x7)), (8, (.map x8)), (9, x9.enc), (10, (.int .i64 x10)), (15, (.int .i64 x15))] ∧ F.spatelaw9_EpochLives.l11 Q (F.spatelaw9_EpochLives.l3 Q q3) m x1 x5 x7 x8 x9 x10 x15 h) ?_ ?_ m49 ⟨_, _, _, _, _, _, _, rfl, H⟩
                          · rintro L' h ⟨_, _, _, _, _, _, _, _, H⟩; exact H
                          · rintro q11 L' h ⟨x1, x5, x7, x8, x9, x10, x15, rfl, H⟩
                            unfold F.spatelaw9_EpochLives.l11 at H
                            refine tr_seq ?_
                            refine tr_seq ?_
                            refine tr_region ?_
                            refine tr_p (y_move rfl) rfl rfl ?_
                            refine tr_p (y_move rfl) rfl rfl ?_
                            refine tr_p (y_len (ts := #[]) Try.runUnderlying29 (o := x9.ptr) (n := x9.len) (cap := x9.cap) rfl) rfl rfl ?_
                            refine tr_p (y_lss rfl rfl) rfl rfl ?_
                            refine tr_nil ?_
                            refine tr_thenN ?_
                            refine tr_cond rfl (fun g43 => ?_) (fun g43 => ?_)
                            · replace H := H.1 g43
                              refine tr_skip ?_
                              refine tr_thenN ?_
                              refine tr_seq ?_
                              refine tr_block ?_
                              refine tr_region ?_
                              refine tr_p (y_move rfl) rfl rfl ?_
                              refine tr_p (y_move rfl) rfl rfl ?_
                              refine tr_p (y_move rfl) rfl rfl ?_
                              obtain ⟨a44, e45, H⟩ := H
                              refine tr_p (f_idx (s := x9) Try.runUnderlying29 Try.sizeOf3 rfl rfl e45) rfl rfl ?_
                              obtain ⟨y46, k47, H⟩ := H
                              refine tr_h (y_ld Try.isAgg3 rfl) k47 rfl rfl ?_
                              refine tr_e (f_mu rfl rfl rfl H) rfl rfl ?_
                              rintro _ h48 ⟨rfl, H⟩
                              refine tr_nil ?_
                              refine tr_blockN ?_
                              refine tr_thenN ?_
                              refine tr_region ?_
                              refine tr_p (y_move rfl) rfl rfl ?_
                              refine tr_p (y_add rfl rfl) rfl rfl ?_
                              refine tr_p (y_assign rfl) rfl rfl ?_
                              refine tr_nil ?_
                              refine tr_thenN ?_
                              exact tr_join [(1, x1.enc), (5, (.pointer x5)), (7, (.int .i64 x7)), (8, (.map x8)), (9, x9.enc), (10, (.int .i64 x10)), (15, (.int .i64 (IntKind.wrap .i64 (x15 + 1))))] ⟨rfl, rfl, rfl, rfl, rfl, rfl, rfl, trivial⟩ ⟨_, _, _, _, _, _, _, rfl, H⟩
                            · replace H := H.2 g43
                              refine tr_exit ?_
                              refine tr_thenE ?_
                              refine tr_thenE ?_
                              refine tr_hit ?_
                              refine tr_thenN ?_
                              exact tr_join [(1, x1.enc), (5, (.pointer x5)), (7, (.int .i64 x7)), (8, (.map x8)), (9, x9.enc), (10, (.int .i64 x10))] ⟨rfl, rfl, rfl, rfl, rfl, rfl, trivial⟩ ⟨_, _, _, _, _, _, rfl, H⟩
                        · replace H := H.2 g42
                          refine tr_skip ?_
                          refine tr_thenN ?_
                          exact tr_join [(1, x1.enc), (5, (.pointer x5)), (7, (.int .i64 x7)), (8, (.map x8)), (9, x9.enc), (10, (.int .i64 x10))] ⟨rfl, rfl, rfl, rfl, rfl, rfl, trivial⟩ ⟨_, _, _, _, _, _, rfl, H⟩
                      · refine tr_region ?_
                        refine tr_p (y_move rfl) rfl rfl ?_
                        refine tr_p (y_move rfl) rfl rfl ?_
                        refine tr_split (t := 97) rfl (fun g50 => ?_) (fun g50 => ?_)
                        · replace H := H.1 g50
                          refine tr_p (y_fa (off := 0) Try.runUnderlying31 fo_31_0 rfl) rfl rfl ?_
                          obtain ⟨y51, k52, H⟩ := H
                          refine tr_h (y_ld Try.isAgg3 rfl) k52 rfl rfl ?_
                          refine tr_p (y_eql rfl rfl) rfl rfl ?_
                          refine tr_p (y_pick_t rfl rfl) rfl rfl ?_
                          refine tr_nil ?_
                          refine tr_thenN ?_
                          exact tr_join [(1, x1.enc), (5, (.pointer x5)), (7, (.int .i64 x7)), (8, (.map x8)), (9, x9.enc), (10, (.int .i64 x10)), (101, (.bool ((y51 == 8))))] ⟨rfl, rfl, rfl, rfl, rfl, rfl, rfl, trivial⟩ ⟨_, _, _, _, _, _, _, rfl, H⟩
                        · replace H := H.2 g50
                          refine tr_s rfl rfl ?_
                          refine tr_s rfl rfl ?_
                          refine tr_s rfl rfl ?_
                          refine tr_p (y_pick_f rfl rfl) rfl rfl ?_
                          refine tr_nil ?_
                          refine tr_thenN ?_
                          exact tr_join [(1, x1.enc), (5, (.pointer x5)), (7, (.int .i64 x7)), (8, (.map x8)), (9, x9.enc), (10, (.int .i64 x10)), (101, (.bool false))] ⟨rfl, rfl, rfl, rfl, rfl, rfl, rfl, trivial⟩ ⟨_, _, _, _, _, _, _, rfl, H⟩
                  · refine tr_seq_j (fun L' h => ∃ (x1 : Sl) (x5 : Option Addr) (x7 : Int) (x8 : Option Nat) (x9 : Sl) (x10 : Int) (x11 : Addr) (x13 : Sl) (x14 : Bool) (x94 : Bool), L' = [(1, x1.enc), (5, (.pointer x5)), (7, (.int .i64 x7)), (8, (.map x8)), (9, x9.enc), (10, (.int .i64 x10)), (11, (.pointer (some x11))), (13, x13.enc), (14, (.bool x14)), (94, (.bool x94))] ∧ F.spatelaw9_EpochLives.j12 Q (F.spatelaw9_EpochLives.l3 Q q3) x1 x5 x7 x8 x9 x10 x11 x13 x14 x94 h) ?_ ?_
                    · rintro L' h ⟨x1, x5, x7, x8, x9, x10, x11, x13, x14, x94, rfl, H⟩
                      unfold F.spatelaw9_EpochLives.j12 at H
                      refine tr_cond rfl (fun g53 => ?_) (fun g53 => ?_)
                      · replace H := H.1 g53
                        refine tr_region ?_
                        refine tr_p (y_move rfl) rfl rfl ?_
                        refine tr_p (y_assign rfl) rfl rfl ?_
                        refine tr_nil ?_
                        refine tr_thenN ?_
                        exact tr_join [(1, x1.enc), (5, (.pointer x5)), (7, (.int .i64 x7)), (8, (.map x8)), (9, x13.enc), (10, (.int .i64 x10)), (11, (.pointer (some x11))), (14, (.bool x14))] ⟨rfl, rfl, rfl, rfl, rfl, rfl, rfl, rfl, trivial⟩ ⟨_, _, _, _, _, _, _, _, rfl, H⟩
                      · replace H := H.2 g53
                        refine tr_skip ?_
                        refine tr_thenN ?_
                        exact tr_join [(1, x1.enc), (5, (.pointer x5)), (7, (.int .i64 x7)), (8, (.map x8)), (9, x9.enc), (10, (.int .i64 x10)), (11, (.pointer (some x11))), (14, (.bool x14))] ⟨rfl, rfl, rfl, rfl, rfl, rfl, rfl, rfl, trivial⟩ ⟨_, _, _, _, _, _, _, _, rfl, H⟩
                    · refine tr_region ?_
                      refine tr_p (y_move rfl) rfl rfl ?_
                      refine tr_p (y_move rfl) rfl rfl ?_
                      refine tr_split (t := 90) rfl (fun g54 => ?_) (fun g54 => ?_)
                      · replace H := H.1 g54
                        refine tr_p (y_fa (off := 0) Try.runUnderlying31 fo_31_0 rfl) rfl rfl ?_
                        obtain ⟨y55, k56, H⟩ := H
                        refine tr_h (y_ld Try.isAgg3 rfl) k56 rfl rfl ?_
                        refine tr_p (y_eql rfl rfl) rfl rfl ?_
                        refine tr_p (y_pick_t rfl rfl) rfl rfl ?_
                        refine tr_nil ?_
                        refine tr_thenN ?_
                        exact tr_join [(1, x1.enc), (5, (.pointer x5)), (7, (.int .i64 x7)), (8, (.map x8)), (9, x9.enc), (10, (.int .i64 x10)), (11, (.pointer (some x11))), (13, x13.enc), (14, (.bool x14)), (94, (.bool ((y55 == 7))))] ⟨rfl, rfl, rfl, rfl, rfl, rfl, rfl, rfl, rfl, rfl, trivial⟩ ⟨_, _, _, _, _, _, _, _, _, _, rfl, H⟩
                      · replace H := H.2 g54
                        refine tr_s rfl rfl ?_
                        refine tr_s rfl rfl ?_
                        refine tr_s rfl rfl ?_
                        refine tr_p (y_pick_f rfl rfl) rfl rfl ?_
                        refine tr_nil ?_
                        refine tr_thenN ?_
                        exact tr_join [(1, x1.enc), (5, (.pointer x5)), (7, (.int .i64 x7)), (8, (.map x8)), (9, x9.enc), (10, (.int .i64 x10)), (11, (.pointer (some x11))), (13, x13.enc), (14, (.bool x14)), (94, (.bool false))] ⟨rfl, rfl, rfl, rfl, rfl, rfl, rfl, rfl, rfl, rfl, trivial⟩ ⟨_, _, _, _, _, _, _, _, _, _, rfl, H⟩
                · refine tr_seq_j (fun L' h => ∃ (x1 : Sl) (x5 : Option Addr) (x7 : Int) (x8 : Option Nat) (x9 : Sl) (x10 : Int) (x11 : Addr) (x13 : Sl) (x14 : Bool) (x88 : Bool), L' = [(1, x1.enc), (5, (.pointer x5)), (7, (.int .i64 x7)), (8, (.map x8)), (9, x9.enc), (10, (.int .i64 x10)), (11, (.pointer (some x11))), (13, x13.enc), (14, (.bool x14)), (88, (.bool x88))] ∧ F.spatelaw9_EpochLives.j13 Q (F.spatelaw9_EpochLives.l3 Q q3) x1 x5 x7 x8 x9 x10 x11 x13 x14 x88 h) ?_ ?_
                  · rintro L' h ⟨x1, x5, x7, x8, x9, x10, x11, x13, x14, x88, rfl, H⟩
                    unfold F.spatelaw9_EpochLives.j13 at H
                    refine tr_cond rfl (fun g57 => ?_) (fun g57 => ?_)
                    · replace H := H.1 g57
                      refine tr_seq ?_
                      refine tr_region ?_
                      refine tr_p (y_assign rfl) rfl rfl ?_
                      refine tr_nil ?_
                      refine tr_thenN ?_
                      refine tr_ret ?_
                      refine tr_thenR ?_
                      refine tr_blockR ?_
                      refine tr_thenR ?_
                      refine tr_thenR ?_
                      refine tr_blockR ?_
                      refine tr_thenR ?_
                      exact tr_ret1 rfl rfl ⟨_, rfl, H⟩
                    · replace H := H.2 g57
                      refine tr_skip ?_
                      refine tr_thenN ?_
                      exact tr_join [(1, x1.enc), (5, (.pointer x5)), (7, (.int .i64 x7)), (8, (.map x8)), (9, x9.enc), (10, (.int .i64 x10)), (11, (.pointer (some x11))), (13, x13.enc), (14, (.bool x14))] ⟨rfl, rfl, rfl, rfl, rfl, rfl, rfl, rfl, rfl, trivial⟩ ⟨_, _, _, _, _, _, _, _, _, rfl, H⟩
                  · refine tr_region ?_
                    refine tr_p (y_move rfl) rfl rfl ?_
                    refine tr_p (y_not rfl) rfl rfl ?_
                    refine tr_p (y_move rfl) rfl rfl ?_
                    refine tr_split (t := 75) rfl (fun g58 => ?_) (fun g58 => ?_)
                    · replace H := H.1 g58
                      refine tr_p (y_move rfl) rfl rfl ?_
                      refine tr_p (y_move rfl) rfl rfl ?_
                      refine tr_e (e_call Try.call11 rfl (F.epoch_Book_Held_ok H)) rfl rfl ?_
                      rintro _ h59 ⟨r60, rfl, H⟩
                      refine tr_e (e_call Try.call14 rfl (F.spatelaw9_ints_ok H)) rfl rfl ?_
                      rintro _ h61 ⟨r62, rfl, H⟩
                      refine tr_p (y_not rfl) rfl rfl ?_
                      refine tr_p (y_move rfl) rfl rfl ?_
                      refine tr_split (t := 81) rfl (fun g63 => ?_) (fun g63 => ?_)
                      · replace H := H.1 g63
                        refine tr_s rfl rfl ?_
                        refine tr_s rfl rfl ?_
                        refine tr_s rfl rfl ?_
                        refine tr_s rfl rfl ?_
                        refine tr_s rfl rfl ?_
                        refine tr_p (y_pick_t rfl rfl) rfl rfl ?_
                        refine tr_p (y_pick_t rfl rfl) rfl rfl ?_
                        refine tr_nil ?_
                        refine tr_thenN ?_
                        exact tr_join [(1, x1.enc), (5, (.pointer x5)), (7, (.int .i64 x7)), (8, (.map x8)), (9, x9.enc), (10, (.int .i64 x10)), (11, (.pointer (some x11))), (13, x13.enc), (14, (.bool x14)), (88, (.bool true))] ⟨rfl, rfl, rfl, rfl, rfl, rfl, rfl, rfl, rfl, rfl, trivial⟩ ⟨_, _, _, _, _, _, _, _, _, _, rfl, H⟩
                      · replace H := H.2 g63
                        refine tr_p (y_move rfl) rfl rfl ?_
                        refine tr_p (y_move rfl) rfl rfl ?_
                        refine tr_e (e_call Try.call12 rfl (F.epoch_Book_Dying_ok H)) rfl rfl ?_
                        rintro _ h64 ⟨r65, rfl, H⟩
                        refine tr_e (e_call Try.call14 rfl (F.spatelaw9_ints_ok H)) rfl rfl ?_
                        rintro _ h66 ⟨r67, rfl, H⟩
                        refine tr_p (y_not rfl) rfl rfl ?_
                        refine tr_p (y_pick_f rfl rfl) rfl rfl ?_
                        refine tr_p (y_pick_t rfl rfl) rfl rfl ?_
                        refine tr_nil ?_
                        refine tr_thenN ?_
                        exact tr_join [(1, x1.enc), (5, (.pointer x5)), (7, (.int .i64 x7)), (8, (.map x8)), (9, x9.enc), (10, (.int .i64 x10)), (11, (.pointer (some x11))), (13, x13.enc), (14, (.bool x14)), (88, (.bool (!r67)))] ⟨rfl, rfl, rfl, rfl, rfl, rfl, rfl, rfl, rfl, rfl, trivial⟩ ⟨_, _, _, _, _, _, _, _, _, _, rfl, H⟩
                    · replace H := H.2 g58
                      refine tr_s rfl rfl ?_
                      refine tr_s rfl rfl ?_
                      refine tr_s rfl rfl ?_
                      refine tr_s rfl rfl ?_
                      refine tr_s rfl rfl ?_
                      refine tr_s rfl rfl ?_
                      refine tr_s rfl rfl ?_
                      refine tr_s rfl rfl ?_
                      refine tr_s rfl rfl ?_
                      refine tr_s rfl rfl ?_
                      refine tr_s rfl rfl ?_
                      refine tr_s rfl rfl ?_
                      refine tr_p (y_pick_f rfl rfl) rfl rfl ?_
                      refine tr_nil ?_
                      refine tr_thenN ?_
                      exact tr_join [(1, x1.enc), (5, (.pointer x5)), (7, (.int .i64 x7)), (8, (.map x8)), (9, x9.enc), (10, (.int .i64 x10)), (11, (.pointer (some x11))), (13, x13.enc), (14, (.bool x14)), (88, (.bool false))] ⟨rfl, rfl, rfl, rfl, rfl, rfl, rfl, rfl, rfl, rfl, trivial⟩ ⟨_, _, _, _, _, _, _, _, _, _, rfl, H⟩
              · refine tr_seq_j (fun L' h => ∃ (x1 : Sl) (x5 : Option Addr) (x7 : Int) (x8 : Option Nat) (x9 : Sl) (x10 : Int) (x11 : Addr) (x12 : Sl) (x13 : Sl) (x14 : Bool) (x68 : Bool), L' = [(1, x1.enc), (5, (.pointer x5)), (7, (.int .i64 x7)), (8, (.map x8)), (9, x9.enc), (10, (.int .i64 x10)), (11, (.pointer (some x11))), (12, x12.enc), (13, x13.enc), (14, (.bool x14)), (68, (.bool x68))] ∧ F.spatelaw9_EpochLives.j14 Q (F.spatelaw9_EpochLives.l3 Q q3) x1 x5 x7 x8 x9 x10 x11 x12 x13 x14 x68 h) ?_ ?_
                · rintro L' h ⟨x1, x5, x7, x8, x9, x10, x11, x12, x13, x14, x68, rfl, H⟩
                  unfold F.spatelaw9_EpochLives.j14 at H
                  refine tr_cond rfl (fun g68 => ?_) (fun g68 => ?_)
                  · replace H := H.1 g68
                    refine tr_seq ?_
                    refine tr_region ?_
                    refine tr_p (y_move rfl) rfl rfl ?_
                    refine tr_p (y_add rfl rfl) rfl rfl ?_
                    refine tr_p (y_assign rfl) rfl rfl ?_
                    refine tr_nil ?_
                    refine tr_thenN ?_
                    refine tr_region ?_
                    refine tr_p (y_move rfl) rfl rfl ?_
                    refine tr_p (y_move rfl) rfl rfl ?_
                    refine tr_e (f_mu rfl rfl rfl H) rfl rfl ?_
                    rintro _ h69 ⟨rfl, H⟩
                    refine tr_nil ?_
                    refine tr_thenN ?_
                    exact tr_join [(1, x1.enc), (5, (.pointer x5)), (7, (.int .i64 (IntKind.wrap .i64 (x7 + 1)))), (8, (.map x8)), (9, x9.enc), (10, (.int .i64 x10)), (11, (.pointer (some x11))), (12, x12.enc), (13, x13.enc), (14, (.bool x14))] ⟨rfl, rfl, rfl, rfl, rfl, rfl, rfl, rfl, rfl, rfl, trivial⟩ ⟨_, _, _, _, _, _, _, _, _, _, rfl, H⟩
                  · replace H := H.2 g68
                    refine tr_skip ?_
                    refine tr_thenN ?_
                    exact tr_join [(1, x1.enc), (5, (.pointer x5)), (7, (.int .i64 x7)), (8, (.map x8)), (9, x9.enc), (10, (.int .i64 x10)), (11, (.pointer (some x11))), (12, x12.enc), (13, x13.enc), (14, (.bool x14))] ⟨rfl, rfl, rfl, rfl, rfl, rfl, rfl, rfl, rfl, rfl, trivial⟩ ⟨_, _, _, _, _, _, _, _, _, _, rfl, H⟩
                · refine tr_region ?_
                  refine tr_p (y_move rfl) rfl rfl ?_
                  refine tr_p (y_move rfl) rfl rfl ?_
                  refine tr_split (t := 59) rfl (fun g70 => ?_) (fun g70 => ?_)
                  · replace H := H.1 g70
                    refine tr_p (y_fa (off := 0) Try.runUnderlying31 fo_31_0 rfl) rfl rfl ?_
                    obtain ⟨y71, k72, H⟩ := H
                    refine tr_h (y_ld Try.isAgg3 rfl) k72 rfl rfl ?_
                    refine tr_p (y_eql rfl rfl) rfl rfl ?_
                    refine tr_p (y_move rfl) rfl rfl ?_
                    refine tr_split (t := 63) rfl (fun g73 => ?_) (fun g73 => ?_)
                    · replace H := H.1 g73
                      refine tr_s rfl rfl ?_
                      refine tr_s rfl rfl ?_
                      refine tr_s rfl rfl ?_
                      refine tr_p (y_pick_t rfl rfl) rfl rfl ?_
                      refine tr_p (y_pick_t rfl rfl) rfl rfl ?_
                      refine tr_nil ?_
                      refine tr_thenN ?_
                      exact tr_join [(1, x1.enc), (5, (.pointer x5)), (7, (.int .i64 x7)), (8, (.map x8)), (9, x9.enc), (10, (.int .i64 x10)), (11, (.pointer (some a15))), (12, r18.enc), (13, r20.enc), (14, (.bool r24)), (68, (.bool true))] ⟨rfl, rfl, rfl, rfl, rfl, rfl, rfl, rfl, rfl, rfl, rfl, trivial⟩ ⟨_, _, _, _, _, _, _, _, _, _, _, rfl, H⟩
                    · replace H := H.2 g73
                      refine tr_p (y_fa (off := 0) Try.runUnderlying31 fo_31_0 rfl) rfl rfl ?_
                      obtain ⟨y74, k75, H⟩ := H
                      refine tr_h (y_ld Try.isAgg3 rfl) k75 rfl rfl ?_
                      refine tr_p (y_eql rfl rfl) rfl rfl ?_
                      refine tr_p (y_pick_f rfl rfl) rfl rfl ?_
                      refine tr_p (y_pick_t rfl rfl) rfl rfl ?_
                      refine tr_nil ?_
                      refine tr_thenN ?_
                      exact tr_join [(1, x1.enc), (5, (.pointer x5)), (7, (.int .i64 x7)), (8, (.map x8)), (9, x9.enc), (10, (.int .i64 x10)), (11, (.pointer (some a15))), (12, r18.enc), (13, r20.enc), (14, (.bool r24)), (68, (.bool ((y74 == 2))))] ⟨rfl, rfl, rfl, rfl, rfl, rfl, rfl, rfl, rfl, rfl, rfl, trivial⟩ ⟨_, _, _, _, _, _, _, _, _, _, _, rfl, H⟩
                  · replace H := H.2 g70
                    refine tr_s rfl rfl ?_
                    refine tr_s rfl rfl ?_
                    refine tr_s rfl rfl ?_
                    refine tr_s rfl rfl ?_
                    refine tr_s rfl rfl ?_
                    refine tr_s rfl rfl ?_
                    refine tr_s rfl rfl ?_
                    refine tr_s rfl rfl ?_
                    refine tr_p (y_pick_f rfl rfl) rfl rfl ?_
                    refine tr_nil ?_
                    refine tr_thenN ?_
                    exact tr_join [(1, x1.enc), (5, (.pointer x5)), (7, (.int .i64 x7)), (8, (.map x8)), (9, x9.enc), (10, (.int .i64 x10)), (11, (.pointer (some a15))), (12, r18.enc), (13, r20.enc), (14, (.bool r24)), (68, (.bool false))] ⟨rfl, rfl, rfl, rfl, rfl, rfl, rfl, rfl, rfl, rfl, rfl, trivial⟩ ⟨_, _, _, _, _, _, _, _, _, _, _, rfl, H⟩
          · replace H := H.2 g9
            refine tr_exit ?_
            refine tr_thenE ?_
            refine tr_thenE ?_
            refine tr_hit ?_
            refine tr_thenN ?_
            refine tr_seq ?_
            refine tr_region ?_
            refine tr_p (y_assign rfl) rfl rfl ?_
            refine tr_nil ?_
            refine tr_thenN ?_
            refine tr_ret ?_
            exact tr_ret1 rfl rfl ⟨_, rfl, H⟩
      · refine tr_seq_j (fun L' h => ∃ (x1 : Sl) (x5 : Option Addr) (x39 : Bool), L' = [(1, x1.enc), (5, (.pointer x5)), (39, (.bool x39))] ∧ F.spatelaw9_EpochLives.j15 Q x1 x5 x39 h) ?_ ?_
        · rintro L' h ⟨x1, x5, x39, rfl, H⟩
          unfold F.spatelaw9_EpochLives.j15 at H
          refine tr_cond rfl (fun g77 => ?_) (fun g77 => ?_)
          · replace H := H.1 g77
            refine tr_seq ?_
            refine tr_region ?_
            refine tr_p (y_assign rfl) rfl rfl ?_
            refine tr_nil ?_
            refine tr_thenN ?_
            refine tr_ret ?_
            refine tr_thenR ?_
            exact tr_ret1 rfl rfl ⟨_, rfl, H⟩
          · replace H := H.2 g77
            refine tr_skip ?_
            refine tr_thenN ?_
            exact tr_join [(1, x1.enc), (5, (.pointer x5))] ⟨rfl, rfl, trivial⟩ ⟨_, _, rfl, H⟩
        · refine tr_region ?_
          refine tr_p (y_move rfl) rfl rfl ?_
          refine tr_p (y_neq rfl rfl) rfl rfl ?_
          refine tr_p (y_move rfl) rfl rfl ?_
          refine tr_split (t := 36) rfl (fun g78 => ?_) (fun g78 => ?_)
          · replace H := H.1 g78
            refine tr_s rfl rfl ?_
            refine tr_s rfl rfl ?_
            refine tr_p (y_pick_t rfl rfl) rfl rfl ?_
            refine tr_nil ?_
            refine tr_thenN ?_
            exact tr_join [(1, x1.enc), (5, (.pointer r5)), (39, (.bool true))] ⟨rfl, rfl, rfl, trivial⟩ ⟨_, _, _, rfl, H⟩
          · replace H := H.2 g78
            refine tr_p (y_move rfl) rfl rfl ?_
            refine tr_p (y_pnil_eql Try.runUnderlying24 rfl rfl) rfl rfl ?_
            refine tr_p (y_pick_f rfl rfl) rfl rfl ?_
            refine tr_nil ?_
            refine tr_thenN ?_
            exact tr_join [(1, x1.enc), (5, (.pointer r5)), (39, (.bool r5.isNone))] ⟨rfl, rfl, rfl, trivial⟩ ⟨_, _, _, rfl, H⟩
    · refine tr_seq_j (fun L' h => ∃ (x0 : Int) (x1 : Sl) (x28 : Bool), L' = [(0, (.int .i64 x0)), (1, x1.enc), (28, (.bool x28))] ∧ F.spatelaw9_EpochLives.j16 Q x0 x1 x28 h) ?_ ?_
      · rintro L' h ⟨x0, x1, x28, rfl, H⟩
        unfold F.spatelaw9_EpochLives.j16 at H
        refine tr_cond rfl (fun g79 => ?_) (fun g79 => ?_)
        · replace H := H.1 g79
          refine tr_seq ?_
          refine tr_region ?_
          refine tr_p (y_assign rfl) rfl rfl ?_
          refine tr_nil ?_
          refine tr_thenN ?_
          refine tr_ret ?_
          refine tr_thenR ?_
          exact tr_ret1 rfl rfl ⟨_, rfl, H⟩
        · replace H := H.2 g79
          refine tr_skip ?_
          refine tr_thenN ?_
          exact tr_join [(0, (.int .i64 x0)), (1, x1.enc)] ⟨rfl, rfl, trivial⟩ ⟨_, _, rfl, H⟩
      · refine tr_region ?_
        refine tr_p (y_move rfl) rfl rfl ?_
        refine tr_p (y_len (ts := #[]) Try.runUnderlying23 (o := p1.ptr) (n := p1.len) (cap := p1.cap) rfl) rfl rfl ?_
        refine tr_p (y_gtr rfl rfl) rfl rfl ?_
        refine tr_p (y_move rfl) rfl rfl ?_
        refine tr_split (t := 21) rfl (fun g80 => ?_) (fun g80 => ?_)
        · replace H := H.1 g80
          refine tr_s rfl rfl ?_
          refine tr_s rfl rfl ?_
          refine tr_p (y_pick_t rfl rfl) rfl rfl ?_
          refine tr_p (y_move rfl) rfl rfl ?_
          refine tr_s rfl rfl ?_
          refine tr_s rfl rfl ?_
          refine tr_p (y_pick_t rfl rfl) rfl rfl ?_
          refine tr_nil ?_
          refine tr_thenN ?_
          exact tr_join [(0, (.int .i64 p0)), (1, p1.enc), (28, (.bool true))] ⟨rfl, rfl, rfl, trivial⟩ ⟨_, _, _, rfl, H⟩
        · replace H := H.2 g80
          refine tr_p (y_move rfl) rfl rfl ?_
          refine tr_p (y_lss rfl rfl) rfl rfl ?_
          refine tr_p (y_pick_f rfl rfl) rfl rfl ?_
          refine tr_p (y_move rfl) rfl rfl ?_
          refine tr_split (t := 25) rfl (fun g81 => ?_) (fun g81 => ?_)
          · replace H := H.1 g81
            refine tr_s rfl rfl ?_
            refine tr_s rfl rfl ?_
            refine tr_p (y_pick_t rfl rfl) rfl rfl ?_
            refine tr_nil ?_
            refine tr_thenN ?_
            exact tr_join [(0, (.int .i64 p0)), (1, p1.enc), (28, (.bool true))] ⟨rfl, rfl, rfl, trivial⟩ ⟨_, _, _, rfl, H⟩
          · replace H := H.2 g81
            refine tr_p (y_move rfl) rfl rfl ?_
            refine tr_p (y_gtr rfl rfl) rfl rfl ?_
            refine tr_p (y_pick_f rfl rfl) rfl rfl ?_
            refine tr_nil ?_
            refine tr_thenN ?_
            exact tr_join [(0, (.int .i64 p0)), (1, p1.enc), (28, (.bool (decide (p0 > 64))))] ⟨rfl, rfl, rfl, trivial⟩ ⟨_, _, _, rfl, H⟩

def F.spatelaw9_held.j2 (Q : Bool → H → Prop) (C1 : (Option Addr) → (Option Nat) → (Option Nat) → (Option Nat) → Int → H → Prop) (x0 : Option Addr) (x1 : Option Nat) (x2 : Option Nat) (x7 : Option Nat) (x8 : Int) (h : H) : Prop :=
  C1 x0 x1 x2 x7 (IntKind.wrap .i64 (x8 + 1)) h
def F.spatelaw9_held.j6 (Q : Bool → H → Prop) (C1 : (Option Addr) → (Option Nat) → (Option Nat) → (Option Nat) → Int → H → Prop) (C2 : (Option Addr) → (Option Nat) → (Option Nat) → (Option Nat) → Int → Int → H → Prop) (x0 : Option Addr) (x1 : Option Nat) (x2 : Option Nat) (x7 : Option Nat) (x8 : Int) (x10 : Int) (h : H) : Prop :=
  C2 x0 x1 x2 x7 x8 (IntKind.wrap .i64 (x10 + 1)) h
def F.spatelaw9_held.j7 (Q : Bool → H → Prop) (C1 : (Option Addr) → (Option Nat) → (Option Nat) → (Option Nat) → Int → H → Prop) (C2 : (Option Addr) → (Option Nat) → (Option Nat) → (Option Nat) → Int → Int → H → Prop) (x0 : Option Addr) (x1 : Option Nat) (x2 : Option Nat) (x7 : Option Nat) (x8 : Int) (x10 : Int) (x51 : Bool) (h : H) : Prop :=
  (x51 = true →
  Q false h) ∧
  (x51 = false →
  F.spatelaw9_held.j6 Q C1 C2 x0 x1 x2 x7 x8 x10 h)
def F.spatelaw9_held.l5 (Q : Bool → H → Prop) (C1 : (Option Addr) → (Option Nat) → (Option Nat) → (Option Nat) → Int → H → Prop) : Nat → (Option Addr) → (Option Nat) → (Option Nat) → (Option Nat) → Int → Int → H → Prop
  | 0, _, _, _, _, _, _, _ => False
  | q5 + 1, x0, x1, x2, x7, x8, x10, h =>
    F.epoch_Book_Now x0 h fun r17 h16 =>
    ((decide (x10 ≤ r17)) = true →
    (F.epoch_Book_Holds x0 x8 x10 h16 fun r21 h20 =>
    RunS PP (Instr.lookup 38 (.map x1) (.int .i64 x8) false) h20 fun u h22 => ∃ r23 : Option Nat, u = (.map r23) ∧
    RunS PP (Instr.lookup 39 (.map r23) (.int .i64 x10) false) h22 fun u h24 => ∃ r25 : Bool, u = (.bool r25) ∧
    F.spatelaw9_held.j7 Q C1 (F.spatelaw9_held.l5 Q C1 q5) x0 x1 x2 x7 x8 x10 (!(r21 == r25)) h24) ∧
    (RunS PP (Instr.lookup 38 (.map x1) (.int .i64 x8) false) h16 fun u h26 => ∃ r27 : Option Nat, u = (.map r27) ∧
    (F.epoch_Book_Holds x0 x8 x10 h26 fun r29 h28 =>
    RunS PP (Instr.lookup 39 (.map r27) (.int .i64 x10) false) h28 fun u h30 => ∃ r31 : Bool, u = (.bool r31) ∧
    F.spatelaw9_held.j7 Q C1 (F.spatelaw9_held.l5 Q C1 q5) x0 x1 x2 x7 x8 x10 (!(r29 == r31)) h30) ∧
    (RunS PP (Instr.lookup 39 (.map r27) (.int .i64 x10) false) h26 fun u h32 => ∃ r33 : Bool, u = (.bool r33) ∧
    F.epoch_Book_Holds x0 x8 x10 h32 fun r35 h34 =>
    F.spatelaw9_held.j7 Q C1 (F.spatelaw9_held.l5 Q C1 q5) x0 x1 x2 x7 x8 x10 (!(r35 == r33)) h34))) ∧
    ((decide (x10 ≤ r17)) = false →
    F.spatelaw9_held.j2 Q C1 x0 x1 x2 x7 x8 h16)
def F.spatelaw9_held.j4 (Q : Bool → H → Prop) (C1 : (Option Addr) → (Option Nat) → (Option Nat) → (Option Nat) → Int → H → Prop) (x0 : Option Addr) (x1 : Option Nat) (x2 : Option Nat) (x7 : Option Nat) (x8 : Int) (h : H) : Prop :=
  ∃ m, F.spatelaw9_held.l5 Q C1 m x0 x1 x2 x7 x8 0 h
def F.spatelaw9_held.l3 (Q : Bool → H → Prop) (C1 : (Option Addr) → (Option Nat) → (Option Nat) → (Option Nat) → Int → H → Prop) : Nat → (Option Addr) → (Option Nat) → (Option Nat) → (Option Nat) → Int → Addr → H → Prop
  | 0, _, _, _, _, _, _, _ => False
  | q3 + 1, x0, x1, x2, x7, x8, x21, h =>
    RunS PP (Instr.next (.pointer (some x21)) false 0) h fun u h8 => ∃ (b9 : Bool) (t10 : Array Value), u = (.tuple (#[.bool b9] ++ t10)) ∧
    (b9 = true →
    RunS PP (Instr.entry (.pointer (some x21))) h8 fun u h12 => ∃ (r13 : Int) (r14 : Bool), u = (.tuple #[(.int .i64 r13), (.bool r14)]) ∧
    RunS PP (Instr.mapUpdate 39 (.map x7) (.int .i64 r13) (.bool true)) h12 fun _ h15 =>
    (F.spatelaw9_held.l3 Q C1 q3) x0 x1 x2 x7 x8 x21 h15) ∧
    (b9 = false →
    RunS PP (Instr.lookup 28 (.map x2) (.int .i64 x8) false) h8 fun u h37 => ∃ r38 : Int, u = (.int .i64 r38) ∧
    (((r38 != 0)) = true →
    RunS PP (Instr.lookup 28 (.map x2) (.int .i64 x8) false) h37 fun u h40 => ∃ r41 : Int, u = (.int .i64 r41) ∧
    RunS PP (Instr.mapUpdate 39 (.map x7) (.int .i64 r41) (.bool true)) h40 fun _ h42 =>
    F.spatelaw9_held.j4 Q C1 x0 x1 x2 x7 x8 h42) ∧
    (((r38 != 0)) = false →
    F.spatelaw9_held.j4 Q C1 x0 x1 x2 x7 x8 h37))
def F.spatelaw9_held.l8 (Q : Bool → H → Prop) : Nat → (Option Addr) → (Option Nat) → Sl → Int → H → Prop
  | 0, _, _, _, _, _ => False
  | q8 + 1, x0, x7, x11, x12, h =>
    ((decide (x12 < (x11.len : Int))) = true →
    idxA x11 x12 1 fun a47 =>
    ldI .i64 h a47 fun y49 =>
    RunS PP (Instr.lookup 39 (.map x7) (.int .i64 y49) false) h fun u h51 => ∃ r52 : Bool, u = (.bool r52) ∧
    ((!r52) = true →
    Q false h51) ∧
    ((!r52) = false →
    (F.spatelaw9_held.l8 Q q8) x0 x7 x11 (IntKind.wrap .i64 (x12 + 1)) h51)) ∧
    ((decide (x12 < (x11.len : Int))) = false →
    RunS PP (Builtin.len_ #[39] 3 #[(.map x7)]) h fun u h54 => ∃ s55 : Int, u = (.int .i64 s55) ∧
    ((((x11.len : Int) == s55)) = true →
    F.epoch_Book_Holds x0 0 1 h54 fun r58 h57 =>
    ((!r58) = true →
    F.epoch_Book_Holds x0 65 1 h57 fun r61 h60 =>
    ((!r61) = true →
    F.epoch_Book_Holds x0 (-1) 1 h60 fun r64 h63 =>
    Q (!r64) h63) ∧
    ((!r61) = false →
    Q false h60)) ∧
    ((!r58) = false →
    Q false h57)) ∧
    ((((x11.len : Int) == s55)) = false →
    Q false h54))
def F.spatelaw9_held.l1 (Q : Bool → H → Prop) : Nat → (Option Addr) → (Option Nat) → (Option Nat) → (Option Nat) → Int → H → Prop
  | 0, _, _, _, _, _, _ => False
  | q1 + 1, x0, x1, x2, x7, x8, h =>
    ((decide (x8 ≤ 64)) = true →
    RunS PP (Instr.lookup 38 (.map x1) (.int .i64 x8) false) h fun u h4 => ∃ r5 : Option Nat, u = (.map r5) ∧
    RunS PP (Instr.range 39 (.map r5)) h4 fun u h6 => ∃ a7 : Addr, u = (.pointer (some a7)) ∧
    ∃ m, F.spatelaw9_held.l3 Q (F.spatelaw9_held.l1 Q q1) m x0 x1 x2 x7 x8 a7 h6) ∧
    ((decide (x8 ≤ 64)) = false →
    F.epoch_Book_Held x0 h fun r45 h44 =>
    ∃ m, F.spatelaw9_held.l8 Q m x0 x7 r45 0 h44)
/-- spate/spatelaw9.held -/
def F.spatelaw9_held (p0 : Option Addr) (p1 : Option Nat) (p2 : Option Nat) (h : H) (Q : Bool → H → Prop) : Prop :=
  RunS PP (Instr.makeMap 39 none) h fun u h1 => ∃ m2 : Option Nat, u = (.map m2) ∧
  ∃ m, F.spatelaw9_held.l1 Q m p0 p1 p2 m2 1 h1
theorem F.spatelaw9_held_ok {p0 : Option Addr} {p1 : Option Nat} {p2 : Option Nat} {h : H} {Q : Bool → H → Prop} (H : F.spatelaw9_held p0 p1 p2 h Q) : Fn PP 19 ([(.pointer p0), (.map p1), (.map p2)] : List Value).toArray h fun r h' => ∃ r0, r = (.bool r0) ∧ Q r0 h' := by
  unfold F.spatelaw9_held at H
  refine fn_of Try.func19 Try.ntmps19 rfl rfl fun w0 => ?_
  refine tr_sub [(0, (.pointer p0)), (1, (.map p1)), (2, (.map p2))] ⟨rfl, rfl, rfl, trivial⟩ ?_
  refine tr_seq ?_
  refine tr_region ?_
  refine tr_p (y_assign rfl) rfl rfl ?_
  refine tr_nil ?_
  refine tr_thenN ?_
  refine tr_seq ?_
  refine tr_region ?_
  refine tr_e (f_mkN H) rfl rfl ?_
  rintro _ h1 ⟨m2, rfl, H⟩
  refine tr_p (y_assign rfl) rfl rfl ?_
  refine tr_nil ?_
  refine tr_thenN ?_
  refine tr_seq ?_
  refine tr_seq ?_
  refine tr_region ?_
  refine tr_p (y_assign rfl) rfl rfl ?_
  refine tr_nil ?_
  refine tr_thenN ?_
  refine tr_block ?_
  obtain ⟨m66, H⟩ := H
  refine tr_sub [(0, (.pointer p0)), (1, (.map p1)), (2, (.map p2)), (7, (.map m2)), (8, (.int .i64 1))] ⟨rfl, rfl, rfl, rfl, rfl, trivial⟩ ?_
  refine tr_loop_j (fun m L' h => ∃ (x0 : Option Addr) (x1 : Option Nat) (x2 : Option Nat) (x7 : Option Nat) (x8 : Int), L' = [(0, (.pointer x0)), (1, (.map x1)), (2, (.map x2)), (7, (.map x7)), (8, (.int .i64 x8))] ∧ F.spatelaw9_held.l1 Q m x0 x1 x2 x7 x8 h) ?_ ?_ m66 ⟨_, _, _, _, _, rfl, H⟩
  · rintro L' h ⟨_, _, _, _, _, _, H⟩; exact H
  · rintro q1 L' h ⟨x0, x1, x2, x7, x8, rfl, H⟩
    unfold F.spatelaw9_held.l1 at H
    refine tr_seq ?_
    refine tr_seq ?_
    refine tr_region ?_
    refine tr_p (y_move rfl) rfl rfl ?_
    refine tr_p (y_leq rfl rfl) rfl rfl ?_
    refine tr_nil ?_
    refine tr_thenN ?_
    refine tr_cond rfl (fun g3 => ?_) (fun g3 => ?_)
    · replace H := H.1 g3
      refine tr_skip ?_
      refine tr_thenN ?_
      refine tr_seq_j (fun L' h => ∃ (x0 : Option Addr) (x1 : Option Nat) (x2 : Option Nat) (x7 : Option Nat) (x8 : Int), L' = [(0, (.pointer x0)), (1, (.map x1)), (2, (.map x2)), (7, (.map x7)), (8, (.int .i64 x8))] ∧ F.spatelaw9_held.j2 Q (F.spatelaw9_held.l1 Q q1) x0 x1 x2 x7 x8 h) ?_ ?_
      · rintro L' h ⟨x0, x1, x2, x7, x8, rfl, H⟩
        unfold F.spatelaw9_held.j2 at H
        refine tr_region ?_
        refine tr_p (y_move rfl) rfl rfl ?_
        refine tr_p (y_add rfl rfl) rfl rfl ?_
        refine tr_p (y_assign rfl) rfl rfl ?_
        refine tr_nil ?_
        refine tr_thenN ?_
        exact tr_join [(0, (.pointer x0)), (1, (.map x1)), (2, (.map x2)), (7, (.map x7)), (8, (.int .i64 (IntKind.wrap .i64 (x8 + 1))))] ⟨rfl, rfl, rfl, rfl, rfl, trivial⟩ ⟨_, _, _, _, _, rfl, H⟩
      · refine tr_block ?_
        refine tr_seq ?_
        refine tr_seq ?_
        refine tr_region ?_
        refine tr_p (y_move rfl) rfl rfl ?_
        refine tr_p (y_move rfl) rfl rfl ?_
        refine tr_e (f_lk rfl rfl H) rfl rfl ?_
        rintro _ h4 ⟨r5, rfl, H⟩
        refine tr_e (f_rg rfl H) rfl rfl ?_
        rintro _ h6 ⟨a7, rfl, H⟩
        refine tr_nil ?_
        refine tr_thenN ?_
        refine tr_block ?_
        obtain ⟨m43, H⟩ := H
        refine tr_sub [(0, (.pointer x0)), (1, (.map x1)), (2, (.map x2)), (7, (.map x7)), (8, (.int .i64 x8)), (21, (.pointer (some a7)))] ⟨rfl, rfl, rfl, rfl, rfl, rfl, trivial⟩ ?_
        refine tr_loop_j (fun m L' h => ∃ (x0 : Option Addr) (x1 : Option Nat) (x2 : Option Nat) (x7 : Option Nat) (x8 : Int) (x21 : Addr), L' = [(0, (.pointer x0)), (1, (.map x1)), (2, (.map x2)), (7, (.map x7)), (8, (.int .i64 x8)), (21, (.pointer (some x21)))] ∧ F.spatelaw9_held.l3 Q (F.spatelaw9_held.l1 Q q1) m x0 x1 x2 x7 x8 x21 h) ?_ ?_ m43 ⟨_, _, _, _, _, _, rfl, H⟩
        · rintro L' h ⟨_, _, _, _, _, _, _, H⟩; exact H
        · rintro q3 L' h ⟨x0, x1, x2, x7, x8, x21, rfl, H⟩
          unfold F.spatelaw9_held.l3 at H
          refine tr_seq ?_
          refine tr_region ?_
          refine tr_e (f_nx rfl H) rfl rfl ?_
          rintro _ h8 ⟨b9, t10, rfl, H⟩
          refine tr_p (y_ext0 (t := t10) rfl) rfl rfl ?_
          refine tr_nil ?_
          refine tr_thenN ?_
          refine tr_seq ?_
          refine tr_cond rfl (fun g11 => ?_) (fun g11 => ?_)
          · replace H := H.1 g11
            refine tr_skip ?_
            refine tr_thenN ?_
            refine tr_block ?_
            refine tr_seq ?_
            refine tr_region ?_
            refine tr_e (f_en rfl H) rfl rfl ?_
            rintro _ h12 ⟨r13, r14, rfl, H⟩
            refine tr_p (y_ext rfl rfl) rfl rfl ?_
            refine tr_p (y_assign rfl) rfl rfl ?_
            refine tr_nil ?_
            refine tr_thenN ?_
            refine tr_region ?_
            refine tr_p (y_move rfl) rfl rfl ?_
            refine tr_p (y_move rfl) rfl rfl ?_
            refine tr_e (f_mu rfl rfl rfl H) rfl rfl ?_
            rintro _ h15 ⟨rfl, H⟩
            refine tr_nil ?_
            refine tr_blockN ?_
            refine tr_thenN ?_
            exact tr_join [(0, (.pointer x0)), (1, (.map x1)), (2, (.map x2)), (7, (.map x7)), (8, (.int .i64 x8)), (21, (.pointer (some x21)))] ⟨rfl, rfl, rfl, rfl, rfl, rfl, trivial⟩ ⟨_, _, _, _, _, _, rfl, H⟩
          · replace H := H.2 g11
            refine tr_exit ?_
            refine tr_thenE ?_
            refine tr_thenE ?_
            refine tr_hit ?_
            refine tr_thenN ?_
            refine tr_seq_j (fun L' h => ∃ (x0 : Option Addr) (x1 : Option Nat) (x2 : Option Nat) (x7 : Option Nat) (x8 : Int), L' = [(0, (.pointer x0)), (1, (.map x1)), (2, (.map x2)), (7, (.map x7)), (8, (.int .i64 x8))] ∧ F.spatelaw9_held.j4 Q (F.spatelaw9_held.l1 Q q1) x0 x1 x2 x7 x8 h) ?_ ?_
            · rintro L' h ⟨x0, x1, x2, x7, x8, rfl, H⟩
              unfold F.spatelaw9_held.j4 at H
              refine tr_seq ?_
              refine tr_region ?_
              refine tr_p (y_assign rfl) rfl rfl ?_
              refine tr_nil ?_
              refine tr_thenN ?_
              refine tr_block ?_
              obtain ⟨m36, H⟩ := H
              refine tr_sub [(0, (.pointer x0)), (1, (.map x1)), (2, (.map x2)), (7, (.map x7)), (8, (.int .i64 x8)), (10, (.int .i64 0))] ⟨rfl, rfl, rfl, rfl, rfl, rfl, trivial⟩ ?_
              refine tr_loop_j (fun m L' h => ∃ (x0 : Option Addr) (x1 : Option Nat) (x2 : Option Nat) (x7 : Option Nat) (x8 : Int) (x10 : Int), L' = [(0, (.pointer x0)), (1, (.map x1)), (2, (.map x2)), (7, (.map x7)), (8, (.int .i64 x8)), (10, (.int .i64 x10))] ∧ F.spatelaw9_held.l5 Q (F.spatelaw9_held.l1 Q q1) m x0 x1 x2 x7 x8 x10 h) ?_ ?_ m36 ⟨_, _, _, _, _, _, rfl, H⟩
              · rintro L' h ⟨_, _, _, _, _, _, _, H⟩; exact H
              · rintro q5 L' h ⟨x0, x1, x2, x7, x8, x10, rfl, H⟩
                unfold F.spatelaw9_held.l5 at H
                refine tr_seq ?_
                refine tr_seq ?_
                refine tr_region ?_
                refine tr_p (y_move rfl) rfl rfl ?_
                refine tr_p (y_move rfl) rfl rfl ?_
                refine tr_e (e_call Try.call15 rfl (F.epoch_Book_Now_ok H)) rfl rfl ?_
                rintro _ h16 ⟨r17, rfl, H⟩
                refine tr_p (y_leq rfl rfl) rfl rfl ?_
                refine tr_nil ?_
                refine tr_thenN ?_
                refine tr_cond rfl (fun g18 => ?_) (fun g18 => ?_)
                · replace H := H.1 g18
                  refine tr_skip ?_
                  refine tr_thenN ?_
                  refine tr_seq_j (fun L' h => ∃ (x0 : Option Addr) (x1 : Option Nat) (x2 : Option Nat) (x7 : Option Nat) (x8 : Int) (x10 : Int), L' = [(0, (.pointer x0)), (1, (.map x1)), (2, (.map x2)), (7, (.map x7)), (8, (.int .i64 x8)), (10, (.int .i64 x10))] ∧ F.spatelaw9_held.j6 Q (F.spatelaw9_held.l1 Q q1) (F.spatelaw9_held.l5 Q (F.spatelaw9_held.l1 Q q1) q5) x0 x1 x2 x7 x8 x10 h) ?_ ?_
                  · rintro L' h ⟨x0, x1, x2, x7, x8, x10, rfl, H⟩
                    unfold F.spatelaw9_held.j6 at H
                    refine tr_region ?_
                    refine tr_p (y_move rfl) rfl rfl ?_
                    refine tr_p (y_add rfl rfl) rfl rfl ?_
                    refine tr_p (y_assign rfl) rfl rfl ?_
                    refine tr_nil ?_
                    refine tr_thenN ?_
                    exact tr_join [(0, (.pointer x0)), (1, (.map x1)), (2, (.map x2)), (7, (.map x7)), (8, (.int .i64 x8)), (10, (.int .i64 (IntKind.wrap .i64 (x10 + 1))))] ⟨rfl, rfl, rfl, rfl, rfl, rfl, trivial⟩ ⟨_, _, _, _, _, _, rfl, H⟩
                  · refine tr_block ?_
                    refine tr_seq_j (fun L' h => ∃ (x0 : Option Addr) (x1 : Option Nat) (x2 : Option Nat) (x7 : Option Nat) (x8 : Int) (x10 : Int) (x51 : Bool), L' = [(0, (.pointer x0)), (1, (.map x1)), (2, (.map x2)), (7, (.map x7)), (8, (.int .i64 x8)), (10, (.int .i64 x10)), (51, (.bool x51))] ∧ F.spatelaw9_held.j7 Q (F.spatelaw9_held.l1 Q q1) (F.spatelaw9_held.l5 Q (F.spatelaw9_held.l1 Q q1) q5) x0 x1 x2 x7 x8 x10 x51 h) ?_ ?_
                    · rintro L' h ⟨x0, x1, x2, x7, x8, x10, x51, rfl, H⟩
                      unfold F.spatelaw9_held.j7 at H
                      refine tr_cond rfl (fun g19 => ?_) (fun g19 => ?_)
                      · replace H := H.1 g19
                        refine tr_seq ?_
                        refine tr_region ?_
                        refine tr_p (y_assign rfl) rfl rfl ?_
                        refine tr_nil ?_
                        refine tr_thenN ?_
                        refine tr_ret ?_
                        refine tr_blockR ?_
                        refine tr_thenR ?_
                        refine tr_thenR ?_
                        refine tr_blockR ?_
                        refine tr_blockR ?_
                        refine tr_thenR ?_
                        refine tr_thenR ?_
                        refine tr_blockR ?_
                        refine tr_thenR ?_
                        exact tr_ret1 rfl rfl ⟨_, rfl, H⟩
                      · replace H := H.2 g19
                        refine tr_skip ?_
                        refine tr_blockN ?_
                        refine tr_thenN ?_
                        exact tr_join [(0, (.pointer x0)), (1, (.map x1)), (2, (.map x2)), (7, (.map x7)), (8, (.int .i64 x8)), (10, (.int .i64 x10))] ⟨rfl, rfl, rfl, rfl, rfl, rfl, trivial⟩ ⟨_, _, _, _, _, _, rfl, H⟩
                    · refine tr_draw mixed [0, 0, 0, 7, 0, 0, 48, 0, 240, 511] (by kernel_rfl) ?_
                      refine g_p 0 1 rfl (by kernel_rfl) (y_move rfl) rfl rfl ?_
                      refine g_p 1 3 rfl (by kernel_rfl) (y_move rfl) rfl rfl ?_
                      refine g_p 2 7 rfl (by kernel_rfl) (y_move rfl) rfl rfl ?_
                      refine g_p 4 23 rfl (by kernel_rfl) (y_move rfl) rfl rfl ?_
                      refine g_p 5 55 rfl (by kernel_rfl) (y_move rfl) rfl rfl ?_
                      refine g_p 7 183 rfl (by kernel_rfl) (y_move rfl) rfl rfl ?_
                      refine g_e2 3 191 6 247 [] [] (by kernel_rfl) (by kernel_rfl) (by kernel_rfl) (by kernel_rfl) (by kernel_rfl) rfl rfl rfl rfl rfl rfl ?_ ?_
                      · replace H := H.1
                        refine ⟨_, (e_call Try.call25 rfl (F.epoch_Book_Holds_ok H)), ?_⟩
                        rintro _ h20 ⟨r21, rfl, H⟩
                        refine ⟨trivial, ?_⟩
                        refine g_e 6 255 [] (by kernel_rfl) rfl (by kernel_rfl) (f_lk rfl rfl H) rfl rfl ?_
                        rintro _ h22 ⟨r23, rfl, H⟩
                        refine ⟨trivial, ?_⟩
                        refine g_e 8 511 [] (by kernel_rfl) rfl (by kernel_rfl) (f_lk rfl rfl H) rfl rfl ?_
                        rintro _ h24 ⟨r25, rfl, H⟩
                        refine ⟨trivial, ?_⟩
                        refine g_p 9 1023 rfl (by kernel_rfl) (y_bneq Try.underlying4 rfl rfl) rfl rfl ?_
                        refine g_d (by kernel_rfl) ?_
                        refine tr_thenN ?_
                        exact tr_join [(0, (.pointer x0)), (1, (.map x1)), (2, (.map x2)), (7, (.map x7)), (8, (.int .i64 x8)), (10, (.int .i64 x10)), (51, (.bool (!(r21 == r25))))] ⟨rfl, rfl, rfl, rfl, rfl, rfl, rfl, trivial⟩ ⟨_, _, _, _, _, _, _, rfl, H⟩
                      · replace H := H.2
                        refine ⟨_, (f_lk rfl rfl H), ?_⟩
                        rintro _ h26 ⟨r27, rfl, H⟩
                        refine ⟨trivial, ?_⟩
                        refine g_e2 3 255 8 503 [] [] (by kernel_rfl) (by kernel_rfl) (by kernel_rfl) (by kernel_rfl) (by kernel_rfl) rfl rfl rfl rfl rfl rfl ?_ ?_
                        · replace H := H.1
                          refine ⟨_, (e_call Try.call25 rfl (F.epoch_Book_Holds_ok H)), ?_⟩
                          rintro _ h28 ⟨r29, rfl, H⟩
                          refine ⟨trivial, ?_⟩
                          refine g_e 8 511 [] (by kernel_rfl) rfl (by kernel_rfl) (f_lk rfl rfl H) rfl rfl ?_
                          rintro _ h30 ⟨r31, rfl, H⟩
                          refine ⟨trivial, ?_⟩
                          refine g_p 9 1023 rfl (by kernel_rfl) (y_bneq Try.underlying4 rfl rfl) rfl rfl ?_
                          refine g_d (by kernel_rfl) ?_
                          refine tr_thenN ?_
                          exact tr_join [(0, (.pointer x0)), (1, (.map x1)), (2, (.map x2)), (7, (.map x7)), (8, (.int .i64 x8)), (10, (.int .i64 x10)), (51, (.bool (!(r29 == r31))))] ⟨rfl, rfl, rfl, rfl, rfl, rfl, rfl, trivial⟩ ⟨_, _, _, _, _, _, _, rfl, H⟩
                        · replace H := H.2
                          refine ⟨_, (f_lk rfl rfl H), ?_⟩
                          rintro _ h32 ⟨r33, rfl, H⟩
                          refine ⟨trivial, ?_⟩
                          refine g_e 3 511 [] (by kernel_rfl) rfl (by kernel_rfl) (e_call Try.call25 rfl (F.epoch_Book_Holds_ok H)) rfl rfl ?_
                          rintro _ h34 ⟨r35, rfl, H⟩
                          refine ⟨trivial, ?_⟩
                          refine g_p 9 1023 rfl (by kernel_rfl) (y_bneq Try.underlying4 rfl rfl) rfl rfl ?_
                          refine g_d (by kernel_rfl) ?_
                          refine tr_thenN ?_
                          exact tr_join [(0, (.pointer x0)), (1, (.map x1)), (2, (.map x2)), (7, (.map x7)), (8, (.int .i64 x8)), (10, (.int .i64 x10)), (51, (.bool (!(r35 == r33))))] ⟨rfl, rfl, rfl, rfl, rfl, rfl, rfl, trivial⟩ ⟨_, _, _, _, _, _, _, rfl, H⟩
                · replace H := H.2 g18
                  refine tr_exit ?_
                  refine tr_thenE ?_
                  refine tr_thenE ?_
                  refine tr_hit ?_
                  refine tr_blockN ?_
                  refine tr_thenN ?_
                  exact tr_join [(0, (.pointer x0)), (1, (.map x1)), (2, (.map x2)), (7, (.map x7)), (8, (.int .i64 x8))] ⟨rfl, rfl, rfl, rfl, rfl, trivial⟩ ⟨_, _, _, _, _, rfl, H⟩
            · refine tr_seq ?_
              refine tr_region ?_
              refine tr_p (y_move rfl) rfl rfl ?_
              refine tr_p (y_move rfl) rfl rfl ?_
              refine tr_e (f_lk rfl rfl H) rfl rfl ?_
              rintro _ h37 ⟨r38, rfl, H⟩
              refine tr_p (y_neq rfl rfl) rfl rfl ?_
              refine tr_nil ?_
              refine tr_thenN ?_
              refine tr_cond rfl (fun g39 => ?_) (fun g39 => ?_)
              · replace H := H.1 g39
                refine tr_region ?_
                refine tr_p (y_move rfl) rfl rfl ?_
                refine tr_p (y_move rfl) rfl rfl ?_
                refine tr_p (y_move rfl) rfl rfl ?_
                refine tr_e (f_lk rfl rfl H) rfl rfl ?_
                rintro _ h40 ⟨r41, rfl, H⟩
                refine tr_e (f_mu rfl rfl rfl H) rfl rfl ?_
                rintro _ h42 ⟨rfl, H⟩
                refine tr_nil ?_
                refine tr_thenN ?_
                exact tr_join [(0, (.pointer x0)), (1, (.map x1)), (2, (.map x2)), (7, (.map x7)), (8, (.int .i64 x8))] ⟨rfl, rfl, rfl, rfl, rfl, trivial⟩ ⟨_, _, _, _, _, rfl, H⟩
              · replace H := H.2 g39
                refine tr_skip ?_
                refine tr_thenN ?_
                exact tr_join [(0, (.pointer x0)), (1, (.map x1)), (2, (.map x2)), (7, (.map x7)), (8, (.int .i64 x8))] ⟨rfl, rfl, rfl, rfl, rfl, trivial⟩ ⟨_, _, _, _, _, rfl, H⟩
    · replace H := H.2 g3
      refine tr_exit ?_
      refine tr_thenE ?_
      refine tr_thenE ?_
      refine tr_hit ?_
      refine tr_thenN ?_
      refine tr_seq ?_
      refine tr_region ?_
      refine tr_p (y_move rfl) rfl rfl ?_
      refine tr_e (e_call Try.call11 rfl (F.epoch_Book_Held_ok H)) rfl rfl ?_
      rintro _ h44 ⟨r45, rfl, H⟩
      refine tr_p (y_assign rfl) rfl rfl ?_
      refine tr_nil ?_
      refine tr_thenN ?_
      refine tr_seq ?_
      refine tr_seq ?_
      refine tr_region ?_
      refine tr_p (y_assign rfl) rfl rfl ?_
      refine tr_nil ?_
      refine tr_thenN ?_
      refine tr_block ?_
      obtain ⟨m65, H⟩ := H
      refine tr_sub [(0, (.pointer x0)), (7, (.map x7)), (11, r45.enc), (12, (.int .i64 0))] ⟨rfl, rfl, rfl, rfl, trivial⟩ ?_
      refine tr_loop_j (fun m L' h => ∃ (x0 : Option Addr) (x7 : Option Nat) (x11 : Sl) (x12 : Int), L' = [(0, (.pointer x0)), (7, (.map x7)), (11, x11.enc), (12, (.int .i64 x12))] ∧ F.spatelaw9_held.l8 Q m x0 x7 x11 x12 h) ?_ ?_ m65 ⟨_, _, _, _, rfl, H⟩
      · rintro L' h ⟨_, _, _, _, _, H⟩; exact H
      · rintro q8 L' h ⟨x0, x7, x11, x12, rfl, H⟩
        unfold F.spatelaw9_held.l8 at H
        refine tr_seq ?_
        refine tr_seq ?_
        refine tr_region ?_
        refine tr_p (y_move rfl) rfl rfl ?_
        refine tr_p (y_move rfl) rfl rfl ?_
        refine tr_p (y_len (ts := #[]) Try.runUnderlying29 (o := x11.ptr) (n := x11.len) (cap := x11.cap) rfl) rfl rfl ?_
        refine tr_p (y_lss rfl rfl) rfl rfl ?_
        refine tr_nil ?_
        refine tr_thenN ?_
        refine tr_cond rfl (fun g46 => ?_) (fun g46 => ?_)
        · replace H := H.1 g46
          refine tr_skip ?_
          refine tr_thenN ?_
          refine tr_seq ?_
          refine tr_block ?_
          refine tr_seq ?_
          refine tr_region ?_
          refine tr_p (y_move rfl) rfl rfl ?_
          refine tr_p (y_move rfl) rfl rfl ?_
          refine tr_p (y_move rfl) rfl rfl ?_
          obtain ⟨a47, e48, H⟩ := H
          refine tr_p (f_idx (s := x11) Try.runUnderlying29 Try.sizeOf3 rfl rfl e48) rfl rfl ?_
          obtain ⟨y49, k50, H⟩ := H
          refine tr_h (y_ld Try.isAgg3 rfl) k50 rfl rfl ?_
          refine tr_e (f_lk rfl rfl H) rfl rfl ?_
          rintro _ h51 ⟨r52, rfl, H⟩
          refine tr_p (y_not rfl) rfl rfl ?_
          refine tr_nil ?_
          refine tr_thenN ?_
          refine tr_cond rfl (fun g53 => ?_) (fun g53 => ?_)
          · replace H := H.1 g53
            refine tr_seq ?_
            refine tr_region ?_
            refine tr_p (y_assign rfl) rfl rfl ?_
            refine tr_nil ?_
            refine tr_thenN ?_
            refine tr_ret ?_
            refine tr_blockR ?_
            refine tr_thenR ?_
            refine tr_thenR ?_
            refine tr_blockR ?_
            refine tr_thenR ?_
            exact tr_ret1 rfl rfl ⟨_, rfl, H⟩
          · replace H := H.2 g53
            refine tr_skip ?_
            refine tr_blockN ?_
            refine tr_thenN ?_
            refine tr_region ?_
            refine tr_p (y_move rfl) rfl rfl ?_
            refine tr_p (y_add rfl rfl) rfl rfl ?_
            refine tr_p (y_assign rfl) rfl rfl ?_
            refine tr_nil ?_
            refine tr_thenN ?_
            exact tr_join [(0, (.pointer x0)), (7, (.map x7)), (11, x11.enc), (12, (.int .i64 (IntKind.wrap .i64 (x12 + 1))))] ⟨rfl, rfl, rfl, rfl, trivial⟩ ⟨_, _, _, _, rfl, H⟩
        · replace H := H.2 g46
          refine tr_exit ?_
          refine tr_thenE ?_
          refine tr_thenE ?_
          refine tr_hit ?_
          refine tr_thenN ?_
          refine tr_seq ?_
          refine tr_region ?_
          refine tr_p (y_move rfl) rfl rfl ?_
          refine tr_p (y_len (ts := #[]) Try.runUnderlying29 (o := x11.ptr) (n := x11.len) (cap := x11.cap) rfl) rfl rfl ?_
          refine tr_p (y_move rfl) rfl rfl ?_
          refine tr_e (f_lenM rfl H) rfl rfl ?_
          rintro _ h54 ⟨s55, rfl, H⟩
          refine tr_p (y_eql rfl rfl) rfl rfl ?_
          refine tr_p (y_move rfl) rfl rfl ?_
          refine tr_split (t := 72) rfl (fun g56 => ?_) (fun g56 => ?_)
          · replace H := H.1 g56
            refine tr_p (y_move rfl) rfl rfl ?_
            refine tr_e (e_call Try.call25 rfl (F.epoch_Book_Holds_ok H)) rfl rfl ?_
            rintro _ h57 ⟨r58, rfl, H⟩
            refine tr_p (y_not rfl) rfl rfl ?_
            refine tr_p (y_pick_t rfl rfl) rfl rfl ?_
            refine tr_p (y_move rfl) rfl rfl ?_
            refine tr_split (t := 77) rfl (fun g59 => ?_) (fun g59 => ?_)
            · replace H := H.1 g59
              refine tr_p (y_move rfl) rfl rfl ?_
              refine tr_e (e_call Try.call25 rfl (F.epoch_Book_Holds_ok H)) rfl rfl ?_
              rintro _ h60 ⟨r61, rfl, H⟩
              refine tr_p (y_not rfl) rfl rfl ?_
              refine tr_p (y_pick_t rfl rfl) rfl rfl ?_
              refine tr_p (y_move rfl) rfl rfl ?_
              refine tr_split (t := 82) rfl (fun g62 => ?_) (fun g62 => ?_)
              · replace H := H.1 g62
                refine tr_p (y_move rfl) rfl rfl ?_
                refine tr_e (e_call Try.call25 rfl (F.epoch_Book_Holds_ok H)) rfl rfl ?_
                rintro _ h63 ⟨r64, rfl, H⟩
                refine tr_p (y_not rfl) rfl rfl ?_
                refine tr_p (y_pick_t rfl rfl) rfl rfl ?_
                refine tr_p (y_assign rfl) rfl rfl ?_
                refine tr_nil ?_
                refine tr_thenN ?_
                refine tr_ret ?_
                exact tr_ret1 rfl rfl ⟨_, rfl, H⟩
              · replace H := H.2 g62
                refine tr_s rfl rfl ?_
                refine tr_s rfl rfl ?_
                refine tr_s rfl rfl ?_
                refine tr_p (y_pick_f rfl rfl) rfl rfl ?_
                refine tr_p (y_assign rfl) rfl rfl ?_
                refine tr_nil ?_
                refine tr_thenN ?_
                refine tr_ret ?_
                exact tr_ret1 rfl rfl ⟨_, rfl, H⟩
            · replace H := H.2 g59
              refine tr_s rfl rfl ?_
              refine tr_s rfl rfl ?_
              refine tr_s rfl rfl ?_
              refine tr_p (y_pick_f rfl rfl) rfl rfl ?_
              refine tr_p (y_move rfl) rfl rfl ?_
              refine tr_s rfl rfl ?_
              refine tr_s rfl rfl ?_
              refine tr_s rfl rfl ?_
              refine tr_p (y_pick_f rfl rfl) rfl rfl ?_
              refine tr_p (y_assign rfl) rfl rfl ?_
              refine tr_nil ?_
              refine tr_thenN ?_
              refine tr_ret ?_
              exact tr_ret1 rfl rfl ⟨_, rfl, H⟩
          · replace H := H.2 g56
            refine tr_s rfl rfl ?_
            refine tr_s rfl rfl ?_
            refine tr_s rfl rfl ?_
            refine tr_p (y_pick_f rfl rfl) rfl rfl ?_
            refine tr_p (y_move rfl) rfl rfl ?_
            refine tr_s rfl rfl ?_
            refine tr_s rfl rfl ?_
            refine tr_s rfl rfl ?_
            refine tr_p (y_pick_f rfl rfl) rfl rfl ?_
            refine tr_p (y_move rfl) rfl rfl ?_
            refine tr_s rfl rfl ?_
            refine tr_s rfl rfl ?_
            refine tr_s rfl rfl ?_
            refine tr_p (y_pick_f rfl rfl) rfl rfl ?_
            refine tr_p (y_assign rfl) rfl rfl ?_
            refine tr_nil ?_
            refine tr_thenN ?_
            refine tr_ret ?_
            exact tr_ret1 rfl rfl ⟨_, rfl, H⟩

def F.spatelaw9_EpochSets.j5 (Q : Bool → H → Prop) (C1 : Int → Sl → (Option Addr) → (Option Nat) → (Option Nat) → Int → H → Prop) (x0 : Int) (x1 : Sl) (x5 : Option Addr) (x7 : Option Nat) (x8 : Option Nat) (x10 : Int) (h : H) : Prop :=
  C1 x0 x1 x5 x7 x8 (IntKind.wrap .i64 (x10 + 1)) h
def F.spatelaw9_EpochSets.j7 (Q : Bool → H → Prop) (C1 : Int → Sl → (Option Addr) → (Option Nat) → (Option Nat) → Int → H → Prop) (C2 : Int → Sl → (Option Addr) → (Option Nat) → (Option Nat) → Int → Addr → Int → Int → (Option Nat) → Bool → Int → H → Prop) (x0 : Int) (x1 : Sl) (x5 : Option Addr) (x7 : Option Nat) (x8 : Option Nat) (x10 : Int) (x11 : Addr) (x12 : Int) (x13 : Int) (x14 : Option Nat) (x15 : Bool) (x16 : Int) (h : H) : Prop :=
  C2 x0 x1 x5 x7 x8 x10 x11 x12 x13 x14 x15 (IntKind.wrap .i64 (x16 + 1)) h
def F.spatelaw9_EpochSets.j8 (Q : Bool → H → Prop) (C1 : Int → Sl → (Option Addr) → (Option Nat) → (Option Nat) → Int → H → Prop) (x0 : Int) (x1 : Sl) (x5 : Option Addr) (x7 : Option Nat) (x8 : Option Nat) (x10 : Int) (x17 : Bool) (x18 : Bool) (h : H) : Prop :=
  ((!(x17 == x18)) = true →
  Q false h) ∧
  ((!(x17 == x18)) = false →
  F.spatelaw9_EpochSets.j5 Q C1 x0 x1 x5 x7 x8 x10 h)
def F.spatelaw9_EpochSets.j9 (Q : Bool → H → Prop) (C1 : Int → Sl → (Option Addr) → (Option Nat) → (Option Nat) → Int → H → Prop) (x0 : Int) (x1 : Sl) (x5 : Option Addr) (x7 : Option Nat) (x8 : Option Nat) (x10 : Int) (x13 : Int) (x14 : Option Nat) (x17 : Bool) (x18 : Bool) (h : H) : Prop :=
  (x18 = true →
  RunS PP (Instr.mapUpdate 39 (.map x14) (.int .i64 x13) (.bool true)) h fun _ h51 =>
  F.spatelaw9_EpochSets.j8 Q C1 x0 x1 x5 x7 x8 x10 x17 x18 h51) ∧
  (x18 = false →
  F.spatelaw9_EpochSets.j8 Q C1 x0 x1 x5 x7 x8 x10 x17 x18 h)
def F.spatelaw9_EpochSets.j10 (Q : Bool → H → Prop) (C1 : Int → Sl → (Option Addr) → (Option Nat) → (Option Nat) → Int → H → Prop) (x0 : Int) (x1 : Sl) (x5 : Option Addr) (x7 : Option Nat) (x8 : Option Nat) (x10 : Int) (x11 : Addr) (x13 : Int) (x17 : Bool) (x18 : Bool) (h : H) : Prop :=
  (x18 = true →
  ldI .i64 h (x11.add 1) fun y57 =>
  RunS PP (Instr.mapUpdate 28 (.map x8) (.int .i64 y57) (.int .i64 x13)) h fun _ h59 =>
  F.spatelaw9_EpochSets.j8 Q C1 x0 x1 x5 x7 x8 x10 x17 x18 h59) ∧
  (x18 = false →
  F.spatelaw9_EpochSets.j8 Q C1 x0 x1 x5 x7 x8 x10 x17 x18 h)
def F.spatelaw9_EpochSets.j11 (Q : Bool → H → Prop) (C1 : Int → Sl → (Option Addr) → (Option Nat) → (Option Nat) → Int → H → Prop) (x0 : Int) (x1 : Sl) (x5 : Option Addr) (x7 : Option Nat) (x8 : Option Nat) (x10 : Int) (x12 : Int) (x14 : Option Nat) (x17 : Bool) (x18 : Bool) (h : H) : Prop :=
  (x18 = true →
  RunS PP (Instr.mapUpdate 39 (.map x14) (.int .i64 x12) (.bool true)) h fun _ h67 =>
  F.spatelaw9_EpochSets.j8 Q C1 x0 x1 x5 x7 x8 x10 x17 x18 h67) ∧
  (x18 = false →
  F.spatelaw9_EpochSets.j8 Q C1 x0 x1 x5 x7 x8 x10 x17 x18 h)
def F.spatelaw9_EpochSets.j12 (Q : Bool → H → Prop) (C1 : Int → Sl → (Option Addr) → (Option Nat) → (Option Nat) → Int → H → Prop) (x0 : Int) (x1 : Sl) (x5 : Option Addr) (x7 : Option Nat) (x8 : Option Nat) (x10 : Int) (x12 : Int) (x14 : Option Nat) (x17 : Bool) (x18 : Bool) (h : H) : Prop :=
  (x18 = true →
  RunS PP (Builtin.delete_ #[39, 3] 0 #[(.map x14), (.int .i64 x12)]) h fun u h77 => u = (.tuple #[]) ∧
  F.spatelaw9_EpochSets.j8 Q C1 x0 x1 x5 x7 x8 x10 x17 x18 h77) ∧
  (x18 = false →
  F.spatelaw9_EpochSets.j8 Q C1 x0 x1 x5 x7 x8 x10 x17 x18 h)
def F.spatelaw9_EpochSets.j13 (Q : Bool → H → Prop) (C1 : Int → Sl → (Option Addr) → (Option Nat) → (Option Nat) → Int → H → Prop) (x0 : Int) (x1 : Sl) (x5 : Option Addr) (x7 : Option Nat) (x8 : Option Nat) (x10 : Int) (x11 : Addr) (x17 : Bool) (x18 : Bool) (h : H) : Prop :=
  (x18 = true →
  ldI .i64 h (x11.add 1) fun y84 =>
  RunS PP (Instr.mapUpdate 28 (.map x8) (.int .i64 y84) (.int .i64 0)) h fun _ h86 =>
  F.spatelaw9_EpochSets.j8 Q C1 x0 x1 x5 x7 x8 x10 x17 x18 h86) ∧
  (x18 = false →
  F.spatelaw9_EpochSets.j8 Q C1 x0 x1 x5 x7 x8 x10 x17 x18 h)
def F.spatelaw9_EpochSets.j14 (Q : Bool → H → Prop) (C1 : Int → Sl → (Option Addr) → (Option Nat) → (Option Nat) → Int → H → Prop) (x0 : Int) (x1 : Sl) (x5 : Option Addr) (x7 : Option Nat) (x8 : Option Nat) (x10 : Int) (x11 : Addr) (x14 : Option Nat) (x17 : Bool) (x18 : Bool) (h : H) : Prop :=
  ((!x14.isNone) = true →
  ldI .i64 h (x11.add 1) fun y94 =>
  RunS PP (Instr.makeMap 39 none) h fun u h96 => ∃ m97 : Option Nat, u = (.map m97) ∧
  RunS PP (Instr.mapUpdate 38 (.map x7) (.int .i64 y94) (.map m97)) h96 fun _ h98 =>
  ldI .i64 h98 (x11.add 1) fun y99 =>
  RunS PP (Instr.mapUpdate 28 (.map x8) (.int .i64 y99) (.int .i64 0)) h98 fun _ h101 =>
  F.spatelaw9_EpochSets.j8 Q C1 x0 x1 x5 x7 x8 x10 x17 x18 h101) ∧
  ((!x14.isNone) = false →
  F.spatelaw9_EpochSets.j8 Q C1 x0 x1 x5 x7 x8 x10 x17 x18 h)
def F.spatelaw9_EpochSets.l6 (Q : Bool → H → Prop) (C1 : Int → Sl → (Option Addr) → (Option Nat) → (Option Nat) → Int → H → Prop) : Nat → Int → Sl → (Option Addr) → (Option Nat) → (Option Nat) → Int → Addr → Int → Int → (Option Nat) → Bool → Int → H → Prop
  | 0, _, _, _, _, _, _, _, _, _, _, _, _, _ => False
  | q6 + 1, x0, x1, x5, x7, x8, x10, x11, x12, x13, x14, x15, x16, h =>
    ((decide (x16 ≤ 64)) = true →
    (x15 = true →
    F.spatelaw9_EpochSets.j7 Q C1 (F.spatelaw9_EpochSets.l6 Q C1 q6) x0 x1 x5 x7 x8 x10 x11 x12 x13 x14 true x16 h) ∧
    (x15 = false →
    RunS PP (Instr.lookup 38 (.map x7) (.int .i64 x16) false) h fun u h38 => ∃ r39 : Option Nat, u = (.map r39) ∧
    RunS PP (Instr.lookup 39 (.map r39) (.int .i64 x12) false) h38 fun u h40 => ∃ r41 : Bool, u = (.bool r41) ∧
    F.spatelaw9_EpochSets.j7 Q C1 (F.spatelaw9_EpochSets.l6 Q C1 q6) x0 x1 x5 x7 x8 x10 x11 x12 x13 x14 r41 x16 h40)) ∧
    ((decide (x16 ≤ 64)) = false →
    ld_S_spatelaw9_Step h x11 fun y42 =>
    F.spatelaw9_do x5 y42 h fun r45 h44 =>
    ldI .i64 h44 (x11.add 0) fun y47 =>
    (((y47 == 1)) = true →
    ((!x14.isNone) = true →
    RunS PP (Builtin.len_ #[39] 3 #[(.map x14)]) h44 fun u h53 => ∃ s54 : Int, u = (.int .i64 s54) ∧
    F.spatelaw9_EpochSets.j9 Q C1 x0 x1 x5 x7 x8 x10 x13 x14 r45 (decide (s54 < x0)) h53) ∧
    ((!x14.isNone) = false →
    F.spatelaw9_EpochSets.j9 Q C1 x0 x1 x5 x7 x8 x10 x13 x14 r45 false h44)) ∧
    (((y47 == 1)) = false →
    (((y47 == 2)) = true →
    ((!x14.isNone) = true →
    ldI .i64 h44 (x11.add 1) fun y61 =>
    RunS PP (Instr.lookup 28 (.map x8) (.int .i64 y61) false) h44 fun u h63 => ∃ r64 : Int, u = (.int .i64 r64) ∧
    F.spatelaw9_EpochSets.j10 Q C1 x0 x1 x5 x7 x8 x10 x11 x13 r45 ((r64 == 0)) h63) ∧
    ((!x14.isNone) = false →
    F.spatelaw9_EpochSets.j10 Q C1 x0 x1 x5 x7 x8 x10 x11 x13 r45 false h44)) ∧
    (((y47 == 2)) = false →
    (((y47 == 3)) = true →
    ((!x14.isNone) = true →
    (x15 = true →
    RunS PP (Instr.lookup 39 (.map x14) (.int .i64 x12) false) h44 fun u h70 => ∃ r71 : Bool, u = (.bool r71) ∧
    (r71 = true →
    F.spatelaw9_EpochSets.j11 Q C1 x0 x1 x5 x7 x8 x10 x12 x14 r45 true h70) ∧
    (r71 = false →
    RunS PP (Builtin.len_ #[39] 3 #[(.map x14)]) h70 fun u h73 => ∃ s74 : Int, u = (.int .i64 s74) ∧
    F.spatelaw9_EpochSets.j11 Q C1 x0 x1 x5 x7 x8 x10 x12 x14 r45 (decide (s74 < x0)) h73)) ∧
    (x15 = false →
    F.spatelaw9_EpochSets.j11 Q C1 x0 x1 x5 x7 x8 x10 x12 x14 r45 false h44)) ∧
    ((!x14.isNone) = false →
    F.spatelaw9_EpochSets.j11 Q C1 x0 x1 x5 x7 x8 x10 x12 x14 r45 false h44)) ∧
    (((y47 == 3)) = false →
    (((y47 == 4)) = true →
    ((!x14.isNone) = true →
    RunS PP (Instr.lookup 39 (.map x14) (.int .i64 x12) false) h44 fun u h80 => ∃ r81 : Bool, u = (.bool r81) ∧
    F.spatelaw9_EpochSets.j12 Q C1 x0 x1 x5 x7 x8 x10 x12 x14 r45 r81 h80) ∧
    ((!x14.isNone) = false →
    F.spatelaw9_EpochSets.j12 Q C1 x0 x1 x5 x7 x8 x10 x12 x14 r45 false h44)) ∧
    (((y47 == 4)) = false →
    (((y47 == 5)) = true →
    ((!x14.isNone) = true →
    ldI .i64 h44 (x11.add 1) fun y88 =>
    RunS PP (Instr.lookup 28 (.map x8) (.int .i64 y88) false) h44 fun u h90 => ∃ r91 : Int, u = (.int .i64 r91) ∧
    F.spatelaw9_EpochSets.j13 Q C1 x0 x1 x5 x7 x8 x10 x11 r45 ((r91 != 0)) h90) ∧
    ((!x14.isNone) = false →
    F.spatelaw9_EpochSets.j13 Q C1 x0 x1 x5 x7 x8 x10 x11 r45 false h44)) ∧
    (((y47 == 5)) = false →
    (((y47 == 6)) = true →
    ((!x14.isNone) = true →
    RunS PP (Builtin.len_ #[39] 3 #[(.map x14)]) h44 fun u h103 => ∃ s104 : Int, u = (.int .i64 s104) ∧
    ((decide (s104 > 0)) = true →
    F.spatelaw9_EpochSets.j14 Q C1 x0 x1 x5 x7 x8 x10 x11 x14 r45 true h103) ∧
    ((decide (s104 > 0)) = false →
    ldI .i64 h103 (x11.add 1) fun y106 =>
    RunS PP (Instr.lookup 28 (.map x8) (.int .i64 y106) false) h103 fun u h108 => ∃ r109 : Int, u = (.int .i64 r109) ∧
    F.spatelaw9_EpochSets.j14 Q C1 x0 x1 x5 x7 x8 x10 x11 x14 r45 ((r109 != 0)) h108)) ∧
    ((!x14.isNone) = false →
    F.spatelaw9_EpochSets.j14 Q C1 x0 x1 x5 x7 x8 x10 x11 x14 r45 false h44)) ∧
    (((y47 == 6)) = false →
    F.spatelaw9_EpochSets.j8 Q C1 x0 x1 x5 x7 x8 x10 r45 r45 h44)))))))
def F.spatelaw9_EpochSets.l4 (Q : Bool → H → Prop) : Nat → Int → Sl → (Option Addr) → (Option Nat) → (Option Nat) → Int → H → Prop
  | 0, _, _, _, _, _, _, _ => False
  | q4 + 1, x0, x1, x5, x7, x8, x10, h =>
    ((decide (x10 < (x1.len : Int))) = true →
    idxA x1 x10 4 fun a16 =>
    ld_S_spatelaw9_Step h a16 fun y18 =>
    new h (((⟨0, 0, 0, false⟩ : S_spatelaw9_Step) : S_spatelaw9_Step).cells.toArray) ty_31 fun a21 h20 =>
    stH h20 a21 y18.cells fun h22 =>
    ld_S_spatelaw9_Step h22 a21 fun y23 =>
    F.epoch_Book_Now x5 h22 fun r26 h25 =>
    Cells h25 a21 y23.cells ∧
    F.spatelaw9_of y23 r26 h25 fun r29 h28 =>
    F.epoch_Book_Now x5 h28 fun r31 h30 =>
    ldI .i64 h30 (a21.add 1) fun y32 =>
    RunS PP (Instr.lookup 38 (.map x7) (.int .i64 y32) false) h30 fun u h34 => ∃ r35 : Option Nat, u = (.map r35) ∧
    ∃ m, F.spatelaw9_EpochSets.l6 Q (F.spatelaw9_EpochSets.l4 Q q4) m x0 x1 x5 x7 x8 x10 a21 r29 r31 r35 false 1 h34) ∧
    ((decide (x10 < (x1.len : Int))) = false →
    F.spatelaw9_held x5 x7 x8 h fun r112 h111 =>
    Q r112 h111)
def F.spatelaw9_EpochSets.l3 (Q : Bool → H → Prop) : Nat → Int → Sl → (Option Addr) → (Option Nat) → (Option Nat) → Int → H → Prop
  | 0, _, _, _, _, _, _, _ => False
  | q3 + 1, x0, x1, x5, x7, x8, x9, h =>
    ((decide (x9 ≤ 64)) = true →
    RunS PP (Instr.makeMap 39 none) h fun u h12 => ∃ m13 : Option Nat, u = (.map m13) ∧
    RunS PP (Instr.mapUpdate 38 (.map x7) (.int .i64 x9) (.map m13)) h12 fun _ h14 =>
    (F.spatelaw9_EpochSets.l3 Q q3) x0 x1 x5 x7 x8 (IntKind.wrap .i64 (x9 + 1)) h14) ∧
    ((decide (x9 ≤ 64)) = false →
    ∃ m, F.spatelaw9_EpochSets.l4 Q m x0 x1 x5 x7 x8 0 h)
def F.spatelaw9_EpochSets.j2 (Q : Bool → H → Prop) (x0 : Int) (x1 : Sl) (x5 : Option Addr) (h : H) : Prop :=
  RunS PP (Instr.makeMap 38 none) h fun u h7 => ∃ m8 : Option Nat, u = (.map m8) ∧
  RunS PP (Instr.makeMap 28 none) h7 fun u h9 => ∃ m10 : Option Nat, u = (.map m10) ∧
  ∃ m, F.spatelaw9_EpochSets.l3 Q m x0 x1 x5 m8 m10 1 h9
def F.spatelaw9_EpochSets.j15 (Q : Bool → H → Prop) (x0 : Int) (x1 : Sl) (x5 : Option Addr) (x42 : Bool) (h : H) : Prop :=
  (x42 = true →
  Q false h) ∧
  (x42 = false →
  F.spatelaw9_EpochSets.j2 Q x0 x1 x5 h)
def F.spatelaw9_EpochSets.j1 (Q : Bool → H → Prop) (x0 : Int) (x1 : Sl) (h : H) : Prop :=
  F.epoch_New x0 h fun r5 r6 h4 =>
  (((r6 != 0)) = true →
  F.spatelaw9_EpochSets.j15 Q x0 x1 r5 true h4) ∧
  (((r6 != 0)) = false →
  F.spatelaw9_EpochSets.j15 Q x0 x1 r5 r5.isNone h4)
def F.spatelaw9_EpochSets.j16 (Q : Bool → H → Prop) (x0 : Int) (x1 : Sl) (x31 : Bool) (h : H) : Prop :=
  (x31 = true →
  Q true h) ∧
  (x31 = false →
  F.spatelaw9_EpochSets.j1 Q x0 x1 h)
/-- spate/spatelaw9.EpochSets -/
def F.spatelaw9_EpochSets (p0 : Int) (p1 : Sl) (h : H) (Q : Bool → H → Prop) : Prop :=
  F.spatelaw9_known  h fun r2 h1 =>
  ((!r2) = true →
  Q false h1) ∧
  ((!r2) = false →
  ((decide ((p1.len : Int) > 3000)) = true →
  F.spatelaw9_EpochSets.j16 Q p0 p1 true h1) ∧
  ((decide ((p1.len : Int) > 3000)) = false →
  ((decide (p0 < 1)) = true →
  F.spatelaw9_EpochSets.j16 Q p0 p1 true h1) ∧
  ((decide (p0 < 1)) = false →
  F.spatelaw9_EpochSets.j16 Q p0 p1 (decide (p0 > 64)) h1)))
theorem F.spatelaw9_EpochSets_ok {p0 : Int} {p1 : Sl} {h : H} {Q : Bool → H → Prop} (H : F.spatelaw9_EpochSets p0 p1 h Q) : Fn PP 5 ([(.int .i64 p0), p1.enc] : List Value).toArray h fun r h' => ∃ r0, r = (.bool r0) ∧ Q r0 h' := by
  unfold F.spatelaw9_EpochSets at H
  refine fn_of Try.func5 Try.ntmps5 rfl rfl fun w0 => ?_
  refine tr_sub [(0, (.int .i64 p0)), (1, p1.enc)] ⟨rfl, rfl, trivial⟩ ?_
  refine tr_seq ?_
  refine tr_region ?_
  refine tr_p (y_assign rfl) rfl rfl ?_
  refine tr_nil ?_
  refine tr_thenN ?_
  refine tr_seq ?_
  refine tr_seq ?_
  refine tr_region ?_
  refine tr_e (e_call Try.call9 rfl (F.spatelaw9_known_ok H)) rfl rfl ?_
  rintro _ h1 ⟨r2, rfl, H⟩
  refine tr_p (y_not rfl) rfl rfl ?_
  refine tr_nil ?_
  refine tr_thenN ?_
  refine tr_cond rfl (fun g3 => ?_) (fun g3 => ?_)
  · replace H := H.1 g3
    refine tr_seq ?_
    refine tr_region ?_
    refine tr_p (y_assign rfl) rfl rfl ?_
    refine tr_nil ?_
    refine tr_thenN ?_
    refine tr_ret ?_
    refine tr_thenR ?_
    exact tr_ret1 rfl rfl ⟨_, rfl, H⟩
  · replace H := H.2 g3
    refine tr_skip ?_
    refine tr_thenN ?_
    refine tr_seq_j (fun L' h => ∃ (x0 : Int) (x1 : Sl), L' = [(0, (.int .i64 x0)), (1, x1.enc)] ∧ F.spatelaw9_EpochSets.j1 Q x0 x1 h) ?_ ?_
    · rintro L' h ⟨x0, x1, rfl, H⟩
      unfold F.spatelaw9_EpochSets.j1 at H
      refine tr_seq ?_
      refine tr_region ?_
      refine tr_p (y_move rfl) rfl rfl ?_
      refine tr_e (e_call Try.call10 rfl (F.epoch_New_ok H)) rfl rfl ?_
      rintro _ h4 ⟨r5, r6, rfl, H⟩
      refine tr_p (y_move rfl) rfl rfl ?_
      refine tr_p (y_ext rfl rfl) rfl rfl ?_
      refine tr_p (y_ext rfl rfl) rfl rfl ?_
      refine tr_p (y_assign rfl) rfl rfl ?_
      refine tr_p (y_assign rfl) rfl rfl ?_
      refine tr_nil ?_
      refine tr_thenN ?_
      refine tr_seq_j (fun L' h => ∃ (x0 : Int) (x1 : Sl) (x5 : Option Addr), L' = [(0, (.int .i64 x0)), (1, x1.enc), (5, (.pointer x5))] ∧ F.spatelaw9_EpochSets.j2 Q x0 x1 x5 h) ?_ ?_
      · rintro L' h ⟨x0, x1, x5, rfl, H⟩
        unfold F.spatelaw9_EpochSets.j2 at H
        refine tr_seq ?_
        refine tr_region ?_
        refine tr_e (f_mkN H) rfl rfl ?_
        rintro _ h7 ⟨m8, rfl, H⟩
        refine tr_p (y_assign rfl) rfl rfl ?_
        refine tr_nil ?_
        refine tr_thenN ?_
        refine tr_seq ?_
        refine tr_region ?_
        refine tr_e (f_mkN H) rfl rfl ?_
        rintro _ h9 ⟨m10, rfl, H⟩
        refine tr_p (y_assign rfl) rfl rfl ?_
        refine tr_nil ?_
        refine tr_thenN ?_
        refine tr_seq ?_
        refine tr_seq ?_
        refine tr_region ?_
        refine tr_p (y_assign rfl) rfl rfl ?_
        refine tr_nil ?_
        refine tr_thenN ?_
        refine tr_block ?_
        obtain ⟨m114, H⟩ := H
        refine tr_sub [(0, (.int .i64 x0)), (1, x1.enc), (5, (.pointer x5)), (7, (.map m8)), (8, (.map m10)), (9, (.int .i64 1))] ⟨rfl, rfl, rfl, rfl, rfl, rfl, trivial⟩ ?_
        refine tr_loop_j (fun m L' h => ∃ (x0 : Int) (x1 : Sl) (x5 : Option Addr) (x7 : Option Nat) (x8 : Option Nat) (x9 : Int), L' = [(0, (.int .i64 x0)), (1, x1.enc), (5, (.pointer x5)), (7, (.map x7)), (8, (.map x8)), (9, (.int .i64 x9))] ∧ F.spatelaw9_EpochSets.l3 Q m x0 x1 x5 x7 x8 x9 h) ?_ ?_ m114 ⟨_, _, _, _, _, _, rfl, H⟩
        · rintro L' h ⟨_, _, _, _, _, _, _, H⟩; exact H
        · rintro q3 L' h ⟨x0, x1, x5, x7, x8, x9, rfl, H⟩
          unfold F.spatelaw9_EpochSets.l3 at H
          refine tr_seq ?_
          refine tr_seq ?_
          refine tr_region ?_
          refine tr_p (y_move rfl) rfl rfl ?_
          refine tr_p (y_leq rfl rfl) rfl rfl ?_
          refine tr_nil ?_
          refine tr_thenN ?_
          refine tr_cond rfl (fun g11 => ?_) (fun g11 => ?_)
          · replace H := H.1 g11
            refine tr_skip ?_
            refine tr_thenN ?_
            refine tr_seq ?_
            refine tr_block ?_
            refine tr_region ?_
            refine tr_p (y_move rfl) rfl rfl ?_
            refine tr_p (y_move rfl) rfl rfl ?_
            refine tr_e (f_mkN H) rfl rfl ?_
            rintro _ h12 ⟨m13, rfl, H⟩
            refine tr_e (f_mu rfl rfl rfl H) rfl rfl ?_
            rintro _ h14 ⟨rfl, H⟩
            refine tr_nil ?_
            refine tr_blockN ?_
            refine tr_thenN ?_
            refine tr_region ?_
            refine tr_p (y_move rfl) rfl rfl ?_
            refine tr_p (y_add rfl rfl) rfl rfl ?_
            refine tr_p (y_assign rfl) rfl rfl ?_
            refine tr_nil ?_
            refine tr_thenN ?_
            exact tr_join [(0, (.int .i64 x0)), (1, x1.enc), (5, (.pointer x5)), (7, (.map x7)), (8, (.map x8)), (9, (.int .i64 (IntKind.wrap .i64 (x9 + 1))))] ⟨rfl, rfl, rfl, rfl, rfl, rfl, trivial⟩ ⟨_, _, _, _, _, _, rfl, H⟩
          · replace H := H.2 g11
            refine tr_exit ?_
            refine tr_thenE ?_
            refine tr_thenE ?_
            refine tr_hit ?_
            refine tr_thenN ?_
            refine tr_seq ?_
            refine tr_seq ?_
            refine tr_region ?_
            refine tr_p (y_assign rfl) rfl rfl ?_
            refine tr_nil ?_
            refine tr_thenN ?_
            refine tr_block ?_
            obtain ⟨m113, H⟩ := H
            refine tr_sub [(0, (.int .i64 x0)), (1, x1.enc), (5, (.pointer x5)), (7, (.map x7)), (8, (.map x8)), (10, (.int .i64 0))] ⟨rfl, rfl, rfl, rfl, rfl, rfl, trivial⟩ ?_
            refine tr_loop_j (fun m L' h => ∃ (x0 : Int) (x1 : Sl) (x5 : Option Addr) (x7 : Option Nat) (x8 : Option Nat) (x10 : Int), L' = [(0, (.int .i64 x0)), (1, x1.enc), (5, (.pointer x5)), (7, (.map x7)), (8, (.map x8)), (10, (.int .i64 x10))] ∧ F.spatelaw9_EpochSets.l4 Q m x0 x1 x5 x7 x8 x10 h) ?_ ?_ m113 ⟨_, _, _, _, _, _, rfl, H⟩
            · rintro L' h ⟨_, _, _, _, _, _, _, H⟩; exact H
            · rintro q4 L' h ⟨x0, x1, x5, x7, x8, x10, rfl, H⟩
              unfold F.spatelaw9_EpochSets.l4 at H
              refine tr_seq ?_
              refine tr_seq ?_
              refine tr_region ?_
              refine tr_p (y_move rfl) rfl rfl ?_
              refine tr_p (y_move rfl) rfl rfl ?_
              refine tr_p (y_len (ts := #[]) Try.runUnderlying23 (o := x1.ptr) (n := x1.len) (cap := x1.cap) rfl) rfl rfl ?_
              refine tr_p (y_lss rfl rfl) rfl rfl ?_
              refine tr_nil ?_
              refine tr_thenN ?_
              refine tr_cond rfl (fun g15 => ?_) (fun g15 => ?_)
              · replace H := H.1 g15
                refine tr_skip ?_
                refine tr_thenN ?_
                refine tr_seq_j (fun L' h => ∃ (x0 : Int) (x1 : Sl) (x5 : Option Addr) (x7 : Option Nat) (x8 : Option Nat) (x10 : Int), L' = [(0, (.int .i64 x0)), (1, x1.enc), (5, (.pointer x5)), (7, (.map x7)), (8, (.map x8)), (10, (.int .i64 x10))] ∧ F.spatelaw9_EpochSets.j5 Q (F.spatelaw9_EpochSets.l4 Q q4) x0 x1 x5 x7 x8 x10 h) ?_ ?_
                · rintro L' h ⟨x0, x1, x5, x7, x8, x10, rfl, H⟩
                  unfold F.spatelaw9_EpochSets.j5 at H
                  refine tr_region ?_
                  refine tr_p (y_move rfl) rfl rfl ?_
                  refine tr_p (y_add rfl rfl) rfl rfl ?_
                  refine tr_p (y_assign rfl) rfl rfl ?_
                  refine tr_nil ?_
                  refine tr_thenN ?_
                  exact tr_join [(0, (.int .i64 x0)), (1, x1.enc), (5, (.pointer x5)), (7, (.map x7)), (8, (.map x8)), (10, (.int .i64 (IntKind.wrap .i64 (x10 + 1))))] ⟨rfl, rfl, rfl, rfl, rfl, rfl, trivial⟩ ⟨_, _, _, _, _, _, rfl, H⟩
                · refine tr_block ?_
                  refine tr_seq ?_
                  refine tr_region ?_
                  refine tr_p (y_move rfl) rfl rfl ?_
                  refine tr_p (y_move rfl) rfl rfl ?_
                  obtain ⟨a16, e17, H⟩ := H
                  refine tr_p (f_idx (s := x1) Try.runUnderlying23 Try.sizeOf31 rfl rfl e17) rfl rfl ?_
                  obtain ⟨y18, k19, H⟩ := H
                  refine tr_h (y_ldS Try.isAgg31 Try.sizeOf31 rfl rfl) k19 rfl rfl ?_
                  refine tr_e (f_alloc (cs := ((⟨0, 0, 0, false⟩ : S_spatelaw9_Step) : S_spatelaw9_Step).cells.toArray) Try.zeroValue31 rfl H) rfl rfl ?_
                  rintro _ h20 ⟨a21, rfl, H⟩
                  refine tr_e (f_store (vs := y18.cells) Try.sizeOf31 rfl rfl cellsOfStruct rfl (by intro v hv; exact ones_S_spatelaw9_Step _ v hv) H) rfl rfl ?_
                  rintro _ h22 ⟨rfl, H⟩
                  refine tr_nil ?_
                  refine tr_thenN ?_
                  refine tr_seq ?_
                  refine tr_draw mixed [0, 0, 2, 7, 15] (by kernel_rfl) ?_
                  obtain ⟨y23, k24, H⟩ := H
                  refine g_h 0 1 rfl (by kernel_rfl) (y_ldS Try.isAgg31 Try.sizeOf31 rfl rfl) k24 rfl rfl ?_
                  refine g_p 1 3 rfl (by kernel_rfl) (y_move rfl) rfl rfl ?_
                  refine g_e 2 7 [(0, fun h => Cells h a21 y23.cells)] (by kernel_rfl) rfl (by kernel_rfl) (e_call Try.call15 rfl (F.epoch_Book_Now_ok H)) rfl rfl ?_
                  rintro _ h25 ⟨r26, rfl, H⟩
                  obtain ⟨k27, H⟩ := H
                  refine ⟨And.intro k27 trivial, ?_⟩
                  refine g_e 3 15 [] (by kernel_rfl) rfl (by kernel_rfl) (e_call Try.call18 rfl (F.spatelaw9_of_ok H)) rfl rfl ?_
                  rintro _ h28 ⟨r29, rfl, H⟩
                  refine ⟨trivial, ?_⟩
                  refine g_p 4 31 rfl (by kernel_rfl) (y_assign rfl) rfl rfl ?_
                  refine g_d (by kernel_rfl) ?_
                  refine tr_thenN ?_
                  refine tr_seq ?_
                  refine tr_region ?_
                  refine tr_p (y_move rfl) rfl rfl ?_
                  refine tr_e (e_call Try.call15 rfl (F.epoch_Book_Now_ok H)) rfl rfl ?_
                  rintro _ h30 ⟨r31, rfl, H⟩
                  refine tr_p (y_assign rfl) rfl rfl ?_
                  refine tr_nil ?_
                  refine tr_thenN ?_
                  refine tr_seq ?_
                  refine tr_region ?_
                  refine tr_p (y_move rfl) rfl rfl ?_
                  refine tr_p (y_fa (off := 1) Try.runUnderlying31 fo_31_1 rfl) rfl rfl ?_
                  obtain ⟨y32, k33, H⟩ := H
                  refine tr_h (y_ld Try.isAgg3 rfl) k33 rfl rfl ?_
                  refine tr_e (f_lk rfl rfl H) rfl rfl ?_
                  rintro _ h34 ⟨r35, rfl, H⟩
                  refine tr_p (y_assign rfl) rfl rfl ?_
                  refine tr_nil ?_
                  refine tr_thenN ?_
                  refine tr_seq ?_
                  refine tr_region ?_
                  refine tr_p (y_assign rfl) rfl rfl ?_
                  refine tr_nil ?_
                  refine tr_thenN ?_
                  refine tr_seq ?_
                  refine tr_seq ?_
                  refine tr_region ?_
                  refine tr_p (y_assign rfl) rfl rfl ?_
                  refine tr_nil ?_
                  refine tr_thenN ?_
                  refine tr_block ?_
                  obtain ⟨m110, H⟩ := H
                  refine tr_sub [(0, (.int .i64 x0)), (1, x1.enc), (5, (.pointer x5)), (7, (.map x7)), (8, (.map x8)), (10, (.int .i64 x10)), (11, (.pointer (some a21))), (12, (.int .i64 r29)), (13, (.int .i64 r31)), (14, (.map r35)), (15, (.bool false)), (16, (.int .i64 1))] ⟨rfl, rfl, rfl, rfl, rfl, rfl, rfl, rfl, rfl, rfl, rfl, rfl, trivial⟩ ?_
                  refine tr_loop_j (fun m L' h => ∃ (x0 : Int) (x1 : Sl) (x5 : Option Addr) (x7 : Option Nat) (x8 : Option Nat) (x10 : Int) (x11 : Addr) (x12 : Int) (x13 : Int) (x14 : Option Nat) (x15 : Bool) (x16 : Int), L' = [(0, (.int .i64 x0)), (1, x1.enc), (5, (.pointer x5)), (7, (.map x7)), (8, (.map x8)), (10, (.int .i64 x10)), (11, (.pointer (some x11))), (12, (.int .i64 x12)), (13, (.int .i64 x13)), (14, (.map x14)), (15, (.bool x15)), (16, (.int .i64 x16))] ∧ F.spatelaw9_EpochSets.l6 Q (F.spatelaw9_EpochSets.l4 Q q4) m x0 x1 x5 x7 x8 x10 x11 x12 x13 x14 x15 x16 h) ?_ ?_ m110 ⟨_, _, _, _, _, _, _, _, _, _, _, _, rfl, H⟩
                  · rintro L' h ⟨_, _, _, _, _, _, _, _, _, _, _, _, _, H⟩; exact H
                  · rintro q6 L' h ⟨x0, x1, x5, x7, x8, x10, x11, x12, x13, x14, x15, x16, rfl, H⟩
                    unfold F.spatelaw9_EpochSets.l6 at H
                    refine tr_seq ?_
                    refine tr_seq ?_
                    refine tr_region ?_
                    refine tr_p (y_move rfl) rfl rfl ?_
                    refine tr_p (y_leq rfl rfl) rfl rfl ?_
                    refine tr_nil ?_
                    refine tr_thenN ?_
                    refine tr_cond rfl (fun g36 => ?_) (fun g36 => ?_)
                    · replace H := H.1 g36
                      refine tr_skip ?_
                      refine tr_thenN ?_
                      refine tr_seq_j (fun L' h => ∃ (x0 : Int) (x1 : Sl) (x5 : Option Addr) (x7 : Option Nat) (x8 : Option Nat) (x10 : Int) (x11 : Addr) (x12 : Int) (x13 : Int) (x14 : Option Nat) (x15 : Bool) (x16 : Int), L' = [(0, (.int .i64 x0)), (1, x1.enc), (5, (.pointer x5)), (7, (.map x7)), (8, (.map x8)), (10, (.int .i64 x10)), (11, (.pointer (some x11))), (12, (.int .i64 x12)), (13, (.int .i64 x13)), (14, (.map x14)), (15, (.bool x15)), (16, (.int .i64 x16))] ∧ F.spatelaw9_EpochSets.j7 Q (F.spatelaw9_EpochSets.l4 Q q4) (F.spatelaw9_EpochSets.l6 Q (F.spatelaw9_EpochSets.l4 Q q4) q6) x0 x1 x5 x7 x8 x10 x11 x12 x13 x14 x15 x16 h) ?_ ?_
                      · rintro L' h ⟨x0, x1, x5, x7, x8, x10, x11, x12, x13, x14, x15, x16, rfl, H⟩
                        unfold F.spatelaw9_EpochSets.j7 at H
                        refine tr_region ?_
                        refine tr_p (y_move rfl) rfl rfl ?_
                        refine tr_p (y_add rfl rfl) rfl rfl ?_
                        refine tr_p (y_assign rfl) rfl rfl ?_
                        refine tr_nil ?_
                        refine tr_thenN ?_
                        exact tr_join [(0, (.int .i64 x0)), (1, x1.enc), (5, (.pointer x5)), (7, (.map x7)), (8, (.map x8)), (10, (.int .i64 x10)), (11, (.pointer (some x11))), (12, (.int .i64 x12)), (13, (.int .i64 x13)), (14, (.map x14)), (15, (.bool x15)), (16, (.int .i64 (IntKind.wrap .i64 (x16 + 1))))] ⟨rfl, rfl, rfl, rfl, rfl, rfl, rfl, rfl, rfl, rfl, rfl, rfl, trivial⟩ ⟨_, _, _, _, _, _, _, _, _, _, _, _, rfl, H⟩
                      · refine tr_block ?_
                        refine tr_region ?_
                        refine tr_p (y_move rfl) rfl rfl ?_
                        refine tr_p (y_move rfl) rfl rfl ?_
                        refine tr_split (t := 77) rfl (fun g37 => ?_) (fun g37 => ?_)
                        · replace H := H.1 g37
                          refine tr_s rfl rfl ?_
                          refine tr_s rfl rfl ?_
                          refine tr_s rfl rfl ?_
                          refine tr_s rfl rfl ?_
                          refine tr_s rfl rfl ?_
                          refine tr_p (y_pick_t rfl rfl) rfl rfl ?_
                          refine tr_p (y_assign rfl) rfl rfl ?_
                          refine tr_nil ?_
                          refine tr_blockN ?_
                          refine tr_thenN ?_
                          exact tr_join [(0, (.int .i64 x0)), (1, x1.enc), (5, (.pointer x5)), (7, (.map x7)), (8, (.map x8)), (10, (.int .i64 x10)), (11, (.pointer (some x11))), (12, (.int .i64 x12)), (13, (.int .i64 x13)), (14, (.map x14)), (15, (.bool true)), (16, (.int .i64 x16))] ⟨rfl, rfl, rfl, rfl, rfl, rfl, rfl, rfl, rfl, rfl, rfl, rfl, trivial⟩ ⟨_, _, _, _, _, _, _, _, _, _, _, _, rfl, H⟩
                        · replace H := H.2 g37
                          refine tr_p (y_move rfl) rfl rfl ?_
                          refine tr_p (y_move rfl) rfl rfl ?_
                          refine tr_e (f_lk rfl rfl H) rfl rfl ?_
                          rintro _ h38 ⟨r39, rfl, H⟩
                          refine tr_p (y_move rfl) rfl rfl ?_
                          refine tr_e (f_lk rfl rfl H) rfl rfl ?_
                          rintro _ h40 ⟨r41, rfl, H⟩
                          refine tr_p (y_pick_f rfl rfl) rfl rfl ?_
                          refine tr_p (y_assign rfl) rfl rfl ?_
                          refine tr_nil ?_
                          refine tr_blockN ?_
                          refine tr_thenN ?_
                          exact tr_join [(0, (.int .i64 x0)), (1, x1.enc), (5, (.pointer x5)), (7, (.map x7)), (8, (.map x8)), (10, (.int .i64 x10)), (11, (.pointer (some x11))), (12, (.int .i64 x12)), (13, (.int .i64 x13)), (14, (.map x14)), (15, (.bool r41)), (16, (.int .i64 x16))] ⟨rfl, rfl, rfl, rfl, rfl, rfl, rfl, rfl, rfl, rfl, rfl, rfl, trivial⟩ ⟨_, _, _, _, _, _, _, _, _, _, _, _, rfl, H⟩
                    · replace H := H.2 g36
                      refine tr_exit ?_
                      refine tr_thenE ?_
                      refine tr_thenE ?_
                      refine tr_hit ?_
                      refine tr_thenN ?_
                      refine tr_seq ?_
                      refine tr_region ?_
                      refine tr_p (y_move rfl) rfl rfl ?_
                      obtain ⟨y42, k43, H⟩ := H
                      refine tr_h (y_ldS Try.isAgg31 Try.sizeOf31 rfl rfl) k43 rfl rfl ?_
                      refine tr_e (e_call Try.call13 rfl (F.spatelaw9_do_ok H)) rfl rfl ?_
                      rintro _ h44 ⟨r45, rfl, H⟩
                      refine tr_p (y_assign rfl) rfl rfl ?_
                      refine tr_nil ?_
                      refine tr_thenN ?_
                      refine tr_seq ?_
                      refine tr_region ?_
                      refine tr_p (y_move rfl) rfl rfl ?_
                      refine tr_p (y_mnil_neq Try.runUnderlying39 (p := x14) rfl rfl) rfl rfl ?_
                      refine tr_p (y_assign rfl) rfl rfl ?_
                      refine tr_nil ?_
                      refine tr_thenN ?_
                      refine tr_seq_j (fun L' h => ∃ (x0 : Int) (x1 : Sl) (x5 : Option Addr) (x7 : Option Nat) (x8 : Option Nat) (x10 : Int) (x17 : Bool) (x18 : Bool), L' = [(0, (.int .i64 x0)), (1, x1.enc), (5, (.pointer x5)), (7, (.map x7)), (8, (.map x8)), (10, (.int .i64 x10)), (17, (.bool x17)), (18, (.bool x18))] ∧ F.spatelaw9_EpochSets.j8 Q (F.spatelaw9_EpochSets.l4 Q q4) x0 x1 x5 x7 x8 x10 x17 x18 h) ?_ ?_
                      · rintro L' h ⟨x0, x1, x5, x7, x8, x10, x17, x18, rfl, H⟩
                        unfold F.spatelaw9_EpochSets.j8 at H
                        refine tr_seq ?_
                        refine tr_region ?_
                        refine tr_p (y_move rfl) rfl rfl ?_
                        refine tr_p (y_move rfl) rfl rfl ?_
                        refine tr_p (y_bneq Try.underlying4 rfl rfl) rfl rfl ?_
                        refine tr_nil ?_
                        refine tr_thenN ?_
                        refine tr_cond rfl (fun g46 => ?_) (fun g46 => ?_)
                        · replace H := H.1 g46
                          refine tr_seq ?_
                          refine tr_region ?_
                          refine tr_p (y_assign rfl) rfl rfl ?_
                          refine tr_nil ?_
                          refine tr_thenN ?_
                          refine tr_ret ?_
                          refine tr_blockR ?_
                          refine tr_thenR ?_
                          refine tr_thenR ?_
                          refine tr_blockR ?_
                          refine tr_thenR ?_
                          exact tr_ret1 rfl rfl ⟨_, rfl, H⟩
                        · replace H := H.2 g46
                          refine tr_skip ?_
                          refine tr_blockN ?_
                          refine tr_thenN ?_
                          exact tr_join [(0, (.int .i64 x0)), (1, x1.enc), (5, (.pointer x5)), (7, (.map x7)), (8, (.map x8)), (10, (.int .i64 x10))] ⟨rfl, rfl, rfl, rfl, rfl, rfl, trivial⟩ ⟨_, _, _, _, _, _, rfl, H⟩
                      · refine tr_seq ?_
                        refine tr_region ?_
                        refine tr_p (y_fa (off := 0) Try.runUnderlying31 fo_31_0 rfl) rfl rfl ?_
                        obtain ⟨y47, k48, H⟩ := H
                        refine tr_h (y_ld Try.isAgg3 rfl) k48 rfl rfl ?_
                        refine tr_nil ?_
                        refine tr_thenN ?_
                        refine tr_block ?_
                        refine tr_seq ?_
                        refine tr_region ?_
                        refine tr_p (y_eql rfl rfl) rfl rfl ?_
                        refine tr_p (y_assign rfl) rfl rfl ?_
                        refine tr_nil ?_
                        refine tr_thenN ?_
                        refine tr_cond rfl (fun g49 => ?_) (fun g49 => ?_)
                        · replace H := H.1 g49
                          refine tr_seq_j (fun L' h => ∃ (x0 : Int) (x1 : Sl) (x5 : Option Addr) (x7 : Option Nat) (x8 : Option Nat) (x10 : Int) (x13 : Int) (x14 : Option Nat) (x17 : Bool) (x18 : Bool), L' = [(0, (.int .i64 x0)), (1, x1.enc), (5, (.pointer x5)), (7, (.map x7)), (8, (.map x8)), (10, (.int .i64 x10)), (13, (.int .i64 x13)), (14, (.map x14)), (17, (.bool x17)), (18, (.bool x18))] ∧ F.spatelaw9_EpochSets.j9 Q (F.spatelaw9_EpochSets.l4 Q q4) x0 x1 x5 x7 x8 x10 x13 x14 x17 x18 h) ?_ ?_
                          · rintro L' h ⟨x0, x1, x5, x7, x8, x10, x13, x14, x17, x18, rfl, H⟩
                            unfold F.spatelaw9_EpochSets.j9 at H
                            refine tr_seq ?_
                            refine tr_region ?_
                            refine tr_p (y_move rfl) rfl rfl ?_
                            refine tr_nil ?_
                            refine tr_thenN ?_
                            refine tr_cond rfl (fun g50 => ?_) (fun g50 => ?_)
                            · replace H := H.1 g50
                              refine tr_region ?_
                              refine tr_p (y_move rfl) rfl rfl ?_
                              refine tr_p (y_move rfl) rfl rfl ?_
                              refine tr_e (f_mu rfl rfl rfl H) rfl rfl ?_
                              rintro _ h51 ⟨rfl, H⟩
                              refine tr_nil ?_
                              refine tr_blockN ?_
                              refine tr_thenN ?_
                              exact tr_join [(0, (.int .i64 x0)), (1, x1.enc), (5, (.pointer x5)), (7, (.map x7)), (8, (.map x8)), (10, (.int .i64 x10)), (17, (.bool x17)), (18, (.bool x18))] ⟨rfl, rfl, rfl, rfl, rfl, rfl, rfl, rfl, trivial⟩ ⟨_, _, _, _, _, _, _, _, rfl, H⟩
                            · replace H := H.2 g50
                              refine tr_skip ?_
                              refine tr_blockN ?_
                              refine tr_thenN ?_
                              exact tr_join [(0, (.int .i64 x0)), (1, x1.enc), (5, (.pointer x5)), (7, (.map x7)), (8, (.map x8)), (10, (.int .i64 x10)), (17, (.bool x17)), (18, (.bool x18))] ⟨rfl, rfl, rfl, rfl, rfl, rfl, rfl, rfl, trivial⟩ ⟨_, _, _, _, _, _, _, _, rfl, H⟩
                          · refine tr_region ?_
                            refine tr_p (y_move rfl) rfl rfl ?_
                            refine tr_p (y_move rfl) rfl rfl ?_
                            refine tr_split (t := 95) rfl (fun g52 => ?_) (fun g52 => ?_)
                            · replace H := H.1 g52
                              refine tr_p (y_move rfl) rfl rfl ?_
                              refine tr_e (f_lenM rfl H) rfl rfl ?_
                              rintro _ h53 ⟨s54, rfl, H⟩
                              refine tr_p (y_move rfl) rfl rfl ?_
                              refine tr_p (y_lss rfl rfl) rfl rfl ?_
                              refine tr_p (y_pick_t rfl rfl) rfl rfl ?_
                              refine tr_p (y_assign rfl) rfl rfl ?_
                              refine tr_nil ?_
                              refine tr_thenN ?_
                              exact tr_join [(0, (.int .i64 x0)), (1, x1.enc), (5, (.pointer x5)), (7, (.map x7)), (8, (.map x8)), (10, (.int .i64 x10)), (13, (.int .i64 x13)), (14, (.map x14)), (17, (.bool r45)), (18, (.bool (decide (s54 < x0))))] ⟨rfl, rfl, rfl, rfl, rfl, rfl, rfl, rfl, rfl, rfl, trivial⟩ ⟨_, _, _, _, _, _, _, _, _, _, rfl, H⟩
                            · replace H := H.2 g52
                              refine tr_s rfl rfl ?_
                              refine tr_s rfl rfl ?_
                              refine tr_s rfl rfl ?_
                              refine tr_s rfl rfl ?_
                              refine tr_p (y_pick_f rfl rfl) rfl rfl ?_
                              refine tr_p (y_assign rfl) rfl rfl ?_
                              refine tr_nil ?_
                              refine tr_thenN ?_
                              exact tr_join [(0, (.int .i64 x0)), (1, x1.enc), (5, (.pointer x5)), (7, (.map x7)), (8, (.map x8)), (10, (.int .i64 x10)), (13, (.int .i64 x13)), (14, (.map x14)), (17, (.bool r45)), (18, (.bool false))] ⟨rfl, rfl, rfl, rfl, rfl, rfl, rfl, rfl, rfl, rfl, trivial⟩ ⟨_, _, _, _, _, _, _, _, _, _, rfl, H⟩
                        · replace H := H.2 g49
                          refine tr_seq ?_
                          refine tr_region ?_
                          refine tr_p (y_eql rfl rfl) rfl rfl ?_
                          refine tr_p (y_assign rfl) rfl rfl ?_
                          refine tr_nil ?_
                          refine tr_thenN ?_
                          refine tr_cond rfl (fun g55 => ?_) (fun g55 => ?_)
                          · replace H := H.1 g55
                            refine tr_seq_j (fun L' h => ∃ (x0 : Int) (x1 : Sl) (x5 : Option Addr) (x7 : Option Nat) (x8 : Option Nat) (x10 : Int) (x11 : Addr) (x13 : Int) (x17 : Bool) (x18 : Bool), L' = [(0, (.int .i64 x0)), (1, x1.enc), (5, (.pointer x5)), (7, (.map x7)), (8, (.map x8)), (10, (.int .i64 x10)), (11, (.pointer (some x11))), (13, (.int .i64 x13)), (17, (.bool x17)), (18, (.bool x18))] ∧ F.spatelaw9_EpochSets.j10 Q (F.spatelaw9_EpochSets.l4 Q q4) x0 x1 x5 x7 x8 x10 x11 x13 x17 x18 h) ?_ ?_
                            · rintro L' h ⟨x0, x1, x5, x7, x8, x10, x11, x13, x17, x18, rfl, H⟩
                              unfold F.spatelaw9_EpochSets.j10 at H
                              refine tr_seq ?_
                              refine tr_region ?_
                              refine tr_p (y_move rfl) rfl rfl ?_
                              refine tr_nil ?_
                              refine tr_thenN ?_
                              refine tr_cond rfl (fun g56 => ?_) (fun g56 => ?_)
                              · replace H := H.1 g56
                                refine tr_region ?_
                                refine tr_p (y_move rfl) rfl rfl ?_
                                refine tr_p (y_fa (off := 1) Try.runUnderlying31 fo_31_1 rfl) rfl rfl ?_
                                obtain ⟨y57, k58, H⟩ := H
                                refine tr_h (y_ld Try.isAgg3 rfl) k58 rfl rfl ?_
                                refine tr_p (y_move rfl) rfl rfl ?_
                                refine tr_e (f_mu rfl rfl rfl H) rfl rfl ?_
                                rintro _ h59 ⟨rfl, H⟩
                                refine tr_nil ?_
                                refine tr_blockN ?_
                                refine tr_thenN ?_
                                exact tr_join [(0, (.int .i64 x0)), (1, x1.enc), (5, (.pointer x5)), (7, (.map x7)), (8, (.map x8)), (10, (.int .i64 x10)), (17, (.bool x17)), (18, (.bool x18))] ⟨rfl, rfl, rfl, rfl, rfl, rfl, rfl, rfl, trivial⟩ ⟨_, _, _, _, _, _, _, _, rfl, H⟩
                              · replace H := H.2 g56
                                refine tr_skip ?_
                                refine tr_blockN ?_
                                refine tr_thenN ?_
                                exact tr_join [(0, (.int .i64 x0)), (1, x1.enc), (5, (.pointer x5)), (7, (.map x7)), (8, (.map x8)), (10, (.int .i64 x10)), (17, (.bool x17)), (18, (.bool x18))] ⟨rfl, rfl, rfl, rfl, rfl, rfl, rfl, rfl, trivial⟩ ⟨_, _, _, _, _, _, _, _, rfl, H⟩
                            · refine tr_region ?_
                              refine tr_p (y_move rfl) rfl rfl ?_
                              refine tr_p (y_move rfl) rfl rfl ?_
                              refine tr_split (t := 107) rfl (fun g60 => ?_) (fun g60 => ?_)
                              · replace H := H.1 g60
                                refine tr_p (y_move rfl) rfl rfl ?_
                                refine tr_p (y_fa (off := 1) Try.runUnderlying31 fo_31_1 rfl) rfl rfl ?_
                                obtain ⟨y61, k62, H⟩ := H
                                refine tr_h (y_ld Try.isAgg3 rfl) k62 rfl rfl ?_
                                refine tr_e (f_lk rfl rfl H) rfl rfl ?_
                                rintro _ h63 ⟨r64, rfl, H⟩
                                refine tr_p (y_eql rfl rfl) rfl rfl ?_
                                refine tr_p (y_pick_t rfl rfl) rfl rfl ?_
                                refine tr_p (y_assign rfl) rfl rfl ?_
                                refine tr_nil ?_
                                refine tr_thenN ?_
                                exact tr_join [(0, (.int .i64 x0)), (1, x1.enc), (5, (.pointer x5)), (7, (.map x7)), (8, (.map x8)), (10, (.int .i64 x10)), (11, (.pointer (some x11))), (13, (.int .i64 x13)), (17, (.bool r45)), (18, (.bool ((r64 == 0))))] ⟨rfl, rfl, rfl, rfl, rfl, rfl, rfl, rfl, rfl, rfl, trivial⟩ ⟨_, _, _, _, _, _, _, _, _, _, rfl, H⟩
                              · replace H := H.2 g60
                                refine tr_s rfl rfl ?_
                                refine tr_s rfl rfl ?_
                                refine tr_s rfl rfl ?_
                                refine tr_s rfl rfl ?_
                                refine tr_s rfl rfl ?_
                                refine tr_p (y_pick_f rfl rfl) rfl rfl ?_
                                refine tr_p (y_assign rfl) rfl rfl ?_
                                refine tr_nil ?_
                                refine tr_thenN ?_
                                exact tr_join [(0, (.int .i64 x0)), (1, x1.enc), (5, (.pointer x5)), (7, (.map x7)), (8, (.map x8)), (10, (.int .i64 x10)), (11, (.pointer (some x11))), (13, (.int .i64 x13)), (17, (.bool r45)), (18, (.bool false))] ⟨rfl, rfl, rfl, rfl, rfl, rfl, rfl, rfl, rfl, rfl, trivial⟩ ⟨_, _, _, _, _, _, _, _, _, _, rfl, H⟩
                          · replace H := H.2 g55
                            refine tr_seq ?_
                            refine tr_region ?_
                            refine tr_p (y_eql rfl rfl) rfl rfl ?_
                            refine tr_p (y_assign rfl) rfl rfl ?_
                            refine tr_nil ?_
                            refine tr_thenN ?_
                            refine tr_cond rfl (fun g65 => ?_) (fun g65 => ?_)
                            · replace H := H.1 g65
                              refine tr_seq_j (fun L' h => ∃ (x0 : Int) (x1 : Sl) (x5 : Option Addr) (x7 : Option Nat) (x8 : Option Nat) (x10 : Int) (x12 : Int) (x14 : Option Nat) (x17 : Bool) (x18 : Bool), L' = [(0, (.int .i64 x0)), (1, x1.enc), (5, (.pointer x5)), (7, (.map x7)), (8, (.map x8)), (10, (.int .i64 x10)), (12, (.int .i64 x12)), (14, (.map x14)), (17, (.bool x17)), (18, (.bool x18))] ∧ F.spatelaw9_EpochSets.j11 Q (F.spatelaw9_EpochSets.l4 Q q4) x0 x1 x5 x7 x8 x10 x12 x14 x17 x18 h) ?_ ?_
                              · rintro L' h ⟨x0, x1, x5, x7, x8, x10, x12, x14, x17, x18, rfl, H⟩
                                unfold F.spatelaw9_EpochSets.j11 at H
                                refine tr_seq ?_
                                refine tr_region ?_
                                refine tr_p (y_move rfl) rfl rfl ?_
                                refine tr_nil ?_
                                refine tr_thenN ?_
                                refine tr_cond rfl (fun g66 => ?_) (fun g66 => ?_)
                                · replace H := H.1 g66
                                  refine tr_region ?_
                                  refine tr_p (y_move rfl) rfl rfl ?_
                                  refine tr_p (y_move rfl) rfl rfl ?_
                                  refine tr_e (f_mu rfl rfl rfl H) rfl rfl ?_
                                  rintro _ h67 ⟨rfl, H⟩
                                  refine tr_nil ?_
                                  refine tr_blockN ?_
                                  refine tr_thenN ?_
                                  exact tr_join [(0, (.int .i64 x0)), (1, x1.enc), (5, (.pointer x5)), (7, (.map x7)), (8, (.map x8)), (10, (.int .i64 x10)), (17, (.bool x17)), (18, (.bool x18))] ⟨rfl, rfl, rfl, rfl, rfl, rfl, rfl, rfl, trivial⟩ ⟨_, _, _, _, _, _, _, _, rfl, H⟩
                                · replace H := H.2 g66
                                  refine tr_skip ?_
                                  refine tr_blockN ?_
                                  refine tr_thenN ?_
                                  exact tr_join [(0, (.int .i64 x0)), (1, x1.enc), (5, (.pointer x5)), (7, (.map x7)), (8, (.map x8)), (10, (.int .i64 x10)), (17, (.bool x17)), (18, (.bool x18))] ⟨rfl, rfl, rfl, rfl, rfl, rfl, rfl, rfl, trivial⟩ ⟨_, _, _, _, _, _, _, _, rfl, H⟩
                              · refine tr_region ?_
                                refine tr_p (y_move rfl) rfl rfl ?_
                                refine tr_p (y_move rfl) rfl rfl ?_
                                refine tr_split (t := 122) rfl (fun g68 => ?_) (fun g68 => ?_)
                                · replace H := H.1 g68
                                  refine tr_p (y_move rfl) rfl rfl ?_
                                  refine tr_p (y_pick_t rfl rfl) rfl rfl ?_
                                  refine tr_p (y_move rfl) rfl rfl ?_
                                  refine tr_split (t := 125) rfl (fun g69 => ?_) (fun g69 => ?_)
                                  · replace H := H.1 g69
                                    refine tr_p (y_move rfl) rfl rfl ?_
                                    refine tr_p (y_move rfl) rfl rfl ?_
                                    refine tr_e (f_lk rfl rfl H) rfl rfl ?_
                                    rintro _ h70 ⟨r71, rfl, H⟩
                                    refine tr_p (y_move rfl) rfl rfl ?_
                                    refine tr_split (t := 129) rfl (fun g72 => ?_) (fun g72 => ?_)
                                    · replace H := H.1 g72
                                      refine tr_s rfl rfl ?_
                                      refine tr_s rfl rfl ?_
                                      refine tr_s rfl rfl ?_
                                      refine tr_s rfl rfl ?_
                                      refine tr_p (y_pick_t rfl rfl) rfl rfl ?_
                                      refine tr_p (y_pick_t rfl rfl) rfl rfl ?_
                                      refine tr_p (y_assign rfl) rfl rfl ?_
                                      refine tr_nil ?_
                                      refine tr_thenN ?_
                                      exact tr_join [(0, (.int .i64 x0)), (1, x1.enc), (5, (.pointer x5)), (7, (.map x7)), (8, (.map x8)), (10, (.int .i64 x10)), (12, (.int .i64 x12)), (14, (.map x14)), (17, (.bool r45)), (18, (.bool true))] ⟨rfl, rfl, rfl, rfl, rfl, rfl, rfl, rfl, rfl, rfl, trivial⟩ ⟨_, _, _, _, _, _, _, _, _, _, rfl, H⟩
                                    · replace H := H.2 g72
                                      refine tr_p (y_move rfl) rfl rfl ?_
                                      refine tr_e (f_lenM rfl H) rfl rfl ?_
                                      rintro _ h73 ⟨s74, rfl, H⟩
                                      refine tr_p (y_move rfl) rfl rfl ?_
                                      refine tr_p (y_lss rfl rfl) rfl rfl ?_
                                      refine tr_p (y_pick_f rfl rfl) rfl rfl ?_
                                      refine tr_p (y_pick_t rfl rfl) rfl rfl ?_
                                      refine tr_p (y_assign rfl) rfl rfl ?_
                                      refine tr_nil ?_
                                      refine tr_thenN ?_
                                      exact tr_join [(0, (.int .i64 x0)), (1, x1.enc), (5, (.pointer x5)), (7, (.map x7)), (8, (.map x8)), (10, (.int .i64 x10)), (12, (.int .i64 x12)), (14, (.map x14)), (17, (.bool r45)), (18, (.bool (decide (s74 < x0))))] ⟨rfl, rfl, rfl, rfl, rfl, rfl, rfl, rfl, rfl, rfl, trivial⟩ ⟨_, _, _, _, _, _, _, _, _, _, rfl, H⟩
                                  · replace H := H.2 g69
                                    refine tr_s rfl rfl ?_
                                    refine tr_s rfl rfl ?_
                                    refine tr_s rfl rfl ?_
                                    refine tr_s rfl rfl ?_
                                    refine tr_s rfl rfl ?_
                                    refine tr_s rfl rfl ?_
                                    refine tr_s rfl rfl ?_
                                    refine tr_s rfl rfl ?_
                                    refine tr_s rfl rfl ?_
                                    refine tr_p (y_pick_f rfl rfl) rfl rfl ?_
                                    refine tr_p (y_assign rfl) rfl rfl ?_
                                    refine tr_nil ?_
                                    refine tr_thenN ?_
                                    exact tr_join [(0, (.int .i64 x0)), (1, x1.enc), (5, (.pointer x5)), (7, (.map x7)), (8, (.map x8)), (10, (.int .i64 x10)), (12, (.int .i64 x12)), (14, (.map x14)), (17, (.bool r45)), (18, (.bool false))] ⟨rfl, rfl, rfl, rfl, rfl, rfl, rfl, rfl, rfl, rfl, trivial⟩ ⟨_, _, _, _, _, _, _, _, _, _, rfl, H⟩
                                · replace H := H.2 g68
                                  refine tr_s rfl rfl ?_
                                  refine tr_p (y_pick_f rfl rfl) rfl rfl ?_
                                  refine tr_p (y_move rfl) rfl rfl ?_
                                  refine tr_s rfl rfl ?_
                                  refine tr_s rfl rfl ?_
                                  refine tr_s rfl rfl ?_
                                  refine tr_s rfl rfl ?_
                                  refine tr_s rfl rfl ?_
                                  refine tr_s rfl rfl ?_
                                  refine tr_s rfl rfl ?_
                                  refine tr_s rfl rfl ?_
                                  refine tr_s rfl rfl ?_
                                  refine tr_p (y_pick_f rfl rfl) rfl rfl ?_
                                  refine tr_p (y_assign rfl) rfl rfl ?_
                                  refine tr_nil ?_
                                  refine tr_thenN ?_
                                  exact tr_join [(0, (.int .i64 x0)), (1, x1.enc), (5, (.pointer x5)), (7, (.map x7)), (8, (.map x8)), (10, (.int .i64 x10)), (12, (.int .i64 x12)), (14, (.map x14)), (17, (.bool r45)), (18, (.bool false))] ⟨rfl, rfl, rfl, rfl, rfl, rfl, rfl, rfl, rfl, rfl, trivial⟩ ⟨_, _, _, _, _, _, _, _, _, _, rfl, H⟩
                            · replace H := H.2 g65
                              refine tr_seq ?_
                              refine tr_region ?_
                              refine tr_p (y_eql rfl rfl) rfl rfl ?_
                              refine tr_p (y_assign rfl) rfl rfl ?_
                              refine tr_nil ?_
                              refine tr_thenN ?_
                              refine tr_cond rfl (fun g75 => ?_) (fun g75 => ?_)
                              · replace H := H.1 g75
                                refine tr_seq_j (fun L' h => ∃ (x0 : Int) (x1 : Sl) (x5 : Option Addr) (x7 : Option Nat) (x8 : Option Nat) (x10 : Int) (x12 : Int) (x14 : Option Nat) (x17 : Bool) (x18 : Bool), L' = [(0, (.int .i64 x0)), (1, x1.enc), (5, (.pointer x5)), (7, (.map x7)), (8, (.map x8)), (10, (.int .i64 x10)), (12, (.int .i64 x12)), (14, (.map x14)), (17, (.bool x17)), (18, (.bool x18))] ∧ F.spatelaw9_EpochSets.j12 Q (F.spatelaw9_EpochSets.l4 Q q4) x0 x1 x5 x7 x8 x10 x12 x14 x17 x18 h) ?_ ?_
                                · rintro L' h ⟨x0, x1, x5, x7, x8, x10, x12, x14, x17, x18, rfl, H⟩
                                  unfold F.spatelaw9_EpochSets.j12 at H
                                  refine tr_seq ?_
                                  refine tr_region ?_
                                  refine tr_p (y_move rfl) rfl rfl ?_
                                  refine tr_nil ?_
                                  refine tr_thenN ?_
                                  refine tr_cond rfl (fun g76 => ?_) (fun g76 => ?_)
                                  · replace H := H.1 g76
                                    refine tr_region ?_
                                    refine tr_p (y_move rfl) rfl rfl ?_
                                    refine tr_p (y_move rfl) rfl rfl ?_
                                    refine tr_e (f_del rfl H) rfl rfl ?_
                                    rintro _ h77 ⟨rfl, H⟩
                                    refine tr_nil ?_
                                    refine tr_blockN ?_
                                    refine tr_thenN ?_
                                    exact tr_join [(0, (.int .i64 x0)), (1, x1.enc), (5, (.pointer x5)), (7, (.map x7)), (8, (.map x8)), (10, (.int .i64 x10)), (17, (.bool x17)), (18, (.bool x18))] ⟨rfl, rfl, rfl, rfl, rfl, rfl, rfl, rfl, trivial⟩ ⟨_, _, _, _, _, _, _, _, rfl, H⟩
                                  · replace H := H.2 g76
                                    refine tr_skip ?_
                                    refine tr_blockN ?_
                                    refine tr_thenN ?_
                                    exact tr_join [(0, (.int .i64 x0)), (1, x1.enc), (5, (.pointer x5)), (7, (.map x7)), (8, (.map x8)), (10, (.int .i64 x10)), (17, (.bool x17)), (18, (.bool x18))] ⟨rfl, rfl, rfl, rfl, rfl, rfl, rfl, rfl, trivial⟩ ⟨_, _, _, _, _, _, _, _, rfl, H⟩
                                · refine tr_region ?_
                                  refine tr_p (y_move rfl) rfl rfl ?_
                                  refine tr_p (y_move rfl) rfl rfl ?_
                                  refine tr_split (t := 142) rfl (fun g79 => ?_) (fun g79 => ?_)
                                  · replace H := H.1 g79
                                    refine tr_p (y_move rfl) rfl rfl ?_
                                    refine tr_p (y_move rfl) rfl rfl ?_
                                    refine tr_e (f_lk rfl rfl H) rfl rfl ?_
                                    rintro _ h80 ⟨r81, rfl, H⟩
                                    refine tr_p (y_pick_t rfl rfl) rfl rfl ?_
                                    refine tr_p (y_assign rfl) rfl rfl ?_
                                    refine tr_nil ?_
                                    refine tr_thenN ?_
                                    exact tr_join [(0, (.int .i64 x0)), (1, x1.enc), (5, (.pointer x5)), (7, (.map x7)), (8, (.map x8)), (10, (.int .i64 x10)), (12, (.int .i64 x12)), (14, (.map x14)), (17, (.bool r45)), (18, (.bool r81))] ⟨rfl, rfl, rfl, rfl, rfl, rfl, rfl, rfl, rfl, rfl, trivial⟩ ⟨_, _, _, _, _, _, _, _, _, _, rfl, H⟩
                                  · replace H := H.2 g79
                                    refine tr_s rfl rfl ?_
                                    refine tr_s rfl rfl ?_
                                    refine tr_s rfl rfl ?_
                                    refine tr_p (y_pick_f rfl rfl) rfl rfl ?_
                                    refine tr_p (y_assign rfl) rfl rfl ?_
                                    refine tr_nil ?_
                                    refine tr_thenN ?_
                                    exact tr_join [(0, (.int .i64 x0)), (1, x1.enc), (5, (.pointer x5)), (7, (.map x7)), (8, (.map x8)), (10, (.int .i64 x10)), (12, (.int .i64 x12)), (14, (.map x14)), (17, (.bool r45)), (18, (.bool false))] ⟨rfl, rfl, rfl, rfl, rfl, rfl, rfl, rfl, rfl, rfl, trivial⟩ ⟨_, _, _, _, _, _, _, _, _, _, rfl, H⟩
                              · replace H := H.2 g75
                                refine tr_seq ?_
                                refine tr_region ?_
                                refine tr_p (y_eql rfl rfl) rfl rfl ?_
                                refine tr_p (y_assign rfl) rfl rfl ?_
                                refine tr_nil ?_
                                refine tr_thenN ?_
                                refine tr_cond rfl (fun g82 => ?_) (fun g82 => ?_)
                                · replace H := H.1 g82
                                  refine tr_seq_j (fun L' h => ∃ (x0 : Int) (x1 : Sl) (x5 : Option Addr) (x7 : Option Nat) (x8 : Option Nat) (x10 : Int) (x11 : Addr) (x17 : Bool) (x18 : Bool), L' = [(0, (.int .i64 x0)), (1, x1.enc), (5, (.pointer x5)), (7, (.map x7)), (8, (.map x8)), (10, (.int .i64 x10)), (11, (.pointer (some x11))), (17, (.bool x17)), (18, (.bool x18))] ∧ F.spatelaw9_EpochSets.j13 Q (F.spatelaw9_EpochSets.l4 Q q4) x0 x1 x5 x7 x8 x10 x11 x17 x18 h) ?_ ?_
                                  · rintro L' h ⟨x0, x1, x5, x7, x8, x10, x11, x17, x18, rfl, H⟩
                                    unfold F.spatelaw9_EpochSets.j13 at H
                                    refine tr_seq ?_
                                    refine tr_region ?_
                                    refine tr_p (y_move rfl) rfl rfl ?_
                                    refine tr_nil ?_
                                    refine tr_thenN ?_
                                    refine tr_cond rfl (fun g83 => ?_) (fun g83 => ?_)
                                    · replace H := H.1 g83
                                      refine tr_region ?_
                                      refine tr_p (y_move rfl) rfl rfl ?_
                                      refine tr_p (y_fa (off := 1) Try.runUnderlying31 fo_31_1 rfl) rfl rfl ?_
                                      obtain ⟨y84, k85, H⟩ := H
                                      refine tr_h (y_ld Try.isAgg3 rfl) k85 rfl rfl ?_
                                      refine tr_e (f_mu rfl rfl rfl H) rfl rfl ?_
                                      rintro _ h86 ⟨rfl, H⟩
                                      refine tr_nil ?_
                                      refine tr_blockN ?_
                                      refine tr_thenN ?_
                                      exact tr_join [(0, (.int .i64 x0)), (1, x1.enc), (5, (.pointer x5)), (7, (.map x7)), (8, (.map x8)), (10, (.int .i64 x10)), (17, (.bool x17)), (18, (.bool x18))] ⟨rfl, rfl, rfl, rfl, rfl, rfl, rfl, rfl, trivial⟩ ⟨_, _, _, _, _, _, _, _, rfl, H⟩
                                    · replace H := H.2 g83
                                      refine tr_skip ?_
                                      refine tr_blockN ?_
                                      refine tr_thenN ?_
                                      exact tr_join [(0, (.int .i64 x0)), (1, x1.enc), (5, (.pointer x5)), (7, (.map x7)), (8, (.map x8)), (10, (.int .i64 x10)), (17, (.bool x17)), (18, (.bool x18))] ⟨rfl, rfl, rfl, rfl, rfl, rfl, rfl, rfl, trivial⟩ ⟨_, _, _, _, _, _, _, _, rfl, H⟩
                                  · refine tr_region ?_
                                    refine tr_p (y_move rfl) rfl rfl ?_
                                    refine tr_p (y_move rfl) rfl rfl ?_
                                    refine tr_split (t := 153) rfl (fun g87 => ?_) (fun g87 => ?_)
                                    · replace H := H.1 g87
                                      refine tr_p (y_move rfl) rfl rfl ?_
                                      refine tr_p (y_fa (off := 1) Try.runUnderlying31 fo_31_1 rfl) rfl rfl ?_
                                      obtain ⟨y88, k89, H⟩ := H
                                      refine tr_h (y_ld Try.isAgg3 rfl) k89 rfl rfl ?_
                                      refine tr_e (f_lk rfl rfl H) rfl rfl ?_
                                      rintro _ h90 ⟨r91, rfl, H⟩
                                      refine tr_p (y_neq rfl rfl) rfl rfl ?_
                                      refine tr_p (y_pick_t rfl rfl) rfl rfl ?_
                                      refine tr_p (y_assign rfl) rfl rfl ?_
                                      refine tr_nil ?_
                                      refine tr_thenN ?_
                                      exact tr_join [(0, (.int .i64 x0)), (1, x1.enc), (5, (.pointer x5)), (7, (.map x7)), (8, (.map x8)), (10, (.int .i64 x10)), (11, (.pointer (some x11))), (17, (.bool r45)), (18, (.bool ((r91 != 0))))] ⟨rfl, rfl, rfl, rfl, rfl, rfl, rfl, rfl, rfl, trivial⟩ ⟨_, _, _, _, _, _, _, _, _, rfl, H⟩
                                    · replace H := H.2 g87
                                      refine tr_s rfl rfl ?_
                                      refine tr_s rfl rfl ?_
                                      refine tr_s rfl rfl ?_
                                      refine tr_s rfl rfl ?_
                                      refine tr_s rfl rfl ?_
                                      refine tr_p (y_pick_f rfl rfl) rfl rfl ?_
                                      refine tr_p (y_assign rfl) rfl rfl ?_
                                      refine tr_nil ?_
                                      refine tr_thenN ?_
                                      exact tr_join [(0, (.int .i64 x0)), (1, x1.enc), (5, (.pointer x5)), (7, (.map x7)), (8, (.map x8)), (10, (.int .i64 x10)), (11, (.pointer (some x11))), (17, (.bool r45)), (18, (.bool false))] ⟨rfl, rfl, rfl, rfl, rfl, rfl, rfl, rfl, rfl, trivial⟩ ⟨_, _, _, _, _, _, _, _, _, rfl, H⟩
                                · replace H := H.2 g82
                                  refine tr_seq ?_
                                  refine tr_region ?_
                                  refine tr_p (y_eql rfl rfl) rfl rfl ?_
                                  refine tr_p (y_assign rfl) rfl rfl ?_
                                  refine tr_nil ?_
                                  refine tr_thenN ?_
                                  refine tr_cond rfl (fun g92 => ?_) (fun g92 => ?_)
                                  · replace H := H.1 g92
                                    refine tr_seq_j (fun L' h => ∃ (x0 : Int) (x1 : Sl) (x5 : Option Addr) (x7 : Option Nat) (x8 : Option Nat) (x10 : Int) (x11 : Addr) (x14 : Option Nat) (x17 : Bool) (x18 : Bool), L' = [(0, (.int .i64 x0)), (1, x1.enc), (5, (.pointer x5)), (7, (.map x7)), (8, (.map x8)), (10, (.int .i64 x10)), (11, (.pointer (some x11))), (14, (.map x14)), (17, (.bool x17)), (18, (.bool x18))] ∧ F.spatelaw9_EpochSets.j14 Q (F.spatelaw9_EpochSets.l4 Q q4) x0 x1 x5 x7 x8 x10 x11 x14 x17 x18 h) ?_ ?_
                                    · rintro L' h ⟨x0, x1, x5, x7, x8, x10, x11, x14, x17, x18, rfl, H⟩
                                      unfold F.spatelaw9_EpochSets.j14 at H
                                      refine tr_seq ?_
                                      refine tr_region ?_
                                      refine tr_p (y_move rfl) rfl rfl ?_
                                      refine tr_p (y_mnil_neq Try.runUnderlying39 (p := x14) rfl rfl) rfl rfl ?_
                                      refine tr_nil ?_
                                      refine tr_thenN ?_
                                      refine tr_cond rfl (fun g93 => ?_) (fun g93 => ?_)
                                      · replace H := H.1 g93
                                        refine tr_seq ?_
                                        refine tr_region ?_
                                        refine tr_p (y_move rfl) rfl rfl ?_
                                        refine tr_p (y_fa (off := 1) Try.runUnderlying31 fo_31_1 rfl) rfl rfl ?_
                                        obtain ⟨y94, k95, H⟩ := H
                                        refine tr_h (y_ld Try.isAgg3 rfl) k95 rfl rfl ?_
                                        refine tr_e (f_mkN H) rfl rfl ?_
                                        rintro _ h96 ⟨m97, rfl, H⟩
                                        refine tr_e (f_mu rfl rfl rfl H) rfl rfl ?_
                                        rintro _ h98 ⟨rfl, H⟩
                                        refine tr_nil ?_
                                        refine tr_thenN ?_
                                        refine tr_region ?_
                                        refine tr_p (y_move rfl) rfl rfl ?_
                                        refine tr_p (y_fa (off := 1) Try.runUnderlying31 fo_31_1 rfl) rfl rfl ?_
                                        obtain ⟨y99, k100, H⟩ := H
                                        refine tr_h (y_ld Try.isAgg3 rfl) k100 rfl rfl ?_
                                        refine tr_e (f_mu rfl rfl rfl H) rfl rfl ?_
                                        rintro _ h101 ⟨rfl, H⟩
                                        refine tr_nil ?_
                                        refine tr_blockN ?_
                                        refine tr_thenN ?_
                                        exact tr_join [(0, (.int .i64 x0)), (1, x1.enc), (5, (.pointer x5)), (7, (.map x7)), (8, (.map x8)), (10, (.int .i64 x10)), (17, (.bool x17)), (18, (.bool x18))] ⟨rfl, rfl, rfl, rfl, rfl, rfl, rfl, rfl, trivial⟩ ⟨_, _, _, _, _, _, _, _, rfl, H⟩
                                      · replace H := H.2 g93
                                        refine tr_skip ?_
                                        refine tr_blockN ?_
                                        refine tr_thenN ?_
                                        exact tr_join [(0, (.int .i64 x0)), (1, x1.enc), (5, (.pointer x5)), (7, (.map x7)), (8, (.map x8)), (10, (.int .i64 x10)), (17, (.bool x17)), (18, (.bool x18))] ⟨rfl, rfl, rfl, rfl, rfl, rfl, rfl, rfl, trivial⟩ ⟨_, _, _, _, _, _, _, _, rfl, H⟩
                                    · refine tr_region ?_
                                      refine tr_p (y_move rfl) rfl rfl ?_
                                      refine tr_p (y_move rfl) rfl rfl ?_
                                      refine tr_split (t := 167) rfl (fun g102 => ?_) (fun g102 => ?_)
                                      · replace H := H.1 g102
                                        refine tr_p (y_move rfl) rfl rfl ?_
                                        refine tr_e (f_lenM rfl H) rfl rfl ?_
                                        rintro _ h103 ⟨s104, rfl, H⟩
                                        refine tr_p (y_gtr rfl rfl) rfl rfl ?_
                                        refine tr_p (y_move rfl) rfl rfl ?_
                                        refine tr_split (t := 171) rfl (fun g105 => ?_) (fun g105 => ?_)
                                        · replace H := H.1 g105
                                          refine tr_s rfl rfl ?_
                                          refine tr_s rfl rfl ?_
                                          refine tr_s rfl rfl ?_
                                          refine tr_s rfl rfl ?_
                                          refine tr_s rfl rfl ?_
                                          refine tr_p (y_pick_t rfl rfl) rfl rfl ?_
                                          refine tr_p (y_pick_t rfl rfl) rfl rfl ?_
                                          refine tr_p (y_assign rfl) rfl rfl ?_
                                          refine tr_nil ?_
                                          refine tr_thenN ?_
                                          exact tr_join [(0, (.int .i64 x0)), (1, x1.enc), (5, (.pointer x5)), (7, (.map x7)), (8, (.map x8)), (10, (.int .i64 x10)), (11, (.pointer (some x11))), (14, (.map x14)), (17, (.bool r45)), (18, (.bool true))] ⟨rfl, rfl, rfl, rfl, rfl, rfl, rfl, rfl, rfl, rfl, trivial⟩ ⟨_, _, _, _, _, _, _, _, _, _, rfl, H⟩
                                        · replace H := H.2 g105
                                          refine tr_p (y_move rfl) rfl rfl ?_
                                          refine tr_p (y_fa (off := 1) Try.runUnderlying31 fo_31_1 rfl) rfl rfl ?_
                                          obtain ⟨y106, k107, H⟩ := H
                                          refine tr_h (y_ld Try.isAgg3 rfl) k107 rfl rfl ?_
                                          refine tr_e (f_lk rfl rfl H) rfl rfl ?_
                                          rintro _ h108 ⟨r109, rfl, H⟩
                                          refine tr_p (y_neq rfl rfl) rfl rfl ?_
                                          refine tr_p (y_pick_f rfl rfl) rfl rfl ?_
                                          refine tr_p (y_pick_t rfl rfl) rfl rfl ?_
                                          refine tr_p (y_assign rfl) rfl rfl ?_
                                          refine tr_nil ?_
                                          refine tr_thenN ?_
                                          exact tr_join [(0, (.int .i64 x0)), (1, x1.enc), (5, (.pointer x5)), (7, (.map x7)), (8, (.map x8)), (10, (.int .i64 x10)), (11, (.pointer (some x11))), (14, (.map x14)), (17, (.bool r45)), (18, (.bool ((r109 != 0))))] ⟨rfl, rfl, rfl, rfl, rfl, rfl, rfl, rfl, rfl, rfl, trivial⟩ ⟨_, _, _, _, _, _, _, _, _, _, rfl, H⟩
                                      · replace H := H.2 g102
                                        refine tr_s rfl rfl ?_
                                        refine tr_s rfl rfl ?_
                                        refine tr_s rfl rfl ?_
                                        refine tr_s rfl rfl ?_
                                        refine tr_s rfl rfl ?_
                                        refine tr_s rfl rfl ?_
                                        refine tr_s rfl rfl ?_
                                        refine tr_s rfl rfl ?_
                                        refine tr_s rfl rfl ?_
                                        refine tr_s rfl rfl ?_
                                        refine tr_p (y_pick_f rfl rfl) rfl rfl ?_
                                        refine tr_p (y_assign rfl) rfl rfl ?_
                                        refine tr_nil ?_
                                        refine tr_thenN ?_
                                        exact tr_join [(0, (.int .i64 x0)), (1, x1.enc), (5, (.pointer x5)), (7, (.map x7)), (8, (.map x8)), (10, (.int .i64 x10)), (11, (.pointer (some x11))), (14, (.map x14)), (17, (.bool r45)), (18, (.bool false))] ⟨rfl, rfl, rfl, rfl, rfl, rfl, rfl, rfl, rfl, rfl, trivial⟩ ⟨_, _, _, _, _, _, _, _, _, _, rfl, H⟩
                                  · replace H := H.2 g92
                                    refine tr_region ?_
                                    refine tr_p (y_move rfl) rfl rfl ?_
                                    refine tr_p (y_assign rfl) rfl rfl ?_
                                    refine tr_nil ?_
                                    refine tr_blockN ?_
                                    refine tr_thenN ?_
                                    exact tr_join [(0, (.int .i64 x0)), (1, x1.enc), (5, (.pointer x5)), (7, (.map x7)), (8, (.map x8)), (10, (.int .i64 x10)), (17, (.bool r45)), (18, (.bool r45))] ⟨rfl, rfl, rfl, rfl, rfl, rfl, rfl, rfl, trivial⟩ ⟨_, _, _, _, _, _, _, _, rfl, H⟩
              · replace H := H.2 g15
                refine tr_exit ?_
                refine tr_thenE ?_
                refine tr_thenE ?_
                refine tr_hit ?_
                refine tr_thenN ?_
                refine tr_seq ?_
                refine tr_region ?_
                refine tr_p (y_move rfl) rfl rfl ?_
                refine tr_p (y_move rfl) rfl rfl ?_
                refine tr_p (y_move rfl) rfl rfl ?_
                refine tr_e (e_call Try.call19 rfl (F.spatelaw9_held_ok H)) rfl rfl ?_
                rintro _ h111 ⟨r112, rfl, H⟩
                refine tr_p (y_assign rfl) rfl rfl ?_
                refine tr_nil ?_
                refine tr_thenN ?_
                refine tr_ret ?_
                exact tr_ret1 rfl rfl ⟨_, rfl, H⟩
      · refine tr_seq_j (fun L' h => ∃ (x0 : Int) (x1 : Sl) (x5 : Option Addr) (x42 : Bool), L' = [(0, (.int .i64 x0)), (1, x1.enc), (5, (.pointer x5)), (42, (.bool x42))] ∧ F.spatelaw9_EpochSets.j15 Q x0 x1 x5 x42 h) ?_ ?_
        · rintro L' h ⟨x0, x1, x5, x42, rfl, H⟩
          unfold F.spatelaw9_EpochSets.j15 at H
          refine tr_cond rfl (fun g115 => ?_) (fun g115 => ?_)
          · replace H := H.1 g115
            refine tr_seq ?_
            refine tr_region ?_
            refine tr_p (y_assign rfl) rfl rfl ?_
            refine tr_nil ?_
            refine tr_thenN ?_
            refine tr_ret ?_
            refine tr_thenR ?_
            exact tr_ret1 rfl rfl ⟨_, rfl, H⟩
          · replace H := H.2 g115
            refine tr_skip ?_
            refine tr_thenN ?_
            exact tr_join [(0, (.int .i64 x0)), (1, x1.enc), (5, (.pointer x5))] ⟨rfl, rfl, rfl, trivial⟩ ⟨_, _, _, rfl, H⟩
        · refine tr_region ?_
          refine tr_p (y_move rfl) rfl rfl ?_
          refine tr_p (y_neq rfl rfl) rfl rfl ?_
          refine tr_p (y_move rfl) rfl rfl ?_
          refine tr_split (t := 39) rfl (fun g116 => ?_) (fun g116 => ?_)
          · replace H := H.1 g116
            refine tr_s rfl rfl ?_
            refine tr_s rfl rfl ?_
            refine tr_p (y_pick_t rfl rfl) rfl rfl ?_
            refine tr_nil ?_
            refine tr_thenN ?_
            exact tr_join [(0, (.int .i64 x0)), (1, x1.enc), (5, (.pointer r5)), (42, (.bool true))] ⟨rfl, rfl, rfl, rfl, trivial⟩ ⟨_, _, _, _, rfl, H⟩
          · replace H := H.2 g116
            refine tr_p (y_move rfl) rfl rfl ?_
            refine tr_p (y_pnil_eql Try.runUnderlying24 rfl rfl) rfl rfl ?_
            refine tr_p (y_pick_f rfl rfl) rfl rfl ?_
            refine tr_nil ?_
            refine tr_thenN ?_
            exact tr_join [(0, (.int .i64 x0)), (1, x1.enc), (5, (.pointer r5)), (42, (.bool r5.isNone))] ⟨rfl, rfl, rfl, rfl, trivial⟩ ⟨_, _, _, _, rfl, H⟩
    · refine tr_seq_j (fun L' h => ∃ (x0 : Int) (x1 : Sl) (x31 : Bool), L' = [(0, (.int .i64 x0)), (1, x1.enc), (31, (.bool x31))] ∧ F.spatelaw9_EpochSets.j16 Q x0 x1 x31 h) ?_ ?_
      · rintro L' h ⟨x0, x1, x31, rfl, H⟩
        unfold F.spatelaw9_EpochSets.j16 at H
        refine tr_cond rfl (fun g117 => ?_) (fun g117 => ?_)
        · replace H := H.1 g117
          refine tr_seq ?_
          refine tr_region ?_
          refine tr_p (y_assign rfl) rfl rfl ?_
          refine tr_nil ?_
          refine tr_thenN ?_
          refine tr_ret ?_
          refine tr_thenR ?_
          exact tr_ret1 rfl rfl ⟨_, rfl, H⟩
        · replace H := H.2 g117
          refine tr_skip ?_
          refine tr_thenN ?_
          exact tr_join [(0, (.int .i64 x0)), (1, x1.enc)] ⟨rfl, rfl, trivial⟩ ⟨_, _, rfl, H⟩
      · refine tr_region ?_
        refine tr_p (y_move rfl) rfl rfl ?_
        refine tr_p (y_len (ts := #[]) Try.runUnderlying23 (o := p1.ptr) (n := p1.len) (cap := p1.cap) rfl) rfl rfl ?_
        refine tr_p (y_gtr rfl rfl) rfl rfl ?_
        refine tr_p (y_move rfl) rfl rfl ?_
        refine tr_split (t := 24) rfl (fun g118 => ?_) (fun g118 => ?_)
        · replace H := H.1 g118
          refine tr_s rfl rfl ?_
          refine tr_s rfl rfl ?_
          refine tr_p (y_pick_t rfl rfl) rfl rfl ?_
          refine tr_p (y_move rfl) rfl rfl ?_
          refine tr_s rfl rfl ?_
          refine tr_s rfl rfl ?_
          refine tr_p (y_pick_t rfl rfl) rfl rfl ?_
          refine tr_nil ?_
          refine tr_thenN ?_
          exact tr_join [(0, (.int .i64 p0)), (1, p1.enc), (31, (.bool true))] ⟨rfl, rfl, rfl, trivial⟩ ⟨_, _, _, rfl, H⟩
        · replace H := H.2 g118
          refine tr_p (y_move rfl) rfl rfl ?_
          refine tr_p (y_lss rfl rfl) rfl rfl ?_
          refine tr_p (y_pick_f rfl rfl) rfl rfl ?_
          refine tr_p (y_move rfl) rfl rfl ?_
          refine tr_split (t := 28) rfl (fun g119 => ?_) (fun g119 => ?_)
          · replace H := H.1 g119
            refine tr_s rfl rfl ?_
            refine tr_s rfl rfl ?_
            refine tr_p (y_pick_t rfl rfl) rfl rfl ?_
            refine tr_nil ?_
            refine tr_thenN ?_
            exact tr_join [(0, (.int .i64 p0)), (1, p1.enc), (31, (.bool true))] ⟨rfl, rfl, rfl, trivial⟩ ⟨_, _, _, rfl, H⟩
          · replace H := H.2 g119
            refine tr_p (y_move rfl) rfl rfl ?_
            refine tr_p (y_gtr rfl rfl) rfl rfl ?_
            refine tr_p (y_pick_f rfl rfl) rfl rfl ?_
            refine tr_nil ?_
            refine tr_thenN ?_
            exact tr_join [(0, (.int .i64 p0)), (1, p1.enc), (31, (.bool (decide (p0 > 64))))] ⟨rfl, rfl, rfl, trivial⟩ ⟨_, _, _, rfl, H⟩

def F.spatelaw9_EpochOwners.j5 (Q : Bool → H → Prop) (C1 : Sl → Int → (Option Addr) → (Option Addr) → Int → H → Prop) (x1 : Sl) (x2 : Int) (x7 : Option Addr) (x9 : Option Addr) (x11 : Int) (h : H) : Prop :=
  C1 x1 x2 x7 x9 (IntKind.wrap .i64 (x11 + 1)) h
def F.spatelaw9_EpochOwners.j7 (Q : Bool → H → Prop) (C1 : Sl → Int → (Option Addr) → (Option Addr) → Int → H → Prop) (x1 : Sl) (x2 : Int) (x7 : Option Addr) (x9 : Option Addr) (x11 : Int) (x113 : Bool) (h : H) : Prop :=
  (x113 = true →
  Q false h) ∧
  (x113 = false →
  F.spatelaw9_EpochOwners.j5 Q C1 x1 x2 x7 x9 x11 h)
def F.spatelaw9_EpochOwners.j6 (Q : Bool → H → Prop) (C1 : Sl → Int → (Option Addr) → (Option Addr) → Int → H → Prop) (x1 : Sl) (x2 : Int) (x7 : Option Addr) (x9 : Option Addr) (x11 : Int) (x12 : Addr) (x13 : Addr) (h : H) : Prop :=
  ld_S_spatelaw9_Step h x12 fun y25 =>
  ld_S_spatelaw9_Step h x13 fun y27 =>
  F.spatelaw9_do x7 y25 h fun r30 h29 =>
  Cells h29 x13 y27.cells ∧
  F.spatelaw9_do x9 y27 h29 fun r33 h32 =>
  ((!(r30 == r33)) = true →
  F.spatelaw9_EpochOwners.j7 Q C1 x1 x2 x7 x9 x11 true h32) ∧
  ((!(r30 == r33)) = false →
  F.epoch_Book_Held x7 h32 fun r36 h35 =>
  F.epoch_Book_Held x9 h35 fun r38 h37 =>
  F.spatelaw9_ints r36 r38 h37 fun r40 h39 =>
  ((!r40) = true →
  F.spatelaw9_EpochOwners.j7 Q C1 x1 x2 x7 x9 x11 true h39) ∧
  ((!r40) = false →
  F.epoch_Book_Dying x7 h39 fun r43 h42 =>
  F.epoch_Book_Dying x9 h42 fun r45 h44 =>
  F.spatelaw9_ints r43 r45 h44 fun r47 h46 =>
  ((!r47) = true →
  F.spatelaw9_EpochOwners.j7 Q C1 x1 x2 x7 x9 x11 true h46) ∧
  ((!r47) = false →
  F.epoch_Book_Now x7 h46 fun r50 h49 =>
  F.epoch_Book_Now x9 h49 fun r52 h51 =>
  F.spatelaw9_EpochOwners.j7 Q C1 x1 x2 x7 x9 x11 ((r50 != r52)) h51)))
def F.spatelaw9_EpochOwners.j8 (Q : Bool → H → Prop) (C1 : Sl → Int → (Option Addr) → (Option Addr) → Int → H → Prop) (x1 : Sl) (x2 : Int) (x7 : Option Addr) (x9 : Option Addr) (x11 : Int) (x12 : Addr) (x13 : Addr) (x75 : Bool) (h : H) : Prop :=
  (x75 = true →
  ldI .i64 h (x12.add 1) fun y54 =>
  (64 : Int) ≠ 0 ∧
  stH h (x13.add 1) [(.int .i64 (IntKind.wrap .i64 ((Int.tmod (IntKind.wrap .i64 ((IntKind.wrap .i64 (y54 - 1)) + x2)) 64) + 1)))] fun h57 =>
  F.spatelaw9_EpochOwners.j6 Q C1 x1 x2 x7 x9 x11 x12 x13 h57) ∧
  (x75 = false →
  F.spatelaw9_EpochOwners.j6 Q C1 x1 x2 x7 x9 x11 x12 x13 h)
def F.spatelaw9_EpochOwners.l4 (Q : Bool → H → Prop) : Nat → Sl → Int → (Option Addr) → (Option Addr) → Int → H → Prop
  | 0, _, _, _, _, _, _ => False
  | q4 + 1, x1, x2, x7, x9, x11, h =>
    ((decide (x11 < (x1.len : Int))) = true →
    idxA x1 x11 4 fun a12 =>
    ld_S_spatelaw9_Step h a12 fun y14 =>
    new h (((⟨0, 0, 0, false⟩ : S_spatelaw9_Step) : S_spatelaw9_Step).cells.toArray) ty_31 fun a17 h16 =>
    stH h16 a17 y14.cells fun h18 =>
    ld_S_spatelaw9_Step h18 a17 fun y19 =>
    new h18 (((⟨0, 0, 0, false⟩ : S_spatelaw9_Step) : S_spatelaw9_Step).cells.toArray) ty_31 fun a22 h21 =>
    stH h21 a22 y19.cells fun h23 =>
    ldI .i64 h23 (a17.add 1) fun y58 =>
    ((decide (y58 ≥ 1)) = true →
    ldI .i64 h23 (a17.add 1) fun y61 =>
    F.spatelaw9_EpochOwners.j8 Q (F.spatelaw9_EpochOwners.l4 Q q4) x1 x2 x7 x9 x11 a17 a22 (decide (y61 ≤ 64)) h23) ∧
    ((decide (y58 ≥ 1)) = false →
    F.spatelaw9_EpochOwners.j8 Q (F.spatelaw9_EpochOwners.l4 Q q4) x1 x2 x7 x9 x11 a17 a22 false h23)) ∧
    ((decide (x11 < (x1.len : Int))) = false →
    Q true h)
def F.spatelaw9_EpochOwners.j3 (Q : Bool → H → Prop) (x1 : Sl) (x2 : Int) (x7 : Option Addr) (x9 : Option Addr) (h : H) : Prop :=
  ∃ m, F.spatelaw9_EpochOwners.l4 Q m x1 x2 x7 x9 0 h
def F.spatelaw9_EpochOwners.j9 (Q : Bool → H → Prop) (x1 : Sl) (x2 : Int) (x7 : Option Addr) (x9 : Option Addr) (x56 : Bool) (h : H) : Prop :=
  (x56 = true →
  Q false h) ∧
  (x56 = false →
  F.spatelaw9_EpochOwners.j3 Q x1 x2 x7 x9 h)
def F.spatelaw9_EpochOwners.j2 (Q : Bool → H → Prop) (x0 : Int) (x1 : Sl) (x2 : Int) (h : H) : Prop :=
  F.epoch_New x0 h fun r6 r7 h5 =>
  F.epoch_New x0 h5 fun r9 r10 h8 =>
  (((r7 != 0)) = true →
  F.spatelaw9_EpochOwners.j9 Q x1 x2 r6 r9 true h8) ∧
  (((r7 != 0)) = false →
  (((r10 != 0)) = true →
  F.spatelaw9_EpochOwners.j9 Q x1 x2 r6 r9 true h8) ∧
  (((r10 != 0)) = false →
  (r6.isNone = true →
  F.spatelaw9_EpochOwners.j9 Q x1 x2 r6 r9 true h8) ∧
  (r6.isNone = false →
  F.spatelaw9_EpochOwners.j9 Q x1 x2 r6 r9 r9.isNone h8)))
def F.spatelaw9_EpochOwners.j1 (Q : Bool → H → Prop) (x0 : Int) (x1 : Sl) (x2 : Int) (h : H) : Prop :=
  (64 : Int) ≠ 0 ∧
  ((decide ((Int.tmod x2 64) < 0)) = true →
  F.spatelaw9_EpochOwners.j2 Q x0 x1 (IntKind.wrap .i64 ((Int.tmod x2 64) + 64)) h) ∧
  ((decide ((Int.tmod x2 64) < 0)) = false →
  F.spatelaw9_EpochOwners.j2 Q x0 x1 (Int.tmod x2 64) h)
def F.spatelaw9_EpochOwners.j10 (Q : Bool → H → Prop) (x0 : Int) (x1 : Sl) (x2 : Int) (x26 : Bool) (h : H) : Prop :=
  (x26 = true →
  Q true h) ∧
  (x26 = false →
  F.spatelaw9_EpochOwners.j1 Q x0 x1 x2 h)
/-- spate/spatelaw9.EpochOwners -/
def F.spatelaw9_EpochOwners (p0 : Int) (p1 : Sl) (p2 : Int) (h : H) (Q : Bool → H → Prop) : Prop :=
  F.spatelaw9_known  h fun r2 h1 =>
  ((!r2) = true →
  Q false h1) ∧
  ((!r2) = false →
  ((decide ((p1.len : Int) > 3000)) = true →
  F.spatelaw9_EpochOwners.j10 Q p0 p1 p2 true h1) ∧
  ((decide ((p1.len : Int) > 3000)) = false →
  ((decide (p0 < 1)) = true →
  F.spatelaw9_EpochOwners.j10 Q p0 p1 p2 true h1) ∧
  ((decide (p0 < 1)) = false →
  F.spatelaw9_EpochOwners.j10 Q p0 p1 p2 (decide (p0 > 64)) h1)))
theorem F.spatelaw9_EpochOwners_ok {p0 : Int} {p1 : Sl} {p2 : Int} {h : H} {Q : Bool → H → Prop} (H : F.spatelaw9_EpochOwners p0 p1 p2 h Q) : Fn PP 6 ([(.int .i64 p0), p1.enc, (.int .i64 p2)] : List Value).toArray h fun r h' => ∃ r0, r = (.bool r0) ∧ Q r0 h' := by
  unfold F.spatelaw9_EpochOwners at H
  refine fn_of Try.func6 Try.ntmps6 rfl rfl fun w0 => ?_
  refine tr_sub [(0, (.int .i64 p0)), (1, p1.enc), (2, (.int .i64 p2))] ⟨rfl, rfl, rfl, trivial⟩ ?_
  refine tr_seq ?_
  refine tr_region ?_
  refine tr_p (y_assign rfl) rfl rfl ?_
  refine tr_nil ?_
  refine tr_thenN ?_
  refine tr_seq ?_
  refine tr_seq ?_
  refine tr_region ?_
  refine tr_e (e_call Try.call9 rfl (F.spatelaw9_known_ok H)) rfl rfl ?_
  rintro _ h1 ⟨r2, rfl, H⟩
  refine tr_p (y_not rfl) rfl rfl ?_
  refine tr_nil ?_
  refine tr_thenN ?_
  refine tr_cond rfl (fun g3 => ?_) (fun g3 => ?_)
  · replace H := H.1 g3
    refine tr_seq ?_
    refine tr_region ?_
    refine tr_p (y_assign rfl) rfl rfl ?_
    refine tr_nil ?_
    refine tr_thenN ?_
    refine tr_ret ?_
    refine tr_thenR ?_
    exact tr_ret1 rfl rfl ⟨_, rfl, H⟩
  · replace H := H.2 g3
    refine tr_skip ?_
    refine tr_thenN ?_
    refine tr_seq_j (fun L' h => ∃ (x0 : Int) (x1 : Sl) (x2 : Int), L' = [(0, (.int .i64 x0)), (1, x1.enc), (2, (.int .i64 x2))] ∧ F.spatelaw9_EpochOwners.j1 Q x0 x1 x2 h) ?_ ?_
    · rintro L' h ⟨x0, x1, x2, rfl, H⟩
      unfold F.spatelaw9_EpochOwners.j1 at H
      refine tr_seq ?_
      refine tr_region ?_
      refine tr_p (y_move rfl) rfl rfl ?_
      obtain ⟨e4, H⟩ := H
      refine tr_p (y_rem rfl rfl e4) rfl rfl ?_
      refine tr_p (y_assign rfl) rfl rfl ?_
      refine tr_nil ?_
      refine tr_thenN ?_
      refine tr_seq_j (fun L' h => ∃ (x0 : Int) (x1 : Sl) (x2 : Int), L' = [(0, (.int .i64 x0)), (1, x1.enc), (2, (.int .i64 x2))] ∧ F.spatelaw9_EpochOwners.j2 Q x0 x1 x2 h) ?_ ?_
      · rintro L' h ⟨x0, x1, x2, rfl, H⟩
        unfold F.spatelaw9_EpochOwners.j2 at H
        refine tr_seq ?_
        refine tr_region ?_
        refine tr_p (y_move rfl) rfl rfl ?_
        refine tr_e (e_call Try.call10 rfl (F.epoch_New_ok H)) rfl rfl ?_
        rintro _ h5 ⟨r6, r7, rfl, H⟩
        refine tr_p (y_move rfl) rfl rfl ?_
        refine tr_p (y_ext rfl rfl) rfl rfl ?_
        refine tr_p (y_ext rfl rfl) rfl rfl ?_
        refine tr_p (y_assign rfl) rfl rfl ?_
        refine tr_p (y_assign rfl) rfl rfl ?_
        refine tr_nil ?_
        refine tr_thenN ?_
        refine tr_seq ?_
        refine tr_region ?_
        refine tr_p (y_move rfl) rfl rfl ?_
        refine tr_e (e_call Try.call10 rfl (F.epoch_New_ok H)) rfl rfl ?_
        rintro _ h8 ⟨r9, r10, rfl, H⟩
        refine tr_p (y_move rfl) rfl rfl ?_
        refine tr_p (y_ext rfl rfl) rfl rfl ?_
        refine tr_p (y_ext rfl rfl) rfl rfl ?_
        refine tr_p (y_assign rfl) rfl rfl ?_
        refine tr_p (y_assign rfl) rfl rfl ?_
        refine tr_nil ?_
        refine tr_thenN ?_
        refine tr_seq_j (fun L' h => ∃ (x1 : Sl) (x2 : Int) (x7 : Option Addr) (x9 : Option Addr), L' = [(1, x1.enc), (2, (.int .i64 x2)), (7, (.pointer x7)), (9, (.pointer x9))] ∧ F.spatelaw9_EpochOwners.j3 Q x1 x2 x7 x9 h) ?_ ?_
        · rintro L' h ⟨x1, x2, x7, x9, rfl, H⟩
          unfold F.spatelaw9_EpochOwners.j3 at H
          refine tr_seq ?_
          refine tr_seq ?_
          refine tr_region ?_
          refine tr_p (y_assign rfl) rfl rfl ?_
          refine tr_nil ?_
          refine tr_thenN ?_
          refine tr_block ?_
          obtain ⟨m63, H⟩ := H
          refine tr_sub [(1, x1.enc), (2, (.int .i64 x2)), (7, (.pointer x7)), (9, (.pointer x9)), (11, (.int .i64 0))] ⟨rfl, rfl, rfl, rfl, rfl, trivial⟩ ?_
          refine tr_loop_j (fun m L' h => ∃ (x1 : Sl) (x2 : Int) (x7 : Option Addr) (x9 : Option Addr) (x11 : Int), L' = [(1, x1.enc), (2, (.int .i64 x2)), (7, (.pointer x7)), (9, (.pointer x9)), (11, (.int .i64 x11))] ∧ F.spatelaw9_EpochOwners.l4 Q m x1 x2 x7 x9 x11 h) ?_ ?_ m63 ⟨_, _, _, _, _, rfl, H⟩
          · rintro L' h ⟨_, _, _, _, _, _, H⟩; exact H
          · rintro q4 L' h ⟨x1, x2, x7, x9, x11, rfl, H⟩
            unfold F.spatelaw9_EpochOwners.l4 at H
            refine tr_seq ?_
            refine tr_seq ?_
            refine tr_region ?_
            refine tr_p (y_move rfl) rfl rfl ?_
            refine tr_p (y_move rfl) rfl rfl ?_
            refine tr_p (y_len (ts := #[]) Try.runUnderlying23 (o := x1.ptr) (n := x1.len) (cap := x1.cap) rfl) rfl rfl ?_
            refine tr_p (y_lss rfl rfl) rfl rfl ?_
            refine tr_nil ?_
            refine tr_thenN ?_
            refine tr_cond rfl (fun g11 => ?_) (fun g11 => ?_)
            · replace H := H.1 g11
              refine tr_skip ?_
              refine tr_thenN ?_
              refine tr_seq_j (fun L' h => ∃ (x1 : Sl) (x2 : Int) (x7 : Option Addr) (x9 : Option Addr) (x11 : Int), L' = [(1, x1.enc), (2, (.int .i64 x2)), (7, (.pointer x7)), (9, (.pointer x9)), (11, (.int .i64 x11))] ∧ F.spatelaw9_EpochOwners.j5 Q (F.spatelaw9_EpochOwners.l4 Q q4) x1 x2 x7 x9 x11 h) ?_ ?_
              · rintro L' h ⟨x1, x2, x7, x9, x11, rfl, H⟩
                unfold F.spatelaw9_EpochOwners.j5 at H
                refine tr_region ?_
                refine tr_p (y_move rfl) rfl rfl ?_
                refine tr_p (y_add rfl rfl) rfl rfl ?_
                refine tr_p (y_assign rfl) rfl rfl ?_
                refine tr_nil ?_
                refine tr_thenN ?_
                exact tr_join [(1, x1.enc), (2, (.int .i64 x2)), (7, (.pointer x7)), (9, (.pointer x9)), (11, (.int .i64 (IntKind.wrap .i64 (x11 + 1))))] ⟨rfl, rfl, rfl, rfl, rfl, trivial⟩ ⟨_, _, _, _, _, rfl, H⟩
              · refine tr_block ?_
                refine tr_seq ?_
                refine tr_region ?_
                refine tr_p (y_move rfl) rfl rfl ?_
                refine tr_p (y_move rfl) rfl rfl ?_
                obtain ⟨a12, e13, H⟩ := H
                refine tr_p (f_idx (s := x1) Try.runUnderlying23 Try.sizeOf31 rfl rfl e13) rfl rfl ?_
                obtain ⟨y14, k15, H⟩ := H
                refine tr_h (y_ldS Try.isAgg31 Try.sizeOf31 rfl rfl) k15 rfl rfl ?_
                refine tr_e (f_alloc (cs := ((⟨0, 0, 0, false⟩ : S_spatelaw9_Step) : S_spatelaw9_Step).cells.toArray) Try.zeroValue31 rfl H) rfl rfl ?_
                rintro _ h16 ⟨a17, rfl, H⟩
                refine tr_e (f_store (vs := y14.cells) Try.sizeOf31 rfl rfl cellsOfStruct rfl (by intro v hv; exact ones_S_spatelaw9_Step _ v hv) H) rfl rfl ?_
                rintro _ h18 ⟨rfl, H⟩
                refine tr_nil ?_
                refine tr_thenN ?_
                refine tr_seq ?_
                refine tr_region ?_
                obtain ⟨y19, k20, H⟩ := H
                refine tr_h (y_ldS Try.isAgg31 Try.sizeOf31 rfl rfl) k20 rfl rfl ?_
                refine tr_e (f_alloc (cs := ((⟨0, 0, 0, false⟩ : S_spatelaw9_Step) : S_spatelaw9_Step).cells.toArray) Try.zeroValue31 rfl H) rfl rfl ?_
                rintro _ h21 ⟨a22, rfl, H⟩
                refine tr_e (f_store (vs := y19.cells) Try.sizeOf31 rfl rfl cellsOfStruct rfl (by intro v hv; exact ones_S_spatelaw9_Step _ v hv) H) rfl rfl ?_
                rintro _ h23 ⟨rfl, H⟩
                refine tr_nil ?_
                refine tr_thenN ?_
                refine tr_seq_j (fun L' h => ∃ (x1 : Sl) (x2 : Int) (x7 : Option Addr) (x9 : Option Addr) (x11 : Int) (x12 : Addr) (x13 : Addr), L' = [(1, x1.enc), (2, (.int .i64 x2)), (7, (.pointer x7)), (9, (.pointer x9)), (11, (.int .i64 x11)), (12, (.pointer (some x12))), (13, (.pointer (some x13)))] ∧ F.spatelaw9_EpochOwners.j6 Q (F.spatelaw9_EpochOwners.l4 Q q4) x1 x2 x7 x9 x11 x12 x13 h) ?_ ?_
                · rintro L' h ⟨x1, x2, x7, x9, x11, x12, x13, rfl, H⟩
                  unfold F.spatelaw9_EpochOwners.j6 at H
                  refine tr_seq_j (fun L' h => ∃ (x1 : Sl) (x2 : Int) (x7 : Option Addr) (x9 : Option Addr) (x11 : Int) (x113 : Bool), L' = [(1, x1.enc), (2, (.int .i64 x2)), (7, (.pointer x7)), (9, (.pointer x9)), (11, (.int .i64 x11)), (113, (.bool x113))] ∧ F.spatelaw9_EpochOwners.j7 Q (F.spatelaw9_EpochOwners.l4 Q q4) x1 x2 x7 x9 x11 x113 h) ?_ ?_
                  · rintro L' h ⟨x1, x2, x7, x9, x11, x113, rfl, H⟩
                    unfold F.spatelaw9_EpochOwners.j7 at H
                    refine tr_cond rfl (fun g24 => ?_) (fun g24 => ?_)
                    · replace H := H.1 g24
                      refine tr_seq ?_
                      refine tr_region ?_
                      refine tr_p (y_assign rfl) rfl rfl ?_
                      refine tr_nil ?_
                      refine tr_thenN ?_
                      refine tr_ret ?_
                      refine tr_blockR ?_
                      refine tr_thenR ?_
                      refine tr_thenR ?_
                      refine tr_blockR ?_
                      refine tr_thenR ?_
                      exact tr_ret1 rfl rfl ⟨_, rfl, H⟩
                    · replace H := H.2 g24
                      refine tr_skip ?_
                      refine tr_blockN ?_
                      refine tr_thenN ?_
                      exact tr_join [(1, x1.enc), (2, (.int .i64 x2)), (7, (.pointer x7)), (9, (.pointer x9)), (11, (.int .i64 x11))] ⟨rfl, rfl, rfl, rfl, rfl, trivial⟩ ⟨_, _, _, _, _, rfl, H⟩
                  · refine tr_draw mixed [0, 0, 3, 0, 0, 31, 63, 127, 255, 511, 255, 2047, 4095, 8191, 16383, 32767, 65535, 131071, 65535, 524287, 1048575, 2097151, 4194303, 8388607, 16777215, 33554431, 16777215, 134217727, 268435455, 536870911] (by kernel_rfl) ?_
                    refine g_p 0 1 rfl (by kernel_rfl) (y_move rfl) rfl rfl ?_
                    obtain ⟨y25, k26, H⟩ := H
                    refine g_h 1 3 rfl (by kernel_rfl) (y_ldS Try.isAgg31 Try.sizeOf31 rfl rfl) k26 rfl rfl ?_
                    refine g_p 3 11 rfl (by kernel_rfl) (y_move rfl) rfl rfl ?_
                    obtain ⟨y27, k28, H⟩ := H
                    refine g_h 4 27 rfl (by kernel_rfl) (y_ldS Try.isAgg31 Try.sizeOf31 rfl rfl) k28 rfl rfl ?_
                    refine g_e 2 31 [(4, fun h => Cells h x13 y27.cells)] (by kernel_rfl) rfl (by kernel_rfl) (e_call Try.call13 rfl (F.spatelaw9_do_ok H)) rfl rfl ?_
                    rintro _ h29 ⟨r30, rfl, H⟩
                    obtain ⟨k31, H⟩ := H
                    refine ⟨And.intro k31 trivial, ?_⟩
                    refine g_e 5 63 [] (by kernel_rfl) rfl (by kernel_rfl) (e_call Try.call13 rfl (F.spatelaw9_do_ok H)) rfl rfl ?_
                    rintro _ h32 ⟨r33, rfl, H⟩
                    refine ⟨trivial, ?_⟩
                    refine g_p 6 127 rfl (by kernel_rfl) (y_bneq Try.underlying4 rfl rfl) rfl rfl ?_
                    refine g_p 7 255 rfl (by kernel_rfl) (y_move rfl) rfl rfl ?_
                    refine g_split (t := 91) rfl (fun g34 => ?_) (fun g34 => ?_)
                    · replace H := H.1 g34
                      refine g_s 8 511 rfl (by kernel_rfl) rfl rfl ?_
                      refine g_s 9 1023 rfl (by kernel_rfl) rfl rfl ?_
                      refine g_s 10 2047 rfl (by kernel_rfl) rfl rfl ?_
                      refine g_s 11 4095 rfl (by kernel_rfl) rfl rfl ?_
                      refine g_s 12 8191 rfl (by kernel_rfl) rfl rfl ?_
                      refine g_s 13 16383 rfl (by kernel_rfl) rfl rfl ?_
                      refine g_p 14 32767 rfl (by kernel_rfl) (y_pick_t rfl rfl) rfl rfl ?_
                      refine g_p 15 65535 rfl (by kernel_rfl) (y_move rfl) rfl rfl ?_
                      refine g_s 16 131071 rfl (by kernel_rfl) rfl rfl ?_
                      refine g_s 17 262143 rfl (by kernel_rfl) rfl rfl ?_
                      refine g_s 18 524287 rfl (by kernel_rfl) rfl rfl ?_
                      refine g_s 19 1048575 rfl (by kernel_rfl) rfl rfl ?_
                      refine g_s 20 2097151 rfl (by kernel_rfl) rfl rfl ?_
                      refine g_s 21 4194303 rfl (by kernel_rfl) rfl rfl ?_
                      refine g_p 22 8388607 rfl (by kernel_rfl) (y_pick_t rfl rfl) rfl rfl ?_
                      refine g_p 23 16777215 rfl (by kernel_rfl) (y_move rfl) rfl rfl ?_
                      refine g_s 24 33554431 rfl (by kernel_rfl) rfl rfl ?_
                      refine g_s 25 67108863 rfl (by kernel_rfl) rfl rfl ?_
                      refine g_s 26 134217727 rfl (by kernel_rfl) rfl rfl ?_
                      refine g_s 27 268435455 rfl (by kernel_rfl) rfl rfl ?_
                      refine g_s 28 536870911 rfl (by kernel_rfl) rfl rfl ?_
                      refine g_p 29 1073741823 rfl (by kernel_rfl) (y_pick_t rfl rfl) rfl rfl ?_
                      refine g_d (by kernel_rfl) ?_
                      refine tr_thenN ?_
                      exact tr_join [(1, x1.enc), (2, (.int .i64 x2)), (7, (.pointer x7)), (9, (.pointer x9)), (11, (.int .i64 x11)), (113, (.bool true))] ⟨rfl, rfl, rfl, rfl, rfl, rfl, trivial⟩ ⟨_, _, _, _, _, _, rfl, H⟩
                    · replace H := H.2 g34
                      refine g_p 8 511 rfl (by kernel_rfl) (y_move rfl) rfl rfl ?_
                      refine g_p 10 1535 rfl (by kernel_rfl) (y_move rfl) rfl rfl ?_
                      refine g_e 9 2047 [] (by kernel_rfl) rfl (by kernel_rfl) (e_call Try.call11 rfl (F.epoch_Book_Held_ok H)) rfl rfl ?_
                      rintro _ h35 ⟨r36, rfl, H⟩
                      refine ⟨trivial, ?_⟩
                      refine g_e 11 4095 [] (by kernel_rfl) rfl (by kernel_rfl) (e_call Try.call11 rfl (F.epoch_Book_Held_ok H)) rfl rfl ?_
                      rintro _ h37 ⟨r38, rfl, H⟩
                      refine ⟨trivial, ?_⟩
                      refine g_e 12 8191 [] (by kernel_rfl) rfl (by kernel_rfl) (e_call Try.call14 rfl (F.spatelaw9_ints_ok H)) rfl rfl ?_
                      rintro _ h39 ⟨r40, rfl, H⟩
                      refine ⟨trivial, ?_⟩
                      refine g_p 13 16383 rfl (by kernel_rfl) (y_not rfl) rfl rfl ?_
                      refine g_p 14 32767 rfl (by kernel_rfl) (y_pick_f rfl rfl) rfl rfl ?_
                      refine g_p 15 65535 rfl (by kernel_rfl) (y_move rfl) rfl rfl ?_
                      refine g_split (t := 99) rfl (fun g41 => ?_) (fun g41 => ?_)
                      · replace H := H.1 g41
                        refine g_s 16 131071 rfl (by kernel_rfl) rfl rfl ?_
                        refine g_s 17 262143 rfl (by kernel_rfl) rfl rfl ?_
                        refine g_s 18 524287 rfl (by kernel_rfl) rfl rfl ?_
                        refine g_s 19 1048575 rfl (by kernel_rfl) rfl rfl ?_
                        refine g_s 20 2097151 rfl (by kernel_rfl) rfl rfl ?_
                        refine g_s 21 4194303 rfl (by kernel_rfl) rfl rfl ?_
                        refine g_p 22 8388607 rfl (by kernel_rfl) (y_pick_t rfl rfl) rfl rfl ?_
                        refine g_p 23 16777215 rfl (by kernel_rfl) (y_move rfl) rfl rfl ?_
                        refine g_s 24 33554431 rfl (by kernel_rfl) rfl rfl ?_
                        refine g_s 25 67108863 rfl (by kernel_rfl) rfl rfl ?_
                        refine g_s 26 134217727 rfl (by kernel_rfl) rfl rfl ?_
                        refine g_s 27 268435455 rfl (by kernel_rfl) rfl rfl ?_
                        refine g_s 28 536870911 rfl (by kernel_rfl) rfl rfl ?_
                        refine g_p 29 1073741823 rfl (by kernel_rfl) (y_pick_t rfl rfl) rfl rfl ?_
                        refine g_d (by kernel_rfl) ?_
                        refine tr_thenN ?_
                        exact tr_join [(1, x1.enc), (2, (.int .i64 x2)), (7, (.pointer x7)), (9, (.pointer x9)), (11, (.int .i64 x11)), (113, (.bool true))] ⟨rfl, rfl, rfl, rfl, rfl, rfl, trivial⟩ ⟨_, _, _, _, _, _, rfl, H⟩
                      · replace H := H.2 g41
                        refine g_p 16 131071 rfl (by kernel_rfl) (y_move rfl) rfl rfl ?_
                        refine g_p 18 393215 rfl (by kernel_rfl) (y_move rfl) rfl rfl ?_
                        refine g_e 17 524287 [] (by kernel_rfl) rfl (by kernel_rfl) (e_call Try.call12 rfl (F.epoch_Book_Dying_ok H)) rfl rfl ?_
                        rintro _ h42 ⟨r43, rfl, H⟩
                        refine ⟨trivial, ?_⟩
                        refine g_e 19 1048575 [] (by kernel_rfl) rfl (by kernel_rfl) (e_call Try.call12 rfl (F.epoch_Book_Dying_ok H)) rfl rfl ?_
                        rintro _ h44 ⟨r45, rfl, H⟩
                        refine ⟨trivial, ?_⟩
                        refine g_e 20 2097151 [] (by kernel_rfl) rfl (by kernel_rfl) (e_call Try.call14 rfl (F.spatelaw9_ints_ok H)) rfl rfl ?_
                        rintro _ h46 ⟨r47, rfl, H⟩
                        refine ⟨trivial, ?_⟩
                        refine g_p 21 4194303 rfl (by kernel_rfl) (y_not rfl) rfl rfl ?_
                        refine g_p 22 8388607 rfl (by kernel_rfl) (y_pick_f rfl rfl) rfl rfl ?_
                        refine g_p 23 16777215 rfl (by kernel_rfl) (y_move rfl) rfl rfl ?_
                        refine g_split (t := 107) rfl (fun g48 => ?_) (fun g48 => ?_)
                        · replace H := H.1 g48
                          refine g_s 24 33554431 rfl (by kernel_rfl) rfl rfl ?_
                          refine g_s 25 67108863 rfl (by kernel_rfl) rfl rfl ?_
                          refine g_s 26 134217727 rfl (by kernel_rfl) rfl rfl ?_
                          refine g_s 27 268435455 rfl (by kernel_rfl) rfl rfl ?_
                          refine g_s 28 536870911 rfl (by kernel_rfl) rfl rfl ?_
                          refine g_p 29 1073741823 rfl (by kernel_rfl) (y_pick_t rfl rfl) rfl rfl ?_
                          refine g_d (by kernel_rfl) ?_
                          refine tr_thenN ?_
                          exact tr_join [(1, x1.enc), (2, (.int .i64 x2)), (7, (.pointer x7)), (9, (.pointer x9)), (11, (.int .i64 x11)), (113, (.bool true))] ⟨rfl, rfl, rfl, rfl, rfl, rfl, trivial⟩ ⟨_, _, _, _, _, _, rfl, H⟩
                        · replace H := H.2 g48
                          refine g_p 24 33554431 rfl (by kernel_rfl) (y_move rfl) rfl rfl ?_
                          refine g_p 26 100663295 rfl (by kernel_rfl) (y_move rfl) rfl rfl ?_
                          refine g_e 25 134217727 [] (by kernel_rfl) rfl (by kernel_rfl) (e_call Try.call15 rfl (F.epoch_Book_Now_ok H)) rfl rfl ?_
                          rintro _ h49 ⟨r50, rfl, H⟩
                          refine ⟨trivial, ?_⟩
                          refine g_e 27 268435455 [] (by kernel_rfl) rfl (by kernel_rfl) (e_call Try.call15 rfl (F.epoch_Book_Now_ok H)) rfl rfl ?_
                          rintro _ h51 ⟨r52, rfl, H⟩
                          refine ⟨trivial, ?_⟩
                          refine g_p 28 536870911 rfl (by kernel_rfl) (y_neq rfl rfl) rfl rfl ?_
                          refine g_p 29 1073741823 rfl (by kernel_rfl) (y_pick_f rfl rfl) rfl rfl ?_
                          refine g_d (by kernel_rfl) ?_
                          refine tr_thenN ?_
                          exact tr_join [(1, x1.enc), (2, (.int .i64 x2)), (7, (.pointer x7)), (9, (.pointer x9)), (11, (.int .i64 x11)), (113, (.bool ((r50 != r52))))] ⟨rfl, rfl, rfl, rfl, rfl, rfl, trivial⟩ ⟨_, _, _, _, _, _, rfl, H⟩
                · refine tr_seq_j (fun L' h => ∃ (x1 : Sl) (x2 : Int) (x7 : Option Addr) (x9 : Option Addr) (x11 : Int) (x12 : Addr) (x13 : Addr) (x75 : Bool), L' = [(1, x1.enc), (2, (.int .i64 x2)), (7, (.pointer x7)), (9, (.pointer x9)), (11, (.int .i64 x11)), (12, (.pointer (some x12))), (13, (.pointer (some x13))), (75, (.bool x75))] ∧ F.spatelaw9_EpochOwners.j8 Q (F.spatelaw9_EpochOwners.l4 Q q4) x1 x2 x7 x9 x11 x12 x13 x75 h) ?_ ?_
                  · rintro L' h ⟨x1, x2, x7, x9, x11, x12, x13, x75, rfl, H⟩
                    unfold F.spatelaw9_EpochOwners.j8 at H
                    refine tr_cond rfl (fun g53 => ?_) (fun g53 => ?_)
                    · replace H := H.1 g53
                      refine tr_region ?_
                      refine tr_p (y_fa (off := 1) Try.runUnderlying31 fo_31_1 rfl) rfl rfl ?_
                      obtain ⟨y54, k55, H⟩ := H
                      refine tr_h (y_ld Try.isAgg3 rfl) k55 rfl rfl ?_
                      refine tr_p (y_sub rfl rfl) rfl rfl ?_
                      refine tr_p (y_move rfl) rfl rfl ?_
                      refine tr_p (y_add rfl rfl) rfl rfl ?_
                      obtain ⟨e56, H⟩ := H
                      refine tr_p (y_rem rfl rfl e56) rfl rfl ?_
                      refine tr_p (y_add rfl rfl) rfl rfl ?_
                      refine tr_p (y_fa (off := 1) Try.runUnderlying31 fo_31_1 rfl) rfl rfl ?_
                      refine tr_e (f_store (vs := [(.int .i64 (IntKind.wrap .i64 ((Int.tmod (IntKind.wrap .i64 ((IntKind.wrap .i64 (y54 - 1)) + x2)) 64) + 1)))]) Try.sizeOf3 rfl rfl rfl rfl (one1 rfl) H) rfl rfl ?_
                      rintro _ h57 ⟨rfl, H⟩
                      refine tr_nil ?_
                      refine tr_thenN ?_
                      exact tr_join [(1, x1.enc), (2, (.int .i64 x2)), (7, (.pointer x7)), (9, (.pointer x9)), (11, (.int .i64 x11)), (12, (.pointer (some x12))), (13, (.pointer (some x13)))] ⟨rfl, rfl, rfl, rfl, rfl, rfl, rfl, trivial⟩ ⟨_, _, _, _, _, _, _, rfl, H⟩
                    · replace H := H.2 g53
                      refine tr_skip ?_
                      refine tr_thenN ?_
                      exact tr_join [(1, x1.enc), (2, (.int .i64 x2)), (7, (.pointer x7)), (9, (.pointer x9)), (11, (.int .i64 x11)), (12, (.pointer (some x12))), (13, (.pointer (some x13)))] ⟨rfl, rfl, rfl, rfl, rfl, rfl, rfl, trivial⟩ ⟨_, _, _, _, _, _, _, rfl, H⟩
                  · refine tr_region ?_
                    refine tr_p (y_fa (off := 1) Try.runUnderlying31 fo_31_1 rfl) rfl rfl ?_
                    obtain ⟨y58, k59, H⟩ := H
                    refine tr_h (y_ld Try.isAgg3 rfl) k59 rfl rfl ?_
                    refine tr_p (y_geq rfl rfl) rfl rfl ?_
                    refine tr_p (y_move rfl) rfl rfl ?_
                    refine tr_split (t := 71) rfl (fun g60 => ?_) (fun g60 => ?_)
                    · replace H := H.1 g60
                      refine tr_p (y_fa (off := 1) Try.runUnderlying31 fo_31_1 rfl) rfl rfl ?_
                      obtain ⟨y61, k62, H⟩ := H
                      refine tr_h (y_ld Try.isAgg3 rfl) k62 rfl rfl ?_
                      refine tr_p (y_leq rfl rfl) rfl rfl ?_
                      refine tr_p (y_pick_t rfl rfl) rfl rfl ?_
                      refine tr_nil ?_
                      refine tr_thenN ?_
                      exact tr_join [(1, x1.enc), (2, (.int .i64 x2)), (7, (.pointer x7)), (9, (.pointer x9)), (11, (.int .i64 x11)), (12, (.pointer (some a17))), (13, (.pointer (some a22))), (75, (.bool (decide (y61 ≤ 64))))] ⟨rfl, rfl, rfl, rfl, rfl, rfl, rfl, rfl, trivial⟩ ⟨_, _, _, _, _, _, _, _, rfl, H⟩
                    · replace H := H.2 g60
                      refine tr_s rfl rfl ?_
                      refine tr_s rfl rfl ?_
                      refine tr_s rfl rfl ?_
                      refine tr_p (y_pick_f rfl rfl) rfl rfl ?_
                      refine tr_nil ?_
                      refine tr_thenN ?_
                      exact tr_join [(1, x1.enc), (2, (.int .i64 x2)), (7, (.pointer x7)), (9, (.pointer x9)), (11, (.int .i64 x11)), (12, (.pointer (some a17))), (13, (.pointer (some a22))), (75, (.bool false))] ⟨rfl, rfl, rfl, rfl, rfl, rfl, rfl, rfl, trivial⟩ ⟨_, _, _, _, _, _, _, _, rfl, H⟩
            · replace H := H.2 g11
              refine tr_exit ?_
              refine tr_thenE ?_
              refine tr_thenE ?_
              refine tr_hit ?_
              refine tr_thenN ?_
              refine tr_seq ?_
              refine tr_region ?_
              refine tr_p (y_assign rfl) rfl rfl ?_
              refine tr_nil ?_
              refine tr_thenN ?_
              refine tr_ret ?_
              exact tr_ret1 rfl rfl ⟨_, rfl, H⟩
        · refine tr_seq_j (fun L' h => ∃ (x1 : Sl) (x2 : Int) (x7 : Option Addr) (x9 : Option Addr) (x56 : Bool), L' = [(1, x1.enc), (2, (.int .i64 x2)), (7, (.pointer x7)), (9, (.pointer x9)), (56, (.bool x56))] ∧ F.spatelaw9_EpochOwners.j9 Q x1 x2 x7 x9 x56 h) ?_ ?_
          · rintro L' h ⟨x1, x2, x7, x9, x56, rfl, H⟩
            unfold F.spatelaw9_EpochOwners.j9 at H
            refine tr_cond rfl (fun g64 => ?_) (fun g64 => ?_)
            · replace H := H.1 g64
              refine tr_seq ?_
              refine tr_region ?_
              refine tr_p (y_assign rfl) rfl rfl ?_
              refine tr_nil ?_
              refine tr_thenN ?_
              refine tr_ret ?_
              refine tr_thenR ?_
              exact tr_ret1 rfl rfl ⟨_, rfl, H⟩
            · replace H := H.2 g64
              refine tr_skip ?_
              refine tr_thenN ?_
              exact tr_join [(1, x1.enc), (2, (.int .i64 x2)), (7, (.pointer x7)), (9, (.pointer x9))] ⟨rfl, rfl, rfl, rfl, trivial⟩ ⟨_, _, _, _, rfl, H⟩
          · refine tr_region ?_
            refine tr_p (y_move rfl) rfl rfl ?_
            refine tr_p (y_neq rfl rfl) rfl rfl ?_
            refine tr_p (y_move rfl) rfl rfl ?_
            refine tr_split (t := 45) rfl (fun g65 => ?_) (fun g65 => ?_)
            · replace H := H.1 g65
              refine tr_s rfl rfl ?_
              refine tr_s rfl rfl ?_
              refine tr_p (y_pick_t rfl rfl) rfl rfl ?_
              refine tr_p (y_move rfl) rfl rfl ?_
              refine tr_s rfl rfl ?_
              refine tr_s rfl rfl ?_
              refine tr_p (y_pick_t rfl rfl) rfl rfl ?_
              refine tr_p (y_move rfl) rfl rfl ?_
              refine tr_s rfl rfl ?_
              refine tr_s rfl rfl ?_
              refine tr_p (y_pick_t rfl rfl) rfl rfl ?_
              refine tr_nil ?_
              refine tr_thenN ?_
              exact tr_join [(1, x1.enc), (2, (.int .i64 x2)), (7, (.pointer r6)), (9, (.pointer r9)), (56, (.bool true))] ⟨rfl, rfl, rfl, rfl, rfl, trivial⟩ ⟨_, _, _, _, _, rfl, H⟩
            · replace H := H.2 g65
              refine tr_p (y_move rfl) rfl rfl ?_
              refine tr_p (y_neq rfl rfl) rfl rfl ?_
              refine tr_p (y_pick_f rfl rfl) rfl rfl ?_
              refine tr_p (y_move rfl) rfl rfl ?_
              refine tr_split (t := 49) rfl (fun g66 => ?_) (fun g66 => ?_)
              · replace H := H.1 g66
                refine tr_s rfl rfl ?_
                refine tr_s rfl rfl ?_
                refine tr_p (y_pick_t rfl rfl) rfl rfl ?_
                refine tr_p (y_move rfl) rfl rfl ?_
                refine tr_s rfl rfl ?_
                refine tr_s rfl rfl ?_
                refine tr_p (y_pick_t rfl rfl) rfl rfl ?_
                refine tr_nil ?_
                refine tr_thenN ?_
                exact tr_join [(1, x1.enc), (2, (.int .i64 x2)), (7, (.pointer r6)), (9, (.pointer r9)), (56, (.bool true))] ⟨rfl, rfl, rfl, rfl, rfl, trivial⟩ ⟨_, _, _, _, _, rfl, H⟩
              · replace H := H.2 g66
                refine tr_p (y_move rfl) rfl rfl ?_
                refine tr_p (y_pnil_eql Try.runUnderlying24 rfl rfl) rfl rfl ?_
                refine tr_p (y_pick_f rfl rfl) rfl rfl ?_
                refine tr_p (y_move rfl) rfl rfl ?_
                refine tr_split (t := 53) rfl (fun g67 => ?_) (fun g67 => ?_)
                · replace H := H.1 g67
                  refine tr_s rfl rfl ?_
                  refine tr_s rfl rfl ?_
                  refine tr_p (y_pick_t rfl rfl) rfl rfl ?_
                  refine tr_nil ?_
                  refine tr_thenN ?_
                  exact tr_join [(1, x1.enc), (2, (.int .i64 x2)), (7, (.pointer r6)), (9, (.pointer r9)), (56, (.bool true))] ⟨rfl, rfl, rfl, rfl, rfl, trivial⟩ ⟨_, _, _, _, _, rfl, H⟩
                · replace H := H.2 g67
                  refine tr_p (y_move rfl) rfl rfl ?_
                  refine tr_p (y_pnil_eql Try.runUnderlying24 rfl rfl) rfl rfl ?_
                  refine tr_p (y_pick_f rfl rfl) rfl rfl ?_
                  refine tr_nil ?_
                  refine tr_thenN ?_
                  exact tr_join [(1, x1.enc), (2, (.int .i64 x2)), (7, (.pointer r6)), (9, (.pointer r9)), (56, (.bool r9.isNone))] ⟨rfl, rfl, rfl, rfl, rfl, trivial⟩ ⟨_, _, _, _, _, rfl, H⟩
      · refine tr_seq ?_
        refine tr_region ?_
        refine tr_p (y_move rfl) rfl rfl ?_
        refine tr_p (y_lss rfl rfl) rfl rfl ?_
        refine tr_nil ?_
        refine tr_thenN ?_
        refine tr_cond rfl (fun g68 => ?_) (fun g68 => ?_)
        · replace H := H.1 g68
          refine tr_region ?_
          refine tr_p (y_move rfl) rfl rfl ?_
          refine tr_p (y_add rfl rfl) rfl rfl ?_
          refine tr_p (y_assign rfl) rfl rfl ?_
          refine tr_nil ?_
          refine tr_thenN ?_
          exact tr_join [(0, (.int .i64 x0)), (1, x1.enc), (2, (.int .i64 (IntKind.wrap .i64 ((Int.tmod x2 64) + 64))))] ⟨rfl, rfl, rfl, trivial⟩ ⟨_, _, _, rfl, H⟩
        · replace H := H.2 g68
          refine tr_skip ?_
          refine tr_thenN ?_
          exact tr_join [(0, (.int .i64 x0)), (1, x1.enc), (2, (.int .i64 (Int.tmod x2 64)))] ⟨rfl, rfl, rfl, trivial⟩ ⟨_, _, _, rfl, H⟩
    · refine tr_seq_j (fun L' h => ∃ (x0 : Int) (x1 : Sl) (x2 : Int) (x26 : Bool), L' = [(0, (.int .i64 x0)), (1, x1.enc), (2, (.int .i64 x2)), (26, (.bool x26))] ∧ F.spatelaw9_EpochOwners.j10 Q x0 x1 x2 x26 h) ?_ ?_
      · rintro L' h ⟨x0, x1, x2, x26, rfl, H⟩
        unfold F.spatelaw9_EpochOwners.j10 at H
        refine tr_cond rfl (fun g69 => ?_) (fun g69 => ?_)
        · replace H := H.1 g69
          refine tr_seq ?_
          refine tr_region ?_
          refine tr_p (y_assign rfl) rfl rfl ?_
          refine tr_nil ?_
          refine tr_thenN ?_
          refine tr_ret ?_
          refine tr_thenR ?_
          exact tr_ret1 rfl rfl ⟨_, rfl, H⟩
        · replace H := H.2 g69
          refine tr_skip ?_
          refine tr_thenN ?_
          exact tr_join [(0, (.int .i64 x0)), (1, x1.enc), (2, (.int .i64 x2))] ⟨rfl, rfl, rfl, trivial⟩ ⟨_, _, _, rfl, H⟩
      · refine tr_region ?_
        refine tr_p (y_move rfl) rfl rfl ?_
        refine tr_p (y_len (ts := #[]) Try.runUnderlying23 (o := p1.ptr) (n := p1.len) (cap := p1.cap) rfl) rfl rfl ?_
        refine tr_p (y_gtr rfl rfl) rfl rfl ?_
        refine tr_p (y_move rfl) rfl rfl ?_
        refine tr_split (t := 19) rfl (fun g70 => ?_) (fun g70 => ?_)
        · replace H := H.1 g70
          refine tr_s rfl rfl ?_
          refine tr_s rfl rfl ?_
          refine tr_p (y_pick_t rfl rfl) rfl rfl ?_
          refine tr_p (y_move rfl) rfl rfl ?_
          refine tr_s rfl rfl ?_
          refine tr_s rfl rfl ?_
          refine tr_p (y_pick_t rfl rfl) rfl rfl ?_
          refine tr_nil ?_
          refine tr_thenN ?_
          exact tr_join [(0, (.int .i64 p0)), (1, p1.enc), (2, (.int .i64 p2)), (26, (.bool true))] ⟨rfl, rfl, rfl, rfl, trivial⟩ ⟨_, _, _, _, rfl, H⟩
        · replace H := H.2 g70
          refine tr_p (y_move rfl) rfl rfl ?_
          refine tr_p (y_lss rfl rfl) rfl rfl ?_
          refine tr_p (y_pick_f rfl rfl) rfl rfl ?_
          refine tr_p (y_move rfl) rfl rfl ?_
          refine tr_split (t := 23) rfl (fun g71 => ?_) (fun g71 => ?_)
          · replace H := H.1 g71
            refine tr_s rfl rfl ?_
            refine tr_s rfl rfl ?_
            refine tr_p (y_pick_t rfl rfl) rfl rfl ?_
            refine tr_nil ?_
            refine tr_thenN ?_
            exact tr_join [(0, (.int .i64 p0)), (1, p1.enc), (2, (.int .i64 p2)), (26, (.bool true))] ⟨rfl, rfl, rfl, rfl, trivial⟩ ⟨_, _, _, _, rfl, H⟩
          · replace H := H.2 g71
            refine tr_p (y_move rfl) rfl rfl ?_
            refine tr_p (y_gtr rfl rfl) rfl rfl ?_
            refine tr_p (y_pick_f rfl rfl) rfl rfl ?_
            refine tr_nil ?_
            refine tr_thenN ?_
            exact tr_join [(0, (.int .i64 p0)), (1, p1.enc), (2, (.int .i64 p2)), (26, (.bool (decide (p0 > 64))))] ⟨rfl, rfl, rfl, rfl, trivial⟩ ⟨_, _, _, _, rfl, H⟩

def F.spatelaw9_alike.l3 (Q : Bool → H → Prop) (C1 : (Option Addr) → (Option Addr) → Int → H → Prop) : Nat → (Option Addr) → (Option Addr) → Int → Int → H → Prop
  | 0, _, _, _, _, _ => False
  | q3 + 1, x0, x1, x5, x6, h =>
    F.epoch_Book_Now x0 h fun r5 h4 =>
    ((decide (x6 < r5)) = true →
    F.epoch_Book_Holds x0 x5 x6 h4 fun r8 h7 =>
    F.epoch_Book_Holds x1 x5 x6 h7 fun r10 h9 =>
    ((!(r8 == r10)) = true →
    Q false h9) ∧
    ((!(r8 == r10)) = false →
    (F.spatelaw9_alike.l3 Q C1 q3) x0 x1 x5 (IntKind.wrap .i64 (x6 + 1)) h9)) ∧
    ((decide (x6 < r5)) = false →
    C1 x0 x1 (IntKind.wrap .i64 (x5 + 1)) h4)
def F.spatelaw9_alike.l2 (Q : Bool → H → Prop) : Nat → (Option Addr) → (Option Addr) → Int → H → Prop
  | 0, _, _, _, _ => False
  | q2 + 1, x0, x1, x5, h =>
    ((decide (x5 ≤ 64)) = true →
    F.epoch_Book_Now x0 h fun r3 h2 =>
    ∃ m, F.spatelaw9_alike.l3 Q (F.spatelaw9_alike.l2 Q q2) m x0 x1 x5 (IntKind.wrap .i64 (r3 - 8)) h2) ∧
    ((decide (x5 ≤ 64)) = false →
    Q true h)
def F.spatelaw9_alike.j1 (Q : Bool → H → Prop) (x0 : Option Addr) (x1 : Option Addr) (h : H) : Prop :=
  ∃ m, F.spatelaw9_alike.l2 Q m x0 x1 1 h
def F.spatelaw9_alike.j4 (Q : Bool → H → Prop) (x0 : Option Addr) (x1 : Option Addr) (x34 : Bool) (h : H) : Prop :=
  (x34 = true →
  Q false h) ∧
  (x34 = false →
  F.spatelaw9_alike.j1 Q x0 x1 h)
/-- spate/spatelaw9.alike -/
def F.spatelaw9_alike (p0 : Option Addr) (p1 : Option Addr) (h : H) (Q : Bool → H → Prop) : Prop :=
  F.epoch_Book_Now p0 h fun r16 h15 =>
  F.epoch_Book_Now p1 h15 fun r18 h17 =>
  (((r16 != r18)) = true →
  F.spatelaw9_alike.j4 Q p0 p1 true h17) ∧
  (((r16 != r18)) = false →
  F.epoch_Book_Held p0 h17 fun r21 h20 =>
  F.epoch_Book_Held p1 h20 fun r23 h22 =>
  F.spatelaw9_ints r21 r23 h22 fun r25 h24 =>
  ((!r25) = true →
  F.spatelaw9_alike.j4 Q p0 p1 true h24) ∧
  ((!r25) = false →
  F.epoch_Book_Dying p0 h24 fun r28 h27 =>
  F.epoch_Book_Dying p1 h27 fun r30 h29 =>
  F.spatelaw9_ints r28 r30 h29 fun r32 h31 =>
  ((!r32) = true →
  F.spatelaw9_alike.j4 Q p0 p1 true h31) ∧
  ((!r32) = false →
  F.epoch_Book_Live p0 h31 fun r35 h34 =>
  F.epoch_Book_Live p1 h34 fun r37 h36 =>
  F.spatelaw9_alike.j4 Q p0 p1 ((r35 != r37)) h36)))
theorem F.spatelaw9_alike_ok {p0 : Option Addr} {p1 : Option Addr} {h : H} {Q : Bool → H → Prop} (H : F.spatelaw9_alike p0 p1 h Q) : Fn PP 20 ([(.pointer p0), (.pointer p1)] : List Value).toArray h fun r h' => ∃ r0, r = (.bool r0) ∧ Q r0 h' := by
  unfold F.spatelaw9_alike at H
  refine fn_of Try.func20 Try.ntmps20 rfl rfl fun w0 => ?_
  refine tr_sub [(0, (.pointer p0)), (1, (.pointer p1))] ⟨rfl, rfl, trivial⟩ ?_
  refine tr_seq ?_
  refine tr_region ?_
  refine tr_p (y_assign rfl) rfl rfl ?_
  refine tr_nil ?_
  refine tr_thenN ?_
  refine tr_seq_j (fun L' h => ∃ (x0 : Option Addr) (x1 : Option Addr), L' = [(0, (.pointer x0)), (1, (.pointer x1))] ∧ F.spatelaw9_alike.j1 Q x0 x1 h) ?_ ?_
  · rintro L' h ⟨x0, x1, rfl, H⟩
    unfold F.spatelaw9_alike.j1 at H
    refine tr_seq ?_
    refine tr_seq ?_
    refine tr_region ?_
    refine tr_p (y_assign rfl) rfl rfl ?_
    refine tr_nil ?_
    refine tr_thenN ?_
    refine tr_block ?_
    obtain ⟨m13, H⟩ := H
    refine tr_sub [(0, (.pointer x0)), (1, (.pointer x1)), (5, (.int .i64 1))] ⟨rfl, rfl, rfl, trivial⟩ ?_
    refine tr_loop_j (fun m L' h => ∃ (x0 : Option Addr) (x1 : Option Addr) (x5 : Int), L' = [(0, (.pointer x0)), (1, (.pointer x1)), (5, (.int .i64 x5))] ∧ F.spatelaw9_alike.l2 Q m x0 x1 x5 h) ?_ ?_ m13 ⟨_, _, _, rfl, H⟩
    · rintro L' h ⟨_, _, _, _, H⟩; exact H
    · rintro q2 L' h ⟨x0, x1, x5, rfl, H⟩
      unfold F.spatelaw9_alike.l2 at H
      refine tr_seq ?_
      refine tr_seq ?_
      refine tr_region ?_
      refine tr_p (y_move rfl) rfl rfl ?_
      refine tr_p (y_leq rfl rfl) rfl rfl ?_
      refine tr_nil ?_
      refine tr_thenN ?_
      refine tr_cond rfl (fun g1 => ?_) (fun g1 => ?_)
      · replace H := H.1 g1
        refine tr_skip ?_
        refine tr_thenN ?_
        refine tr_seq ?_
        refine tr_block ?_
        refine tr_seq ?_
        refine tr_region ?_
        refine tr_p (y_move rfl) rfl rfl ?_
        refine tr_e (e_call Try.call15 rfl (F.epoch_Book_Now_ok H)) rfl rfl ?_
        rintro _ h2 ⟨r3, rfl, H⟩
        refine tr_p (y_sub rfl rfl) rfl rfl ?_
        refine tr_p (y_assign rfl) rfl rfl ?_
        refine tr_nil ?_
        refine tr_thenN ?_
        refine tr_block ?_
        obtain ⟨m12, H⟩ := H
        refine tr_sub [(0, (.pointer x0)), (1, (.pointer x1)), (5, (.int .i64 x5)), (6, (.int .i64 (IntKind.wrap .i64 (r3 - 8))))] ⟨rfl, rfl, rfl, rfl, trivial⟩ ?_
        refine tr_loop_j (fun m L' h => ∃ (x0 : Option Addr) (x1 : Option Addr) (x5 : Int) (x6 : Int), L' = [(0, (.pointer x0)), (1, (.pointer x1)), (5, (.int .i64 x5)), (6, (.int .i64 x6))] ∧ F.spatelaw9_alike.l3 Q (F.spatelaw9_alike.l2 Q q2) m x0 x1 x5 x6 h) ?_ ?_ m12 ⟨_, _, _, _, rfl, H⟩
        · rintro L' h ⟨_, _, _, _, _, H⟩; exact H
        · rintro q3 L' h ⟨x0, x1, x5, x6, rfl, H⟩
          unfold F.spatelaw9_alike.l3 at H
          refine tr_seq ?_
          refine tr_seq ?_
          refine tr_region ?_
          refine tr_p (y_move rfl) rfl rfl ?_
          refine tr_p (y_move rfl) rfl rfl ?_
          refine tr_e (e_call Try.call15 rfl (F.epoch_Book_Now_ok H)) rfl rfl ?_
          rintro _ h4 ⟨r5, rfl, H⟩
          refine tr_p (y_lss rfl rfl) rfl rfl ?_
          refine tr_nil ?_
          refine tr_thenN ?_
          refine tr_cond rfl (fun g6 => ?_) (fun g6 => ?_)
          · replace H := H.1 g6
            refine tr_skip ?_
            refine tr_thenN ?_
            refine tr_seq ?_
            refine tr_block ?_
            refine tr_seq ?_
            refine tr_region ?_
            refine tr_p (y_move rfl) rfl rfl ?_
            refine tr_p (y_move rfl) rfl rfl ?_
            refine tr_p (y_move rfl) rfl rfl ?_
            refine tr_e (e_call Try.call25 rfl (F.epoch_Book_Holds_ok H)) rfl rfl ?_
            rintro _ h7 ⟨r8, rfl, H⟩
            refine tr_p (y_move rfl) rfl rfl ?_
            refine tr_p (y_move rfl) rfl rfl ?_
            refine tr_p (y_move rfl) rfl rfl ?_
            refine tr_e (e_call Try.call25 rfl (F.epoch_Book_Holds_ok H)) rfl rfl ?_
            rintro _ h9 ⟨r10, rfl, H⟩
            refine tr_p (y_bneq Try.underlying4 rfl rfl) rfl rfl ?_
            refine tr_nil ?_
            refine tr_thenN ?_
            refine tr_cond rfl (fun g11 => ?_) (fun g11 => ?_)
            · replace H := H.1 g11
              refine tr_seq ?_
              refine tr_region ?_
              refine tr_p (y_assign rfl) rfl rfl ?_
              refine tr_nil ?_
              refine tr_thenN ?_
              refine tr_ret ?_
              refine tr_blockR ?_
              refine tr_thenR ?_
              refine tr_thenR ?_
              refine tr_blockR ?_
              refine tr_blockR ?_
              refine tr_thenR ?_
              refine tr_thenR ?_
              refine tr_blockR ?_
              refine tr_thenR ?_
              exact tr_ret1 rfl rfl ⟨_, rfl, H⟩
            · replace H := H.2 g11
              refine tr_skip ?_
              refine tr_blockN ?_
              refine tr_thenN ?_
              refine tr_region ?_
              refine tr_p (y_move rfl) rfl rfl ?_
              refine tr_p (y_add rfl rfl) rfl rfl ?_
              refine tr_p (y_assign rfl) rfl rfl ?_
              refine tr_nil ?_
              refine tr_thenN ?_
              exact tr_join [(0, (.pointer x0)), (1, (.pointer x1)), (5, (.int .i64 x5)), (6, (.int .i64 (IntKind.wrap .i64 (x6 + 1))))] ⟨rfl, rfl, rfl, rfl, trivial⟩ ⟨_, _, _, _, rfl, H⟩
          · replace H := H.2 g6
            refine tr_exit ?_
            refine tr_thenE ?_
            refine tr_thenE ?_
            refine tr_hit ?_
            refine tr_blockN ?_
            refine tr_thenN ?_
            refine tr_region ?_
            refine tr_p (y_move rfl) rfl rfl ?_
            refine tr_p (y_add rfl rfl) rfl rfl ?_
            refine tr_p (y_assign rfl) rfl rfl ?_
            refine tr_nil ?_
            refine tr_thenN ?_
            exact tr_join [(0, (.pointer x0)), (1, (.pointer x1)), (5, (.int .i64 (IntKind.wrap .i64 (x5 + 1))))] ⟨rfl, rfl, rfl, trivial⟩ ⟨_, _, _, rfl, H⟩
      · replace H := H.2 g1
        refine tr_exit ?_
        refine tr_thenE ?_
        refine tr_thenE ?_
        refine tr_hit ?_
        refine tr_thenN ?_
        refine tr_seq ?_
        refine tr_region ?_
        refine tr_p (y_assign rfl) rfl rfl ?_
        refine tr_nil ?_
        refine tr_thenN ?_
        refine tr_ret ?_
        exact tr_ret1 rfl rfl ⟨_, rfl, H⟩
  · refine tr_seq_j (fun L' h => ∃ (x0 : Option Addr) (x1 : Option Addr) (x34 : Bool), L' = [(0, (.pointer x0)), (1, (.pointer x1)), (34, (.bool x34))] ∧ F.spatelaw9_alike.j4 Q x0 x1 x34 h) ?_ ?_
    · rintro L' h ⟨x0, x1, x34, rfl, H⟩
      unfold F.spatelaw9_alike.j4 at H
      refine tr_cond rfl (fun g14 => ?_) (fun g14 => ?_)
      · replace H := H.1 g14
        refine tr_seq ?_
        refine tr_region ?_
        refine tr_p (y_assign rfl) rfl rfl ?_
        refine tr_nil ?_
        refine tr_thenN ?_
        refine tr_ret ?_
        refine tr_thenR ?_
        exact tr_ret1 rfl rfl ⟨_, rfl, H⟩
      · replace H := H.2 g14
        refine tr_skip ?_
        refine tr_thenN ?_
        exact tr_join [(0, (.pointer x0)), (1, (.pointer x1))] ⟨rfl, rfl, trivial⟩ ⟨_, _, rfl, H⟩
    · refine tr_region ?_
      refine tr_p (y_move rfl) rfl rfl ?_
      refine tr_e (e_call Try.call15 rfl (F.epoch_Book_Now_ok H)) rfl rfl ?_
      rintro _ h15 ⟨r16, rfl, H⟩
      refine tr_p (y_move rfl) rfl rfl ?_
      refine tr_e (e_call Try.call15 rfl (F.epoch_Book_Now_ok H)) rfl rfl ?_
      rintro _ h17 ⟨r18, rfl, H⟩
      refine tr_p (y_neq rfl rfl) rfl rfl ?_
      refine tr_p (y_move rfl) rfl rfl ?_
      refine tr_split (t := 12) rfl (fun g19 => ?_) (fun g19 => ?_)
      · replace H := H.1 g19
        refine tr_s rfl rfl ?_
        refine tr_s rfl rfl ?_
        refine tr_s rfl rfl ?_
        refine tr_s rfl rfl ?_
        refine tr_s rfl rfl ?_
        refine tr_s rfl rfl ?_
        refine tr_p (y_pick_t rfl rfl) rfl rfl ?_
        refine tr_p (y_move rfl) rfl rfl ?_
        refine tr_s rfl rfl ?_
        refine tr_s rfl rfl ?_
        refine tr_s rfl rfl ?_
        refine tr_s rfl rfl ?_
        refine tr_s rfl rfl ?_
        refine tr_s rfl rfl ?_
        refine tr_p (y_pick_t rfl rfl) rfl rfl ?_
        refine tr_p (y_move rfl) rfl rfl ?_
        refine tr_s rfl rfl ?_
        refine tr_s rfl rfl ?_
        refine tr_s rfl rfl ?_
        refine tr_s rfl rfl ?_
        refine tr_s rfl rfl ?_
        refine tr_p (y_pick_t rfl rfl) rfl rfl ?_
        refine tr_nil ?_
        refine tr_thenN ?_
        exact tr_join [(0, (.pointer p0)), (1, (.pointer p1)), (34, (.bool true))] ⟨rfl, rfl, rfl, trivial⟩ ⟨_, _, _, rfl, H⟩
      · replace H := H.2 g19
        refine tr_p (y_move rfl) rfl rfl ?_
        refine tr_e (e_call Try.call11 rfl (F.epoch_Book_Held_ok H)) rfl rfl ?_
        rintro _ h20 ⟨r21, rfl, H⟩
        refine tr_p (y_move rfl) rfl rfl ?_
        refine tr_e (e_call Try.call11 rfl (F.epoch_Book_Held_ok H)) rfl rfl ?_
        rintro _ h22 ⟨r23, rfl, H⟩
        refine tr_e (e_call Try.call14 rfl (F.spatelaw9_ints_ok H)) rfl rfl ?_
        rintro _ h24 ⟨r25, rfl, H⟩
        refine tr_p (y_not rfl) rfl rfl ?_
        refine tr_p (y_pick_f rfl rfl) rfl rfl ?_
        refine tr_p (y_move rfl) rfl rfl ?_
        refine tr_split (t := 20) rfl (fun g26 => ?_) (fun g26 => ?_)
        · replace H := H.1 g26
          refine tr_s rfl rfl ?_
          refine tr_s rfl rfl ?_
          refine tr_s rfl rfl ?_
          refine tr_s rfl rfl ?_
          refine tr_s rfl rfl ?_
          refine tr_s rfl rfl ?_
          refine tr_p (y_pick_t rfl rfl) rfl rfl ?_
          refine tr_p (y_move rfl) rfl rfl ?_
          refine tr_s rfl rfl ?_
          refine tr_s rfl rfl ?_
          refine tr_s rfl rfl ?_
          refine tr_s rfl rfl ?_
          refine tr_s rfl rfl ?_
          refine tr_p (y_pick_t rfl rfl) rfl rfl ?_
          refine tr_nil ?_
          refine tr_thenN ?_
          exact tr_join [(0, (.pointer p0)), (1, (.pointer p1)), (34, (.bool true))] ⟨rfl, rfl, rfl, trivial⟩ ⟨_, _, _, rfl, H⟩
        · replace H := H.2 g26
          refine tr_p (y_move rfl) rfl rfl ?_
          refine tr_e (e_call Try.call12 rfl (F.epoch_Book_Dying_ok H)) rfl rfl ?_
          rintro _ h27 ⟨r28, rfl, H⟩
          refine tr_p (y_move rfl) rfl rfl ?_
          refine tr_e (e_call Try.call12 rfl (F.epoch_Book_Dying_ok H)) rfl rfl ?_
          rintro _ h29 ⟨r30, rfl, H⟩
          refine tr_e (e_call Try.call14 rfl (F.spatelaw9_ints_ok H)) rfl rfl ?_
          rintro _ h31 ⟨r32, rfl, H⟩
          refine tr_p (y_not rfl) rfl rfl ?_
          refine tr_p (y_pick_f rfl rfl) rfl rfl ?_
          refine tr_p (y_move rfl) rfl rfl ?_
          refine tr_split (t := 28) rfl (fun g33 => ?_) (fun g33 => ?_)
          · replace H := H.1 g33
            refine tr_s rfl rfl ?_
            refine tr_s rfl rfl ?_
            refine tr_s rfl rfl ?_
            refine tr_s rfl rfl ?_
            refine tr_s rfl rfl ?_
            refine tr_p (y_pick_t rfl rfl) rfl rfl ?_
            refine tr_nil ?_
            refine tr_thenN ?_
            exact tr_join [(0, (.pointer p0)), (1, (.pointer p1)), (34, (.bool true))] ⟨rfl, rfl, rfl, trivial⟩ ⟨_, _, _, rfl, H⟩
          · replace H := H.2 g33
            refine tr_p (y_move rfl) rfl rfl ?_
            refine tr_e (e_call Try.call16 rfl (F.epoch_Book_Live_ok H)) rfl rfl ?_
            rintro _ h34 ⟨r35, rfl, H⟩
            refine tr_p (y_move rfl) rfl rfl ?_
            refine tr_e (e_call Try.call16 rfl (F.epoch_Book_Live_ok H)) rfl rfl ?_
            rintro _ h36 ⟨r37, rfl, H⟩
            refine tr_p (y_neq rfl rfl) rfl rfl ?_
            refine tr_p (y_pick_f rfl rfl) rfl rfl ?_
            refine tr_nil ?_
            refine tr_thenN ?_
            exact tr_join [(0, (.pointer p0)), (1, (.pointer p1)), (34, (.bool ((r35 != r37))))] ⟨rfl, rfl, rfl, trivial⟩ ⟨_, _, _, rfl, H⟩

end Go.Proofs.Ytgcmojbajjajgaa.V
