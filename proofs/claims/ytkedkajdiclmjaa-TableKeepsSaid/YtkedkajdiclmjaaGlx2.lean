/- Printed by a program of this session (gen.py): Go functions as Lean functions over the heap, and that the Go code does what they say; no condition. -/
import Derived.Test.YtkedkajdiclmjaaGlx1
namespace Go.Proofs.Ytkedkajdiclmjaa.V
open Go
set_option linter.unusedVariables false
set_option maxRecDepth 100000
def F.spatelaw6_TableTwins.j6 (Q : Bool → H → Prop) (C1 : Sl → Sl → (Option Addr) → (Option Addr) → (Option Addr) → (Option Addr) → Int → H → Prop) (x1 : Sl) (x2 : Sl) (x7 : Option Addr) (x9 : Option Addr) (x10 : Option Addr) (x11 : Option Addr) (x12 : Int) (h : H) : Prop :=
  C1 x1 x2 x7 x9 x10 x11 (IntKind.wrap .i64 (x12 + 1)) h
def F.spatelaw6_TableTwins.j7 (Q : Bool → H → Prop) (C1 : Sl → Sl → (Option Addr) → (Option Addr) → (Option Addr) → (Option Addr) → Int → H → Prop) (x1 : Sl) (x2 : Sl) (x7 : Option Addr) (x9 : Option Addr) (x10 : Option Addr) (x11 : Option Addr) (x12 : Int) (h : H) : Prop :=
  ((decide (x12 < (x2.len : Int))) = true →
  idxA x2 x12 3 fun a19 =>
  ld_S_spatelaw6_Step h a19 fun y21 =>
  F.spatelaw6_do x10 y21 h fun h23 =>
  F.spatelaw6_TableTwins.j6 Q C1 x1 x2 x7 x9 x10 x11 x12 h23) ∧
  ((decide (x12 < (x2.len : Int))) = false →
  F.spatelaw6_TableTwins.j6 Q C1 x1 x2 x7 x9 x10 x11 x12 h)
def F.spatelaw6_TableTwins.j5 (Q : Bool → H → Prop) (C1 : Sl → Sl → (Option Addr) → (Option Addr) → (Option Addr) → (Option Addr) → Int → H → Prop) (x1 : Sl) (x2 : Sl) (x7 : Option Addr) (x9 : Option Addr) (x10 : Option Addr) (x11 : Option Addr) (x12 : Int) (h : H) : Prop :=
  ((decide (x12 < (x1.len : Int))) = true →
  idxA x1 x12 3 fun a25 =>
  ld_S_spatelaw6_Step h a25 fun y27 =>
  F.spatelaw6_do x9 y27 h fun h29 =>
  F.spatelaw6_TableTwins.j7 Q C1 x1 x2 x7 x9 x10 x11 x12 h29) ∧
  ((decide (x12 < (x1.len : Int))) = false →
  F.spatelaw6_TableTwins.j7 Q C1 x1 x2 x7 x9 x10 x11 x12 h)
def F.spatelaw6_TableTwins.l10 (Q : Bool → H → Prop) : Nat → Sl → (Option Addr) → (Option Addr) → (Option Addr) → (Option Addr) → Int → H → Prop
  | 0, _, _, _, _, _, _, _ => False
  | q10 + 1, x2, x7, x9, x10, x11, x14, h =>
    ((decide (x14 < (x2.len : Int))) = true →
    idxA x2 x14 3 fun a41 =>
    ld_S_spatelaw6_Step h a41 fun y43 =>
    F.spatelaw6_do x11 y43 h fun h45 =>
    (F.spatelaw6_TableTwins.l10 Q q10) x2 x7 x9 x10 x11 (IntKind.wrap .i64 (x14 + 1)) h45) ∧
    ((decide (x14 < (x2.len : Int))) = false →
    F.spatelaw6_alike x7 x9 h fun r47 h46 =>
    (r47 = true →
    F.spatelaw6_alike x11 x10 h46 fun r50 h49 =>
    Q r50 h49) ∧
    (r47 = false →
    Q false h46))
def F.spatelaw6_TableTwins.l9 (Q : Bool → H → Prop) : Nat → Sl → Sl → (Option Addr) → (Option Addr) → (Option Addr) → (Option Addr) → Int → H → Prop
  | 0, _, _, _, _, _, _, _, _ => False
  | q9 + 1, x1, x2, x7, x9, x10, x11, x13, h =>
    ((decide (x13 < (x1.len : Int))) = true →
    idxA x1 x13 3 fun a35 =>
    ld_S_spatelaw6_Step h a35 fun y37 =>
    F.spatelaw6_do x7 y37 h fun h39 =>
    (F.spatelaw6_TableTwins.l9 Q q9) x1 x2 x7 x9 x10 x11 (IntKind.wrap .i64 (x13 + 1)) h39) ∧
    ((decide (x13 < (x1.len : Int))) = false →
    ∃ m, F.spatelaw6_TableTwins.l10 Q m x2 x7 x9 x10 x11 0 h)
def F.spatelaw6_TableTwins.j8 (Q : Bool → H → Prop) (C1 : Sl → Sl → (Option Addr) → (Option Addr) → (Option Addr) → (Option Addr) → Int → H → Prop) (x1 : Sl) (x2 : Sl) (x7 : Option Addr) (x9 : Option Addr) (x10 : Option Addr) (x11 : Option Addr) (x12 : Int) (x68 : Bool) (h : H) : Prop :=
  (x68 = true →
  F.spatelaw6_TableTwins.j5 Q C1 x1 x2 x7 x9 x10 x11 x12 h) ∧
  (x68 = false →
  F.spatelaw6_alike x7 x11 h fun r32 h31 =>
  ((!r32) = true →
  Q false h31) ∧
  ((!r32) = false →
  ∃ m, F.spatelaw6_TableTwins.l9 Q m x1 x2 x7 x9 x10 x11 0 h31))
def F.spatelaw6_TableTwins.l4 (Q : Bool → H → Prop) : Nat → Sl → Sl → (Option Addr) → (Option Addr) → (Option Addr) → (Option Addr) → Int → H → Prop
  | 0, _, _, _, _, _, _, _, _ => False
  | q4 + 1, x1, x2, x7, x9, x10, x11, x12, h =>
    ((decide (x12 < (x1.len : Int))) = true →
    F.spatelaw6_TableTwins.j8 Q (F.spatelaw6_TableTwins.l4 Q q4) x1 x2 x7 x9 x10 x11 x12 true h) ∧
    ((decide (x12 < (x1.len : Int))) = false →
    F.spatelaw6_TableTwins.j8 Q (F.spatelaw6_TableTwins.l4 Q q4) x1 x2 x7 x9 x10 x11 x12 (decide (x12 < (x2.len : Int))) h)
def F.spatelaw6_TableTwins.j3 (Q : Bool → H → Prop) (x1 : Sl) (x2 : Sl) (x7 : Option Addr) (x9 : Option Addr) (x10 : Option Addr) (x11 : Option Addr) (h : H) : Prop :=
  ∃ m, F.spatelaw6_TableTwins.l4 Q m x1 x2 x7 x9 x10 x11 0 h
def F.spatelaw6_TableTwins.j11 (Q : Bool → H → Prop) (x1 : Sl) (x2 : Sl) (x7 : Option Addr) (x9 : Option Addr) (x10 : Option Addr) (x11 : Option Addr) (x58 : Bool) (h : H) : Prop :=
  (x58 = true →
  Q false h) ∧
  (x58 = false →
  F.spatelaw6_TableTwins.j3 Q x1 x2 x7 x9 x10 x11 h)
def F.spatelaw6_TableTwins.l2 (Q : Bool → H → Prop) : Nat → Sl → Sl → Sl → (Option Addr) → Int → H → Prop
  | 0, _, _, _, _, _, _ => False
  | q2 + 1, x0, x1, x2, x7, x8, h =>
    ((decide (x8 < (x0.len : Int))) = true →
    idxA x0 x8 3 fun a7 =>
    ld_S_spatelaw6_Step h a7 fun y9 =>
    F.spatelaw6_do x7 y9 h fun h11 =>
    (F.spatelaw6_TableTwins.l2 Q q2) x0 x1 x2 x7 (IntKind.wrap .i64 (x8 + 1)) h11) ∧
    ((decide (x8 < (x0.len : Int))) = false →
    F.table_Table_int_Twin x7 h fun r13 h12 =>
    F.table_Table_int_Twin x7 h12 fun r15 h14 =>
    F.table_Table_int_Twin x7 h14 fun r17 h16 =>
    (r13.isNone = true →
    F.spatelaw6_TableTwins.j11 Q x1 x2 x7 r13 r15 r17 true h16) ∧
    (r13.isNone = false →
    (r15.isNone = true →
    F.spatelaw6_TableTwins.j11 Q x1 x2 x7 r13 r15 r17 true h16) ∧
    (r15.isNone = false →
    F.spatelaw6_TableTwins.j11 Q x1 x2 x7 r13 r15 r17 r17.isNone h16)))
def F.spatelaw6_TableTwins.j1 (Q : Bool → H → Prop) (x0 : Sl) (x1 : Sl) (x2 : Sl) (h : H) : Prop :=
  F.table_New_int  h fun r5 h4 =>
  ∃ m, F.spatelaw6_TableTwins.l2 Q m x0 x1 x2 r5 0 h4
def F.spatelaw6_TableTwins.j12 (Q : Bool → H → Prop) (x0 : Sl) (x1 : Sl) (x2 : Sl) (x29 : Bool) (h : H) : Prop :=
  (x29 = true →
  Q true h) ∧
  (x29 = false →
  F.spatelaw6_TableTwins.j1 Q x0 x1 x2 h)
/-- spate/spatelaw6.TableTwins -/
def F.spatelaw6_TableTwins (p0 : Sl) (p1 : Sl) (p2 : Sl) (h : H) (Q : Bool → H → Prop) : Prop :=
  F.spatelaw6_known  h fun r2 h1 =>
  ((!r2) = true →
  Q false h1) ∧
  ((!r2) = false →
  ((decide ((p0.len : Int) > 3000)) = true →
  F.spatelaw6_TableTwins.j12 Q p0 p1 p2 true h1) ∧
  ((decide ((p0.len : Int) > 3000)) = false →
  ((decide ((p1.len : Int) > 3000)) = true →
  F.spatelaw6_TableTwins.j12 Q p0 p1 p2 true h1) ∧
  ((decide ((p1.len : Int) > 3000)) = false →
  F.spatelaw6_TableTwins.j12 Q p0 p1 p2 (decide ((p2.len : Int) > 3000)) h1)))
theorem F.spatelaw6_TableTwins_ok {p0 : Sl} {p1 : Sl} {p2 : Sl} {h : H} {Q : Bool → H → Prop} (H : F.spatelaw6_TableTwins p0 p1 p2 h Q) : Fn PP 10 ([p0.enc, p1.enc, p2.enc] : List Value).toArray h fun r h' => ∃ r0, r = (.bool r0) ∧ Q r0 h' := by
  unfold F.spatelaw6_TableTwins at H
  refine fn_of Try.func10 Try.ntmps10 rfl rfl fun w0 => ?_
  refine tr_sub [(0, p0.enc), (1, p1.enc), (2, p2.enc)] ⟨rfl, rfl, rfl, trivial⟩ ?_
  refine tr_seq ?_
  refine tr_region ?_
  refine tr_p (y_assign rfl) rfl rfl ?_
  refine tr_nil ?_
  refine tr_thenN ?_
  refine tr_seq ?_
  refine tr_seq ?_
  refine tr_region ?_
  refine tr_e (e_call Try.call17 rfl (F.spatelaw6_known_ok H)) rfl rfl ?_
  rintro _ h1 ⟨r2, rfl, H⟩
  refine tr_p (y_not rfl) rfl rfl ?_
  refine tr_nil ?_
  refine tr_thenN ?_
  refine tr_cond rfl (fun g3 => ?_) (fun g3 => ?_)
  · replace H := H.1 g3
    refine tr_seq ?_
    refine tr_region ?_
    refine tr_p (y_assign rfl) rfl rfl ?_
    refine tr_nil ?_
    refine tr_thenN ?_
    refine tr_ret ?_
    refine tr_thenR ?_
    exact tr_ret1 rfl rfl ⟨_, rfl, H⟩
  · replace H := H.2 g3
    refine tr_skip ?_
    refine tr_thenN ?_
    refine tr_seq_j (fun L' h => ∃ (x0 : Sl) (x1 : Sl) (x2 : Sl), L' = [(0, x0.enc), (1, x1.enc), (2, x2.enc)] ∧ F.spatelaw6_TableTwins.j1 Q x0 x1 x2 h) ?_ ?_
    · rintro L' h ⟨x0, x1, x2, rfl, H⟩
      unfold F.spatelaw6_TableTwins.j1 at H
      refine tr_seq ?_
      refine tr_region ?_
      refine tr_e (e_call Try.call19 rfl (F.table_New_int_ok H)) rfl rfl ?_
      rintro _ h4 ⟨r5, rfl, H⟩
      refine tr_p (y_assign rfl) rfl rfl ?_
      refine tr_nil ?_
      refine tr_thenN ?_
      refine tr_seq ?_
      refine tr_seq ?_
      refine tr_region ?_
      refine tr_p (y_assign rfl) rfl rfl ?_
      refine tr_nil ?_
      refine tr_thenN ?_
      refine tr_block ?_
      obtain ⟨m58, H⟩ := H
      refine tr_sub [(0, x0.enc), (1, x1.enc), (2, x2.enc), (7, (.pointer r5)), (8, (.int .i64 0))] ⟨rfl, rfl, rfl, rfl, rfl, trivial⟩ ?_
      refine tr_loop_j (fun m L' h => ∃ (x0 : Sl) (x1 : Sl) (x2 : Sl) (x7 : Option Addr) (x8 : Int), L' = [(0, x0.enc), (1, x1.enc), (2, x2.enc), (7, (.pointer x7)), (8, (.int .i64 x8))] ∧ F.spatelaw6_TableTwins.l2 Q m x0 x1 x2 x7 x8 h) ?_ ?_ m58 ⟨_, _, _, _, _, rfl, H⟩
      · rintro L' h ⟨_, _, _, _, _, _, H⟩; exact H
      · rintro q2 L' h ⟨x0, x1, x2, x7, x8, rfl, H⟩
        unfold F.spatelaw6_TableTwins.l2 at H
        refine tr_seq ?_
        refine tr_seq ?_
        refine tr_region ?_
        refine tr_p (y_move rfl) rfl rfl ?_
        refine tr_p (y_move rfl) rfl rfl ?_
        refine tr_p (y_len (ts := #[]) Try.runUnderlying43 (o := x0.ptr) (n := x0.len) (cap := x0.cap) rfl) rfl rfl ?_
        refine tr_p (y_lss rfl rfl) rfl rfl ?_
        refine tr_nil ?_
        refine tr_thenN ?_
        refine tr_cond rfl (fun g6 => ?_) (fun g6 => ?_)
        · replace H := H.1 g6
          refine tr_skip ?_
          refine tr_thenN ?_
          refine tr_seq ?_
          refine tr_block ?_
          refine tr_region ?_
          refine tr_p (y_move rfl) rfl rfl ?_
          refine tr_p (y_move rfl) rfl rfl ?_
          refine tr_p (y_move rfl) rfl rfl ?_
          obtain ⟨a7, e8, H⟩ := H
          refine tr_p (f_idx (s := x0) Try.runUnderlying43 Try.sizeOf46 rfl rfl e8) rfl rfl ?_
          obtain ⟨y9, k10, H⟩ := H
          refine tr_h (y_ldS Try.isAgg46 Try.sizeOf46 rfl rfl) k10 rfl rfl ?_
          refine tr_e (e_call Try.call30 rfl (F.spatelaw6_do_ok H)) rfl rfl ?_
          rintro _ h11 ⟨rfl, H⟩
          refine tr_nil ?_
          refine tr_blockN ?_
          refine tr_thenN ?_
          refine tr_region ?_
          refine tr_p (y_move rfl) rfl rfl ?_
          refine tr_p (y_add rfl rfl) rfl rfl ?_
          refine tr_p (y_assign rfl) rfl rfl ?_
          refine tr_nil ?_
          refine tr_thenN ?_
          exact tr_join [(0, x0.enc), (1, x1.enc), (2, x2.enc), (7, (.pointer x7)), (8, (.int .i64 (IntKind.wrap .i64 (x8 + 1))))] ⟨rfl, rfl, rfl, rfl, rfl, trivial⟩ ⟨_, _, _, _, _, rfl, H⟩
        · replace H := H.2 g6
          refine tr_exit ?_
          refine tr_thenE ?_
          refine tr_thenE ?_
          refine tr_hit ?_
          refine tr_thenN ?_
          refine tr_seq ?_
          refine tr_region ?_
          refine tr_p (y_move rfl) rfl rfl ?_
          refine tr_e (e_call Try.call28 rfl (F.table_Table_int_Twin_ok H)) rfl rfl ?_
          rintro _ h12 ⟨r13, rfl, H⟩
          refine tr_p (y_assign rfl) rfl rfl ?_
          refine tr_nil ?_
          refine tr_thenN ?_
          refine tr_seq ?_
          refine tr_region ?_
          refine tr_p (y_move rfl) rfl rfl ?_
          refine tr_e (e_call Try.call28 rfl (F.table_Table_int_Twin_ok H)) rfl rfl ?_
          rintro _ h14 ⟨r15, rfl, H⟩
          refine tr_p (y_assign rfl) rfl rfl ?_
          refine tr_nil ?_
          refine tr_thenN ?_
          refine tr_seq ?_
          refine tr_region ?_
          refine tr_p (y_move rfl) rfl rfl ?_
          refine tr_e (e_call Try.call28 rfl (F.table_Table_int_Twin_ok H)) rfl rfl ?_
          rintro _ h16 ⟨r17, rfl, H⟩
          refine tr_p (y_assign rfl) rfl rfl ?_
          refine tr_nil ?_
          refine tr_thenN ?_
          refine tr_seq_j (fun L' h => ∃ (x1 : Sl) (x2 : Sl) (x7 : Option Addr) (x9 : Option Addr) (x10 : Option Addr) (x11 : Option Addr), L' = [(1, x1.enc), (2, x2.enc), (7, (.pointer x7)), (9, (.pointer x9)), (10, (.pointer x10)), (11, (.pointer x11))] ∧ F.spatelaw6_TableTwins.j3 Q x1 x2 x7 x9 x10 x11 h) ?_ ?_
          · rintro L' h ⟨x1, x2, x7, x9, x10, x11, rfl, H⟩
            unfold F.spatelaw6_TableTwins.j3 at H
            refine tr_seq ?_
            refine tr_seq ?_
            refine tr_region ?_
            refine tr_p (y_assign rfl) rfl rfl ?_
            refine tr_nil ?_
            refine tr_thenN ?_
            refine tr_block ?_
            obtain ⟨m54, H⟩ := H
            refine tr_sub [(1, x1.enc), (2, x2.enc), (7, (.pointer x7)), (9, (.pointer x9)), (10, (.pointer x10)), (11, (.pointer x11)), (12, (.int .i64 0))] ⟨rfl, rfl, rfl, rfl, rfl, rfl, rfl, trivial⟩ ?_
            refine tr_loop_j (fun m L' h => ∃ (x1 : Sl) (x2 : Sl) (x7 : Option Addr) (x9 : Option Addr) (x10 : Option Addr) (x11 : Option Addr) (x12 : Int), L' = [(1, x1.enc), (2, x2.enc), (7, (.pointer x7)), (9, (.pointer x9)), (10, (.pointer x10)), (11, (.pointer x11)), (12, (.int .i64 x12))] ∧ F.spatelaw6_TableTwins.l4 Q m x1 x2 x7 x9 x10 x11 x12 h) ?_ ?_ m54 ⟨_, _, _, _, _, _, _, rfl, H⟩
            · rintro L' h ⟨_, _, _, _, _, _, _, _, H⟩; exact H
            · rintro q4 L' h ⟨x1, x2, x7, x9, x10, x11, x12, rfl, H⟩
              unfold F.spatelaw6_TableTwins.l4 at H
              refine tr_seq_j (fun L' h => ∃ (x1 : Sl) (x2 : Sl) (x7 : Option Addr) (x9 : Option Addr) (x10 : Option Addr) (x11 : Option Addr) (x12 : Int), L' = [(1, x1.enc), (2, x2.enc), (7, (.pointer x7)), (9, (.pointer x9)), (10, (.pointer x10)), (11, (.pointer x11)), (12, (.int .i64 x12))] ∧ F.spatelaw6_TableTwins.j5 Q (F.spatelaw6_TableTwins.l4 Q q4) x1 x2 x7 x9 x10 x11 x12 h) ?_ ?_
              · rintro L' h ⟨x1, x2, x7, x9, x10, x11, x12, rfl, H⟩
                unfold F.spatelaw6_TableTwins.j5 at H
                refine tr_seq_j (fun L' h => ∃ (x1 : Sl) (x2 : Sl) (x7 : Option Addr) (x9 : Option Addr) (x10 : Option Addr) (x11 : Option Addr) (x12 : Int), L' = [(1, x1.enc), (2, x2.enc), (7, (.pointer x7)), (9, (.pointer x9)), (10, (.pointer x10)), (11, (.pointer x11)), (12, (.int .i64 x12))] ∧ F.spatelaw6_TableTwins.j6 Q (F.spatelaw6_TableTwins.l4 Q q4) x1 x2 x7 x9 x10 x11 x12 h) ?_ ?_
                · rintro L' h ⟨x1, x2, x7, x9, x10, x11, x12, rfl, H⟩
                  unfold F.spatelaw6_TableTwins.j6 at H
                  refine tr_region ?_
                  refine tr_p (y_move rfl) rfl rfl ?_
                  refine tr_p (y_add rfl rfl) rfl rfl ?_
                  refine tr_p (y_assign rfl) rfl rfl ?_
                  refine tr_nil ?_
                  refine tr_thenN ?_
                  exact tr_join [(1, x1.enc), (2, x2.enc), (7, (.pointer x7)), (9, (.pointer x9)), (10, (.pointer x10)), (11, (.pointer x11)), (12, (.int .i64 (IntKind.wrap .i64 (x12 + 1))))] ⟨rfl, rfl, rfl, rfl, rfl, rfl, rfl, trivial⟩ ⟨_, _, _, _, _, _, _, rfl, H⟩
                · refine tr_block ?_
                  refine tr_seq_j (fun L' h => ∃ (x1 : Sl) (x2 : Sl) (x7 : Option Addr) (x9 : Option Addr) (x10 : Option Addr) (x11 : Option Addr) (x12 : Int), L' = [(1, x1.enc), (2, x2.enc), (7, (.pointer x7)), (9, (.pointer x9)), (10, (.pointer x10)), (11, (.pointer x11)), (12, (.int .i64 x12))] ∧ F.spatelaw6_TableTwins.j7 Q (F.spatelaw6_TableTwins.l4 Q q4) x1 x2 x7 x9 x10 x11 x12 h) ?_ ?_
                  · rintro L' h ⟨x1, x2, x7, x9, x10, x11, x12, rfl, H⟩
                    unfold F.spatelaw6_TableTwins.j7 at H
                    refine tr_seq ?_
                    refine tr_region ?_
                    refine tr_p (y_move rfl) rfl rfl ?_
                    refine tr_p (y_move rfl) rfl rfl ?_
                    refine tr_p (y_len (ts := #[]) Try.runUnderlying43 (o := x2.ptr) (n := x2.len) (cap := x2.cap) rfl) rfl rfl ?_
                    refine tr_p (y_lss rfl rfl) rfl rfl ?_
                    refine tr_nil ?_
                    refine tr_thenN ?_
                    refine tr_cond rfl (fun g18 => ?_) (fun g18 => ?_)
                    · replace H := H.1 g18
                      refine tr_region ?_
                      refine tr_p (y_move rfl) rfl rfl ?_
                      refine tr_p (y_move rfl) rfl rfl ?_
                      refine tr_p (y_move rfl) rfl rfl ?_
                      obtain ⟨a19, e20, H⟩ := H
                      refine tr_p (f_idx (s := x2) Try.runUnderlying43 Try.sizeOf46 rfl rfl e20) rfl rfl ?_
                      obtain ⟨y21, k22, H⟩ := H
                      refine tr_h (y_ldS Try.isAgg46 Try.sizeOf46 rfl rfl) k22 rfl rfl ?_
                      refine tr_e (e_call Try.call30 rfl (F.spatelaw6_do_ok H)) rfl rfl ?_
                      rintro _ h23 ⟨rfl, H⟩
                      refine tr_nil ?_
                      refine tr_blockN ?_
                      refine tr_thenN ?_
                      exact tr_join [(1, x1.enc), (2, x2.enc), (7, (.pointer x7)), (9, (.pointer x9)), (10, (.pointer x10)), (11, (.pointer x11)), (12, (.int .i64 x12))] ⟨rfl, rfl, rfl, rfl, rfl, rfl, rfl, trivial⟩ ⟨_, _, _, _, _, _, _, rfl, H⟩
                    · replace H := H.2 g18
                      refine tr_skip ?_
                      refine tr_blockN ?_
                      refine tr_thenN ?_
                      exact tr_join [(1, x1.enc), (2, x2.enc), (7, (.pointer x7)), (9, (.pointer x9)), (10, (.pointer x10)), (11, (.pointer x11)), (12, (.int .i64 x12))] ⟨rfl, rfl, rfl, rfl, rfl, rfl, rfl, trivial⟩ ⟨_, _, _, _, _, _, _, rfl, H⟩
                  · refine tr_seq ?_
                    refine tr_region ?_
                    refine tr_p (y_move rfl) rfl rfl ?_
                    refine tr_p (y_move rfl) rfl rfl ?_
                    refine tr_p (y_len (ts := #[]) Try.runUnderlying43 (o := x1.ptr) (n := x1.len) (cap := x1.cap) rfl) rfl rfl ?_
                    refine tr_p (y_lss rfl rfl) rfl rfl ?_
                    refine tr_nil ?_
                    refine tr_thenN ?_
                    refine tr_cond rfl (fun g24 => ?_) (fun g24 => ?_)
                    · replace H := H.1 g24
                      refine tr_region ?_
                      refine tr_p (y_move rfl) rfl rfl ?_
                      refine tr_p (y_move rfl) rfl rfl ?_
                      refine tr_p (y_move rfl) rfl rfl ?_
                      obtain ⟨a25, e26, H⟩ := H
                      refine tr_p (f_idx (s := x1) Try.runUnderlying43 Try.sizeOf46 rfl rfl e26) rfl rfl ?_
                      obtain ⟨y27, k28, H⟩ := H
                      refine tr_h (y_ldS Try.isAgg46 Try.sizeOf46 rfl rfl) k28 rfl rfl ?_
                      refine tr_e (e_call Try.call30 rfl (F.spatelaw6_do_ok H)) rfl rfl ?_
                      rintro _ h29 ⟨rfl, H⟩
                      refine tr_nil ?_
                      refine tr_thenN ?_
                      exact tr_join [(1, x1.enc), (2, x2.enc), (7, (.pointer x7)), (9, (.pointer x9)), (10, (.pointer x10)), (11, (.pointer x11)), (12, (.int .i64 x12))] ⟨rfl, rfl, rfl, rfl, rfl, rfl, rfl, trivial⟩ ⟨_, _, _, _, _, _, _, rfl, H⟩
                    · replace H := H.2 g24
                      refine tr_skip ?_
                      refine tr_thenN ?_
                      exact tr_join [(1, x1.enc), (2, x2.enc), (7, (.pointer x7)), (9, (.pointer x9)), (10, (.pointer x10)), (11, (.pointer x11)), (12, (.int .i64 x12))] ⟨rfl, rfl, rfl, rfl, rfl, rfl, rfl, trivial⟩ ⟨_, _, _, _, _, _, _, rfl, H⟩
              · refine tr_seq_j (fun L' h => ∃ (x1 : Sl) (x2 : Sl) (x7 : Option Addr) (x9 : Option Addr) (x10 : Option Addr) (x11 : Option Addr) (x12 : Int) (x68 : Bool), L' = [(1, x1.enc), (2, x2.enc), (7, (.pointer x7)), (9, (.pointer x9)), (10, (.pointer x10)), (11, (.pointer x11)), (12, (.int .i64 x12)), (68, (.bool x68))] ∧ F.spatelaw6_TableTwins.j8 Q (F.spatelaw6_TableTwins.l4 Q q4) x1 x2 x7 x9 x10 x11 x12 x68 h) ?_ ?_
                · rintro L' h ⟨x1, x2, x7, x9, x10, x11, x12, x68, rfl, H⟩
                  unfold F.spatelaw6_TableTwins.j8 at H
                  refine tr_cond rfl (fun g30 => ?_) (fun g30 => ?_)
                  · replace H := H.1 g30
                    refine tr_skip ?_
                    refine tr_thenN ?_
                    exact tr_join [(1, x1.enc), (2, x2.enc), (7, (.pointer x7)), (9, (.pointer x9)), (10, (.pointer x10)), (11, (.pointer x11)), (12, (.int .i64 x12))] ⟨rfl, rfl, rfl, rfl, rfl, rfl, rfl, trivial⟩ ⟨_, _, _, _, _, _, _, rfl, H⟩
                  · replace H := H.2 g30
                    refine tr_exit ?_
                    refine tr_thenE ?_
                    refine tr_thenE ?_
                    refine tr_hit ?_
                    refine tr_thenN ?_
                    refine tr_seq ?_
                    refine tr_seq ?_
                    refine tr_region ?_
                    refine tr_p (y_move rfl) rfl rfl ?_
                    refine tr_p (y_move rfl) rfl rfl ?_
                    refine tr_e (e_call Try.call44 rfl (F.spatelaw6_alike_ok H)) rfl rfl ?_
                    rintro _ h31 ⟨r32, rfl, H⟩
                    refine tr_p (y_not rfl) rfl rfl ?_
                    refine tr_nil ?_
                    refine tr_thenN ?_
                    refine tr_cond rfl (fun g33 => ?_) (fun g33 => ?_)
                    · replace H := H.1 g33
                      refine tr_seq ?_
                      refine tr_region ?_
                      refine tr_p (y_assign rfl) rfl rfl ?_
                      refine tr_nil ?_
                      refine tr_thenN ?_
                      refine tr_ret ?_
                      refine tr_thenR ?_
                      exact tr_ret1 rfl rfl ⟨_, rfl, H⟩
                    · replace H := H.2 g33
                      refine tr_skip ?_
                      refine tr_thenN ?_
                      refine tr_seq ?_
                      refine tr_seq ?_
                      refine tr_region ?_
                      refine tr_p (y_assign rfl) rfl rfl ?_
                      refine tr_nil ?_
                      refine tr_thenN ?_
                      refine tr_block ?_
                      obtain ⟨m52, H⟩ := H
                      refine tr_sub [(1, x1.enc), (2, x2.enc), (7, (.pointer x7)), (9, (.pointer x9)), (10, (.pointer x10)), (11, (.pointer x11)), (13, (.int .i64 0))] ⟨rfl, rfl, rfl, rfl, rfl, rfl, rfl, trivial⟩ ?_
                      refine tr_loop_j (fun m L' h => ∃ (x1 : Sl) (x2 : Sl) (x7 : Option Addr) (x9 : Option Addr) (x10 : Option Addr) (x11 : Option Addr) (x13 : Int), L' = [(1, x1.enc), (2, x2.enc), (7, (.pointer x7)), (9, (.pointer x9)), (10, (.pointer x10)), (11, (.pointer x11)), (13, (.int .i64 x13))] ∧ F.spatelaw6_TableTwins.l9 Q m x1 x2 x7 x9 x10 x11 x13 h) ?_ ?_ m52 ⟨_, _, _, _, _, _, _, rfl, H⟩
                      · rintro L' h ⟨_, _, _, _, _, _, _, _, H⟩; exact H
                      · rintro q9 L' h ⟨x1, x2, x7, x9, x10, x11, x13, rfl, H⟩
                        unfold F.spatelaw6_TableTwins.l9 at H
                        refine tr_seq ?_
                        refine tr_seq ?_
                        refine tr_region ?_
                        refine tr_p (y_move rfl) rfl rfl ?_
                        refine tr_p (y_move rfl) rfl rfl ?_
                        refine tr_p (y_len (ts := #[]) Try.runUnderlying43 (o := x1.ptr) (n := x1.len) (cap := x1.cap) rfl) rfl rfl ?_
                        refine tr_p (y_lss rfl rfl) rfl rfl ?_
                        refine tr_nil ?_
                        refine tr_thenN ?_
                        refine tr_cond rfl (fun g34 => ?_) (fun g34 => ?_)
                        · replace H := H.1 g34
                          refine tr_skip ?_
                          refine tr_thenN ?_
                          refine tr_seq ?_
                          refine tr_block ?_
                          refine tr_region ?_
                          refine tr_p (y_move rfl) rfl rfl ?_
                          refine tr_p (y_move rfl) rfl rfl ?_
                          refine tr_p (y_move rfl) rfl rfl ?_
                          obtain ⟨a35, e36, H⟩ := H
                          refine tr_p (f_idx (s := x1) Try.runUnderlying43 Try.sizeOf46 rfl rfl e36) rfl rfl ?_
                          obtain ⟨y37, k38, H⟩ := H
                          refine tr_h (y_ldS Try.isAgg46 Try.sizeOf46 rfl rfl) k38 rfl rfl ?_
                          refine tr_e (e_call Try.call30 rfl (F.spatelaw6_do_ok H)) rfl rfl ?_
                          rintro _ h39 ⟨rfl, H⟩
                          refine tr_nil ?_
                          refine tr_blockN ?_
                          refine tr_thenN ?_
                          refine tr_region ?_
                          refine tr_p (y_move rfl) rfl rfl ?_
                          refine tr_p (y_add rfl rfl) rfl rfl ?_
                          refine tr_p (y_assign rfl) rfl rfl ?_
                          refine tr_nil ?_
                          refine tr_thenN ?_
                          exact tr_join [(1, x1.enc), (2, x2.enc), (7, (.pointer x7)), (9, (.pointer x9)), (10, (.pointer x10)), (11, (.pointer x11)), (13, (.int .i64 (IntKind.wrap .i64 (x13 + 1))))] ⟨rfl, rfl, rfl, rfl, rfl, rfl, rfl, trivial⟩ ⟨_, _, _, _, _, _, _, rfl, H⟩
                        · replace H := H.2 g34
                          refine tr_exit ?_
                          refine tr_thenE ?_
                          refine tr_thenE ?_
                          refine tr_hit ?_
                          refine tr_thenN ?_
                          refine tr_seq ?_
                          refine tr_seq ?_
                          refine tr_region ?_
                          refine tr_p (y_assign rfl) rfl rfl ?_
                          refine tr_nil ?_
                          refine tr_thenN ?_
                          refine tr_block ?_
                          obtain ⟨m51, H⟩ := H
                          refine tr_sub [(2, x2.enc), (7, (.pointer x7)), (9, (.pointer x9)), (10, (.pointer x10)), (11, (.pointer x11)), (14, (.int .i64 0))] ⟨rfl, rfl, rfl, rfl, rfl, rfl, trivial⟩ ?_
                          refine tr_loop_j (fun m L' h => ∃ (x2 : Sl) (x7 : Option Addr) (x9 : Option Addr) (x10 : Option Addr) (x11 : Option Addr) (x14 : Int), L' = [(2, x2.enc), (7, (.pointer x7)), (9, (.pointer x9)), (10, (.pointer x10)), (11, (.pointer x11)), (14, (.int .i64 x14))] ∧ F.spatelaw6_TableTwins.l10 Q m x2 x7 x9 x10 x11 x14 h) ?_ ?_ m51 ⟨_, _, _, _, _, _, rfl, H⟩
                          · rintro L' h ⟨_, _, _, _, _, _, _, H⟩; exact H
                          · rintro q10 L' h ⟨x2, x7, x9, x10, x11, x14, rfl, H⟩
                            unfold F.spatelaw6_TableTwins.l10 at H
                            refine tr_seq ?_
                            refine tr_seq ?_
                            refine tr_region ?_
                            refine tr_p (y_move rfl) rfl rfl ?_
                            refine tr_p (y_move rfl) rfl rfl ?_
                            refine tr_p (y_len (ts := #[]) Try.runUnderlying43 (o := x2.ptr) (n := x2.len) (cap := x2.cap) rfl) rfl rfl ?_
                            refine tr_p (y_lss rfl rfl) rfl rfl ?_
                            refine tr_nil ?_
                            refine tr_thenN ?_
                            refine tr_cond rfl (fun g40 => ?_) (fun g40 => ?_)
                            · replace H := H.1 g40
                              refine tr_skip ?_
                              refine tr_thenN ?_
                              refine tr_seq ?_
                              refine tr_block ?_
                              refine tr_region ?_
                              refine tr_p (y_move rfl) rfl rfl ?_
                              refine tr_p (y_move rfl) rfl rfl ?_
                              refine tr_p (y_move rfl) rfl rfl ?_
                              obtain ⟨a41, e42, H⟩ := H
                              refine tr_p (f_idx (s := x2) Try.runUnderlying43 Try.sizeOf46 rfl rfl e42) rfl rfl ?_
                              obtain ⟨y43, k44, H⟩ := H
                              refine tr_h (y_ldS Try.isAgg46 Try.sizeOf46 rfl rfl) k44 rfl rfl ?_
                              refine tr_e (e_call Try.call30 rfl (F.spatelaw6_do_ok H)) rfl rfl ?_
                              rintro _ h45 ⟨rfl, H⟩
                              refine tr_nil ?_
                              refine tr_blockN ?_
                              refine tr_thenN ?_
                              refine tr_region ?_
                              refine tr_p (y_move rfl) rfl rfl ?_
                              refine tr_p (y_add rfl rfl) rfl rfl ?_
                              refine tr_p (y_assign rfl) rfl rfl ?_
                              refine tr_nil ?_
                              refine tr_thenN ?_
                              exact tr_join [(2, x2.enc), (7, (.pointer x7)), (9, (.pointer x9)), (10, (.pointer x10)), (11, (.pointer x11)), (14, (.int .i64 (IntKind.wrap .i64 (x14 + 1))))] ⟨rfl, rfl, rfl, rfl, rfl, rfl, trivial⟩ ⟨_, _, _, _, _, _, rfl, H⟩
                            · replace H := H.2 g40
                              refine tr_exit ?_
                              refine tr_thenE ?_
                              refine tr_thenE ?_
                              refine tr_hit ?_
                              refine tr_thenN ?_
                              refine tr_seq ?_
                              refine tr_region ?_
                              refine tr_p (y_move rfl) rfl rfl ?_
                              refine tr_p (y_move rfl) rfl rfl ?_
                              refine tr_e (e_call Try.call44 rfl (F.spatelaw6_alike_ok H)) rfl rfl ?_
                              rintro _ h46 ⟨r47, rfl, H⟩
                              refine tr_p (y_move rfl) rfl rfl ?_
                              refine tr_split (t := 122) rfl (fun g48 => ?_) (fun g48 => ?_)
                              · replace H := H.1 g48
                                refine tr_p (y_move rfl) rfl rfl ?_
                                refine tr_p (y_move rfl) rfl rfl ?_
                                refine tr_e (e_call Try.call44 rfl (F.spatelaw6_alike_ok H)) rfl rfl ?_
                                rintro _ h49 ⟨r50, rfl, H⟩
                                refine tr_p (y_pick_t rfl rfl) rfl rfl ?_
                                refine tr_p (y_assign rfl) rfl rfl ?_
                                refine tr_nil ?_
                                refine tr_thenN ?_
                                refine tr_ret ?_
                                exact tr_ret1 rfl rfl ⟨_, rfl, H⟩
                              · replace H := H.2 g48
                                refine tr_s rfl rfl ?_
                                refine tr_s rfl rfl ?_
                                refine tr_s rfl rfl ?_
                                refine tr_p (y_pick_f rfl rfl) rfl rfl ?_
                                refine tr_p (y_assign rfl) rfl rfl ?_
                                refine tr_nil ?_
                                refine tr_thenN ?_
                                refine tr_ret ?_
                                exact tr_ret1 rfl rfl ⟨_, rfl, H⟩
                · refine tr_region ?_
                  refine tr_p (y_move rfl) rfl rfl ?_
                  refine tr_p (y_move rfl) rfl rfl ?_
                  refine tr_p (y_len (ts := #[]) Try.runUnderlying43 (o := x1.ptr) (n := x1.len) (cap := x1.cap) rfl) rfl rfl ?_
                  refine tr_p (y_lss rfl rfl) rfl rfl ?_
                  refine tr_p (y_move rfl) rfl rfl ?_
                  refine tr_split (t := 63) rfl (fun g53 => ?_) (fun g53 => ?_)
                  · replace H := H.1 g53
                    refine tr_s rfl rfl ?_
                    refine tr_s rfl rfl ?_
                    refine tr_s rfl rfl ?_
                    refine tr_s rfl rfl ?_
                    refine tr_p (y_pick_t rfl rfl) rfl rfl ?_
                    refine tr_nil ?_
                    refine tr_thenN ?_
                    exact tr_join [(1, x1.enc), (2, x2.enc), (7, (.pointer x7)), (9, (.pointer x9)), (10, (.pointer x10)), (11, (.pointer x11)), (12, (.int .i64 x12)), (68, (.bool true))] ⟨rfl, rfl, rfl, rfl, rfl, rfl, rfl, rfl, trivial⟩ ⟨_, _, _, _, _, _, _, _, rfl, H⟩
                  · replace H := H.2 g53
                    refine tr_p (y_move rfl) rfl rfl ?_
                    refine tr_p (y_move rfl) rfl rfl ?_
                    refine tr_p (y_len (ts := #[]) Try.runUnderlying43 (o := x2.ptr) (n := x2.len) (cap := x2.cap) rfl) rfl rfl ?_
                    refine tr_p (y_lss rfl rfl) rfl rfl ?_
                    refine tr_p (y_pick_f rfl rfl) rfl rfl ?_
                    refine tr_nil ?_
                    refine tr_thenN ?_
                    exact tr_join [(1, x1.enc), (2, x2.enc), (7, (.pointer x7)), (9, (.pointer x9)), (10, (.pointer x10)), (11, (.pointer x11)), (12, (.int .i64 x12)), (68, (.bool (decide (x12 < (x2.len : Int)))))] ⟨rfl, rfl, rfl, rfl, rfl, rfl, rfl, rfl, trivial⟩ ⟨_, _, _, _, _, _, _, _, rfl, H⟩
          · refine tr_seq_j (fun L' h => ∃ (x1 : Sl) (x2 : Sl) (x7 : Option Addr) (x9 : Option Addr) (x10 : Option Addr) (x11 : Option Addr) (x58 : Bool), L' = [(1, x1.enc), (2, x2.enc), (7, (.pointer x7)), (9, (.pointer x9)), (10, (.pointer x10)), (11, (.pointer x11)), (58, (.bool x58))] ∧ F.spatelaw6_TableTwins.j11 Q x1 x2 x7 x9 x10 x11 x58 h) ?_ ?_
            · rintro L' h ⟨x1, x2, x7, x9, x10, x11, x58, rfl, H⟩
              unfold F.spatelaw6_TableTwins.j11 at H
              refine tr_cond rfl (fun g55 => ?_) (fun g55 => ?_)
              · replace H := H.1 g55
                refine tr_seq ?_
                refine tr_region ?_
                refine tr_p (y_assign rfl) rfl rfl ?_
                refine tr_nil ?_
                refine tr_thenN ?_
                refine tr_ret ?_
                refine tr_thenR ?_
                exact tr_ret1 rfl rfl ⟨_, rfl, H⟩
              · replace H := H.2 g55
                refine tr_skip ?_
                refine tr_thenN ?_
                exact tr_join [(1, x1.enc), (2, x2.enc), (7, (.pointer x7)), (9, (.pointer x9)), (10, (.pointer x10)), (11, (.pointer x11))] ⟨rfl, rfl, rfl, rfl, rfl, rfl, trivial⟩ ⟨_, _, _, _, _, _, rfl, H⟩
            · refine tr_region ?_
              refine tr_p (y_move rfl) rfl rfl ?_
              refine tr_p (y_pnil_eql Try.runUnderlying30 rfl rfl) rfl rfl ?_
              refine tr_p (y_move rfl) rfl rfl ?_
              refine tr_split (t := 51) rfl (fun g56 => ?_) (fun g56 => ?_)
              · replace H := H.1 g56
                refine tr_s rfl rfl ?_
                refine tr_s rfl rfl ?_
                refine tr_p (y_pick_t rfl rfl) rfl rfl ?_
                refine tr_p (y_move rfl) rfl rfl ?_
                refine tr_s rfl rfl ?_
                refine tr_s rfl rfl ?_
                refine tr_p (y_pick_t rfl rfl) rfl rfl ?_
                refine tr_nil ?_
                refine tr_thenN ?_
                exact tr_join [(1, x1.enc), (2, x2.enc), (7, (.pointer x7)), (9, (.pointer r13)), (10, (.pointer r15)), (11, (.pointer r17)), (58, (.bool true))] ⟨rfl, rfl, rfl, rfl, rfl, rfl, rfl, trivial⟩ ⟨_, _, _, _, _, _, _, rfl, H⟩
              · replace H := H.2 g56
                refine tr_p (y_move rfl) rfl rfl ?_
                refine tr_p (y_pnil_eql Try.runUnderlying30 rfl rfl) rfl rfl ?_
                refine tr_p (y_pick_f rfl rfl) rfl rfl ?_
                refine tr_p (y_move rfl) rfl rfl ?_
                refine tr_split (t := 55) rfl (fun g57 => ?_) (fun g57 => ?_)
                · replace H := H.1 g57
                  refine tr_s rfl rfl ?_
                  refine tr_s rfl rfl ?_
                  refine tr_p (y_pick_t rfl rfl) rfl rfl ?_
                  refine tr_nil ?_
                  refine tr_thenN ?_
                  exact tr_join [(1, x1.enc), (2, x2.enc), (7, (.pointer x7)), (9, (.pointer r13)), (10, (.pointer r15)), (11, (.pointer r17)), (58, (.bool true))] ⟨rfl, rfl, rfl, rfl, rfl, rfl, rfl, trivial⟩ ⟨_, _, _, _, _, _, _, rfl, H⟩
                · replace H := H.2 g57
                  refine tr_p (y_move rfl) rfl rfl ?_
                  refine tr_p (y_pnil_eql Try.runUnderlying30 rfl rfl) rfl rfl ?_
                  refine tr_p (y_pick_f rfl rfl) rfl rfl ?_
                  refine tr_nil ?_
                  refine tr_thenN ?_
                  exact tr_join [(1, x1.enc), (2, x2.enc), (7, (.pointer x7)), (9, (.pointer r13)), (10, (.pointer r15)), (11, (.pointer r17)), (58, (.bool r17.isNone))] ⟨rfl, rfl, rfl, rfl, rfl, rfl, rfl, trivial⟩ ⟨_, _, _, _, _, _, _, rfl, H⟩
    · refine tr_seq_j (fun L' h => ∃ (x0 : Sl) (x1 : Sl) (x2 : Sl) (x29 : Bool), L' = [(0, x0.enc), (1, x1.enc), (2, x2.enc), (29, (.bool x29))] ∧ F.spatelaw6_TableTwins.j12 Q x0 x1 x2 x29 h) ?_ ?_
      · rintro L' h ⟨x0, x1, x2, x29, rfl, H⟩
        unfold F.spatelaw6_TableTwins.j12 at H
        refine tr_cond rfl (fun g59 => ?_) (fun g59 => ?_)
        · replace H := H.1 g59
          refine tr_seq ?_
          refine tr_region ?_
          refine tr_p (y_assign rfl) rfl rfl ?_
          refine tr_nil ?_
          refine tr_thenN ?_
          refine tr_ret ?_
          refine tr_thenR ?_
          exact tr_ret1 rfl rfl ⟨_, rfl, H⟩
        · replace H := H.2 g59
          refine tr_skip ?_
          refine tr_thenN ?_
          exact tr_join [(0, x0.enc), (1, x1.enc), (2, x2.enc)] ⟨rfl, rfl, rfl, trivial⟩ ⟨_, _, _, rfl, H⟩
      · refine tr_region ?_
        refine tr_p (y_move rfl) rfl rfl ?_
        refine tr_p (y_len (ts := #[]) Try.runUnderlying43 (o := p0.ptr) (n := p0.len) (cap := p0.cap) rfl) rfl rfl ?_
        refine tr_p (y_gtr rfl rfl) rfl rfl ?_
        refine tr_p (y_move rfl) rfl rfl ?_
        refine tr_split (t := 20) rfl (fun g60 => ?_) (fun g60 => ?_)
        · replace H := H.1 g60
          refine tr_s rfl rfl ?_
          refine tr_s rfl rfl ?_
          refine tr_s rfl rfl ?_
          refine tr_p (y_pick_t rfl rfl) rfl rfl ?_
          refine tr_p (y_move rfl) rfl rfl ?_
          refine tr_s rfl rfl ?_
          refine tr_s rfl rfl ?_
          refine tr_s rfl rfl ?_
          refine tr_p (y_pick_t rfl rfl) rfl rfl ?_
          refine tr_nil ?_
          refine tr_thenN ?_
          exact tr_join [(0, p0.enc), (1, p1.enc), (2, p2.enc), (29, (.bool true))] ⟨rfl, rfl, rfl, rfl, trivial⟩ ⟨_, _, _, _, rfl, H⟩
        · replace H := H.2 g60
          refine tr_p (y_move rfl) rfl rfl ?_
          refine tr_p (y_len (ts := #[]) Try.runUnderlying43 (o := p1.ptr) (n := p1.len) (cap := p1.cap) rfl) rfl rfl ?_
          refine tr_p (y_gtr rfl rfl) rfl rfl ?_
          refine tr_p (y_pick_f rfl rfl) rfl rfl ?_
          refine tr_p (y_move rfl) rfl rfl ?_
          refine tr_split (t := 25) rfl (fun g61 => ?_) (fun g61 => ?_)
          · replace H := H.1 g61
            refine tr_s rfl rfl ?_
            refine tr_s rfl rfl ?_
            refine tr_s rfl rfl ?_
            refine tr_p (y_pick_t rfl rfl) rfl rfl ?_
            refine tr_nil ?_
            refine tr_thenN ?_
            exact tr_join [(0, p0.enc), (1, p1.enc), (2, p2.enc), (29, (.bool true))] ⟨rfl, rfl, rfl, rfl, trivial⟩ ⟨_, _, _, _, rfl, H⟩
          · replace H := H.2 g61
            refine tr_p (y_move rfl) rfl rfl ?_
            refine tr_p (y_len (ts := #[]) Try.runUnderlying43 (o := p2.ptr) (n := p2.len) (cap := p2.cap) rfl) rfl rfl ?_
            refine tr_p (y_gtr rfl rfl) rfl rfl ?_
            refine tr_p (y_pick_f rfl rfl) rfl rfl ?_
            refine tr_nil ?_
            refine tr_thenN ?_
            exact tr_join [(0, p0.enc), (1, p1.enc), (2, p2.enc), (29, (.bool (decide ((p2.len : Int) > 3000))))] ⟨rfl, rfl, rfl, rfl, trivial⟩ ⟨_, _, _, _, rfl, H⟩

end Go.Proofs.Ytkedkajdiclmjaa.V
