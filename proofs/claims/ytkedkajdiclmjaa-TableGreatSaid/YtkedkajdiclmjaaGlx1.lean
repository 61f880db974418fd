/- Printed by a program of this session (gen.py): Go functions as Lean functions over the heap, and that the Go code does what they say; no condition. -/
import Derived.Test.YtkedkajdiclmjaaGlx0
namespace Go.Proofs.Ytkedkajdiclmjaa.V
open Go
set_option linter.unusedVariables false
set_option maxRecDepth 100000
def F.spateref6_find.j3 (Q : Int → Bool → H → Prop) (C1 : Sl → ByteArray → Int → H → Prop) (x0 : Sl) (x1 : ByteArray) (x6 : Int) (h : H) : Prop :=
  ((x0.len : Int) : Int) ≠ 0 ∧
  C1 x0 x1 (Int.tmod (IntKind.wrap .i64 (x6 + 1)) (x0.len : Int)) h
def F.spateref6_find.j4 (Q : Int → Bool → H → Prop) (C1 : Sl → ByteArray → Int → H → Prop) (x0 : Sl) (x1 : ByteArray) (x6 : Int) (x35 : Bool) (h : H) : Prop :=
  (x35 = true →
  Q x6 true h) ∧
  (x35 = false →
  F.spateref6_find.j3 Q C1 x0 x1 x6 h)
def F.spateref6_find.j2 (Q : Int → Bool → H → Prop) (C1 : Sl → ByteArray → Int → H → Prop) (x0 : Sl) (x1 : ByteArray) (x6 : Int) (h : H) : Prop :=
  idxA x0 x6 4 fun a5 =>
  ldB h (a5.add 0) fun y7 =>
  (y7 = true →
  idxA x0 x6 4 fun a10 =>
  ldS h (a10.add 2) fun y12 =>
  F.spateref6_find.j4 Q C1 x0 x1 x6 (y12.toList == x1.toList) h) ∧
  (y7 = false →
  F.spateref6_find.j4 Q C1 x0 x1 x6 false h)
def F.spateref6_find.j5 (Q : Int → Bool → H → Prop) (C1 : Sl → ByteArray → Int → H → Prop) (x0 : Sl) (x1 : ByteArray) (x6 : Int) (x21 : Bool) (h : H) : Prop :=
  (x21 = true →
  F.spateref6_find.j2 Q C1 x0 x1 x6 h) ∧
  (x21 = false →
  Q x6 false h)
def F.spateref6_find.l1 (Q : Int → Bool → H → Prop) : Nat → Sl → ByteArray → Int → H → Prop
  | 0, _, _, _, _ => False
  | q1 + 1, x0, x1, x6, h =>
    idxA x0 x6 4 fun a15 =>
    ldB h (a15.add 0) fun y17 =>
    (y17 = true →
    F.spateref6_find.j5 Q (F.spateref6_find.l1 Q q1) x0 x1 x6 true h) ∧
    (y17 = false →
    idxA x0 x6 4 fun a20 =>
    ldB h (a20.add 1) fun y22 =>
    F.spateref6_find.j5 Q (F.spateref6_find.l1 Q q1) x0 x1 x6 y22 h)
/-- spate/spateref6.find -/
def F.spateref6_find (p0 : Sl) (p1 : ByteArray) (h : H) (Q : Int → Bool → H → Prop) : Prop :=
  F.spateref6_home p0 p1 h fun r2 h1 =>
  ∃ m, F.spateref6_find.l1 Q m p0 p1 r2 h1
theorem F.spateref6_find_ok {p0 : Sl} {p1 : ByteArray} {h : H} {Q : Int → Bool → H → Prop} (H : F.spateref6_find p0 p1 h Q) : Fn PP 73 ([p0.enc, (.string p1)] : List Value).toArray h fun r h' => ∃ r0 r1, r = .tuple #[(.int .i64 r0), (.bool r1)] ∧ Q r0 r1 h' := by
  unfold F.spateref6_find at H
  refine fn_of Try.func73 Try.ntmps73 rfl rfl fun w0 => ?_
  refine tr_sub [(0, p0.enc), (1, (.string p1))] ⟨rfl, rfl, trivial⟩ ?_
  refine tr_seq ?_
  refine tr_region ?_
  refine tr_p (y_assign rfl) rfl rfl ?_
  refine tr_p (y_assign rfl) rfl rfl ?_
  refine tr_nil ?_
  refine tr_thenN ?_
  refine tr_seq ?_
  refine tr_region ?_
  refine tr_p (y_move rfl) rfl rfl ?_
  refine tr_p (y_move rfl) rfl rfl ?_
  refine tr_e (e_call Try.call75 rfl (F.spateref6_home_ok H)) rfl rfl ?_
  rintro _ h1 ⟨r2, rfl, H⟩
  refine tr_p (y_assign rfl) rfl rfl ?_
  refine tr_nil ?_
  refine tr_thenN ?_
  refine tr_seq ?_
  refine tr_block ?_
  obtain ⟨m24, H⟩ := H
  refine tr_sub [(0, p0.enc), (1, (.string p1)), (6, (.int .i64 r2))] ⟨rfl, rfl, rfl, trivial⟩ ?_
  refine tr_loop_j (fun m L' h => ∃ (x0 : Sl) (x1 : ByteArray) (x6 : Int), L' = [(0, x0.enc), (1, (.string x1)), (6, (.int .i64 x6))] ∧ F.spateref6_find.l1 Q m x0 x1 x6 h) ?_ ?_ m24 ⟨_, _, _, rfl, H⟩
  · rintro L' h ⟨_, _, _, _, H⟩; exact H
  · rintro q1 L' h ⟨x0, x1, x6, rfl, H⟩
    unfold F.spateref6_find.l1 at H
    refine tr_seq_j (fun L' h => ∃ (x0 : Sl) (x1 : ByteArray) (x6 : Int), L' = [(0, x0.enc), (1, (.string x1)), (6, (.int .i64 x6))] ∧ F.spateref6_find.j2 Q (F.spateref6_find.l1 Q q1) x0 x1 x6 h) ?_ ?_
    · rintro L' h ⟨x0, x1, x6, rfl, H⟩
      unfold F.spateref6_find.j2 at H
      refine tr_block ?_
      refine tr_seq_j (fun L' h => ∃ (x0 : Sl) (x1 : ByteArray) (x6 : Int), L' = [(0, x0.enc), (1, (.string x1)), (6, (.int .i64 x6))] ∧ F.spateref6_find.j3 Q (F.spateref6_find.l1 Q q1) x0 x1 x6 h) ?_ ?_
      · rintro L' h ⟨x0, x1, x6, rfl, H⟩
        unfold F.spateref6_find.j3 at H
        refine tr_region ?_
        refine tr_p (y_move rfl) rfl rfl ?_
        refine tr_p (y_add rfl rfl) rfl rfl ?_
        refine tr_p (y_move rfl) rfl rfl ?_
        refine tr_p (y_len (ts := #[]) Try.runUnderlying102 (o := x0.ptr) (n := x0.len) (cap := x0.cap) rfl) rfl rfl ?_
        obtain ⟨e3, H⟩ := H
        refine tr_p (y_rem rfl rfl e3) rfl rfl ?_
        refine tr_p (y_assign rfl) rfl rfl ?_
        refine tr_nil ?_
        refine tr_blockN ?_
        refine tr_thenN ?_
        exact tr_join [(0, x0.enc), (1, (.string x1)), (6, (.int .i64 (Int.tmod (IntKind.wrap .i64 (x6 + 1)) (x0.len : Int))))] ⟨rfl, rfl, rfl, trivial⟩ ⟨_, _, _, rfl, H⟩
      · refine tr_seq_j (fun L' h => ∃ (x0 : Sl) (x1 : ByteArray) (x6 : Int) (x35 : Bool), L' = [(0, x0.enc), (1, (.string x1)), (6, (.int .i64 x6)), (35, (.bool x35))] ∧ F.spateref6_find.j4 Q (F.spateref6_find.l1 Q q1) x0 x1 x6 x35 h) ?_ ?_
        · rintro L' h ⟨x0, x1, x6, x35, rfl, H⟩
          unfold F.spateref6_find.j4 at H
          refine tr_cond rfl (fun g4 => ?_) (fun g4 => ?_)
          · replace H := H.1 g4
            refine tr_seq ?_
            refine tr_region ?_
            refine tr_p (y_move rfl) rfl rfl ?_
            refine tr_p (y_assign rfl) rfl rfl ?_
            refine tr_p (y_assign rfl) rfl rfl ?_
            refine tr_nil ?_
            refine tr_thenN ?_
            refine tr_ret ?_
            refine tr_thenR ?_
            refine tr_blockR ?_
            refine tr_thenR ?_
            refine tr_blockR ?_
            refine tr_thenR ?_
            exact tr_ret2 rfl rfl rfl ⟨_, _, rfl, H⟩
          · replace H := H.2 g4
            refine tr_skip ?_
            refine tr_thenN ?_
            exact tr_join [(0, x0.enc), (1, (.string x1)), (6, (.int .i64 x6))] ⟨rfl, rfl, rfl, trivial⟩ ⟨_, _, _, rfl, H⟩
        · refine tr_region ?_
          refine tr_p (y_move rfl) rfl rfl ?_
          refine tr_p (y_move rfl) rfl rfl ?_
          obtain ⟨a5, e6, H⟩ := H
          refine tr_p (f_idx (s := x0) Try.runUnderlying102 Try.sizeOf114 rfl rfl e6) rfl rfl ?_
          refine tr_p (y_fa (off := 0) Try.runUnderlying114 fo_114_0 rfl) rfl rfl ?_
          obtain ⟨y7, k8, H⟩ := H
          refine tr_h (y_ld Try.isAgg4 rfl) k8 rfl rfl ?_
          refine tr_p (y_move rfl) rfl rfl ?_
          refine tr_split (t := 27) rfl (fun g9 => ?_) (fun g9 => ?_)
          · replace H := H.1 g9
            refine tr_p (y_move rfl) rfl rfl ?_
            refine tr_p (y_move rfl) rfl rfl ?_
            obtain ⟨a10, e11, H⟩ := H
            refine tr_p (f_idx (s := x0) Try.runUnderlying102 Try.sizeOf114 rfl rfl e11) rfl rfl ?_
            refine tr_p (y_fa (off := 2) Try.runUnderlying114 fo_114_2 rfl) rfl rfl ?_
            obtain ⟨y12, k13, H⟩ := H
            refine tr_h (y_ld Try.isAgg9 rfl) k13 rfl rfl ?_
            refine tr_p (y_move rfl) rfl rfl ?_
            refine tr_p (y_seql rfl rfl) rfl rfl ?_
            refine tr_p (y_pick_t rfl rfl) rfl rfl ?_
            refine tr_nil ?_
            refine tr_thenN ?_
            exact tr_join [(0, x0.enc), (1, (.string x1)), (6, (.int .i64 x6)), (35, (.bool (y12.toList == x1.toList)))] ⟨rfl, rfl, rfl, rfl, trivial⟩ ⟨_, _, _, _, rfl, H⟩
          · replace H := H.2 g9
            refine tr_s rfl rfl ?_
            refine tr_s rfl rfl ?_
            refine tr_s rfl rfl ?_
            refine tr_s rfl rfl ?_
            refine tr_s rfl rfl ?_
            refine tr_s rfl rfl ?_
            refine tr_s rfl rfl ?_
            refine tr_p (y_pick_f rfl rfl) rfl rfl ?_
            refine tr_nil ?_
            refine tr_thenN ?_
            exact tr_join [(0, x0.enc), (1, (.string x1)), (6, (.int .i64 x6)), (35, (.bool false))] ⟨rfl, rfl, rfl, rfl, trivial⟩ ⟨_, _, _, _, rfl, H⟩
    · refine tr_seq_j (fun L' h => ∃ (x0 : Sl) (x1 : ByteArray) (x6 : Int) (x21 : Bool), L' = [(0, x0.enc), (1, (.string x1)), (6, (.int .i64 x6)), (21, (.bool x21))] ∧ F.spateref6_find.j5 Q (F.spateref6_find.l1 Q q1) x0 x1 x6 x21 h) ?_ ?_
      · rintro L' h ⟨x0, x1, x6, x21, rfl, H⟩
        unfold F.spateref6_find.j5 at H
        refine tr_cond rfl (fun g14 => ?_) (fun g14 => ?_)
        · replace H := H.1 g14
          refine tr_skip ?_
          refine tr_thenN ?_
          exact tr_join [(0, x0.enc), (1, (.string x1)), (6, (.int .i64 x6))] ⟨rfl, rfl, rfl, trivial⟩ ⟨_, _, _, rfl, H⟩
        · replace H := H.2 g14
          refine tr_exit ?_
          refine tr_thenE ?_
          refine tr_thenE ?_
          refine tr_hit ?_
          refine tr_thenN ?_
          refine tr_seq ?_
          refine tr_region ?_
          refine tr_p (y_move rfl) rfl rfl ?_
          refine tr_p (y_assign rfl) rfl rfl ?_
          refine tr_p (y_assign rfl) rfl rfl ?_
          refine tr_nil ?_
          refine tr_thenN ?_
          refine tr_ret ?_
          exact tr_ret2 rfl rfl rfl ⟨_, _, rfl, H⟩
      · refine tr_region ?_
        refine tr_p (y_move rfl) rfl rfl ?_
        refine tr_p (y_move rfl) rfl rfl ?_
        obtain ⟨a15, e16, H⟩ := H
        refine tr_p (f_idx (s := x0) Try.runUnderlying102 Try.sizeOf114 rfl rfl e16) rfl rfl ?_
        refine tr_p (y_fa (off := 0) Try.runUnderlying114 fo_114_0 rfl) rfl rfl ?_
        obtain ⟨y17, k18, H⟩ := H
        refine tr_h (y_ld Try.isAgg4 rfl) k18 rfl rfl ?_
        refine tr_p (y_move rfl) rfl rfl ?_
        refine tr_split (t := 15) rfl (fun g19 => ?_) (fun g19 => ?_)
        · replace H := H.1 g19
          refine tr_s rfl rfl ?_
          refine tr_s rfl rfl ?_
          refine tr_s rfl rfl ?_
          refine tr_s rfl rfl ?_
          refine tr_s rfl rfl ?_
          refine tr_p (y_pick_t rfl rfl) rfl rfl ?_
          refine tr_nil ?_
          refine tr_thenN ?_
          exact tr_join [(0, x0.enc), (1, (.string x1)), (6, (.int .i64 x6)), (21, (.bool true))] ⟨rfl, rfl, rfl, rfl, trivial⟩ ⟨_, _, _, _, rfl, H⟩
        · replace H := H.2 g19
          refine tr_p (y_move rfl) rfl rfl ?_
          refine tr_p (y_move rfl) rfl rfl ?_
          obtain ⟨a20, e21, H⟩ := H
          refine tr_p (f_idx (s := x0) Try.runUnderlying102 Try.sizeOf114 rfl rfl e21) rfl rfl ?_
          refine tr_p (y_fa (off := 1) Try.runUnderlying114 fo_114_1 rfl) rfl rfl ?_
          obtain ⟨y22, k23, H⟩ := H
          refine tr_h (y_ld Try.isAgg4 rfl) k23 rfl rfl ?_
          refine tr_p (y_pick_f rfl rfl) rfl rfl ?_
          refine tr_nil ?_
          refine tr_thenN ?_
          exact tr_join [(0, x0.enc), (1, (.string x1)), (6, (.int .i64 x6)), (21, (.bool y22))] ⟨rfl, rfl, rfl, rfl, trivial⟩ ⟨_, _, _, _, rfl, H⟩

def F.spateref6_Table_Place.j1 (Q : Int → Bool → Bool → H → Prop)  (h : H) : Prop :=
  Q 0 false false h
/-- (*spate/spateref6.Table).Place -/
def F.spateref6_Table_Place (p0 : Option Addr) (p1 : ByteArray) (h : H) (Q : Int → Bool → Bool → H → Prop) : Prop :=
  nn p0 fun a1 =>
  ldL h (a1.add 0) fun y3 =>
  F.spateref6_find y3 p1 h fun r6 r7 h5 =>
  (r7 = true →
  Q r6 false true h5) ∧
  (r7 = false →
  nn p0 fun a9 =>
  ldL h5 (a9.add 1) fun y11 =>
  ((decide ((y11.len : Int) > 0)) = true →
  nn p0 fun a14 =>
  ldL h5 (a14.add 1) fun y16 =>
  F.spateref6_find y16 p1 h5 fun r19 r20 h18 =>
  (r20 = true →
  Q r19 true true h18) ∧
  (r20 = false →
  F.spateref6_Table_Place.j1 Q  h18)) ∧
  ((decide ((y11.len : Int) > 0)) = false →
  F.spateref6_Table_Place.j1 Q  h5))
theorem F.spateref6_Table_Place_ok {p0 : Option Addr} {p1 : ByteArray} {h : H} {Q : Int → Bool → Bool → H → Prop} (H : F.spateref6_Table_Place p0 p1 h Q) : Fn PP 64 ([(.pointer p0), (.string p1)] : List Value).toArray h fun r h' => ∃ r0 r1 r2, r = .tuple #[(.int .i64 r0), (.bool r1), (.bool r2)] ∧ Q r0 r1 r2 h' := by
  unfold F.spateref6_Table_Place at H
  refine fn_of Try.func64 Try.ntmps64 rfl rfl fun w0 => ?_
  refine tr_sub [(0, (.pointer p0)), (1, (.string p1))] ⟨rfl, rfl, trivial⟩ ?_
  refine tr_seq ?_
  refine tr_region ?_
  refine tr_p (y_assign rfl) rfl rfl ?_
  refine tr_p (y_assign rfl) rfl rfl ?_
  refine tr_p (y_assign rfl) rfl rfl ?_
  refine tr_nil ?_
  refine tr_thenN ?_
  refine tr_seq ?_
  refine tr_region ?_
  refine tr_p (y_move rfl) rfl rfl ?_
  obtain ⟨a1, e2, H⟩ := H
  refine tr_p (f_nn rfl e2) rfl rfl ?_
  refine tr_p (y_fa (off := 0) Try.runUnderlying104 fo_104_0 rfl) rfl rfl ?_
  obtain ⟨y3, k4, H⟩ := H
  refine tr_h (y_ld Try.isAgg102 rfl) k4 rfl rfl ?_
  refine tr_p (y_move rfl) rfl rfl ?_
  refine tr_e (e_call Try.call73 rfl (F.spateref6_find_ok H)) rfl rfl ?_
  rintro _ h5 ⟨r6, r7, rfl, H⟩
  refine tr_p (y_move rfl) rfl rfl ?_
  refine tr_p (y_ext rfl rfl) rfl rfl ?_
  refine tr_p (y_ext rfl rfl) rfl rfl ?_
  refine tr_p (y_assign rfl) rfl rfl ?_
  refine tr_p (y_assign rfl) rfl rfl ?_
  refine tr_nil ?_
  refine tr_thenN ?_
  refine tr_seq ?_
  refine tr_seq ?_
  refine tr_region ?_
  refine tr_p (y_move rfl) rfl rfl ?_
  refine tr_nil ?_
  refine tr_thenN ?_
  refine tr_cond rfl (fun g8 => ?_) (fun g8 => ?_)
  · replace H := H.1 g8
    refine tr_seq ?_
    refine tr_region ?_
    refine tr_p (y_move rfl) rfl rfl ?_
    refine tr_p (y_assign rfl) rfl rfl ?_
    refine tr_p (y_assign rfl) rfl rfl ?_
    refine tr_p (y_assign rfl) rfl rfl ?_
    refine tr_nil ?_
    refine tr_thenN ?_
    refine tr_ret ?_
    refine tr_thenR ?_
    exact tr_ret3 rfl rfl rfl rfl ⟨_, _, _, rfl, H⟩
  · replace H := H.2 g8
    refine tr_skip ?_
    refine tr_thenN ?_
    refine tr_seq_j (fun L' h => L' = [] ∧ F.spateref6_Table_Place.j1 Q  h) ?_ ?_
    · rintro L' h ⟨rfl, H⟩
      unfold F.spateref6_Table_Place.j1 at H
      refine tr_seq ?_
      refine tr_region ?_
      refine tr_p (y_assign rfl) rfl rfl ?_
      refine tr_p (y_assign rfl) rfl rfl ?_
      refine tr_p (y_assign rfl) rfl rfl ?_
      refine tr_nil ?_
      refine tr_thenN ?_
      refine tr_ret ?_
      exact tr_ret3 rfl rfl rfl rfl ⟨_, _, _, rfl, H⟩
    · refine tr_seq ?_
      refine tr_region ?_
      refine tr_p (y_move rfl) rfl rfl ?_
      obtain ⟨a9, e10, H⟩ := H
      refine tr_p (f_nn rfl e10) rfl rfl ?_
      refine tr_p (y_fa (off := 1) Try.runUnderlying104 fo_104_1 rfl) rfl rfl ?_
      obtain ⟨y11, k12, H⟩ := H
      refine tr_h (y_ld Try.isAgg102 rfl) k12 rfl rfl ?_
      refine tr_p (y_len (ts := #[]) Try.runUnderlying102 (o := y11.ptr) (n := y11.len) (cap := y11.cap) rfl) rfl rfl ?_
      refine tr_p (y_gtr rfl rfl) rfl rfl ?_
      refine tr_nil ?_
      refine tr_thenN ?_
      refine tr_cond rfl (fun g13 => ?_) (fun g13 => ?_)
      · replace H := H.1 g13
        refine tr_seq ?_
        refine tr_region ?_
        refine tr_p (y_move rfl) rfl rfl ?_
        obtain ⟨a14, e15, H⟩ := H
        refine tr_p (f_nn rfl e15) rfl rfl ?_
        refine tr_p (y_fa (off := 1) Try.runUnderlying104 fo_104_1 rfl) rfl rfl ?_
        obtain ⟨y16, k17, H⟩ := H
        refine tr_h (y_ld Try.isAgg102 rfl) k17 rfl rfl ?_
        refine tr_p (y_move rfl) rfl rfl ?_
        refine tr_e (e_call Try.call73 rfl (F.spateref6_find_ok H)) rfl rfl ?_
        rintro _ h18 ⟨r19, r20, rfl, H⟩
        refine tr_p (y_move rfl) rfl rfl ?_
        refine tr_p (y_ext rfl rfl) rfl rfl ?_
        refine tr_p (y_ext rfl rfl) rfl rfl ?_
        refine tr_p (y_assign rfl) rfl rfl ?_
        refine tr_p (y_assign rfl) rfl rfl ?_
        refine tr_nil ?_
        refine tr_thenN ?_
        refine tr_seq ?_
        refine tr_region ?_
        refine tr_p (y_move rfl) rfl rfl ?_
        refine tr_nil ?_
        refine tr_thenN ?_
        refine tr_cond rfl (fun g21 => ?_) (fun g21 => ?_)
        · replace H := H.1 g21
          refine tr_seq ?_
          refine tr_region ?_
          refine tr_p (y_move rfl) rfl rfl ?_
          refine tr_p (y_assign rfl) rfl rfl ?_
          refine tr_p (y_assign rfl) rfl rfl ?_
          refine tr_p (y_assign rfl) rfl rfl ?_
          refine tr_nil ?_
          refine tr_thenN ?_
          refine tr_ret ?_
          refine tr_thenR ?_
          exact tr_ret3 rfl rfl rfl rfl ⟨_, _, _, rfl, H⟩
        · replace H := H.2 g21
          refine tr_skip ?_
          refine tr_thenN ?_
          exact tr_join [] trivial ⟨rfl, H⟩
      · replace H := H.2 g13
        refine tr_skip ?_
        refine tr_thenN ?_
        exact tr_join [] trivial ⟨rfl, H⟩

/-- (*spate/spateref6.Table).Get -/
def F.spateref6_Table_Get (p0 : Option Addr) (p1 : ByteArray) (h : H) (Q : Int → Bool → H → Prop) : Prop :=
  F.spateref6_Table_Place p0 p1 h fun r2 r3 r4 h1 =>
  ((!r4) = true →
  Q 0 false h1) ∧
  ((!r4) = false →
  (r3 = true →
  nn p0 fun a7 =>
  ldL h1 (a7.add 1) fun y9 =>
  idxA y9 r2 4 fun a11 =>
  ldI .i64 h1 (a11.add 3) fun y13 =>
  Q y13 true h1) ∧
  (r3 = false →
  nn p0 fun a15 =>
  ldL h1 (a15.add 0) fun y17 =>
  idxA y17 r2 4 fun a19 =>
  ldI .i64 h1 (a19.add 3) fun y21 =>
  Q y21 true h1))
theorem F.spateref6_Table_Get_ok {p0 : Option Addr} {p1 : ByteArray} {h : H} {Q : Int → Bool → H → Prop} (H : F.spateref6_Table_Get p0 p1 h Q) : Fn PP 62 ([(.pointer p0), (.string p1)] : List Value).toArray h fun r h' => ∃ r0 r1, r = .tuple #[(.int .i64 r0), (.bool r1)] ∧ Q r0 r1 h' := by
  unfold F.spateref6_Table_Get at H
  refine fn_of Try.func62 Try.ntmps62 rfl rfl fun w0 => ?_
  refine tr_sub [(0, (.pointer p0)), (1, (.string p1))] ⟨rfl, rfl, trivial⟩ ?_
  refine tr_seq ?_
  refine tr_region ?_
  refine tr_p (y_assign rfl) rfl rfl ?_
  refine tr_p (y_assign rfl) rfl rfl ?_
  refine tr_nil ?_
  refine tr_thenN ?_
  refine tr_seq ?_
  refine tr_region ?_
  refine tr_p (y_move rfl) rfl rfl ?_
  refine tr_p (y_move rfl) rfl rfl ?_
  refine tr_e (e_call Try.call64 rfl (F.spateref6_Table_Place_ok H)) rfl rfl ?_
  rintro _ h1 ⟨r2, r3, r4, rfl, H⟩
  refine tr_p (y_move rfl) rfl rfl ?_
  refine tr_p (y_ext rfl rfl) rfl rfl ?_
  refine tr_p (y_ext rfl rfl) rfl rfl ?_
  refine tr_p (y_ext rfl rfl) rfl rfl ?_
  refine tr_p (y_assign rfl) rfl rfl ?_
  refine tr_p (y_assign rfl) rfl rfl ?_
  refine tr_p (y_assign rfl) rfl rfl ?_
  refine tr_nil ?_
  refine tr_thenN ?_
  refine tr_seq ?_
  refine tr_block ?_
  refine tr_seq ?_
  refine tr_region ?_
  refine tr_p (y_move rfl) rfl rfl ?_
  refine tr_p (y_not rfl) rfl rfl ?_
  refine tr_p (y_assign rfl) rfl rfl ?_
  refine tr_nil ?_
  refine tr_thenN ?_
  refine tr_cond rfl (fun g5 => ?_) (fun g5 => ?_)
  · replace H := H.1 g5
    refine tr_seq ?_
    refine tr_region ?_
    refine tr_p (y_assign rfl) rfl rfl ?_
    refine tr_p (y_assign rfl) rfl rfl ?_
    refine tr_nil ?_
    refine tr_thenN ?_
    refine tr_ret ?_
    refine tr_blockR ?_
    refine tr_thenR ?_
    exact tr_ret2 rfl rfl rfl ⟨_, _, rfl, H⟩
  · replace H := H.2 g5
    refine tr_seq ?_
    refine tr_region ?_
    refine tr_p (y_move rfl) rfl rfl ?_
    refine tr_p (y_assign rfl) rfl rfl ?_
    refine tr_nil ?_
    refine tr_thenN ?_
    refine tr_cond rfl (fun g6 => ?_) (fun g6 => ?_)
    · replace H := H.1 g6
      refine tr_seq ?_
      refine tr_region ?_
      refine tr_p (y_move rfl) rfl rfl ?_
      obtain ⟨a7, e8, H⟩ := H
      refine tr_p (f_nn rfl e8) rfl rfl ?_
      refine tr_p (y_fa (off := 1) Try.runUnderlying104 fo_104_1 rfl) rfl rfl ?_
      obtain ⟨y9, k10, H⟩ := H
      refine tr_h (y_ld Try.isAgg102 rfl) k10 rfl rfl ?_
      refine tr_p (y_move rfl) rfl rfl ?_
      obtain ⟨a11, e12, H⟩ := H
      refine tr_p (f_idx (s := y9) Try.runUnderlying102 Try.sizeOf114 rfl rfl e12) rfl rfl ?_
      refine tr_p (y_fa (off := 3) Try.runUnderlying114 fo_114_3 rfl) rfl rfl ?_
      obtain ⟨y13, k14, H⟩ := H
      refine tr_h (y_ld Try.isAgg3 rfl) k14 rfl rfl ?_
      refine tr_p (y_assign rfl) rfl rfl ?_
      refine tr_p (y_assign rfl) rfl rfl ?_
      refine tr_nil ?_
      refine tr_thenN ?_
      refine tr_ret ?_
      refine tr_blockR ?_
      refine tr_thenR ?_
      exact tr_ret2 rfl rfl rfl ⟨_, _, rfl, H⟩
    · replace H := H.2 g6
      refine tr_skip ?_
      refine tr_blockN ?_
      refine tr_thenN ?_
      refine tr_seq ?_
      refine tr_region ?_
      refine tr_p (y_move rfl) rfl rfl ?_
      obtain ⟨a15, e16, H⟩ := H
      refine tr_p (f_nn rfl e16) rfl rfl ?_
      refine tr_p (y_fa (off := 0) Try.runUnderlying104 fo_104_0 rfl) rfl rfl ?_
      obtain ⟨y17, k18, H⟩ := H
      refine tr_h (y_ld Try.isAgg102 rfl) k18 rfl rfl ?_
      refine tr_p (y_move rfl) rfl rfl ?_
      obtain ⟨a19, e20, H⟩ := H
      refine tr_p (f_idx (s := y17) Try.runUnderlying102 Try.sizeOf114 rfl rfl e20) rfl rfl ?_
      refine tr_p (y_fa (off := 3) Try.runUnderlying114 fo_114_3 rfl) rfl rfl ?_
      obtain ⟨y21, k22, H⟩ := H
      refine tr_h (y_ld Try.isAgg3 rfl) k22 rfl rfl ?_
      refine tr_p (y_assign rfl) rfl rfl ?_
      refine tr_p (y_assign rfl) rfl rfl ?_
      refine tr_nil ?_
      refine tr_thenN ?_
      refine tr_ret ?_
      exact tr_ret2 rfl rfl rfl ⟨_, _, rfl, H⟩

/-- (*spate/table.Table[int]).Place -/
def F.table_Table_int_Place (p0 : Option Addr) (p1 : ByteArray) (h : H) (Q : Int → Bool → Bool → H → Prop) : Prop :=
  nn p0 fun a1 =>
  ldL h (a1.add 0) fun y3 =>
  F.table_find_int y3 p1 h fun r6 r7 h5 =>
  (r7 = true →
  Q r6 false true h5) ∧
  (r7 = false →
  nn p0 fun a9 =>
  ldL h5 (a9.add 1) fun y11 =>
  F.table_find_int y11 p1 h5 fun r14 r15 h13 =>
  (r15 = true →
  Q r14 true true h13) ∧
  (r15 = false →
  Q 0 false false h13))
theorem F.table_Table_int_Place_ok {p0 : Option Addr} {p1 : ByteArray} {h : H} {Q : Int → Bool → Bool → H → Prop} (H : F.table_Table_int_Place p0 p1 h Q) : Fn PP 63 ([(.pointer p0), (.string p1)] : List Value).toArray h fun r h' => ∃ r0 r1 r2, r = .tuple #[(.int .i64 r0), (.bool r1), (.bool r2)] ∧ Q r0 r1 r2 h' := by
  unfold F.table_Table_int_Place at H
  refine fn_of Try.func63 Try.ntmps63 rfl rfl fun w0 => ?_
  refine tr_sub [(0, (.pointer p0)), (1, (.string p1))] ⟨rfl, rfl, trivial⟩ ?_
  refine tr_seq ?_
  refine tr_region ?_
  refine tr_p (y_assign rfl) rfl rfl ?_
  refine tr_p (y_assign rfl) rfl rfl ?_
  refine tr_p (y_assign rfl) rfl rfl ?_
  refine tr_nil ?_
  refine tr_thenN ?_
  refine tr_seq ?_
  refine tr_seq ?_
  refine tr_region ?_
  refine tr_p (y_move rfl) rfl rfl ?_
  obtain ⟨a1, e2, H⟩ := H
  refine tr_p (f_nn rfl e2) rfl rfl ?_
  refine tr_p (y_fa (off := 0) Try.runUnderlying73 fo_73_0 rfl) rfl rfl ?_
  obtain ⟨y3, k4, H⟩ := H
  refine tr_h (y_ld Try.isAgg71 rfl) k4 rfl rfl ?_
  refine tr_p (y_move rfl) rfl rfl ?_
  refine tr_e (e_call Try.call47 rfl (F.table_find_int_ok H)) rfl rfl ?_
  rintro _ h5 ⟨r6, r7, rfl, H⟩
  refine tr_p (y_move rfl) rfl rfl ?_
  refine tr_p (y_ext rfl rfl) rfl rfl ?_
  refine tr_p (y_ext rfl rfl) rfl rfl ?_
  refine tr_p (y_assign rfl) rfl rfl ?_
  refine tr_p (y_assign rfl) rfl rfl ?_
  refine tr_nil ?_
  refine tr_thenN ?_
  refine tr_seq ?_
  refine tr_region ?_
  refine tr_p (y_move rfl) rfl rfl ?_
  refine tr_nil ?_
  refine tr_thenN ?_
  refine tr_cond rfl (fun g8 => ?_) (fun g8 => ?_)
  · replace H := H.1 g8
    refine tr_seq ?_
    refine tr_region ?_
    refine tr_p (y_move rfl) rfl rfl ?_
    refine tr_p (y_assign rfl) rfl rfl ?_
    refine tr_p (y_assign rfl) rfl rfl ?_
    refine tr_p (y_assign rfl) rfl rfl ?_
    refine tr_nil ?_
    refine tr_thenN ?_
    refine tr_ret ?_
    refine tr_thenR ?_
    exact tr_ret3 rfl rfl rfl rfl ⟨_, _, _, rfl, H⟩
  · replace H := H.2 g8
    refine tr_skip ?_
    refine tr_thenN ?_
    refine tr_seq ?_
    refine tr_seq ?_
    refine tr_region ?_
    refine tr_p (y_move rfl) rfl rfl ?_
    obtain ⟨a9, e10, H⟩ := H
    refine tr_p (f_nn rfl e10) rfl rfl ?_
    refine tr_p (y_fa (off := 1) Try.runUnderlying73 fo_73_1 rfl) rfl rfl ?_
    obtain ⟨y11, k12, H⟩ := H
    refine tr_h (y_ld Try.isAgg71 rfl) k12 rfl rfl ?_
    refine tr_p (y_move rfl) rfl rfl ?_
    refine tr_e (e_call Try.call47 rfl (F.table_find_int_ok H)) rfl rfl ?_
    rintro _ h13 ⟨r14, r15, rfl, H⟩
    refine tr_p (y_move rfl) rfl rfl ?_
    refine tr_p (y_ext rfl rfl) rfl rfl ?_
    refine tr_p (y_ext rfl rfl) rfl rfl ?_
    refine tr_p (y_assign rfl) rfl rfl ?_
    refine tr_p (y_assign rfl) rfl rfl ?_
    refine tr_nil ?_
    refine tr_thenN ?_
    refine tr_seq ?_
    refine tr_region ?_
    refine tr_p (y_move rfl) rfl rfl ?_
    refine tr_nil ?_
    refine tr_thenN ?_
    refine tr_cond rfl (fun g16 => ?_) (fun g16 => ?_)
    · replace H := H.1 g16
      refine tr_seq ?_
      refine tr_region ?_
      refine tr_p (y_move rfl) rfl rfl ?_
      refine tr_p (y_assign rfl) rfl rfl ?_
      refine tr_p (y_assign rfl) rfl rfl ?_
      refine tr_p (y_assign rfl) rfl rfl ?_
      refine tr_nil ?_
      refine tr_thenN ?_
      refine tr_ret ?_
      refine tr_thenR ?_
      exact tr_ret3 rfl rfl rfl rfl ⟨_, _, _, rfl, H⟩
    · replace H := H.2 g16
      refine tr_skip ?_
      refine tr_thenN ?_
      refine tr_seq ?_
      refine tr_region ?_
      refine tr_p (y_assign rfl) rfl rfl ?_
      refine tr_p (y_assign rfl) rfl rfl ?_
      refine tr_p (y_assign rfl) rfl rfl ?_
      refine tr_nil ?_
      refine tr_thenN ?_
      refine tr_ret ?_
      exact tr_ret3 rfl rfl rfl rfl ⟨_, _, _, rfl, H⟩

/-- spate/spatelaw6.like -/
def F.spatelaw6_like (p0 : Option Addr) (p1 : Option Addr) (p2 : ByteArray) (h : H) (Q : Bool → H → Prop) : Prop :=
  F.table_Table_int_Get p0 p2 h fun r2 r3 h1 =>
  F.spateref6_Table_Get p1 p2 h1 fun r5 r6 h4 =>
  F.table_Table_int_Place p0 p2 h4 fun r8 r9 r10 h7 =>
  F.spateref6_Table_Place p1 p2 h7 fun r12 r13 r14 h11 =>
  (((r2 == r5)) = true →
  ((r3 == r6) = true →
  (((r8 == r12)) = true →
  ((r9 == r13) = true →
  Q (r10 == r14) h11) ∧
  ((r9 == r13) = false →
  Q false h11)) ∧
  (((r8 == r12)) = false →
  Q false h11)) ∧
  ((r3 == r6) = false →
  Q false h11)) ∧
  (((r2 == r5)) = false →
  Q false h11)
theorem F.spatelaw6_like_ok {p0 : Option Addr} {p1 : Option Addr} {p2 : ByteArray} {h : H} {Q : Bool → H → Prop} (H : F.spatelaw6_like p0 p1 p2 h Q) : Fn PP 42 ([(.pointer p0), (.pointer p1), (.string p2)] : List Value).toArray h fun r h' => ∃ r0, r = (.bool r0) ∧ Q r0 h' := by
  unfold F.spatelaw6_like at H
  refine fn_of Try.func42 Try.ntmps42 rfl rfl fun w0 => ?_
  refine tr_sub [(0, (.pointer p0)), (1, (.pointer p1)), (2, (.string p2))] ⟨rfl, rfl, rfl, trivial⟩ ?_
  refine tr_seq ?_
  refine tr_region ?_
  refine tr_p (y_assign rfl) rfl rfl ?_
  refine tr_nil ?_
  refine tr_thenN ?_
  refine tr_seq ?_
  refine tr_region ?_
  refine tr_p (y_move rfl) rfl rfl ?_
  refine tr_p (y_move rfl) rfl rfl ?_
  refine tr_e (e_call Try.call25 rfl (F.table_Table_int_Get_ok H)) rfl rfl ?_
  rintro _ h1 ⟨r2, r3, rfl, H⟩
  refine tr_p (y_move rfl) rfl rfl ?_
  refine tr_p (y_ext rfl rfl) rfl rfl ?_
  refine tr_p (y_ext rfl rfl) rfl rfl ?_
  refine tr_p (y_assign rfl) rfl rfl ?_
  refine tr_p (y_assign rfl) rfl rfl ?_
  refine tr_nil ?_
  refine tr_thenN ?_
  refine tr_seq ?_
  refine tr_region ?_
  refine tr_p (y_move rfl) rfl rfl ?_
  refine tr_p (y_move rfl) rfl rfl ?_
  refine tr_e (e_call Try.call62 rfl (F.spateref6_Table_Get_ok H)) rfl rfl ?_
  rintro _ h4 ⟨r5, r6, rfl, H⟩
  refine tr_p (y_move rfl) rfl rfl ?_
  refine tr_p (y_ext rfl rfl) rfl rfl ?_
  refine tr_p (y_ext rfl rfl) rfl rfl ?_
  refine tr_p (y_assign rfl) rfl rfl ?_
  refine tr_p (y_assign rfl) rfl rfl ?_
  refine tr_nil ?_
  refine tr_thenN ?_
  refine tr_seq ?_
  refine tr_region ?_
  refine tr_p (y_move rfl) rfl rfl ?_
  refine tr_p (y_move rfl) rfl rfl ?_
  refine tr_e (e_call Try.call63 rfl (F.table_Table_int_Place_ok H)) rfl rfl ?_
  rintro _ h7 ⟨r8, r9, r10, rfl, H⟩
  refine tr_p (y_move rfl) rfl rfl ?_
  refine tr_p (y_ext rfl rfl) rfl rfl ?_
  refine tr_p (y_ext rfl rfl) rfl rfl ?_
  refine tr_p (y_ext rfl rfl) rfl rfl ?_
  refine tr_p (y_assign rfl) rfl rfl ?_
  refine tr_p (y_assign rfl) rfl rfl ?_
  refine tr_p (y_assign rfl) rfl rfl ?_
  refine tr_nil ?_
  refine tr_thenN ?_
  refine tr_seq ?_
  refine tr_region ?_
  refine tr_p (y_move rfl) rfl rfl ?_
  refine tr_p (y_move rfl) rfl rfl ?_
  refine tr_e (e_call Try.call64 rfl (F.spateref6_Table_Place_ok H)) rfl rfl ?_
  rintro _ h11 ⟨r12, r13, r14, rfl, H⟩
  refine tr_p (y_move rfl) rfl rfl ?_
  refine tr_p (y_ext rfl rfl) rfl rfl ?_
  refine tr_p (y_ext rfl rfl) rfl rfl ?_
  refine tr_p (y_ext rfl rfl) rfl rfl ?_
  refine tr_p (y_assign rfl) rfl rfl ?_
  refine tr_p (y_assign rfl) rfl rfl ?_
  refine tr_p (y_assign rfl) rfl rfl ?_
  refine tr_nil ?_
  refine tr_thenN ?_
  refine tr_seq ?_
  refine tr_region ?_
  refine tr_p (y_move rfl) rfl rfl ?_
  refine tr_p (y_move rfl) rfl rfl ?_
  refine tr_p (y_eql rfl rfl) rfl rfl ?_
  refine tr_p (y_move rfl) rfl rfl ?_
  refine tr_split (t := 46) rfl (fun g15 => ?_) (fun g15 => ?_)
  · replace H := H.1 g15
    refine tr_p (y_move rfl) rfl rfl ?_
    refine tr_p (y_move rfl) rfl rfl ?_
    refine tr_p (y_beql Try.underlying4 rfl rfl) rfl rfl ?_
    refine tr_p (y_pick_t rfl rfl) rfl rfl ?_
    refine tr_p (y_move rfl) rfl rfl ?_
    refine tr_split (t := 51) rfl (fun g16 => ?_) (fun g16 => ?_)
    · replace H := H.1 g16
      refine tr_p (y_move rfl) rfl rfl ?_
      refine tr_p (y_move rfl) rfl rfl ?_
      refine tr_p (y_eql rfl rfl) rfl rfl ?_
      refine tr_p (y_pick_t rfl rfl) rfl rfl ?_
      refine tr_p (y_move rfl) rfl rfl ?_
      refine tr_split (t := 56) rfl (fun g17 => ?_) (fun g17 => ?_)
      · replace H := H.1 g17
        refine tr_p (y_move rfl) rfl rfl ?_
        refine tr_p (y_move rfl) rfl rfl ?_
        refine tr_p (y_beql Try.underlying4 rfl rfl) rfl rfl ?_
        refine tr_p (y_pick_t rfl rfl) rfl rfl ?_
        refine tr_p (y_move rfl) rfl rfl ?_
        refine tr_split (t := 61) rfl (fun g18 => ?_) (fun g18 => ?_)
        · replace H := H.1 g18
          refine tr_p (y_move rfl) rfl rfl ?_
          refine tr_p (y_move rfl) rfl rfl ?_
          refine tr_p (y_beql Try.underlying4 rfl rfl) rfl rfl ?_
          refine tr_p (y_pick_t rfl rfl) rfl rfl ?_
          refine tr_p (y_assign rfl) rfl rfl ?_
          refine tr_nil ?_
          refine tr_thenN ?_
          refine tr_ret ?_
          exact tr_ret1 rfl rfl ⟨_, rfl, H⟩
        · replace H := H.2 g18
          refine tr_s rfl rfl ?_
          refine tr_s rfl rfl ?_
          refine tr_s rfl rfl ?_
          refine tr_p (y_pick_f rfl rfl) rfl rfl ?_
          refine tr_p (y_assign rfl) rfl rfl ?_
          refine tr_nil ?_
          refine tr_thenN ?_
          refine tr_ret ?_
          exact tr_ret1 rfl rfl ⟨_, rfl, H⟩
      · replace H := H.2 g17
        refine tr_s rfl rfl ?_
        refine tr_s rfl rfl ?_
        refine tr_s rfl rfl ?_
        refine tr_p (y_pick_f rfl rfl) rfl rfl ?_
        refine tr_p (y_move rfl) rfl rfl ?_
        refine tr_s rfl rfl ?_
        refine tr_s rfl rfl ?_
        refine tr_s rfl rfl ?_
        refine tr_p (y_pick_f rfl rfl) rfl rfl ?_
        refine tr_p (y_assign rfl) rfl rfl ?_
        refine tr_nil ?_
        refine tr_thenN ?_
        refine tr_ret ?_
        exact tr_ret1 rfl rfl ⟨_, rfl, H⟩
    · replace H := H.2 g16
      refine tr_s rfl rfl ?_
      refine tr_s rfl rfl ?_
      refine tr_s rfl rfl ?_
      refine tr_p (y_pick_f rfl rfl) rfl rfl ?_
      refine tr_p (y_move rfl) rfl rfl ?_
      refine tr_s rfl rfl ?_
      refine tr_s rfl rfl ?_
      refine tr_s rfl rfl ?_
      refine tr_p (y_pick_f rfl rfl) rfl rfl ?_
      refine tr_p (y_move rfl) rfl rfl ?_
      refine tr_s rfl rfl ?_
      refine tr_s rfl rfl ?_
      refine tr_s rfl rfl ?_
      refine tr_p (y_pick_f rfl rfl) rfl rfl ?_
      refine tr_p (y_assign rfl) rfl rfl ?_
      refine tr_nil ?_
      refine tr_thenN ?_
      refine tr_ret ?_
      exact tr_ret1 rfl rfl ⟨_, rfl, H⟩
  · replace H := H.2 g15
    refine tr_s rfl rfl ?_
    refine tr_s rfl rfl ?_
    refine tr_s rfl rfl ?_
    refine tr_p (y_pick_f rfl rfl) rfl rfl ?_
    refine tr_p (y_move rfl) rfl rfl ?_
    refine tr_s rfl rfl ?_
    refine tr_s rfl rfl ?_
    refine tr_s rfl rfl ?_
    refine tr_p (y_pick_f rfl rfl) rfl rfl ?_
    refine tr_p (y_move rfl) rfl rfl ?_
    refine tr_s rfl rfl ?_
    refine tr_s rfl rfl ?_
    refine tr_s rfl rfl ?_
    refine tr_p (y_pick_f rfl rfl) rfl rfl ?_
    refine tr_p (y_move rfl) rfl rfl ?_
    refine tr_s rfl rfl ?_
    refine tr_s rfl rfl ?_
    refine tr_s rfl rfl ?_
    refine tr_p (y_pick_f rfl rfl) rfl rfl ?_
    refine tr_p (y_assign rfl) rfl rfl ?_
    refine tr_nil ?_
    refine tr_thenN ?_
    refine tr_ret ?_
    exact tr_ret1 rfl rfl ⟨_, rfl, H⟩

def F.spateref6_Table_Move.j3 (Q : Int → H → Prop) (C1 : (Option Addr) → Int → Int → H → Prop) (x0 : Option Addr) (x1 : Int) (x5 : Int) (h : H) : Prop :=
  C1 x0 x1 (IntKind.wrap .i64 (x5 + 1)) h
def F.spateref6_Table_Move.j4 (Q : Int → H → Prop) (C1 : (Option Addr) → Int → Int → H → Prop) (x0 : Option Addr) (x1 : Int) (x5 : Int) (h : H) : Prop :=
  nn x0 fun a19 =>
  ldI .i64 h (a19.add 2) fun y21 =>
  nn x0 fun a23 =>
  stH h (a23.add 2) [(.int .i64 (IntKind.wrap .i64 (y21 + 1)))] fun h25 =>
  F.spateref6_Table_Move.j3 Q C1 x0 x1 x5 h25
def F.spateref6_Table_Move.j2 (Q : Int → H → Prop) (C1 : (Option Addr) → Int → Int → H → Prop) (x0 : Option Addr) (x1 : Int) (x5 : Int) (h : H) : Prop :=
  nn x0 fun a1 =>
  ldL h (a1.add 1) fun y3 =>
  nn x0 fun a5 =>
  ldI .i64 h (a5.add 2) fun y7 =>
  idxA y3 y7 4 fun a9 =>
  ld_S_spateref6_Place h a9 fun y11 =>
  new h (((⟨false, false, (⟨#[]⟩ : ByteArray), 0⟩ : S_spateref6_Place) : S_spateref6_Place).cells.toArray) ty_114 fun a14 h13 =>
  Cells h13 a9 y11.cells ∧
  cellH h13 (a5.add 2) = some (.int .i64 y7) ∧
  cellH h13 (a1.add 1) = some y3.enc ∧
  stH h13 a14 y11.cells fun h18 =>
  ldB h18 (a14.add 0) fun y26 =>
  (y26 = true →
  nn x0 fun a29 =>
  ldL h18 (a29.add 0) fun y31 =>
  ldS h18 (a14.add 2) fun y33 =>
  F.spateref6_find y31 y33 h18 fun r36 r37 h35 =>
  nn x0 fun a38 =>
  ldL h35 (a38.add 0) fun y40 =>
  ld_S_spateref6_Place h35 a14 fun y42 =>
  idxA y40 r36 4 fun a44 =>
  stH h35 a44 y42.cells fun h46 =>
  nn x0 fun a47 =>
  ldL h46 (a47.add 1) fun y49 =>
  nn x0 fun a51 =>
  ldI .i64 h46 (a51.add 2) fun y53 =>
  idxA y49 y53 4 fun a55 =>
  stH h46 a55 ((⟨false, true, (⟨#[]⟩ : ByteArray), 0⟩ : S_spateref6_Place).cells) fun h57 =>
  F.spateref6_Table_Move.j4 Q C1 x0 x1 x5 h57) ∧
  (y26 = false →
  F.spateref6_Table_Move.j4 Q C1 x0 x1 x5 h18)
def F.spateref6_Table_Move.j6 (Q : Int → H → Prop) (x0 : Option Addr) (h : H) : Prop :=
  F.spateref6_Table_Left x0 h fun r60 h59 =>
  Q r60 h59
def F.spateref6_Table_Move.j5 (Q : Int → H → Prop) (C1 : (Option Addr) → Int → Int → H → Prop) (x0 : Option Addr) (x1 : Int) (x5 : Int) (x23 : Bool) (h : H) : Prop :=
  (x23 = true →
  F.spateref6_Table_Move.j2 Q C1 x0 x1 x5 h) ∧
  (x23 = false →
  nn x0 fun a61 =>
  ldI .i64 h (a61.add 2) fun y63 =>
  nn x0 fun a65 =>
  ldL h (a65.add 1) fun y67 =>
  (((y63 == (y67.len : Int))) = true →
  nn x0 fun a70 =>
  stH h (a70.add 1) [(⟨none, 0, 0⟩ : Sl).enc] fun h72 =>
  nn x0 fun a73 =>
  stH h72 (a73.add 2) [(.int .i64 0)] fun h75 =>
  F.spateref6_Table_Move.j6 Q x0 h75) ∧
  (((y63 == (y67.len : Int))) = false →
  F.spateref6_Table_Move.j6 Q x0 h))
def F.spateref6_Table_Move.l1 (Q : Int → H → Prop) : Nat → (Option Addr) → Int → Int → H → Prop
  | 0, _, _, _, _ => False
  | q1 + 1, x0, x1, x5, h =>
    ((decide (x5 < x1)) = true →
    nn x0 fun a77 =>
    ldI .i64 h (a77.add 2) fun y79 =>
    nn x0 fun a81 =>
    ldL h (a81.add 1) fun y83 =>
    F.spateref6_Table_Move.j5 Q (F.spateref6_Table_Move.l1 Q q1) x0 x1 x5 (decide (y79 < (y83.len : Int))) h) ∧
    ((decide (x5 < x1)) = false →
    F.spateref6_Table_Move.j5 Q (F.spateref6_Table_Move.l1 Q q1) x0 x1 x5 false h)
/-- (*spate/spateref6.Table).Move -/
def F.spateref6_Table_Move (p0 : Option Addr) (p1 : Int) (h : H) (Q : Int → H → Prop) : Prop :=
  ∃ m, F.spateref6_Table_Move.l1 Q m p0 p1 0 h
theorem F.spateref6_Table_Move_ok {p0 : Option Addr} {p1 : Int} {h : H} {Q : Int → H → Prop} (H : F.spateref6_Table_Move p0 p1 h Q) : Fn PP 60 ([(.pointer p0), (.int .i64 p1)] : List Value).toArray h fun r h' => ∃ r0, r = (.int .i64 r0) ∧ Q r0 h' := by
  unfold F.spateref6_Table_Move at H
  refine fn_of Try.func60 Try.ntmps60 rfl rfl fun w0 => ?_
  refine tr_sub [(0, (.pointer p0)), (1, (.int .i64 p1))] ⟨rfl, rfl, trivial⟩ ?_
  refine tr_seq ?_
  refine tr_region ?_
  refine tr_p (y_assign rfl) rfl rfl ?_
  refine tr_nil ?_
  refine tr_thenN ?_
  refine tr_seq ?_
  refine tr_seq ?_
  refine tr_region ?_
  refine tr_p (y_assign rfl) rfl rfl ?_
  refine tr_nil ?_
  refine tr_thenN ?_
  refine tr_block ?_
  obtain ⟨m85, H⟩ := H
  refine tr_sub [(0, (.pointer p0)), (1, (.int .i64 p1)), (5, (.int .i64 0))] ⟨rfl, rfl, rfl, trivial⟩ ?_
  refine tr_loop_j (fun m L' h => ∃ (x0 : Option Addr) (x1 : Int) (x5 : Int), L' = [(0, (.pointer x0)), (1, (.int .i64 x1)), (5, (.int .i64 x5))] ∧ F.spateref6_Table_Move.l1 Q m x0 x1 x5 h) ?_ ?_ m85 ⟨_, _, _, rfl, H⟩
  · rintro L' h ⟨_, _, _, _, H⟩; exact H
  · rintro q1 L' h ⟨x0, x1, x5, rfl, H⟩
    unfold F.spateref6_Table_Move.l1 at H
    refine tr_seq_j (fun L' h => ∃ (x0 : Option Addr) (x1 : Int) (x5 : Int), L' = [(0, (.pointer x0)), (1, (.int .i64 x1)), (5, (.int .i64 x5))] ∧ F.spateref6_Table_Move.j2 Q (F.spateref6_Table_Move.l1 Q q1) x0 x1 x5 h) ?_ ?_
    · rintro L' h ⟨x0, x1, x5, rfl, H⟩
      unfold F.spateref6_Table_Move.j2 at H
      refine tr_seq_j (fun L' h => ∃ (x0 : Option Addr) (x1 : Int) (x5 : Int), L' = [(0, (.pointer x0)), (1, (.int .i64 x1)), (5, (.int .i64 x5))] ∧ F.spateref6_Table_Move.j3 Q (F.spateref6_Table_Move.l1 Q q1) x0 x1 x5 h) ?_ ?_
      · rintro L' h ⟨x0, x1, x5, rfl, H⟩
        unfold F.spateref6_Table_Move.j3 at H
        refine tr_region ?_
        refine tr_p (y_move rfl) rfl rfl ?_
        refine tr_p (y_add rfl rfl) rfl rfl ?_
        refine tr_p (y_assign rfl) rfl rfl ?_
        refine tr_nil ?_
        refine tr_thenN ?_
        exact tr_join [(0, (.pointer x0)), (1, (.int .i64 x1)), (5, (.int .i64 (IntKind.wrap .i64 (x5 + 1))))] ⟨rfl, rfl, rfl, trivial⟩ ⟨_, _, _, rfl, H⟩
      · refine tr_block ?_
        refine tr_seq ?_
        refine tr_draw mixed [0, 1, 3, 7, 0, 16, 48, 112, 255, 511, 0, 2047] (by kernel_rfl) ?_
        refine g_p 0 1 rfl (by kernel_rfl) (y_move rfl) rfl rfl ?_
        obtain ⟨a1, e2, H⟩ := H
        refine g_p 1 3 rfl (by kernel_rfl) (f_nn rfl e2) rfl rfl ?_
        refine g_p 2 7 rfl (by kernel_rfl) (y_fa (off := 1) Try.runUnderlying104 fo_104_1 rfl) rfl rfl ?_
        obtain ⟨y3, k4, H⟩ := H
        refine g_h 3 15 rfl (by kernel_rfl) (y_ld Try.isAgg102 rfl) k4 rfl rfl ?_
        refine g_p 4 31 rfl (by kernel_rfl) (y_move rfl) rfl rfl ?_
        obtain ⟨a5, e6, H⟩ := H
        refine g_p 5 63 rfl (by kernel_rfl) (f_nn rfl e6) rfl rfl ?_
        refine g_p 6 127 rfl (by kernel_rfl) (y_fa (off := 2) Try.runUnderlying104 fo_104_2 rfl) rfl rfl ?_
        obtain ⟨y7, k8, H⟩ := H
        refine g_h 7 255 rfl (by kernel_rfl) (y_ld Try.isAgg3 rfl) k8 rfl rfl ?_
        obtain ⟨a9, e10, H⟩ := H
        refine g_p 8 511 rfl (by kernel_rfl) (f_idx (s := y3) Try.runUnderlying102 Try.sizeOf114 rfl rfl e10) rfl rfl ?_
        obtain ⟨y11, k12, H⟩ := H
        refine g_h 9 1023 rfl (by kernel_rfl) (y_ldS Try.isAgg114 Try.sizeOf114 rfl rfl) k12 rfl rfl ?_
        refine g_e 10 2047 [(9, fun h => Cells h a9 y11.cells), (7, fun h => cellH h (a5.add 2) = some (.int .i64 y7)), (3, fun h => cellH h (a1.add 1) = some y3.enc)] (by kernel_rfl) rfl (by kernel_rfl) (f_alloc (cs := ((⟨false, false, (⟨#[]⟩ : ByteArray), 0⟩ : S_spateref6_Place) : S_spateref6_Place).cells.toArray) Try.zeroValue114 rfl H) rfl rfl ?_
        rintro _ h13 ⟨a14, rfl, H⟩
        obtain ⟨k15, k16, k17, H⟩ := H
        refine ⟨And.intro k15 (And.intro k16 (And.intro k17 trivial)), ?_⟩
        refine g_e 11 4095 [] (by kernel_rfl) rfl (by kernel_rfl) (f_store (vs := y11.cells) Try.sizeOf114 rfl rfl cellsOfStruct rfl (by intro v hv; exact ones_S_spateref6_Place _ v hv) H) rfl rfl ?_
        rintro _ h18 ⟨rfl, H⟩
        refine ⟨trivial, ?_⟩
        refine g_d (by kernel_rfl) ?_
        refine tr_thenN ?_
        refine tr_seq_j (fun L' h => ∃ (x0 : Option Addr) (x1 : Int) (x5 : Int), L' = [(0, (.pointer x0)), (1, (.int .i64 x1)), (5, (.int .i64 x5))] ∧ F.spateref6_Table_Move.j4 Q (F.spateref6_Table_Move.l1 Q q1) x0 x1 x5 h) ?_ ?_
        · rintro L' h ⟨x0, x1, x5, rfl, H⟩
          unfold F.spateref6_Table_Move.j4 at H
          refine tr_region ?_
          refine tr_p (y_move rfl) rfl rfl ?_
          obtain ⟨a19, e20, H⟩ := H
          refine tr_p (f_nn rfl e20) rfl rfl ?_
          refine tr_p (y_fa (off := 2) Try.runUnderlying104 fo_104_2 rfl) rfl rfl ?_
          obtain ⟨y21, k22, H⟩ := H
          refine tr_h (y_ld Try.isAgg3 rfl) k22 rfl rfl ?_
          refine tr_p (y_add rfl rfl) rfl rfl ?_
          obtain ⟨a23, e24, H⟩ := H
          refine tr_p (f_nn rfl e24) rfl rfl ?_
          refine tr_p (y_fa (off := 2) Try.runUnderlying104 fo_104_2 rfl) rfl rfl ?_
          refine tr_e (f_store (vs := [(.int .i64 (IntKind.wrap .i64 (y21 + 1)))]) Try.sizeOf3 rfl rfl rfl rfl (one1 rfl) H) rfl rfl ?_
          rintro _ h25 ⟨rfl, H⟩
          refine tr_nil ?_
          refine tr_blockN ?_
          refine tr_thenN ?_
          exact tr_join [(0, (.pointer x0)), (1, (.int .i64 x1)), (5, (.int .i64 x5))] ⟨rfl, rfl, rfl, trivial⟩ ⟨_, _, _, rfl, H⟩
        · refine tr_seq ?_
          refine tr_region ?_
          refine tr_p (y_fa (off := 0) Try.runUnderlying114 fo_114_0 rfl) rfl rfl ?_
          obtain ⟨y26, k27, H⟩ := H
          refine tr_h (y_ld Try.isAgg4 rfl) k27 rfl rfl ?_
          refine tr_nil ?_
          refine tr_thenN ?_
          refine tr_cond rfl (fun g28 => ?_) (fun g28 => ?_)
          · replace H := H.1 g28
            refine tr_seq ?_
            refine tr_draw mixed [0, 1, 3, 7, 0, 16, 63, 127, 255, 255, 511, 2047] (by kernel_rfl) ?_
            refine g_p 0 1 rfl (by kernel_rfl) (y_move rfl) rfl rfl ?_
            obtain ⟨a29, e30, H⟩ := H
            refine g_p 1 3 rfl (by kernel_rfl) (f_nn rfl e30) rfl rfl ?_
            refine g_p 2 7 rfl (by kernel_rfl) (y_fa (off := 0) Try.runUnderlying104 fo_104_0 rfl) rfl rfl ?_
            obtain ⟨y31, k32, H⟩ := H
            refine g_h 3 15 rfl (by kernel_rfl) (y_ld Try.isAgg102 rfl) k32 rfl rfl ?_
            refine g_p 4 31 rfl (by kernel_rfl) (y_fa (off := 2) Try.runUnderlying114 fo_114_2 rfl) rfl rfl ?_
            obtain ⟨y33, k34, H⟩ := H
            refine g_h 5 63 rfl (by kernel_rfl) (y_ld Try.isAgg9 rfl) k34 rfl rfl ?_
            refine g_e 6 127 [] (by kernel_rfl) rfl (by kernel_rfl) (e_call Try.call73 rfl (F.spateref6_find_ok H)) rfl rfl ?_
            rintro _ h35 ⟨r36, r37, rfl, H⟩
            refine ⟨trivial, ?_⟩
            refine g_p 7 255 rfl (by kernel_rfl) (y_move rfl) rfl rfl ?_
            refine g_p 8 511 rfl (by kernel_rfl) (y_ext rfl rfl) rfl rfl ?_
            refine g_p 9 1023 rfl (by kernel_rfl) (y_ext rfl rfl) rfl rfl ?_
            refine g_p 10 2047 rfl (by kernel_rfl) (y_assign rfl) rfl rfl ?_
            refine g_p 11 4095 rfl (by kernel_rfl) (y_assign rfl) rfl rfl ?_
            refine g_d (by kernel_rfl) ?_
            refine tr_thenN ?_
            refine tr_seq ?_
            refine tr_draw mixed [0, 1, 3, 7, 0, 0, 63, 127] (by kernel_rfl) ?_
            refine g_p 0 1 rfl (by kernel_rfl) (y_move rfl) rfl rfl ?_
            obtain ⟨a38, e39, H⟩ := H
            refine g_p 1 3 rfl (by kernel_rfl) (f_nn rfl e39) rfl rfl ?_
            refine g_p 2 7 rfl (by kernel_rfl) (y_fa (off := 0) Try.runUnderlying104 fo_104_0 rfl) rfl rfl ?_
            obtain ⟨y40, k41, H⟩ := H
            refine g_h 3 15 rfl (by kernel_rfl) (y_ld Try.isAgg102 rfl) k41 rfl rfl ?_
            refine g_p 4 31 rfl (by kernel_rfl) (y_move rfl) rfl rfl ?_
            obtain ⟨y42, k43, H⟩ := H
            refine g_h 5 63 rfl (by kernel_rfl) (y_ldS Try.isAgg114 Try.sizeOf114 rfl rfl) k43 rfl rfl ?_
            obtain ⟨a44, e45, H⟩ := H
            refine g_p 6 127 rfl (by kernel_rfl) (f_idx (s := y40) Try.runUnderlying102 Try.sizeOf114 rfl rfl e45) rfl rfl ?_
            refine g_e 7 255 [] (by kernel_rfl) rfl (by kernel_rfl) (f_store (vs := y42.cells) Try.sizeOf114 rfl rfl cellsOfStruct rfl (by intro v hv; exact ones_S_spateref6_Place _ v hv) H) rfl rfl ?_
            rintro _ h46 ⟨rfl, H⟩
            refine ⟨trivial, ?_⟩
            refine g_d (by kernel_rfl) ?_
            refine tr_thenN ?_
            refine tr_draw mixed [0, 1, 3, 7, 0, 16, 48, 112, 0, 511, 1023] (by kernel_rfl) ?_
            refine g_p 0 1 rfl (by kernel_rfl) (y_move rfl) rfl rfl ?_
            obtain ⟨a47, e48, H⟩ := H
            refine g_p 1 3 rfl (by kernel_rfl) (f_nn rfl e48) rfl rfl ?_
            refine g_p 2 7 rfl (by kernel_rfl) (y_fa (off := 1) Try.runUnderlying104 fo_104_1 rfl) rfl rfl ?_
            obtain ⟨y49, k50, H⟩ := H
            refine g_h 3 15 rfl (by kernel_rfl) (y_ld Try.isAgg102 rfl) k50 rfl rfl ?_
            refine g_p 4 31 rfl (by kernel_rfl) (y_move rfl) rfl rfl ?_
            obtain ⟨a51, e52, H⟩ := H
            refine g_p 5 63 rfl (by kernel_rfl) (f_nn rfl e52) rfl rfl ?_
            refine g_p 6 127 rfl (by kernel_rfl) (y_fa (off := 2) Try.runUnderlying104 fo_104_2 rfl) rfl rfl ?_
            obtain ⟨y53, k54, H⟩ := H
            refine g_h 7 255 rfl (by kernel_rfl) (y_ld Try.isAgg3 rfl) k54 rfl rfl ?_
            refine g_p 8 511 rfl (by kernel_rfl) (f_build rfl (bd_114_1 true)) rfl rfl ?_
            obtain ⟨a55, e56, H⟩ := H
            refine g_p 9 1023 rfl (by kernel_rfl) (f_idx (s := y49) Try.runUnderlying102 Try.sizeOf114 rfl rfl e56) rfl rfl ?_
            refine g_e 10 2047 [] (by kernel_rfl) rfl (by kernel_rfl) (f_store (vs := (⟨false, true, (⟨#[]⟩ : ByteArray), 0⟩ : S_spateref6_Place).cells) Try.sizeOf114 rfl rfl cellsOfStruct rfl (by intro v hv; exact ones_S_spateref6_Place _ v hv) H) rfl rfl ?_
            rintro _ h57 ⟨rfl, H⟩
            refine ⟨trivial, ?_⟩
            refine g_d (by kernel_rfl) ?_
            refine tr_thenN ?_
            exact tr_join [(0, (.pointer x0)), (1, (.int .i64 x1)), (5, (.int .i64 x5))] ⟨rfl, rfl, rfl, trivial⟩ ⟨_, _, _, rfl, H⟩
          · replace H := H.2 g28
            refine tr_skip ?_
            refine tr_thenN ?_
            exact tr_join [(0, (.pointer x0)), (1, (.int .i64 x1)), (5, (.int .i64 x5))] ⟨rfl, rfl, rfl, trivial⟩ ⟨_, _, _, rfl, H⟩
    · refine tr_seq_j (fun L' h => ∃ (x0 : Option Addr) (x1 : Int) (x5 : Int) (x23 : Bool), L' = [(0, (.pointer x0)), (1, (.int .i64 x1)), (5, (.int .i64 x5)), (23, (.bool x23))] ∧ F.spateref6_Table_Move.j5 Q (F.spateref6_Table_Move.l1 Q q1) x0 x1 x5 x23 h) ?_ ?_
      · rintro L' h ⟨x0, x1, x5, x23, rfl, H⟩
        unfold F.spateref6_Table_Move.j5 at H
        refine tr_cond rfl (fun g58 => ?_) (fun g58 => ?_)
        · replace H := H.1 g58
          refine tr_skip ?_
          refine tr_thenN ?_
          exact tr_join [(0, (.pointer x0)), (1, (.int .i64 x1)), (5, (.int .i64 x5))] ⟨rfl, rfl, rfl, trivial⟩ ⟨_, _, _, rfl, H⟩
        · replace H := H.2 g58
          refine tr_exit ?_
          refine tr_thenE ?_
          refine tr_thenE ?_
          refine tr_hit ?_
          refine tr_thenN ?_
          refine tr_seq_j (fun L' h => ∃ (x0 : Option Addr), L' = [(0, (.pointer x0))] ∧ F.spateref6_Table_Move.j6 Q x0 h) ?_ ?_
          · rintro L' h ⟨x0, rfl, H⟩
            unfold F.spateref6_Table_Move.j6 at H
            refine tr_seq ?_
            refine tr_region ?_
            refine tr_p (y_move rfl) rfl rfl ?_
            refine tr_e (e_call Try.call72 rfl (F.spateref6_Table_Left_ok H)) rfl rfl ?_
            rintro _ h59 ⟨r60, rfl, H⟩
            refine tr_p (y_assign rfl) rfl rfl ?_
            refine tr_nil ?_
            refine tr_thenN ?_
            refine tr_ret ?_
            exact tr_ret1 rfl rfl ⟨_, rfl, H⟩
          · refine tr_seq ?_
            refine tr_draw mixed [0, 1, 3, 7, 0, 16, 48, 112, 240, 511] (by kernel_rfl) ?_
            refine g_p 0 1 rfl (by kernel_rfl) (y_move rfl) rfl rfl ?_
            obtain ⟨a61, e62, H⟩ := H
            refine g_p 1 3 rfl (by kernel_rfl) (f_nn rfl e62) rfl rfl ?_
            refine g_p 2 7 rfl (by kernel_rfl) (y_fa (off := 2) Try.runUnderlying104 fo_104_2 rfl) rfl rfl ?_
            obtain ⟨y63, k64, H⟩ := H
            refine g_h 3 15 rfl (by kernel_rfl) (y_ld Try.isAgg3 rfl) k64 rfl rfl ?_
            refine g_p 4 31 rfl (by kernel_rfl) (y_move rfl) rfl rfl ?_
            obtain ⟨a65, e66, H⟩ := H
            refine g_p 5 63 rfl (by kernel_rfl) (f_nn rfl e66) rfl rfl ?_
            refine g_p 6 127 rfl (by kernel_rfl) (y_fa (off := 1) Try.runUnderlying104 fo_104_1 rfl) rfl rfl ?_
            obtain ⟨y67, k68, H⟩ := H
            refine g_h 7 255 rfl (by kernel_rfl) (y_ld Try.isAgg102 rfl) k68 rfl rfl ?_
            refine g_p 8 511 rfl (by kernel_rfl) (y_len (ts := #[]) Try.runUnderlying102 (o := y67.ptr) (n := y67.len) (cap := y67.cap) rfl) rfl rfl ?_
            refine g_p 9 1023 rfl (by kernel_rfl) (y_eql rfl rfl) rfl rfl ?_
            refine g_d (by kernel_rfl) ?_
            refine tr_thenN ?_
            refine tr_cond rfl (fun g69 => ?_) (fun g69 => ?_)
            · replace H := H.1 g69
              refine tr_seq ?_
              refine tr_region ?_
              refine tr_p (y_move rfl) rfl rfl ?_
              obtain ⟨a70, e71, H⟩ := H
              refine tr_p (f_nn rfl e71) rfl rfl ?_
              refine tr_p (y_fa (off := 1) Try.runUnderlying104 fo_104_1 rfl) rfl rfl ?_
              refine tr_e (f_store (vs := [(⟨none, 0, 0⟩ : Sl).enc]) Try.sizeOf102 rfl rfl rfl rfl (one1 rfl) H) rfl rfl ?_
              rintro _ h72 ⟨rfl, H⟩
              refine tr_nil ?_
              refine tr_thenN ?_
              refine tr_region ?_
              refine tr_p (y_move rfl) rfl rfl ?_
              obtain ⟨a73, e74, H⟩ := H
              refine tr_p (f_nn rfl e74) rfl rfl ?_
              refine tr_p (y_fa (off := 2) Try.runUnderlying104 fo_104_2 rfl) rfl rfl ?_
              refine tr_e (f_store (vs := [(.int .i64 0)]) Try.sizeOf3 rfl rfl rfl rfl (one1 rfl) H) rfl rfl ?_
              rintro _ h75 ⟨rfl, H⟩
              refine tr_nil ?_
              refine tr_thenN ?_
              exact tr_join [(0, (.pointer x0))] ⟨rfl, trivial⟩ ⟨_, rfl, H⟩
            · replace H := H.2 g69
              refine tr_skip ?_
              refine tr_thenN ?_
              exact tr_join [(0, (.pointer x0))] ⟨rfl, trivial⟩ ⟨_, rfl, H⟩
      · refine tr_draw mixed [0, 0, 3, 7, 15, 31, 63, 127, 15, 271, 783, 1807, 3855, 8191, 16383] (by kernel_rfl) ?_
        refine g_p 0 1 rfl (by kernel_rfl) (y_move rfl) rfl rfl ?_
        refine g_p 1 3 rfl (by kernel_rfl) (y_move rfl) rfl rfl ?_
        refine g_p 2 7 rfl (by kernel_rfl) (y_lss rfl rfl) rfl rfl ?_
        refine g_p 3 15 rfl (by kernel_rfl) (y_move rfl) rfl rfl ?_
        refine g_split (t := 12) rfl (fun g76 => ?_) (fun g76 => ?_)
        · replace H := H.1 g76
          refine g_p 4 31 rfl (by kernel_rfl) (y_move rfl) rfl rfl ?_
          obtain ⟨a77, e78, H⟩ := H
          refine g_p 5 63 rfl (by kernel_rfl) (f_nn rfl e78) rfl rfl ?_
          refine g_p 6 127 rfl (by kernel_rfl) (y_fa (off := 2) Try.runUnderlying104 fo_104_2 rfl) rfl rfl ?_
          obtain ⟨y79, k80, H⟩ := H
          refine g_h 7 255 rfl (by kernel_rfl) (y_ld Try.isAgg3 rfl) k80 rfl rfl ?_
          refine g_p 8 511 rfl (by kernel_rfl) (y_move rfl) rfl rfl ?_
          obtain ⟨a81, e82, H⟩ := H
          refine g_p 9 1023 rfl (by kernel_rfl) (f_nn rfl e82) rfl rfl ?_
          refine g_p 10 2047 rfl (by kernel_rfl) (y_fa (off := 1) Try.runUnderlying104 fo_104_1 rfl) rfl rfl ?_
          obtain ⟨y83, k84, H⟩ := H
          refine g_h 11 4095 rfl (by kernel_rfl) (y_ld Try.isAgg102 rfl) k84 rfl rfl ?_
          refine g_p 12 8191 rfl (by kernel_rfl) (y_len (ts := #[]) Try.runUnderlying102 (o := y83.ptr) (n := y83.len) (cap := y83.cap) rfl) rfl rfl ?_
          refine g_p 13 16383 rfl (by kernel_rfl) (y_lss rfl rfl) rfl rfl ?_
          refine g_p 14 32767 rfl (by kernel_rfl) (y_pick_t rfl rfl) rfl rfl ?_
          refine g_d (by kernel_rfl) ?_
          refine tr_thenN ?_
          exact tr_join [(0, (.pointer x0)), (1, (.int .i64 x1)), (5, (.int .i64 x5)), (23, (.bool (decide (y79 < (y83.len : Int)))))] ⟨rfl, rfl, rfl, rfl, trivial⟩ ⟨_, _, _, _, rfl, H⟩
        · replace H := H.2 g76
          refine g_s 4 31 rfl (by kernel_rfl) rfl rfl ?_
          refine g_s 5 63 rfl (by kernel_rfl) rfl rfl ?_
          refine g_s 6 127 rfl (by kernel_rfl) rfl rfl ?_
          refine g_s 7 255 rfl (by kernel_rfl) rfl rfl ?_
          refine g_s 8 511 rfl (by kernel_rfl) rfl rfl ?_
          refine g_s 9 1023 rfl (by kernel_rfl) rfl rfl ?_
          refine g_s 10 2047 rfl (by kernel_rfl) rfl rfl ?_
          refine g_s 11 4095 rfl (by kernel_rfl) rfl rfl ?_
          refine g_s 12 8191 rfl (by kernel_rfl) rfl rfl ?_
          refine g_s 13 16383 rfl (by kernel_rfl) rfl rfl ?_
          refine g_p 14 32767 rfl (by kernel_rfl) (y_pick_f rfl rfl) rfl rfl ?_
          refine g_d (by kernel_rfl) ?_
          refine tr_thenN ?_
          exact tr_join [(0, (.pointer x0)), (1, (.int .i64 x1)), (5, (.int .i64 x5)), (23, (.bool false))] ⟨rfl, rfl, rfl, rfl, trivial⟩ ⟨_, _, _, _, rfl, H⟩

def F.spateref6_Table_Put.j2 (Q : H → Prop) (x0 : Option Addr) (x1 : ByteArray) (x2 : Int) (h : H) : Prop :=
  nn x0 fun a7 =>
  ldL h (a7.add 0) fun y9 =>
  F.spateref6_find y9 x1 h fun r12 r13 h11 =>
  nn x0 fun a14 =>
  ldL h11 (a14.add 0) fun y16 =>
  idxA y16 r12 4 fun a18 =>
  stH h11 a18 ((⟨true, false, x1, x2⟩ : S_spateref6_Place).cells) fun h20 =>
  nn x0 fun a21 =>
  ldI .i64 h20 (a21.add 3) fun y23 =>
  nn x0 fun a25 =>
  stH h20 (a25.add 3) [(.int .i64 (IntKind.wrap .i64 (y23 + 1)))] fun h27 =>
  Q h27
def F.spateref6_Table_Put.j1 (Q : H → Prop) (x0 : Option Addr) (x1 : ByteArray) (x2 : Int) (h : H) : Prop :=
  nn x0 fun a28 =>
  ldI .i64 h (a28.add 3) fun y30 =>
  nn x0 fun a32 =>
  ldL h (a32.add 0) fun y34 =>
  ((decide ((IntKind.wrap .i64 (4 * (IntKind.wrap .i64 (y30 + 1)))) > (IntKind.wrap .i64 (3 * (y34.len : Int))))) = true →
  F.spateref6_Table_Left x0 h fun r38 h37 =>
  F.spateref6_Table_Move x0 r38 h37 fun r40 h39 =>
  nn x0 fun a41 =>
  ldL h39 (a41.add 0) fun y43 =>
  nn x0 fun a45 =>
  stH h39 (a45.add 1) [y43.enc] fun h47 =>
  nn x0 fun a48 =>
  stH h47 (a48.add 2) [(.int .i64 0)] fun h50 =>
  nn x0 fun a51 =>
  ldL h50 (a51.add 1) fun y53 =>
  runL PP (Instr.makeSlice 102 (.int .i64 (IntKind.wrap .i64 (2 * (y53.len : Int)))) (.int .i64 (IntKind.wrap .i64 (2 * (y53.len : Int))))) h50 fun s56 h55 =>
  nn x0 fun a57 =>
  stH h55 (a57.add 0) [s56.enc] fun h59 =>
  F.spateref6_Table_Put.j2 Q x0 x1 x2 h59) ∧
  ((decide ((IntKind.wrap .i64 (4 * (IntKind.wrap .i64 (y30 + 1)))) > (IntKind.wrap .i64 (3 * (y34.len : Int))))) = false →
  F.spateref6_Table_Put.j2 Q x0 x1 x2 h)
def F.spateref6_Table_Put.j3 (Q : H → Prop) (x0 : Option Addr) (x1 : ByteArray) (x2 : Int) (x6 : Int) (x8 : Bool) (x18 : Bool) (h : H) : Prop :=
  (x18 = true →
  nn x0 fun a61 =>
  ldL h (a61.add 1) fun y63 =>
  idxA y63 x6 4 fun a65 =>
  stH h (a65.add 3) [(.int .i64 x2)] fun h67 =>
  Q h67) ∧
  (x18 = false →
  (x8 = true →
  nn x0 fun a69 =>
  ldL h (a69.add 0) fun y71 =>
  idxA y71 x6 4 fun a73 =>
  stH h (a73.add 3) [(.int .i64 x2)] fun h75 =>
  Q h75) ∧
  (x8 = false →
  F.spateref6_Table_Put.j1 Q x0 x1 x2 h))
/-- (*spate/spateref6.Table).Put -/
def F.spateref6_Table_Put (p0 : Option Addr) (p1 : ByteArray) (p2 : Int) (h : H) (Q : H → Prop) : Prop :=
  F.spateref6_Table_Move p0 4 h fun r2 h1 =>
  F.spateref6_Table_Place p0 p1 h1 fun r4 r5 r6 h3 =>
  (r6 = true →
  F.spateref6_Table_Put.j3 Q p0 p1 p2 r4 r6 r5 h3) ∧
  (r6 = false →
  F.spateref6_Table_Put.j3 Q p0 p1 p2 r4 r6 false h3)
theorem F.spateref6_Table_Put_ok {p0 : Option Addr} {p1 : ByteArray} {p2 : Int} {h : H} {Q : H → Prop} (H : F.spateref6_Table_Put p0 p1 p2 h Q) : Fn PP 58 ([(.pointer p0), (.string p1), (.int .i64 p2)] : List Value).toArray h fun r h' => r = .tuple #[] ∧ Q  h' := by
  unfold F.spateref6_Table_Put at H
  refine fn_of Try.func58 Try.ntmps58 rfl rfl fun w0 => ?_
  refine tr_sub [(0, (.pointer p0)), (1, (.string p1)), (2, (.int .i64 p2))] ⟨rfl, rfl, rfl, trivial⟩ ?_
  refine tr_seq ?_
  refine tr_region ?_
  refine tr_p (y_move rfl) rfl rfl ?_
  refine tr_e (e_call Try.call60 rfl (F.spateref6_Table_Move_ok H)) rfl rfl ?_
  rintro _ h1 ⟨r2, rfl, H⟩
  refine tr_nil ?_
  refine tr_thenN ?_
  refine tr_seq ?_
  refine tr_region ?_
  refine tr_p (y_move rfl) rfl rfl ?_
  refine tr_p (y_move rfl) rfl rfl ?_
  refine tr_e (e_call Try.call64 rfl (F.spateref6_Table_Place_ok H)) rfl rfl ?_
  rintro _ h3 ⟨r4, r5, r6, rfl, H⟩
  refine tr_p (y_move rfl) rfl rfl ?_
  refine tr_p (y_ext rfl rfl) rfl rfl ?_
  refine tr_p (y_ext rfl rfl) rfl rfl ?_
  refine tr_p (y_ext rfl rfl) rfl rfl ?_
  refine tr_p (y_assign rfl) rfl rfl ?_
  refine tr_p (y_assign rfl) rfl rfl ?_
  refine tr_p (y_assign rfl) rfl rfl ?_
  refine tr_nil ?_
  refine tr_thenN ?_
  refine tr_seq_j (fun L' h => ∃ (x0 : Option Addr) (x1 : ByteArray) (x2 : Int), L' = [(0, (.pointer x0)), (1, (.string x1)), (2, (.int .i64 x2))] ∧ F.spateref6_Table_Put.j1 Q x0 x1 x2 h) ?_ ?_
  · rintro L' h ⟨x0, x1, x2, rfl, H⟩
    unfold F.spateref6_Table_Put.j1 at H
    refine tr_seq_j (fun L' h => ∃ (x0 : Option Addr) (x1 : ByteArray) (x2 : Int), L' = [(0, (.pointer x0)), (1, (.string x1)), (2, (.int .i64 x2))] ∧ F.spateref6_Table_Put.j2 Q x0 x1 x2 h) ?_ ?_
    · rintro L' h ⟨x0, x1, x2, rfl, H⟩
      unfold F.spateref6_Table_Put.j2 at H
      refine tr_seq ?_
      refine tr_region ?_
      refine tr_p (y_move rfl) rfl rfl ?_
      obtain ⟨a7, e8, H⟩ := H
      refine tr_p (f_nn rfl e8) rfl rfl ?_
      refine tr_p (y_fa (off := 0) Try.runUnderlying104 fo_104_0 rfl) rfl rfl ?_
      obtain ⟨y9, k10, H⟩ := H
      refine tr_h (y_ld Try.isAgg102 rfl) k10 rfl rfl ?_
      refine tr_p (y_move rfl) rfl rfl ?_
      refine tr_e (e_call Try.call73 rfl (F.spateref6_find_ok H)) rfl rfl ?_
      rintro _ h11 ⟨r12, r13, rfl, H⟩
      refine tr_p (y_move rfl) rfl rfl ?_
      refine tr_p (y_ext rfl rfl) rfl rfl ?_
      refine tr_p (y_ext rfl rfl) rfl rfl ?_
      refine tr_p (y_assign rfl) rfl rfl ?_
      refine tr_nil ?_
      refine tr_thenN ?_
      refine tr_seq ?_
      refine tr_region ?_
      refine tr_p (y_move rfl) rfl rfl ?_
      obtain ⟨a14, e15, H⟩ := H
      refine tr_p (f_nn rfl e15) rfl rfl ?_
      refine tr_p (y_fa (off := 0) Try.runUnderlying104 fo_104_0 rfl) rfl rfl ?_
      obtain ⟨y16, k17, H⟩ := H
      refine tr_h (y_ld Try.isAgg102 rfl) k17 rfl rfl ?_
      refine tr_p (y_move rfl) rfl rfl ?_
      refine tr_p (y_move rfl) rfl rfl ?_
      refine tr_p (y_move rfl) rfl rfl ?_
      refine tr_p (f_build rfl (bd_114_0_2_3 true x1 x2)) rfl rfl ?_
      obtain ⟨a18, e19, H⟩ := H
      refine tr_p (f_idx (s := y16) Try.runUnderlying102 Try.sizeOf114 rfl rfl e19) rfl rfl ?_
      refine tr_e (f_store (vs := (⟨true, false, x1, x2⟩ : S_spateref6_Place).cells) Try.sizeOf114 rfl rfl cellsOfStruct rfl (by intro v hv; exact ones_S_spateref6_Place _ v hv) H) rfl rfl ?_
      rintro _ h20 ⟨rfl, H⟩
      refine tr_nil ?_
      refine tr_thenN ?_
      refine tr_region ?_
      refine tr_p (y_move rfl) rfl rfl ?_
      obtain ⟨a21, e22, H⟩ := H
      refine tr_p (f_nn rfl e22) rfl rfl ?_
      refine tr_p (y_fa (off := 3) Try.runUnderlying104 fo_104_3 rfl) rfl rfl ?_
      obtain ⟨y23, k24, H⟩ := H
      refine tr_h (y_ld Try.isAgg3 rfl) k24 rfl rfl ?_
      refine tr_p (y_add rfl rfl) rfl rfl ?_
      obtain ⟨a25, e26, H⟩ := H
      refine tr_p (f_nn rfl e26) rfl rfl ?_
      refine tr_p (y_fa (off := 3) Try.runUnderlying104 fo_104_3 rfl) rfl rfl ?_
      refine tr_e (f_store (vs := [(.int .i64 (IntKind.wrap .i64 (y23 + 1)))]) Try.sizeOf3 rfl rfl rfl rfl (one1 rfl) H) rfl rfl ?_
      rintro _ h27 ⟨rfl, H⟩
      refine tr_nil ?_
      exact tr_end0 rfl ⟨rfl, H⟩
    · refine tr_seq ?_
      refine tr_draw mixed [0, 1, 3, 7, 15, 31, 0, 64, 192, 448, 960, 1984, 4095] (by kernel_rfl) ?_
      refine g_p 0 1 rfl (by kernel_rfl) (y_move rfl) rfl rfl ?_
      obtain ⟨a28, e29, H⟩ := H
      refine g_p 1 3 rfl (by kernel_rfl) (f_nn rfl e29) rfl rfl ?_
      refine g_p 2 7 rfl (by kernel_rfl) (y_fa (off := 3) Try.runUnderlying104 fo_104_3 rfl) rfl rfl ?_
      obtain ⟨y30, k31, H⟩ := H
      refine g_h 3 15 rfl (by kernel_rfl) (y_ld Try.isAgg3 rfl) k31 rfl rfl ?_
      refine g_p 4 31 rfl (by kernel_rfl) (y_add rfl rfl) rfl rfl ?_
      refine g_p 5 63 rfl (by kernel_rfl) (y_mul rfl rfl) rfl rfl ?_
      refine g_p 6 127 rfl (by kernel_rfl) (y_move rfl) rfl rfl ?_
      obtain ⟨a32, e33, H⟩ := H
      refine g_p 7 255 rfl (by kernel_rfl) (f_nn rfl e33) rfl rfl ?_
      refine g_p 8 511 rfl (by kernel_rfl) (y_fa (off := 0) Try.runUnderlying104 fo_104_0 rfl) rfl rfl ?_
      obtain ⟨y34, k35, H⟩ := H
      refine g_h 9 1023 rfl (by kernel_rfl) (y_ld Try.isAgg102 rfl) k35 rfl rfl ?_
      refine g_p 10 2047 rfl (by kernel_rfl) (y_len (ts := #[]) Try.runUnderlying102 (o := y34.ptr) (n := y34.len) (cap := y34.cap) rfl) rfl rfl ?_
      refine g_p 11 4095 rfl (by kernel_rfl) (y_mul rfl rfl) rfl rfl ?_
      refine g_p 12 8191 rfl (by kernel_rfl) (y_gtr rfl rfl) rfl rfl ?_
      refine g_d (by kernel_rfl) ?_
      refine tr_thenN ?_
      refine tr_cond rfl (fun g36 => ?_) (fun g36 => ?_)
      · replace H := H.1 g36
        refine tr_seq ?_
        refine tr_region ?_
        refine tr_p (y_move rfl) rfl rfl ?_
        refine tr_p (y_move rfl) rfl rfl ?_
        refine tr_e (e_call Try.call72 rfl (F.spateref6_Table_Left_ok H)) rfl rfl ?_
        rintro _ h37 ⟨r38, rfl, H⟩
        refine tr_e (e_call Try.call60 rfl (F.spateref6_Table_Move_ok H)) rfl rfl ?_
        rintro _ h39 ⟨r40, rfl, H⟩
        refine tr_nil ?_
        refine tr_thenN ?_
        refine tr_seq ?_
        refine tr_region ?_
        refine tr_p (y_move rfl) rfl rfl ?_
        refine tr_p (y_move rfl) rfl rfl ?_
        obtain ⟨a41, e42, H⟩ := H
        refine tr_p (f_nn rfl e42) rfl rfl ?_
        refine tr_p (y_fa (off := 0) Try.runUnderlying104 fo_104_0 rfl) rfl rfl ?_
        obtain ⟨y43, k44, H⟩ := H
        refine tr_h (y_ld Try.isAgg102 rfl) k44 rfl rfl ?_
        obtain ⟨a45, e46, H⟩ := H
        refine tr_p (f_nn rfl e46) rfl rfl ?_
        refine tr_p (y_fa (off := 1) Try.runUnderlying104 fo_104_1 rfl) rfl rfl ?_
        refine tr_e (f_store (vs := [y43.enc]) Try.sizeOf102 rfl rfl rfl rfl (one1 rfl) H) rfl rfl ?_
        rintro _ h47 ⟨rfl, H⟩
        refine tr_nil ?_
        refine tr_thenN ?_
        refine tr_seq ?_
        refine tr_region ?_
        refine tr_p (y_move rfl) rfl rfl ?_
        obtain ⟨a48, e49, H⟩ := H
        refine tr_p (f_nn rfl e49) rfl rfl ?_
        refine tr_p (y_fa (off := 2) Try.runUnderlying104 fo_104_2 rfl) rfl rfl ?_
        refine tr_e (f_store (vs := [(.int .i64 0)]) Try.sizeOf3 rfl rfl rfl rfl (one1 rfl) H) rfl rfl ?_
        rintro _ h50 ⟨rfl, H⟩
        refine tr_nil ?_
        refine tr_thenN ?_
        refine tr_region ?_
        refine tr_p (y_move rfl) rfl rfl ?_
        refine tr_p (y_move rfl) rfl rfl ?_
        obtain ⟨a51, e52, H⟩ := H
        refine tr_p (f_nn rfl e52) rfl rfl ?_
        refine tr_p (y_fa (off := 1) Try.runUnderlying104 fo_104_1 rfl) rfl rfl ?_
        obtain ⟨y53, k54, H⟩ := H
        refine tr_h (y_ld Try.isAgg102 rfl) k54 rfl rfl ?_
        refine tr_p (y_len (ts := #[]) Try.runUnderlying102 (o := y53.ptr) (n := y53.len) (cap := y53.cap) rfl) rfl rfl ?_
        refine tr_p (y_mul rfl rfl) rfl rfl ?_
        refine tr_e (f_make rfl rfl H) rfl rfl ?_
        rintro _ h55 ⟨s56, rfl, H⟩
        obtain ⟨a57, e58, H⟩ := H
        refine tr_p (f_nn rfl e58) rfl rfl ?_
        refine tr_p (y_fa (off := 0) Try.runUnderlying104 fo_104_0 rfl) rfl rfl ?_
        refine tr_e (f_store (vs := [s56.enc]) Try.sizeOf102 rfl rfl rfl rfl (one1 rfl) H) rfl rfl ?_
        rintro _ h59 ⟨rfl, H⟩
        refine tr_nil ?_
        refine tr_thenN ?_
        exact tr_join [(0, (.pointer x0)), (1, (.string x1)), (2, (.int .i64 x2))] ⟨rfl, rfl, rfl, trivial⟩ ⟨_, _, _, rfl, H⟩
      · replace H := H.2 g36
        refine tr_skip ?_
        refine tr_thenN ?_
        exact tr_join [(0, (.pointer x0)), (1, (.string x1)), (2, (.int .i64 x2))] ⟨rfl, rfl, rfl, trivial⟩ ⟨_, _, _, rfl, H⟩
  · refine tr_block ?_
    refine tr_seq_j (fun L' h => ∃ (x0 : Option Addr) (x1 : ByteArray) (x2 : Int) (x6 : Int) (x8 : Bool) (x18 : Bool), L' = [(0, (.pointer x0)), (1, (.string x1)), (2, (.int .i64 x2)), (6, (.int .i64 x6)), (8, (.bool x8)), (18, (.bool x18))] ∧ F.spateref6_Table_Put.j3 Q x0 x1 x2 x6 x8 x18 h) ?_ ?_
    · rintro L' h ⟨x0, x1, x2, x6, x8, x18, rfl, H⟩
      unfold F.spateref6_Table_Put.j3 at H
      refine tr_cond rfl (fun g60 => ?_) (fun g60 => ?_)
      · replace H := H.1 g60
        refine tr_seq ?_
        refine tr_region ?_
        refine tr_p (y_move rfl) rfl rfl ?_
        obtain ⟨a61, e62, H⟩ := H
        refine tr_p (f_nn rfl e62) rfl rfl ?_
        refine tr_p (y_fa (off := 1) Try.runUnderlying104 fo_104_1 rfl) rfl rfl ?_
        obtain ⟨y63, k64, H⟩ := H
        refine tr_h (y_ld Try.isAgg102 rfl) k64 rfl rfl ?_
        refine tr_p (y_move rfl) rfl rfl ?_
        refine tr_p (y_move rfl) rfl rfl ?_
        obtain ⟨a65, e66, H⟩ := H
        refine tr_p (f_idx (s := y63) Try.runUnderlying102 Try.sizeOf114 rfl rfl e66) rfl rfl ?_
        refine tr_p (y_fa (off := 3) Try.runUnderlying114 fo_114_3 rfl) rfl rfl ?_
        refine tr_e (f_store (vs := [(.int .i64 x2)]) Try.sizeOf3 rfl rfl rfl rfl (one1 rfl) H) rfl rfl ?_
        rintro _ h67 ⟨rfl, H⟩
        refine tr_nil ?_
        refine tr_thenN ?_
        refine tr_ret ?_
        refine tr_blockR ?_
        refine tr_thenR ?_
        exact tr_ret0 rfl ⟨rfl, H⟩
      · replace H := H.2 g60
        refine tr_seq ?_
        refine tr_region ?_
        refine tr_p (y_move rfl) rfl rfl ?_
        refine tr_p (y_assign rfl) rfl rfl ?_
        refine tr_nil ?_
        refine tr_thenN ?_
        refine tr_cond rfl (fun g68 => ?_) (fun g68 => ?_)
        · replace H := H.1 g68
          refine tr_seq ?_
          refine tr_region ?_
          refine tr_p (y_move rfl) rfl rfl ?_
          obtain ⟨a69, e70, H⟩ := H
          refine tr_p (f_nn rfl e70) rfl rfl ?_
          refine tr_p (y_fa (off := 0) Try.runUnderlying104 fo_104_0 rfl) rfl rfl ?_
          obtain ⟨y71, k72, H⟩ := H
          refine tr_h (y_ld Try.isAgg102 rfl) k72 rfl rfl ?_
          refine tr_p (y_move rfl) rfl rfl ?_
          refine tr_p (y_move rfl) rfl rfl ?_
          obtain ⟨a73, e74, H⟩ := H
          refine tr_p (f_idx (s := y71) Try.runUnderlying102 Try.sizeOf114 rfl rfl e74) rfl rfl ?_
          refine tr_p (y_fa (off := 3) Try.runUnderlying114 fo_114_3 rfl) rfl rfl ?_
          refine tr_e (f_store (vs := [(.int .i64 x2)]) Try.sizeOf3 rfl rfl rfl rfl (one1 rfl) H) rfl rfl ?_
          rintro _ h75 ⟨rfl, H⟩
          refine tr_nil ?_
          refine tr_thenN ?_
          refine tr_ret ?_
          refine tr_blockR ?_
          refine tr_thenR ?_
          exact tr_ret0 rfl ⟨rfl, H⟩
        · replace H := H.2 g68
          refine tr_skip ?_
          refine tr_blockN ?_
          refine tr_thenN ?_
          exact tr_join [(0, (.pointer x0)), (1, (.string x1)), (2, (.int .i64 x2))] ⟨rfl, rfl, rfl, trivial⟩ ⟨_, _, _, rfl, H⟩
    · refine tr_region ?_
      refine tr_p (y_move rfl) rfl rfl ?_
      refine tr_p (y_move rfl) rfl rfl ?_
      refine tr_split (t := 20) rfl (fun g76 => ?_) (fun g76 => ?_)
      · replace H := H.1 g76
        refine tr_p (y_move rfl) rfl rfl ?_
        refine tr_p (y_pick_t rfl rfl) rfl rfl ?_
        refine tr_p (y_assign rfl) rfl rfl ?_
        refine tr_nil ?_
        refine tr_thenN ?_
        exact tr_join [(0, (.pointer p0)), (1, (.string p1)), (2, (.int .i64 p2)), (6, (.int .i64 r4)), (8, (.bool r6)), (18, (.bool r5))] ⟨rfl, rfl, rfl, rfl, rfl, rfl, trivial⟩ ⟨_, _, _, _, _, _, rfl, H⟩
      · replace H := H.2 g76
        refine tr_s rfl rfl ?_
        refine tr_p (y_pick_f rfl rfl) rfl rfl ?_
        refine tr_p (y_assign rfl) rfl rfl ?_
        refine tr_nil ?_
        refine tr_thenN ?_
        exact tr_join [(0, (.pointer p0)), (1, (.string p1)), (2, (.int .i64 p2)), (6, (.int .i64 r4)), (8, (.bool r6)), (18, (.bool false))] ⟨rfl, rfl, rfl, rfl, rfl, rfl, trivial⟩ ⟨_, _, _, _, _, _, rfl, H⟩

/-- spate/spateref6.behind -/
def F.spateref6_behind (p0 : Int) (p1 : Int) (p2 : Int) (h : H) (Q : Bool → H → Prop) : Prop :=
  ((decide (p0 < p2)) = true →
  ((decide (p1 > p0)) = true →
  Q (decide (p1 ≤ p2)) h) ∧
  ((decide (p1 > p0)) = false →
  Q false h)) ∧
  ((decide (p0 < p2)) = false →
  ((decide (p1 > p0)) = true →
  Q true h) ∧
  ((decide (p1 > p0)) = false →
  Q (decide (p1 ≤ p2)) h))
theorem F.spateref6_behind_ok {p0 : Int} {p1 : Int} {p2 : Int} {h : H} {Q : Bool → H → Prop} (H : F.spateref6_behind p0 p1 p2 h Q) : Fn PP 74 ([(.int .i64 p0), (.int .i64 p1), (.int .i64 p2)] : List Value).toArray h fun r h' => ∃ r0, r = (.bool r0) ∧ Q r0 h' := by
  unfold F.spateref6_behind at H
  refine fn_of Try.func74 Try.ntmps74 rfl rfl fun w0 => ?_
  refine tr_sub [(0, (.int .i64 p0)), (1, (.int .i64 p1)), (2, (.int .i64 p2))] ⟨rfl, rfl, rfl, trivial⟩ ?_
  refine tr_seq ?_
  refine tr_region ?_
  refine tr_p (y_assign rfl) rfl rfl ?_
  refine tr_nil ?_
  refine tr_thenN ?_
  refine tr_seq ?_
  refine tr_seq ?_
  refine tr_region ?_
  refine tr_p (y_move rfl) rfl rfl ?_
  refine tr_p (y_move rfl) rfl rfl ?_
  refine tr_p (y_lss rfl rfl) rfl rfl ?_
  refine tr_nil ?_
  refine tr_thenN ?_
  refine tr_cond rfl (fun g1 => ?_) (fun g1 => ?_)
  · replace H := H.1 g1
    refine tr_seq ?_
    refine tr_region ?_
    refine tr_p (y_move rfl) rfl rfl ?_
    refine tr_p (y_move rfl) rfl rfl ?_
    refine tr_p (y_gtr rfl rfl) rfl rfl ?_
    refine tr_p (y_move rfl) rfl rfl ?_
    refine tr_split (t := 13) rfl (fun g2 => ?_) (fun g2 => ?_)
    · replace H := H.1 g2
      refine tr_p (y_move rfl) rfl rfl ?_
      refine tr_p (y_move rfl) rfl rfl ?_
      refine tr_p (y_leq rfl rfl) rfl rfl ?_
      refine tr_p (y_pick_t rfl rfl) rfl rfl ?_
      refine tr_p (y_assign rfl) rfl rfl ?_
      refine tr_nil ?_
      refine tr_thenN ?_
      refine tr_ret ?_
      refine tr_thenR ?_
      exact tr_ret1 rfl rfl ⟨_, rfl, H⟩
    · replace H := H.2 g2
      refine tr_s rfl rfl ?_
      refine tr_s rfl rfl ?_
      refine tr_s rfl rfl ?_
      refine tr_p (y_pick_f rfl rfl) rfl rfl ?_
      refine tr_p (y_assign rfl) rfl rfl ?_
      refine tr_nil ?_
      refine tr_thenN ?_
      refine tr_ret ?_
      refine tr_thenR ?_
      exact tr_ret1 rfl rfl ⟨_, rfl, H⟩
  · replace H := H.2 g1
    refine tr_skip ?_
    refine tr_thenN ?_
    refine tr_seq ?_
    refine tr_region ?_
    refine tr_p (y_move rfl) rfl rfl ?_
    refine tr_p (y_move rfl) rfl rfl ?_
    refine tr_p (y_gtr rfl rfl) rfl rfl ?_
    refine tr_p (y_move rfl) rfl rfl ?_
    refine tr_split (t := 21) rfl (fun g3 => ?_) (fun g3 => ?_)
    · replace H := H.1 g3
      refine tr_s rfl rfl ?_
      refine tr_s rfl rfl ?_
      refine tr_s rfl rfl ?_
      refine tr_p (y_pick_t rfl rfl) rfl rfl ?_
      refine tr_p (y_assign rfl) rfl rfl ?_
      refine tr_nil ?_
      refine tr_thenN ?_
      refine tr_ret ?_
      exact tr_ret1 rfl rfl ⟨_, rfl, H⟩
    · replace H := H.2 g3
      refine tr_p (y_move rfl) rfl rfl ?_
      refine tr_p (y_move rfl) rfl rfl ?_
      refine tr_p (y_leq rfl rfl) rfl rfl ?_
      refine tr_p (y_pick_f rfl rfl) rfl rfl ?_
      refine tr_p (y_assign rfl) rfl rfl ?_
      refine tr_nil ?_
      refine tr_thenN ?_
      refine tr_ret ?_
      exact tr_ret1 rfl rfl ⟨_, rfl, H⟩

def F.spateref6_Table_Drop.j2 (Q : Int → Bool → H → Prop) (C1 : (Option Addr) → Int → Int → Int → H → Prop) (x0 : Option Addr) (x6 : Int) (x10 : Int) (x11 : Int) (h : H) : Prop :=
  nn x0 fun a60 =>
  ldL h (a60.add 0) fun y62 =>
  ((y62.len : Int) : Int) ≠ 0 ∧
  C1 x0 x6 x10 (Int.tmod (IntKind.wrap .i64 (x11 + 1)) (y62.len : Int)) h
def F.spateref6_Table_Drop.l1 (Q : Int → Bool → H → Prop) : Nat → (Option Addr) → Int → Int → Int → H → Prop
  | 0, _, _, _, _, _ => False
  | q1 + 1, x0, x6, x10, x11, h =>
    nn x0 fun a51 =>
    ldL h (a51.add 0) fun y53 =>
    idxA y53 x11 4 fun a55 =>
    ldB h (a55.add 0) fun y57 =>
    (y57 = true →
    nn x0 fun a65 =>
    ldL h (a65.add 0) fun y67 =>
    nn x0 fun a69 =>
    ldL h (a69.add 0) fun y71 =>
    idxA y71 x11 4 fun a73 =>
    ldS h (a73.add 2) fun y75 =>
    F.spateref6_home y67 y75 h fun r78 h77 =>
    F.spateref6_behind x6 r78 x11 h77 fun r80 h79 =>
    ((!r80) = true →
    nn x0 fun a82 =>
    ldL h79 (a82.add 0) fun y84 =>
    nn x0 fun a86 =>
    ldL h79 (a86.add 0) fun y88 =>
    idxA y88 x11 4 fun a90 =>
    ld_S_spateref6_Place h79 a90 fun y92 =>
    idxA y84 x6 4 fun a94 =>
    stH h79 a94 y92.cells fun h96 =>
    nn x0 fun a97 =>
    ldL h96 (a97.add 0) fun y99 =>
    idxA y99 x11 4 fun a101 =>
    stH h96 a101 ((⟨false, false, (⟨#[]⟩ : ByteArray), 0⟩ : S_spateref6_Place).cells) fun h103 =>
    F.spateref6_Table_Drop.j2 Q (F.spateref6_Table_Drop.l1 Q q1) x0 x11 x10 x11 h103) ∧
    ((!r80) = false →
    F.spateref6_Table_Drop.j2 Q (F.spateref6_Table_Drop.l1 Q q1) x0 x6 x10 x11 h79)) ∧
    (y57 = false →
    Q x10 true h)
/-- (*spate/spateref6.Table).Drop -/
def F.spateref6_Table_Drop (p0 : Option Addr) (p1 : ByteArray) (h : H) (Q : Int → Bool → H → Prop) : Prop :=
  F.spateref6_Table_Move p0 4 h fun r2 h1 =>
  F.spateref6_Table_Place p0 p1 h1 fun r4 r5 r6 h3 =>
  ((!r6) = true →
  Q 0 false h3) ∧
  ((!r6) = false →
  nn p0 fun a8 =>
  ldI .i64 h3 (a8.add 3) fun y10 =>
  nn p0 fun a12 =>
  stH h3 (a12.add 3) [(.int .i64 (IntKind.wrap .i64 (y10 - 1)))] fun h14 =>
  (r5 = true →
  nn p0 fun a16 =>
  ldL h14 (a16.add 1) fun y18 =>
  idxA y18 r4 4 fun a20 =>
  ldI .i64 h14 (a20.add 3) fun y22 =>
  nn p0 fun a24 =>
  ldL h14 (a24.add 1) fun y26 =>
  idxA y26 r4 4 fun a28 =>
  stH h14 a28 ((⟨false, true, (⟨#[]⟩ : ByteArray), 0⟩ : S_spateref6_Place).cells) fun h30 =>
  Q y22 true h30) ∧
  (r5 = false →
  nn p0 fun a31 =>
  ldL h14 (a31.add 0) fun y33 =>
  idxA y33 r4 4 fun a35 =>
  ldI .i64 h14 (a35.add 3) fun y37 =>
  nn p0 fun a39 =>
  ldL h14 (a39.add 0) fun y41 =>
  idxA y41 r4 4 fun a43 =>
  stH h14 a43 ((⟨false, false, (⟨#[]⟩ : ByteArray), 0⟩ : S_spateref6_Place).cells) fun h45 =>
  nn p0 fun a46 =>
  ldL h45 (a46.add 0) fun y48 =>
  ((y48.len : Int) : Int) ≠ 0 ∧
  ∃ m, F.spateref6_Table_Drop.l1 Q m p0 r4 y37 (Int.tmod (IntKind.wrap .i64 (r4 + 1)) (y48.len : Int)) h45))
theorem F.spateref6_Table_Drop_ok {p0 : Option Addr} {p1 : ByteArray} {h : H} {Q : Int → Bool → H → Prop} (H : F.spateref6_Table_Drop p0 p1 h Q) : Fn PP 59 ([(.pointer p0), (.string p1)] : List Value).toArray h fun r h' => ∃ r0 r1, r = .tuple #[(.int .i64 r0), (.bool r1)] ∧ Q r0 r1 h' := by
  unfold F.spateref6_Table_Drop at H
  refine fn_of Try.func59 Try.ntmps59 rfl rfl fun w0 => ?_
  refine tr_sub [(0, (.pointer p0)), (1, (.string p1))] ⟨rfl, rfl, trivial⟩ ?_
  refine tr_seq ?_
  refine tr_region ?_
  refine tr_p (y_assign rfl) rfl rfl ?_
  refine tr_p (y_assign rfl) rfl rfl ?_
  refine tr_nil ?_
  refine tr_thenN ?_
  refine tr_seq ?_
  refine tr_region ?_
  refine tr_p (y_move rfl) rfl rfl ?_
  refine tr_e (e_call Try.call60 rfl (F.spateref6_Table_Move_ok H)) rfl rfl ?_
  rintro _ h1 ⟨r2, rfl, H⟩
  refine tr_nil ?_
  refine tr_thenN ?_
  refine tr_seq ?_
  refine tr_region ?_
  refine tr_p (y_move rfl) rfl rfl ?_
  refine tr_p (y_move rfl) rfl rfl ?_
  refine tr_e (e_call Try.call64 rfl (F.spateref6_Table_Place_ok H)) rfl rfl ?_
  rintro _ h3 ⟨r4, r5, r6, rfl, H⟩
  refine tr_p (y_move rfl) rfl rfl ?_
  refine tr_p (y_ext rfl rfl) rfl rfl ?_
  refine tr_p (y_ext rfl rfl) rfl rfl ?_
  refine tr_p (y_ext rfl rfl) rfl rfl ?_
  refine tr_p (y_assign rfl) rfl rfl ?_
  refine tr_p (y_assign rfl) rfl rfl ?_
  refine tr_p (y_assign rfl) rfl rfl ?_
  refine tr_nil ?_
  refine tr_thenN ?_
  refine tr_seq ?_
  refine tr_seq ?_
  refine tr_region ?_
  refine tr_p (y_move rfl) rfl rfl ?_
  refine tr_p (y_not rfl) rfl rfl ?_
  refine tr_nil ?_
  refine tr_thenN ?_
  refine tr_cond rfl (fun g7 => ?_) (fun g7 => ?_)
  · replace H := H.1 g7
    refine tr_seq ?_
    refine tr_region ?_
    refine tr_p (y_assign rfl) rfl rfl ?_
    refine tr_p (y_assign rfl) rfl rfl ?_
    refine tr_nil ?_
    refine tr_thenN ?_
    refine tr_ret ?_
    refine tr_thenR ?_
    exact tr_ret2 rfl rfl rfl ⟨_, _, rfl, H⟩
  · replace H := H.2 g7
    refine tr_skip ?_
    refine tr_thenN ?_
    refine tr_seq ?_
    refine tr_region ?_
    refine tr_p (y_move rfl) rfl rfl ?_
    obtain ⟨a8, e9, H⟩ := H
    refine tr_p (f_nn rfl e9) rfl rfl ?_
    refine tr_p (y_fa (off := 3) Try.runUnderlying104 fo_104_3 rfl) rfl rfl ?_
    obtain ⟨y10, k11, H⟩ := H
    refine tr_h (y_ld Try.isAgg3 rfl) k11 rfl rfl ?_
    refine tr_p (y_sub rfl rfl) rfl rfl ?_
    obtain ⟨a12, e13, H⟩ := H
    refine tr_p (f_nn rfl e13) rfl rfl ?_
    refine tr_p (y_fa (off := 3) Try.runUnderlying104 fo_104_3 rfl) rfl rfl ?_
    refine tr_e (f_store (vs := [(.int .i64 (IntKind.wrap .i64 (y10 - 1)))]) Try.sizeOf3 rfl rfl rfl rfl (one1 rfl) H) rfl rfl ?_
    rintro _ h14 ⟨rfl, H⟩
    refine tr_nil ?_
    refine tr_thenN ?_
    refine tr_seq ?_
    refine tr_seq ?_
    refine tr_region ?_
    refine tr_p (y_move rfl) rfl rfl ?_
    refine tr_nil ?_
    refine tr_thenN ?_
    refine tr_cond rfl (fun g15 => ?_) (fun g15 => ?_)
    · replace H := H.1 g15
      refine tr_seq ?_
      refine tr_region ?_
      refine tr_p (y_move rfl) rfl rfl ?_
      obtain ⟨a16, e17, H⟩ := H
      refine tr_p (f_nn rfl e17) rfl rfl ?_
      refine tr_p (y_fa (off := 1) Try.runUnderlying104 fo_104_1 rfl) rfl rfl ?_
      obtain ⟨y18, k19, H⟩ := H
      refine tr_h (y_ld Try.isAgg102 rfl) k19 rfl rfl ?_
      refine tr_p (y_move rfl) rfl rfl ?_
      obtain ⟨a20, e21, H⟩ := H
      refine tr_p (f_idx (s := y18) Try.runUnderlying102 Try.sizeOf114 rfl rfl e21) rfl rfl ?_
      refine tr_p (y_fa (off := 3) Try.runUnderlying114 fo_114_3 rfl) rfl rfl ?_
      obtain ⟨y22, k23, H⟩ := H
      refine tr_h (y_ld Try.isAgg3 rfl) k23 rfl rfl ?_
      refine tr_p (y_assign rfl) rfl rfl ?_
      refine tr_nil ?_
      refine tr_thenN ?_
      refine tr_seq ?_
      refine tr_region ?_
      refine tr_p (y_move rfl) rfl rfl ?_
      obtain ⟨a24, e25, H⟩ := H
      refine tr_p (f_nn rfl e25) rfl rfl ?_
      refine tr_p (y_fa (off := 1) Try.runUnderlying104 fo_104_1 rfl) rfl rfl ?_
      obtain ⟨y26, k27, H⟩ := H
      refine tr_h (y_ld Try.isAgg102 rfl) k27 rfl rfl ?_
      refine tr_p (y_move rfl) rfl rfl ?_
      refine tr_p (f_build rfl (bd_114_1 true)) rfl rfl ?_
      obtain ⟨a28, e29, H⟩ := H
      refine tr_p (f_idx (s := y26) Try.runUnderlying102 Try.sizeOf114 rfl rfl e29) rfl rfl ?_
      refine tr_e (f_store (vs := (⟨false, true, (⟨#[]⟩ : ByteArray), 0⟩ : S_spateref6_Place).cells) Try.sizeOf114 rfl rfl cellsOfStruct rfl (by intro v hv; exact ones_S_spateref6_Place _ v hv) H) rfl rfl ?_
      rintro _ h30 ⟨rfl, H⟩
      refine tr_nil ?_
      refine tr_thenN ?_
      refine tr_seq ?_
      refine tr_region ?_
      refine tr_p (y_move rfl) rfl rfl ?_
      refine tr_p (y_assign rfl) rfl rfl ?_
      refine tr_p (y_assign rfl) rfl rfl ?_
      refine tr_nil ?_
      refine tr_thenN ?_
      refine tr_ret ?_
      refine tr_thenR ?_
      exact tr_ret2 rfl rfl rfl ⟨_, _, rfl, H⟩
    · replace H := H.2 g15
      refine tr_skip ?_
      refine tr_thenN ?_
      refine tr_seq ?_
      refine tr_region ?_
      refine tr_p (y_move rfl) rfl rfl ?_
      obtain ⟨a31, e32, H⟩ := H
      refine tr_p (f_nn rfl e32) rfl rfl ?_
      refine tr_p (y_fa (off := 0) Try.runUnderlying104 fo_104_0 rfl) rfl rfl ?_
      obtain ⟨y33, k34, H⟩ := H
      refine tr_h (y_ld Try.isAgg102 rfl) k34 rfl rfl ?_
      refine tr_p (y_move rfl) rfl rfl ?_
      obtain ⟨a35, e36, H⟩ := H
      refine tr_p (f_idx (s := y33) Try.runUnderlying102 Try.sizeOf114 rfl rfl e36) rfl rfl ?_
      refine tr_p (y_fa (off := 3) Try.runUnderlying114 fo_114_3 rfl) rfl rfl ?_
      obtain ⟨y37, k38, H⟩ := H
      refine tr_h (y_ld Try.isAgg3 rfl) k38 rfl rfl ?_
      refine tr_p (y_assign rfl) rfl rfl ?_
      refine tr_nil ?_
      refine tr_thenN ?_
      refine tr_seq ?_
      refine tr_region ?_
      refine tr_p (y_move rfl) rfl rfl ?_
      obtain ⟨a39, e40, H⟩ := H
      refine tr_p (f_nn rfl e40) rfl rfl ?_
      refine tr_p (y_fa (off := 0) Try.runUnderlying104 fo_104_0 rfl) rfl rfl ?_
      obtain ⟨y41, k42, H⟩ := H
      refine tr_h (y_ld Try.isAgg102 rfl) k42 rfl rfl ?_
      refine tr_p (y_move rfl) rfl rfl ?_
      refine tr_p (f_build rfl (bd_114_ )) rfl rfl ?_
      obtain ⟨a43, e44, H⟩ := H
      refine tr_p (f_idx (s := y41) Try.runUnderlying102 Try.sizeOf114 rfl rfl e44) rfl rfl ?_
      refine tr_e (f_store (vs := (⟨false, false, (⟨#[]⟩ : ByteArray), 0⟩ : S_spateref6_Place).cells) Try.sizeOf114 rfl rfl cellsOfStruct rfl (by intro v hv; exact ones_S_spateref6_Place _ v hv) H) rfl rfl ?_
      rintro _ h45 ⟨rfl, H⟩
      refine tr_nil ?_
      refine tr_thenN ?_
      refine tr_seq ?_
      refine tr_region ?_
      refine tr_p (y_move rfl) rfl rfl ?_
      refine tr_p (y_add rfl rfl) rfl rfl ?_
      refine tr_p (y_move rfl) rfl rfl ?_
      obtain ⟨a46, e47, H⟩ := H
      refine tr_p (f_nn rfl e47) rfl rfl ?_
      refine tr_p (y_fa (off := 0) Try.runUnderlying104 fo_104_0 rfl) rfl rfl ?_
      obtain ⟨y48, k49, H⟩ := H
      refine tr_h (y_ld Try.isAgg102 rfl) k49 rfl rfl ?_
      refine tr_p (y_len (ts := #[]) Try.runUnderlying102 (o := y48.ptr) (n := y48.len) (cap := y48.cap) rfl) rfl rfl ?_
      obtain ⟨e50, H⟩ := H
      refine tr_p (y_rem rfl rfl e50) rfl rfl ?_
      refine tr_p (y_assign rfl) rfl rfl ?_
      refine tr_nil ?_
      refine tr_thenN ?_
      refine tr_seq ?_
      refine tr_block ?_
      obtain ⟨m104, H⟩ := H
      refine tr_sub [(0, (.pointer p0)), (6, (.int .i64 r4)), (10, (.int .i64 y37)), (11, (.int .i64 (Int.tmod (IntKind.wrap .i64 (r4 + 1)) (y48.len : Int))))] ⟨rfl, rfl, rfl, rfl, trivial⟩ ?_
      refine tr_loop_j (fun m L' h => ∃ (x0 : Option Addr) (x6 : Int) (x10 : Int) (x11 : Int), L' = [(0, (.pointer x0)), (6, (.int .i64 x6)), (10, (.int .i64 x10)), (11, (.int .i64 x11))] ∧ F.spateref6_Table_Drop.l1 Q m x0 x6 x10 x11 h) ?_ ?_ m104 ⟨_, _, _, _, rfl, H⟩
      · rintro L' h ⟨_, _, _, _, _, H⟩; exact H
      · rintro q1 L' h ⟨x0, x6, x10, x11, rfl, H⟩
        unfold F.spateref6_Table_Drop.l1 at H
        refine tr_seq ?_
        refine tr_seq ?_
        refine tr_region ?_
        refine tr_p (y_move rfl) rfl rfl ?_
        obtain ⟨a51, e52, H⟩ := H
        refine tr_p (f_nn rfl e52) rfl rfl ?_
        refine tr_p (y_fa (off := 0) Try.runUnderlying104 fo_104_0 rfl) rfl rfl ?_
        obtain ⟨y53, k54, H⟩ := H
        refine tr_h (y_ld Try.isAgg102 rfl) k54 rfl rfl ?_
        refine tr_p (y_move rfl) rfl rfl ?_
        obtain ⟨a55, e56, H⟩ := H
        refine tr_p (f_idx (s := y53) Try.runUnderlying102 Try.sizeOf114 rfl rfl e56) rfl rfl ?_
        refine tr_p (y_fa (off := 0) Try.runUnderlying114 fo_114_0 rfl) rfl rfl ?_
        obtain ⟨y57, k58, H⟩ := H
        refine tr_h (y_ld Try.isAgg4 rfl) k58 rfl rfl ?_
        refine tr_nil ?_
        refine tr_thenN ?_
        refine tr_cond rfl (fun g59 => ?_) (fun g59 => ?_)
        · replace H := H.1 g59
          refine tr_skip ?_
          refine tr_thenN ?_
          refine tr_block ?_
          refine tr_seq_j (fun L' h => ∃ (x0 : Option Addr) (x6 : Int) (x10 : Int) (x11 : Int), L' = [(0, (.pointer x0)), (6, (.int .i64 x6)), (10, (.int .i64 x10)), (11, (.int .i64 x11))] ∧ F.spateref6_Table_Drop.j2 Q (F.spateref6_Table_Drop.l1 Q q1) x0 x6 x10 x11 h) ?_ ?_
          · rintro L' h ⟨x0, x6, x10, x11, rfl, H⟩
            unfold F.spateref6_Table_Drop.j2 at H
            refine tr_region ?_
            refine tr_p (y_move rfl) rfl rfl ?_
            refine tr_p (y_add rfl rfl) rfl rfl ?_
            refine tr_p (y_move rfl) rfl rfl ?_
            obtain ⟨a60, e61, H⟩ := H
            refine tr_p (f_nn rfl e61) rfl rfl ?_
            refine tr_p (y_fa (off := 0) Try.runUnderlying104 fo_104_0 rfl) rfl rfl ?_
            obtain ⟨y62, k63, H⟩ := H
            refine tr_h (y_ld Try.isAgg102 rfl) k63 rfl rfl ?_
            refine tr_p (y_len (ts := #[]) Try.runUnderlying102 (o := y62.ptr) (n := y62.len) (cap := y62.cap) rfl) rfl rfl ?_
            obtain ⟨e64, H⟩ := H
            refine tr_p (y_rem rfl rfl e64) rfl rfl ?_
            refine tr_p (y_assign rfl) rfl rfl ?_
            refine tr_nil ?_
            refine tr_blockN ?_
            refine tr_thenN ?_
            exact tr_join [(0, (.pointer x0)), (6, (.int .i64 x6)), (10, (.int .i64 x10)), (11, (.int .i64 (Int.tmod (IntKind.wrap .i64 (x11 + 1)) (y62.len : Int))))] ⟨rfl, rfl, rfl, rfl, trivial⟩ ⟨_, _, _, _, rfl, H⟩
          · refine tr_seq ?_
            refine tr_draw mixed [0, 0, 2, 6, 14, 0, 32, 96, 224, 0, 992, 2016, 4064, 8190, 0, 32767, 65535] (by kernel_rfl) ?_
            refine g_p 0 1 rfl (by kernel_rfl) (y_move rfl) rfl rfl ?_
            refine g_p 1 3 rfl (by kernel_rfl) (y_move rfl) rfl rfl ?_
            obtain ⟨a65, e66, H⟩ := H
            refine g_p 2 7 rfl (by kernel_rfl) (f_nn rfl e66) rfl rfl ?_
            refine g_p 3 15 rfl (by kernel_rfl) (y_fa (off := 0) Try.runUnderlying104 fo_104_0 rfl) rfl rfl ?_
            obtain ⟨y67, k68, H⟩ := H
            refine g_h 4 31 rfl (by kernel_rfl) (y_ld Try.isAgg102 rfl) k68 rfl rfl ?_
            refine g_p 5 63 rfl (by kernel_rfl) (y_move rfl) rfl rfl ?_
            obtain ⟨a69, e70, H⟩ := H
            refine g_p 6 127 rfl (by kernel_rfl) (f_nn rfl e70) rfl rfl ?_
            refine g_p 7 255 rfl (by kernel_rfl) (y_fa (off := 0) Try.runUnderlying104 fo_104_0 rfl) rfl rfl ?_
            obtain ⟨y71, k72, H⟩ := H
            refine g_h 8 511 rfl (by kernel_rfl) (y_ld Try.isAgg102 rfl) k72 rfl rfl ?_
            refine g_p 9 1023 rfl (by kernel_rfl) (y_move rfl) rfl rfl ?_
            obtain ⟨a73, e74, H⟩ := H
            refine g_p 10 2047 rfl (by kernel_rfl) (f_idx (s := y71) Try.runUnderlying102 Try.sizeOf114 rfl rfl e74) rfl rfl ?_
            refine g_p 11 4095 rfl (by kernel_rfl) (y_fa (off := 2) Try.runUnderlying114 fo_114_2 rfl) rfl rfl ?_
            obtain ⟨y75, k76, H⟩ := H
            refine g_h 12 8191 rfl (by kernel_rfl) (y_ld Try.isAgg9 rfl) k76 rfl rfl ?_
            refine g_p 14 24575 rfl (by kernel_rfl) (y_move rfl) rfl rfl ?_
            refine g_e 13 32767 [] (by kernel_rfl) rfl (by kernel_rfl) (e_call Try.call75 rfl (F.spateref6_home_ok H)) rfl rfl ?_
            rintro _ h77 ⟨r78, rfl, H⟩
            refine ⟨trivial, ?_⟩
            refine g_e 15 65535 [] (by kernel_rfl) rfl (by kernel_rfl) (e_call Try.call74 rfl (F.spateref6_behind_ok H)) rfl rfl ?_
            rintro _ h79 ⟨r80, rfl, H⟩
            refine ⟨trivial, ?_⟩
            refine g_p 16 131071 rfl (by kernel_rfl) (y_not rfl) rfl rfl ?_
            refine g_d (by kernel_rfl) ?_
            refine tr_thenN ?_
            refine tr_cond rfl (fun g81 => ?_) (fun g81 => ?_)
            · replace H := H.1 g81
              refine tr_seq ?_
              refine tr_draw mixed [0, 1, 3, 7, 0, 0, 32, 96, 224, 0, 992, 2016, 4095, 8191] (by kernel_rfl) ?_
              refine g_p 0 1 rfl (by kernel_rfl) (y_move rfl) rfl rfl ?_
              obtain ⟨a82, e83, H⟩ := H
              refine g_p 1 3 rfl (by kernel_rfl) (f_nn rfl e83) rfl rfl ?_
              refine g_p 2 7 rfl (by kernel_rfl) (y_fa (off := 0) Try.runUnderlying104 fo_104_0 rfl) rfl rfl ?_
              obtain ⟨y84, k85, H⟩ := H
              refine g_h 3 15 rfl (by kernel_rfl) (y_ld Try.isAgg102 rfl) k85 rfl rfl ?_
              refine g_p 4 31 rfl (by kernel_rfl) (y_move rfl) rfl rfl ?_
              refine g_p 5 63 rfl (by kernel_rfl) (y_move rfl) rfl rfl ?_
              obtain ⟨a86, e87, H⟩ := H
              refine g_p 6 127 rfl (by kernel_rfl) (f_nn rfl e87) rfl rfl ?_
              refine g_p 7 255 rfl (by kernel_rfl) (y_fa (off := 0) Try.runUnderlying104 fo_104_0 rfl) rfl rfl ?_
              obtain ⟨y88, k89, H⟩ := H
              refine g_h 8 511 rfl (by kernel_rfl) (y_ld Try.isAgg102 rfl) k89 rfl rfl ?_
              refine g_p 9 1023 rfl (by kernel_rfl) (y_move rfl) rfl rfl ?_
              obtain ⟨a90, e91, H⟩ := H
              refine g_p 10 2047 rfl (by kernel_rfl) (f_idx (s := y88) Try.runUnderlying102 Try.sizeOf114 rfl rfl e91) rfl rfl ?_
              obtain ⟨y92, k93, H⟩ := H
              refine g_h 11 4095 rfl (by kernel_rfl) (y_ldS Try.isAgg114 Try.sizeOf114 rfl rfl) k93 rfl rfl ?_
              obtain ⟨a94, e95, H⟩ := H
              refine g_p 12 8191 rfl (by kernel_rfl) (f_idx (s := y84) Try.runUnderlying102 Try.sizeOf114 rfl rfl e95) rfl rfl ?_
              refine g_e 13 16383 [] (by kernel_rfl) rfl (by kernel_rfl) (f_store (vs := y92.cells) Try.sizeOf114 rfl rfl cellsOfStruct rfl (by intro v hv; exact ones_S_spateref6_Place _ v hv) H) rfl rfl ?_
              rintro _ h96 ⟨rfl, H⟩
              refine ⟨trivial, ?_⟩
              refine g_d (by kernel_rfl) ?_
              refine tr_thenN ?_
              refine tr_seq ?_
              refine tr_region ?_
              refine tr_p (y_move rfl) rfl rfl ?_
              obtain ⟨a97, e98, H⟩ := H
              refine tr_p (f_nn rfl e98) rfl rfl ?_
              refine tr_p (y_fa (off := 0) Try.runUnderlying104 fo_104_0 rfl) rfl rfl ?_
              obtain ⟨y99, k100, H⟩ := H
              refine tr_h (y_ld Try.isAgg102 rfl) k100 rfl rfl ?_
              refine tr_p (y_move rfl) rfl rfl ?_
              refine tr_p (f_build rfl (bd_114_ )) rfl rfl ?_
              obtain ⟨a101, e102, H⟩ := H
              refine tr_p (f_idx (s := y99) Try.runUnderlying102 Try.sizeOf114 rfl rfl e102) rfl rfl ?_
              refine tr_e (f_store (vs := (⟨false, false, (⟨#[]⟩ : ByteArray), 0⟩ : S_spateref6_Place).cells) Try.sizeOf114 rfl rfl cellsOfStruct rfl (by intro v hv; exact ones_S_spateref6_Place _ v hv) H) rfl rfl ?_
              rintro _ h103 ⟨rfl, H⟩
              refine tr_nil ?_
              refine tr_thenN ?_
              refine tr_region ?_
              refine tr_p (y_move rfl) rfl rfl ?_
              refine tr_p (y_assign rfl) rfl rfl ?_
              refine tr_nil ?_
              refine tr_thenN ?_
              exact tr_join [(0, (.pointer x0)), (6, (.int .i64 x11)), (10, (.int .i64 x10)), (11, (.int .i64 x11))] ⟨rfl, rfl, rfl, rfl, trivial⟩ ⟨_, _, _, _, rfl, H⟩
            · replace H := H.2 g81
              refine tr_skip ?_
              refine tr_thenN ?_
              exact tr_join [(0, (.pointer x0)), (6, (.int .i64 x6)), (10, (.int .i64 x10)), (11, (.int .i64 x11))] ⟨rfl, rfl, rfl, rfl, trivial⟩ ⟨_, _, _, _, rfl, H⟩
        · replace H := H.2 g59
          refine tr_exit ?_
          refine tr_thenE ?_
          refine tr_thenE ?_
          refine tr_hit ?_
          refine tr_thenN ?_
          refine tr_seq ?_
          refine tr_region ?_
          refine tr_p (y_move rfl) rfl rfl ?_
          refine tr_p (y_assign rfl) rfl rfl ?_
          refine tr_p (y_assign rfl) rfl rfl ?_
          refine tr_nil ?_
          refine tr_thenN ?_
          refine tr_ret ?_
          exact tr_ret2 rfl rfl rfl ⟨_, _, rfl, H⟩

def F.spateref6_Table_All.j2 (Q : Sl → Sl → H → Prop) (C1 : (Option Addr) → Sl → Int → H → Prop) (x0 : Option Addr) (x4 : Sl) (x5 : Int) (h : H) : Prop :=
  C1 x0 x4 (IntKind.wrap .i64 (x5 + 1)) h
def F.spateref6_Table_All.j4 (Q : Sl → Sl → H → Prop) (C1 : (Option Addr) → Sl → Int → H → Prop) (x0 : Option Addr) (x4 : Sl) (x6 : Int) (h : H) : Prop :=
  C1 x0 x4 (IntKind.wrap .i64 (x6 + 1)) h
def F.spateref6_Table_All.j7 (Q : Sl → Sl → H → Prop) (C1 : Sl → Sl → Sl → Int → H → Prop) (C2 : Sl → Sl → Sl → Int → Int → H → Prop) (x4 : Sl) (x7 : Sl) (x8 : Sl) (x9 : Int) (x10 : Int) (h : H) : Prop :=
  C2 x4 x7 x8 x9 (IntKind.wrap .i64 (x10 - 1)) h
def F.spateref6_Table_All.l9 (Q : Sl → Sl → H → Prop) (C1 : Sl → Sl → Sl → Int → H → Prop) : Nat → Sl → Sl → Sl → Int → Int → Int → H → Prop
  | 0, _, _, _, _, _, _, _ => False
  | q9 + 1, x4, x7, x8, x9, x10, x11, h =>
    ((decide (x11 > x10)) = true →
    idxA x7 (IntKind.wrap .i64 (x11 - 1)) 1 fun a64 =>
    ldS h a64 fun y66 =>
    idxA x7 x11 1 fun a68 =>
    stH h a68 [(.string y66)] fun h70 =>
    idxA x8 (IntKind.wrap .i64 (x11 - 1)) 1 fun a71 =>
    ldI .i64 h70 a71 fun y73 =>
    idxA x8 x11 1 fun a75 =>
    stH h70 a75 [(.int .i64 y73)] fun h77 =>
    (F.spateref6_Table_All.l9 Q C1 q9) x4 x7 x8 x9 x10 (IntKind.wrap .i64 (x11 - 1)) h77) ∧
    ((decide (x11 > x10)) = false →
    idxA x4 x9 4 fun a78 =>
    ldS h (a78.add 2) fun y80 =>
    idxA x7 x10 1 fun a82 =>
    stH h a82 [(.string y80)] fun h84 =>
    idxA x4 x9 4 fun a85 =>
    ldI .i64 h84 (a85.add 3) fun y87 =>
    idxA x8 x10 1 fun a89 =>
    stH h84 a89 [(.int .i64 y87)] fun h91 =>
    C1 x4 x7 x8 (IntKind.wrap .i64 (x9 + 1)) h91)
def F.spateref6_Table_All.j8 (Q : Sl → Sl → H → Prop) (C1 : Sl → Sl → Sl → Int → H → Prop) (C2 : Sl → Sl → Sl → Int → Int → H → Prop) (x4 : Sl) (x7 : Sl) (x8 : Sl) (x9 : Int) (x10 : Int) (x88 : Bool) (h : H) : Prop :=
  (x88 = true →
  F.spateref6_Table_All.j7 Q C1 C2 x4 x7 x8 x9 x10 h) ∧
  (x88 = false →
  newL h #[(.string (⟨#[]⟩ : ByteArray))] ty_9 1 fun s56 h55 =>
  runL PP (Builtin.append_ #[37, 37] 37 #[x7.enc, s56.enc]) h55 fun s58 h57 =>
  newL h57 #[(.int .i64 0)] ty_3 1 fun s60 h59 =>
  runL PP (Builtin.append_ #[38, 38] 38 #[x8.enc, s60.enc]) h59 fun s62 h61 =>
  ∃ m, F.spateref6_Table_All.l9 Q C1 m x4 s58 s62 x9 x10 (IntKind.wrap .i64 ((s58.len : Int) - 1)) h61)
def F.spateref6_Table_All.l6 (Q : Sl → Sl → H → Prop) (C1 : Sl → Sl → Sl → Int → H → Prop) : Nat → Sl → Sl → Sl → Int → Int → H → Prop
  | 0, _, _, _, _, _, _ => False
  | q6 + 1, x4, x7, x8, x9, x10, h =>
    ((decide (x10 > 0)) = true →
    idxA x7 (IntKind.wrap .i64 (x10 - 1)) 1 fun a94 =>
    ldS h a94 fun y96 =>
    idxA x4 x9 4 fun a98 =>
    ldS h (a98.add 2) fun y100 =>
    F.spateref6_Table_All.j8 Q C1 (F.spateref6_Table_All.l6 Q C1 q6) x4 x7 x8 x9 x10 (!(Op.bytesLess y96.toList y100.toList || (y96.toList == y100.toList))) h) ∧
    ((decide (x10 > 0)) = false →
    F.spateref6_Table_All.j8 Q C1 (F.spateref6_Table_All.l6 Q C1 q6) x4 x7 x8 x9 x10 false h)
def F.spateref6_Table_All.l5 (Q : Sl → Sl → H → Prop) : Nat → Sl → Sl → Sl → Int → H → Prop
  | 0, _, _, _, _, _ => False
  | q5 + 1, x4, x7, x8, x9, h =>
    ((decide (x9 < (x4.len : Int))) = true →
    ∃ m, F.spateref6_Table_All.l6 Q (F.spateref6_Table_All.l5 Q q5) m x4 x7 x8 x9 (x7.len : Int) h) ∧
    ((decide (x9 < (x4.len : Int))) = false →
    Q x7 x8 h)
def F.spateref6_Table_All.l3 (Q : Sl → Sl → H → Prop) : Nat → (Option Addr) → Sl → Int → H → Prop
  | 0, _, _, _, _ => False
  | q3 + 1, x0, x4, x6, h =>
    nn x0 fun a27 =>
    ldL h (a27.add 1) fun y29 =>
    ((decide (x6 < (y29.len : Int))) = true →
    nn x0 fun a32 =>
    ldL h (a32.add 1) fun y34 =>
    idxA y34 x6 4 fun a36 =>
    ldB h (a36.add 0) fun y38 =>
    (y38 = true →
    nn x0 fun a41 =>
    ldL h (a41.add 1) fun y43 =>
    idxA y43 x6 4 fun a45 =>
    ld_S_spateref6_Place h a45 fun y47 =>
    newL h ((y47.cells).toArray) ty_114 1 fun s50 h49 =>
    runL PP (Builtin.append_ #[102, 102] 102 #[x4.enc, s50.enc]) h49 fun s52 h51 =>
    F.spateref6_Table_All.j4 Q (F.spateref6_Table_All.l3 Q q3) x0 s52 x6 h51) ∧
    (y38 = false →
    F.spateref6_Table_All.j4 Q (F.spateref6_Table_All.l3 Q q3) x0 x4 x6 h)) ∧
    ((decide (x6 < (y29.len : Int))) = false →
    ∃ m, F.spateref6_Table_All.l5 Q m x4 (⟨none, 0, 0⟩ : Sl) (⟨none, 0, 0⟩ : Sl) 0 h)
def F.spateref6_Table_All.l1 (Q : Sl → Sl → H → Prop) : Nat → (Option Addr) → Sl → Int → H → Prop
  | 0, _, _, _, _ => False
  | q1 + 1, x0, x4, x5, h =>
    nn x0 fun a1 =>
    ldL h (a1.add 0) fun y3 =>
    ((decide (x5 < (y3.len : Int))) = true →
    nn x0 fun a6 =>
    ldL h (a6.add 0) fun y8 =>
    idxA y8 x5 4 fun a10 =>
    ldB h (a10.add 0) fun y12 =>
    (y12 = true →
    nn x0 fun a15 =>
    ldL h (a15.add 0) fun y17 =>
    idxA y17 x5 4 fun a19 =>
    ld_S_spateref6_Place h a19 fun y21 =>
    newL h ((y21.cells).toArray) ty_114 1 fun s24 h23 =>
    runL PP (Builtin.append_ #[102, 102] 102 #[x4.enc, s24.enc]) h23 fun s26 h25 =>
    F.spateref6_Table_All.j2 Q (F.spateref6_Table_All.l1 Q q1) x0 s26 x5 h25) ∧
    (y12 = false →
    F.spateref6_Table_All.j2 Q (F.spateref6_Table_All.l1 Q q1) x0 x4 x5 h)) ∧
    ((decide (x5 < (y3.len : Int))) = false →
    ∃ m, F.spateref6_Table_All.l3 Q m x0 x4 0 h)
/-- (*spate/spateref6.Table).All -/
def F.spateref6_Table_All (p0 : Option Addr) (h : H) (Q : Sl → Sl → H → Prop) : Prop :=
  ∃ m, F.spateref6_Table_All.l1 Q m p0 (⟨none, 0, 0⟩ : Sl) 0 h
theorem F.spateref6_Table_All_ok {p0 : Option Addr} {h : H} {Q : Sl → Sl → H → Prop} (H : F.spateref6_Table_All p0 h Q) : Fn PP 65 ([(.pointer p0)] : List Value).toArray h fun r h' => ∃ r0 r1, r = .tuple #[r0.enc, r1.enc] ∧ Q r0 r1 h' := by
  unfold F.spateref6_Table_All at H
  refine fn_of Try.func65 Try.ntmps65 rfl rfl fun w0 => ?_
  refine tr_sub [(0, (.pointer p0))] ⟨rfl, trivial⟩ ?_
  refine tr_seq ?_
  refine tr_region ?_
  refine tr_p (y_assign rfl) rfl rfl ?_
  refine tr_p (y_assign rfl) rfl rfl ?_
  refine tr_nil ?_
  refine tr_thenN ?_
  refine tr_seq ?_
  refine tr_region ?_
  refine tr_p (y_assign rfl) rfl rfl ?_
  refine tr_nil ?_
  refine tr_thenN ?_
  refine tr_seq ?_
  refine tr_seq ?_
  refine tr_region ?_
  refine tr_p (y_assign rfl) rfl rfl ?_
  refine tr_nil ?_
  refine tr_thenN ?_
  refine tr_block ?_
  obtain ⟨m105, H⟩ := H
  refine tr_sub [(0, (.pointer p0)), (4, (⟨none, 0, 0⟩ : Sl).enc), (5, (.int .i64 0))] ⟨rfl, rfl, rfl, trivial⟩ ?_
  refine tr_loop_j (fun m L' h => ∃ (x0 : Option Addr) (x4 : Sl) (x5 : Int), L' = [(0, (.pointer x0)), (4, x4.enc), (5, (.int .i64 x5))] ∧ F.spateref6_Table_All.l1 Q m x0 x4 x5 h) ?_ ?_ m105 ⟨_, _, _, rfl, H⟩
  · rintro L' h ⟨_, _, _, _, H⟩; exact H
  · rintro q1 L' h ⟨x0, x4, x5, rfl, H⟩
    unfold F.spateref6_Table_All.l1 at H
    refine tr_seq ?_
    refine tr_seq ?_
    refine tr_region ?_
    refine tr_p (y_move rfl) rfl rfl ?_
    refine tr_p (y_move rfl) rfl rfl ?_
    obtain ⟨a1, e2, H⟩ := H
    refine tr_p (f_nn rfl e2) rfl rfl ?_
    refine tr_p (y_fa (off := 0) Try.runUnderlying104 fo_104_0 rfl) rfl rfl ?_
    obtain ⟨y3, k4, H⟩ := H
    refine tr_h (y_ld Try.isAgg102 rfl) k4 rfl rfl ?_
    refine tr_p (y_len (ts := #[]) Try.runUnderlying102 (o := y3.ptr) (n := y3.len) (cap := y3.cap) rfl) rfl rfl ?_
    refine tr_p (y_lss rfl rfl) rfl rfl ?_
    refine tr_nil ?_
    refine tr_thenN ?_
    refine tr_cond rfl (fun g5 => ?_) (fun g5 => ?_)
    · replace H := H.1 g5
      refine tr_skip ?_
      refine tr_thenN ?_
      refine tr_seq_j (fun L' h => ∃ (x0 : Option Addr) (x4 : Sl) (x5 : Int), L' = [(0, (.pointer x0)), (4, x4.enc), (5, (.int .i64 x5))] ∧ F.spateref6_Table_All.j2 Q (F.spateref6_Table_All.l1 Q q1) x0 x4 x5 h) ?_ ?_
      · rintro L' h ⟨x0, x4, x5, rfl, H⟩
        unfold F.spateref6_Table_All.j2 at H
        refine tr_region ?_
        refine tr_p (y_move rfl) rfl rfl ?_
        refine tr_p (y_add rfl rfl) rfl rfl ?_
        refine tr_p (y_assign rfl) rfl rfl ?_
        refine tr_nil ?_
        refine tr_thenN ?_
        exact tr_join [(0, (.pointer x0)), (4, x4.enc), (5, (.int .i64 (IntKind.wrap .i64 (x5 + 1))))] ⟨rfl, rfl, rfl, trivial⟩ ⟨_, _, _, rfl, H⟩
      · refine tr_block ?_
        refine tr_seq ?_
        refine tr_region ?_
        refine tr_p (y_move rfl) rfl rfl ?_
        obtain ⟨a6, e7, H⟩ := H
        refine tr_p (f_nn rfl e7) rfl rfl ?_
        refine tr_p (y_fa (off := 0) Try.runUnderlying104 fo_104_0 rfl) rfl rfl ?_
        obtain ⟨y8, k9, H⟩ := H
        refine tr_h (y_ld Try.isAgg102 rfl) k9 rfl rfl ?_
        refine tr_p (y_move rfl) rfl rfl ?_
        obtain ⟨a10, e11, H⟩ := H
        refine tr_p (f_idx (s := y8) Try.runUnderlying102 Try.sizeOf114 rfl rfl e11) rfl rfl ?_
        refine tr_p (y_fa (off := 0) Try.runUnderlying114 fo_114_0 rfl) rfl rfl ?_
        obtain ⟨y12, k13, H⟩ := H
        refine tr_h (y_ld Try.isAgg4 rfl) k13 rfl rfl ?_
        refine tr_nil ?_
        refine tr_thenN ?_
        refine tr_cond rfl (fun g14 => ?_) (fun g14 => ?_)
        · replace H := H.1 g14
          refine tr_region ?_
          refine tr_p (y_move rfl) rfl rfl ?_
          refine tr_p (y_move rfl) rfl rfl ?_
          obtain ⟨a15, e16, H⟩ := H
          refine tr_p (f_nn rfl e16) rfl rfl ?_
          refine tr_p (y_fa (off := 0) Try.runUnderlying104 fo_104_0 rfl) rfl rfl ?_
          obtain ⟨y17, k18, H⟩ := H
          refine tr_h (y_ld Try.isAgg102 rfl) k18 rfl rfl ?_
          refine tr_p (y_move rfl) rfl rfl ?_
          obtain ⟨a19, e20, H⟩ := H
          refine tr_p (f_idx (s := y17) Try.runUnderlying102 Try.sizeOf114 rfl rfl e20) rfl rfl ?_
          obtain ⟨y21, k22, H⟩ := H
          refine tr_h (y_ldS Try.isAgg114 Try.sizeOf114 rfl rfl) k22 rfl rfl ?_
          refine tr_e (f_buildL (cs := (y21.cells).toArray) rfl rfl (bl_102_1_0 y21) H) rfl rfl ?_
          rintro _ h23 ⟨s24, rfl, H⟩
          refine tr_e (f_app rfl H) rfl rfl ?_
          rintro _ h25 ⟨s26, rfl, H⟩
          refine tr_p (y_assign rfl) rfl rfl ?_
          refine tr_nil ?_
          refine tr_blockN ?_
          refine tr_thenN ?_
          exact tr_join [(0, (.pointer x0)), (4, s26.enc), (5, (.int .i64 x5))] ⟨rfl, rfl, rfl, trivial⟩ ⟨_, _, _, rfl, H⟩
        · replace H := H.2 g14
          refine tr_skip ?_
          refine tr_blockN ?_
          refine tr_thenN ?_
          exact tr_join [(0, (.pointer x0)), (4, x4.enc), (5, (.int .i64 x5))] ⟨rfl, rfl, rfl, trivial⟩ ⟨_, _, _, rfl, H⟩
    · replace H := H.2 g5
      refine tr_exit ?_
      refine tr_thenE ?_
      refine tr_thenE ?_
      refine tr_hit ?_
      refine tr_thenN ?_
      refine tr_seq ?_
      refine tr_seq ?_
      refine tr_region ?_
      refine tr_p (y_assign rfl) rfl rfl ?_
      refine tr_nil ?_
      refine tr_thenN ?_
      refine tr_block ?_
      obtain ⟨m104, H⟩ := H
      refine tr_sub [(0, (.pointer x0)), (4, x4.enc), (6, (.int .i64 0))] ⟨rfl, rfl, rfl, trivial⟩ ?_
      refine tr_loop_j (fun m L' h => ∃ (x0 : Option Addr) (x4 : Sl) (x6 : Int), L' = [(0, (.pointer x0)), (4, x4.enc), (6, (.int .i64 x6))] ∧ F.spateref6_Table_All.l3 Q m x0 x4 x6 h) ?_ ?_ m104 ⟨_, _, _, rfl, H⟩
      · rintro L' h ⟨_, _, _, _, H⟩; exact H
      · rintro q3 L' h ⟨x0, x4, x6, rfl, H⟩
        unfold F.spateref6_Table_All.l3 at H
        refine tr_seq ?_
        refine tr_seq ?_
        refine tr_region ?_
        refine tr_p (y_move rfl) rfl rfl ?_
        refine tr_p (y_move rfl) rfl rfl ?_
        obtain ⟨a27, e28, H⟩ := H
        refine tr_p (f_nn rfl e28) rfl rfl ?_
        refine tr_p (y_fa (off := 1) Try.runUnderlying104 fo_104_1 rfl) rfl rfl ?_
        obtain ⟨y29, k30, H⟩ := H
        refine tr_h (y_ld Try.isAgg102 rfl) k30 rfl rfl ?_
        refine tr_p (y_len (ts := #[]) Try.runUnderlying102 (o := y29.ptr) (n := y29.len) (cap := y29.cap) rfl) rfl rfl ?_
        refine tr_p (y_lss rfl rfl) rfl rfl ?_
        refine tr_nil ?_
        refine tr_thenN ?_
        refine tr_cond rfl (fun g31 => ?_) (fun g31 => ?_)
        · replace H := H.1 g31
          refine tr_skip ?_
          refine tr_thenN ?_
          refine tr_seq_j (fun L' h => ∃ (x0 : Option Addr) (x4 : Sl) (x6 : Int), L' = [(0, (.pointer x0)), (4, x4.enc), (6, (.int .i64 x6))] ∧ F.spateref6_Table_All.j4 Q (F.spateref6_Table_All.l3 Q q3) x0 x4 x6 h) ?_ ?_
          · rintro L' h ⟨x0, x4, x6, rfl, H⟩
            unfold F.spateref6_Table_All.j4 at H
            refine tr_region ?_
            refine tr_p (y_move rfl) rfl rfl ?_
            refine tr_p (y_add rfl rfl) rfl rfl ?_
            refine tr_p (y_assign rfl) rfl rfl ?_
            refine tr_nil ?_
            refine tr_thenN ?_
            exact tr_join [(0, (.pointer x0)), (4, x4.enc), (6, (.int .i64 (IntKind.wrap .i64 (x6 + 1))))] ⟨rfl, rfl, rfl, trivial⟩ ⟨_, _, _, rfl, H⟩
          · refine tr_block ?_
            refine tr_seq ?_
            refine tr_region ?_
            refine tr_p (y_move rfl) rfl rfl ?_
            obtain ⟨a32, e33, H⟩ := H
            refine tr_p (f_nn rfl e33) rfl rfl ?_
            refine tr_p (y_fa (off := 1) Try.runUnderlying104 fo_104_1 rfl) rfl rfl ?_
            obtain ⟨y34, k35, H⟩ := H
            refine tr_h (y_ld Try.isAgg102 rfl) k35 rfl rfl ?_
            refine tr_p (y_move rfl) rfl rfl ?_
            obtain ⟨a36, e37, H⟩ := H
            refine tr_p (f_idx (s := y34) Try.runUnderlying102 Try.sizeOf114 rfl rfl e37) rfl rfl ?_
            refine tr_p (y_fa (off := 0) Try.runUnderlying114 fo_114_0 rfl) rfl rfl ?_
            obtain ⟨y38, k39, H⟩ := H
            refine tr_h (y_ld Try.isAgg4 rfl) k39 rfl rfl ?_
            refine tr_nil ?_
            refine tr_thenN ?_
            refine tr_cond rfl (fun g40 => ?_) (fun g40 => ?_)
            · replace H := H.1 g40
              refine tr_region ?_
              refine tr_p (y_move rfl) rfl rfl ?_
              refine tr_p (y_move rfl) rfl rfl ?_
              obtain ⟨a41, e42, H⟩ := H
              refine tr_p (f_nn rfl e42) rfl rfl ?_
              refine tr_p (y_fa (off := 1) Try.runUnderlying104 fo_104_1 rfl) rfl rfl ?_
              obtain ⟨y43, k44, H⟩ := H
              refine tr_h (y_ld Try.isAgg102 rfl) k44 rfl rfl ?_
              refine tr_p (y_move rfl) rfl rfl ?_
              obtain ⟨a45, e46, H⟩ := H
              refine tr_p (f_idx (s := y43) Try.runUnderlying102 Try.sizeOf114 rfl rfl e46) rfl rfl ?_
              obtain ⟨y47, k48, H⟩ := H
              refine tr_h (y_ldS Try.isAgg114 Try.sizeOf114 rfl rfl) k48 rfl rfl ?_
              refine tr_e (f_buildL (cs := (y47.cells).toArray) rfl rfl (bl_102_1_0 y47) H) rfl rfl ?_
              rintro _ h49 ⟨s50, rfl, H⟩
              refine tr_e (f_app rfl H) rfl rfl ?_
              rintro _ h51 ⟨s52, rfl, H⟩
              refine tr_p (y_assign rfl) rfl rfl ?_
              refine tr_nil ?_
              refine tr_blockN ?_
              refine tr_thenN ?_
              exact tr_join [(0, (.pointer x0)), (4, s52.enc), (6, (.int .i64 x6))] ⟨rfl, rfl, rfl, trivial⟩ ⟨_, _, _, rfl, H⟩
            · replace H := H.2 g40
              refine tr_skip ?_
              refine tr_blockN ?_
              refine tr_thenN ?_
              exact tr_join [(0, (.pointer x0)), (4, x4.enc), (6, (.int .i64 x6))] ⟨rfl, rfl, rfl, trivial⟩ ⟨_, _, _, rfl, H⟩
        · replace H := H.2 g31
          refine tr_exit ?_
          refine tr_thenE ?_
          refine tr_thenE ?_
          refine tr_hit ?_
          refine tr_thenN ?_
          refine tr_seq ?_
          refine tr_region ?_
          refine tr_p (y_assign rfl) rfl rfl ?_
          refine tr_nil ?_
          refine tr_thenN ?_
          refine tr_seq ?_
          refine tr_region ?_
          refine tr_p (y_assign rfl) rfl rfl ?_
          refine tr_nil ?_
          refine tr_thenN ?_
          refine tr_seq ?_
          refine tr_seq ?_
          refine tr_region ?_
          refine tr_p (y_assign rfl) rfl rfl ?_
          refine tr_nil ?_
          refine tr_thenN ?_
          refine tr_block ?_
          obtain ⟨m103, H⟩ := H
          refine tr_sub [(4, x4.enc), (7, (⟨none, 0, 0⟩ : Sl).enc), (8, (⟨none, 0, 0⟩ : Sl).enc), (9, (.int .i64 0))] ⟨rfl, rfl, rfl, rfl, trivial⟩ ?_
          refine tr_loop_j (fun m L' h => ∃ (x4 : Sl) (x7 : Sl) (x8 : Sl) (x9 : Int), L' = [(4, x4.enc), (7, x7.enc), (8, x8.enc), (9, (.int .i64 x9))] ∧ F.spateref6_Table_All.l5 Q m x4 x7 x8 x9 h) ?_ ?_ m103 ⟨_, _, _, _, rfl, H⟩
          · rintro L' h ⟨_, _, _, _, _, H⟩; exact H
          · rintro q5 L' h ⟨x4, x7, x8, x9, rfl, H⟩
            unfold F.spateref6_Table_All.l5 at H
            refine tr_seq ?_
            refine tr_seq ?_
            refine tr_region ?_
            refine tr_p (y_move rfl) rfl rfl ?_
            refine tr_p (y_move rfl) rfl rfl ?_
            refine tr_p (y_len (ts := #[]) Try.runUnderlying102 (o := x4.ptr) (n := x4.len) (cap := x4.cap) rfl) rfl rfl ?_
            refine tr_p (y_lss rfl rfl) rfl rfl ?_
            refine tr_nil ?_
            refine tr_thenN ?_
            refine tr_cond rfl (fun g53 => ?_) (fun g53 => ?_)
            · replace H := H.1 g53
              refine tr_skip ?_
              refine tr_thenN ?_
              refine tr_seq ?_
              refine tr_block ?_
              refine tr_seq ?_
              refine tr_region ?_
              refine tr_p (y_move rfl) rfl rfl ?_
              refine tr_p (y_len (ts := #[]) Try.runUnderlying37 (o := x7.ptr) (n := x7.len) (cap := x7.cap) rfl) rfl rfl ?_
              refine tr_p (y_assign rfl) rfl rfl ?_
              refine tr_nil ?_
              refine tr_thenN ?_
              refine tr_seq ?_
              refine tr_block ?_
              obtain ⟨m102, H⟩ := H
              refine tr_sub [(4, x4.enc), (7, x7.enc), (8, x8.enc), (9, (.int .i64 x9)), (10, (.int .i64 (x7.len : Int)))] ⟨rfl, rfl, rfl, rfl, rfl, trivial⟩ ?_
              refine tr_loop_j (fun m L' h => ∃ (x4 : Sl) (x7 : Sl) (x8 : Sl) (x9 : Int) (x10 : Int), L' = [(4, x4.enc), (7, x7.enc), (8, x8.enc), (9, (.int .i64 x9)), (10, (.int .i64 x10))] ∧ F.spateref6_Table_All.l6 Q (F.spateref6_Table_All.l5 Q q5) m x4 x7 x8 x9 x10 h) ?_ ?_ m102 ⟨_, _, _, _, _, rfl, H⟩
              · rintro L' h ⟨_, _, _, _, _, _, H⟩; exact H
              · rintro q6 L' h ⟨x4, x7, x8, x9, x10, rfl, H⟩
                unfold F.spateref6_Table_All.l6 at H
                refine tr_seq_j (fun L' h => ∃ (x4 : Sl) (x7 : Sl) (x8 : Sl) (x9 : Int) (x10 : Int), L' = [(4, x4.enc), (7, x7.enc), (8, x8.enc), (9, (.int .i64 x9)), (10, (.int .i64 x10))] ∧ F.spateref6_Table_All.j7 Q (F.spateref6_Table_All.l5 Q q5) (F.spateref6_Table_All.l6 Q (F.spateref6_Table_All.l5 Q q5) q6) x4 x7 x8 x9 x10 h) ?_ ?_
                · rintro L' h ⟨x4, x7, x8, x9, x10, rfl, H⟩
                  unfold F.spateref6_Table_All.j7 at H
                  refine tr_block ?_
                  refine tr_region ?_
                  refine tr_p (y_move rfl) rfl rfl ?_
                  refine tr_p (y_sub rfl rfl) rfl rfl ?_
                  refine tr_p (y_assign rfl) rfl rfl ?_
                  refine tr_nil ?_
                  refine tr_blockN ?_
                  refine tr_thenN ?_
                  exact tr_join [(4, x4.enc), (7, x7.enc), (8, x8.enc), (9, (.int .i64 x9)), (10, (.int .i64 (IntKind.wrap .i64 (x10 - 1))))] ⟨rfl, rfl, rfl, rfl, rfl, trivial⟩ ⟨_, _, _, _, _, rfl, H⟩
                · refine tr_seq_j (fun L' h => ∃ (x4 : Sl) (x7 : Sl) (x8 : Sl) (x9 : Int) (x10 : Int) (x88 : Bool), L' = [(4, x4.enc), (7, x7.enc), (8, x8.enc), (9, (.int .i64 x9)), (10, (.int .i64 x10)), (88, (.bool x88))] ∧ F.spateref6_Table_All.j8 Q (F.spateref6_Table_All.l5 Q q5) (F.spateref6_Table_All.l6 Q (F.spateref6_Table_All.l5 Q q5) q6) x4 x7 x8 x9 x10 x88 h) ?_ ?_
                  · rintro L' h ⟨x4, x7, x8, x9, x10, x88, rfl, H⟩
                    unfold F.spateref6_Table_All.j8 at H
                    refine tr_cond rfl (fun g54 => ?_) (fun g54 => ?_)
                    · replace H := H.1 g54
                      refine tr_skip ?_
                      refine tr_thenN ?_
                      exact tr_join [(4, x4.enc), (7, x7.enc), (8, x8.enc), (9, (.int .i64 x9)), (10, (.int .i64 x10))] ⟨rfl, rfl, rfl, rfl, rfl, trivial⟩ ⟨_, _, _, _, _, rfl, H⟩
                    · replace H := H.2 g54
                      refine tr_exit ?_
                      refine tr_thenE ?_
                      refine tr_thenE ?_
                      refine tr_hit ?_
                      refine tr_thenN ?_
                      refine tr_seq ?_
                      refine tr_region ?_
                      refine tr_p (y_move rfl) rfl rfl ?_
                      refine tr_e (f_buildL (cs := #[(.string (⟨#[]⟩ : ByteArray))]) rfl rfl (bl_37_1_0 (⟨#[]⟩ : ByteArray)) H) rfl rfl ?_
                      rintro _ h55 ⟨s56, rfl, H⟩
                      refine tr_e (f_app rfl H) rfl rfl ?_
                      rintro _ h57 ⟨s58, rfl, H⟩
                      refine tr_p (y_assign rfl) rfl rfl ?_
                      refine tr_nil ?_
                      refine tr_thenN ?_
                      refine tr_seq ?_
                      refine tr_region ?_
                      refine tr_p (y_move rfl) rfl rfl ?_
                      refine tr_e (f_buildL (cs := #[(.int .i64 0)]) rfl rfl (bl_38_1_0 0) H) rfl rfl ?_
                      rintro _ h59 ⟨s60, rfl, H⟩
                      refine tr_e (f_app rfl H) rfl rfl ?_
                      rintro _ h61 ⟨s62, rfl, H⟩
                      refine tr_p (y_assign rfl) rfl rfl ?_
                      refine tr_nil ?_
                      refine tr_thenN ?_
                      refine tr_seq ?_
                      refine tr_seq ?_
                      refine tr_region ?_
                      refine tr_p (y_move rfl) rfl rfl ?_
                      refine tr_p (y_len (ts := #[]) Try.runUnderlying37 (o := s58.ptr) (n := s58.len) (cap := s58.cap) rfl) rfl rfl ?_
                      refine tr_p (y_sub rfl rfl) rfl rfl ?_
                      refine tr_p (y_assign rfl) rfl rfl ?_
                      refine tr_nil ?_
                      refine tr_thenN ?_
                      refine tr_block ?_
                      obtain ⟨m92, H⟩ := H
                      refine tr_sub [(4, x4.enc), (7, s58.enc), (8, s62.enc), (9, (.int .i64 x9)), (10, (.int .i64 x10)), (11, (.int .i64 (IntKind.wrap .i64 ((s58.len : Int) - 1))))] ⟨rfl, rfl, rfl, rfl, rfl, rfl, trivial⟩ ?_
                      refine tr_loop_j (fun m L' h => ∃ (x4 : Sl) (x7 : Sl) (x8 : Sl) (x9 : Int) (x10 : Int) (x11 : Int), L' = [(4, x4.enc), (7, x7.enc), (8, x8.enc), (9, (.int .i64 x9)), (10, (.int .i64 x10)), (11, (.int .i64 x11))] ∧ F.spateref6_Table_All.l9 Q (F.spateref6_Table_All.l5 Q q5) m x4 x7 x8 x9 x10 x11 h) ?_ ?_ m92 ⟨_, _, _, _, _, _, rfl, H⟩
                      · rintro L' h ⟨_, _, _, _, _, _, _, H⟩; exact H
                      · rintro q9 L' h ⟨x4, x7, x8, x9, x10, x11, rfl, H⟩
                        unfold F.spateref6_Table_All.l9 at H
                        refine tr_seq ?_
                        refine tr_seq ?_
                        refine tr_region ?_
                        refine tr_p (y_move rfl) rfl rfl ?_
                        refine tr_p (y_move rfl) rfl rfl ?_
                        refine tr_p (y_gtr rfl rfl) rfl rfl ?_
                        refine tr_nil ?_
                        refine tr_thenN ?_
                        refine tr_cond rfl (fun g63 => ?_) (fun g63 => ?_)
                        · replace H := H.1 g63
                          refine tr_skip ?_
                          refine tr_thenN ?_
                          refine tr_seq ?_
                          refine tr_block ?_
                          refine tr_seq ?_
                          refine tr_region ?_
                          refine tr_p (y_move rfl) rfl rfl ?_
                          refine tr_p (y_move rfl) rfl rfl ?_
                          refine tr_p (y_move rfl) rfl rfl ?_
                          refine tr_p (y_move rfl) rfl rfl ?_
                          refine tr_p (y_sub rfl rfl) rfl rfl ?_
                          obtain ⟨a64, e65, H⟩ := H
                          refine tr_p (f_idx (s := x7) Try.runUnderlying37 Try.sizeOf9 rfl rfl e65) rfl rfl ?_
                          obtain ⟨y66, k67, H⟩ := H
                          refine tr_h (y_ld Try.isAgg9 rfl) k67 rfl rfl ?_
                          obtain ⟨a68, e69, H⟩ := H
                          refine tr_p (f_idx (s := x7) Try.runUnderlying37 Try.sizeOf9 rfl rfl e69) rfl rfl ?_
                          refine tr_e (f_store (vs := [(.string y66)]) Try.sizeOf9 rfl rfl rfl rfl (one1 rfl) H) rfl rfl ?_
                          rintro _ h70 ⟨rfl, H⟩
                          refine tr_nil ?_
                          refine tr_thenN ?_
                          refine tr_region ?_
                          refine tr_p (y_move rfl) rfl rfl ?_
                          refine tr_p (y_move rfl) rfl rfl ?_
                          refine tr_p (y_move rfl) rfl rfl ?_
                          refine tr_p (y_move rfl) rfl rfl ?_
                          refine tr_p (y_sub rfl rfl) rfl rfl ?_
                          obtain ⟨a71, e72, H⟩ := H
                          refine tr_p (f_idx (s := x8) Try.runUnderlying38 Try.sizeOf3 rfl rfl e72) rfl rfl ?_
                          obtain ⟨y73, k74, H⟩ := H
                          refine tr_h (y_ld Try.isAgg3 rfl) k74 rfl rfl ?_
                          obtain ⟨a75, e76, H⟩ := H
                          refine tr_p (f_idx (s := x8) Try.runUnderlying38 Try.sizeOf3 rfl rfl e76) rfl rfl ?_
                          refine tr_e (f_store (vs := [(.int .i64 y73)]) Try.sizeOf3 rfl rfl rfl rfl (one1 rfl) H) rfl rfl ?_
                          rintro _ h77 ⟨rfl, H⟩
                          refine tr_nil ?_
                          refine tr_blockN ?_
                          refine tr_thenN ?_
                          refine tr_region ?_
                          refine tr_p (y_move rfl) rfl rfl ?_
                          refine tr_p (y_sub rfl rfl) rfl rfl ?_
                          refine tr_p (y_assign rfl) rfl rfl ?_
                          refine tr_nil ?_
                          refine tr_thenN ?_
                          exact tr_join [(4, x4.enc), (7, x7.enc), (8, x8.enc), (9, (.int .i64 x9)), (10, (.int .i64 x10)), (11, (.int .i64 (IntKind.wrap .i64 (x11 - 1))))] ⟨rfl, rfl, rfl, rfl, rfl, rfl, trivial⟩ ⟨_, _, _, _, _, _, rfl, H⟩
                        · replace H := H.2 g63
                          refine tr_exit ?_
                          refine tr_thenE ?_
                          refine tr_thenE ?_
                          refine tr_hit ?_
                          refine tr_thenN ?_
                          refine tr_seq ?_
                          refine tr_region ?_
                          refine tr_p (y_move rfl) rfl rfl ?_
                          refine tr_p (y_move rfl) rfl rfl ?_
                          refine tr_p (y_move rfl) rfl rfl ?_
                          refine tr_p (y_move rfl) rfl rfl ?_
                          obtain ⟨a78, e79, H⟩ := H
                          refine tr_p (f_idx (s := x4) Try.runUnderlying102 Try.sizeOf114 rfl rfl e79) rfl rfl ?_
                          refine tr_p (y_fa (off := 2) Try.runUnderlying114 fo_114_2 rfl) rfl rfl ?_
                          obtain ⟨y80, k81, H⟩ := H
                          refine tr_h (y_ld Try.isAgg9 rfl) k81 rfl rfl ?_
                          obtain ⟨a82, e83, H⟩ := H
                          refine tr_p (f_idx (s := x7) Try.runUnderlying37 Try.sizeOf9 rfl rfl e83) rfl rfl ?_
                          refine tr_e (f_store (vs := [(.string y80)]) Try.sizeOf9 rfl rfl rfl rfl (one1 rfl) H) rfl rfl ?_
                          rintro _ h84 ⟨rfl, H⟩
                          refine tr_nil ?_
                          refine tr_thenN ?_
                          refine tr_region ?_
                          refine tr_p (y_move rfl) rfl rfl ?_
                          refine tr_p (y_move rfl) rfl rfl ?_
                          refine tr_p (y_move rfl) rfl rfl ?_
                          refine tr_p (y_move rfl) rfl rfl ?_
                          obtain ⟨a85, e86, H⟩ := H
                          refine tr_p (f_idx (s := x4) Try.runUnderlying102 Try.sizeOf114 rfl rfl e86) rfl rfl ?_
                          refine tr_p (y_fa (off := 3) Try.runUnderlying114 fo_114_3 rfl) rfl rfl ?_
                          obtain ⟨y87, k88, H⟩ := H
                          refine tr_h (y_ld Try.isAgg3 rfl) k88 rfl rfl ?_
                          obtain ⟨a89, e90, H⟩ := H
                          refine tr_p (f_idx (s := x8) Try.runUnderlying38 Try.sizeOf3 rfl rfl e90) rfl rfl ?_
                          refine tr_e (f_store (vs := [(.int .i64 y87)]) Try.sizeOf3 rfl rfl rfl rfl (one1 rfl) H) rfl rfl ?_
                          rintro _ h91 ⟨rfl, H⟩
                          refine tr_nil ?_
                          refine tr_blockN ?_
                          refine tr_thenN ?_
                          refine tr_region ?_
                          refine tr_p (y_move rfl) rfl rfl ?_
                          refine tr_p (y_add rfl rfl) rfl rfl ?_
                          refine tr_p (y_assign rfl) rfl rfl ?_
                          refine tr_nil ?_
                          refine tr_thenN ?_
                          exact tr_join [(4, x4.enc), (7, x7.enc), (8, x8.enc), (9, (.int .i64 (IntKind.wrap .i64 (x9 + 1))))] ⟨rfl, rfl, rfl, rfl, trivial⟩ ⟨_, _, _, _, rfl, H⟩
                  · refine tr_draw mixed [0, 1, 3, 7, 7, 23, 63, 127, 7, 7, 775, 1799, 3847, 8191, 16383] (by kernel_rfl) ?_
                    refine g_p 0 1 rfl (by kernel_rfl) (y_move rfl) rfl rfl ?_
                    refine g_p 1 3 rfl (by kernel_rfl) (y_gtr rfl rfl) rfl rfl ?_
                    refine g_p 2 7 rfl (by kernel_rfl) (y_move rfl) rfl rfl ?_
                    refine g_split (t := 76) rfl (fun g93 => ?_) (fun g93 => ?_)
                    · replace H := H.1 g93
                      refine g_p 3 15 rfl (by kernel_rfl) (y_move rfl) rfl rfl ?_
                      refine g_p 4 31 rfl (by kernel_rfl) (y_move rfl) rfl rfl ?_
                      refine g_p 5 63 rfl (by kernel_rfl) (y_sub rfl rfl) rfl rfl ?_
                      obtain ⟨a94, e95, H⟩ := H
                      refine g_p 6 127 rfl (by kernel_rfl) (f_idx (s := x7) Try.runUnderlying37 Try.sizeOf9 rfl rfl e95) rfl rfl ?_
                      obtain ⟨y96, k97, H⟩ := H
                      refine g_h 7 255 rfl (by kernel_rfl) (y_ld Try.isAgg9 rfl) k97 rfl rfl ?_
                      refine g_p 8 511 rfl (by kernel_rfl) (y_move rfl) rfl rfl ?_
                      refine g_p 9 1023 rfl (by kernel_rfl) (y_move rfl) rfl rfl ?_
                      obtain ⟨a98, e99, H⟩ := H
                      refine g_p 10 2047 rfl (by kernel_rfl) (f_idx (s := x4) Try.runUnderlying102 Try.sizeOf114 rfl rfl e99) rfl rfl ?_
                      refine g_p 11 4095 rfl (by kernel_rfl) (y_fa (off := 2) Try.runUnderlying114 fo_114_2 rfl) rfl rfl ?_
                      obtain ⟨y100, k101, H⟩ := H
                      refine g_h 12 8191 rfl (by kernel_rfl) (y_ld Try.isAgg9 rfl) k101 rfl rfl ?_
                      refine g_p 13 16383 rfl (by kernel_rfl) (y_sgtr rfl rfl) rfl rfl ?_
                      refine g_p 14 32767 rfl (by kernel_rfl) (y_pick_t rfl rfl) rfl rfl ?_
                      refine g_d (by kernel_rfl) ?_
                      refine tr_thenN ?_
                      exact tr_join [(4, x4.enc), (7, x7.enc), (8, x8.enc), (9, (.int .i64 x9)), (10, (.int .i64 x10)), (88, (.bool (!(Op.bytesLess y96.toList y100.toList || (y96.toList == y100.toList)))))] ⟨rfl, rfl, rfl, rfl, rfl, rfl, trivial⟩ ⟨_, _, _, _, _, _, rfl, H⟩
                    · replace H := H.2 g93
                      refine g_s 3 15 rfl (by kernel_rfl) rfl rfl ?_
                      refine g_s 4 31 rfl (by kernel_rfl) rfl rfl ?_
                      refine g_s 5 63 rfl (by kernel_rfl) rfl rfl ?_
                      refine g_s 6 127 rfl (by kernel_rfl) rfl rfl ?_
                      refine g_s 7 255 rfl (by kernel_rfl) rfl rfl ?_
                      refine g_s 8 511 rfl (by kernel_rfl) rfl rfl ?_
                      refine g_s 9 1023 rfl (by kernel_rfl) rfl rfl ?_
                      refine g_s 10 2047 rfl (by kernel_rfl) rfl rfl ?_
                      refine g_s 11 4095 rfl (by kernel_rfl) rfl rfl ?_
                      refine g_s 12 8191 rfl (by kernel_rfl) rfl rfl ?_
                      refine g_s 13 16383 rfl (by kernel_rfl) rfl rfl ?_
                      refine g_p 14 32767 rfl (by kernel_rfl) (y_pick_f rfl rfl) rfl rfl ?_
                      refine g_d (by kernel_rfl) ?_
                      refine tr_thenN ?_
                      exact tr_join [(4, x4.enc), (7, x7.enc), (8, x8.enc), (9, (.int .i64 x9)), (10, (.int .i64 x10)), (88, (.bool false))] ⟨rfl, rfl, rfl, rfl, rfl, rfl, trivial⟩ ⟨_, _, _, _, _, _, rfl, H⟩
            · replace H := H.2 g53
              refine tr_exit ?_
              refine tr_thenE ?_
              refine tr_thenE ?_
              refine tr_hit ?_
              refine tr_thenN ?_
              refine tr_seq ?_
              refine tr_region ?_
              refine tr_p (y_move rfl) rfl rfl ?_
              refine tr_p (y_move rfl) rfl rfl ?_
              refine tr_p (y_assign rfl) rfl rfl ?_
              refine tr_p (y_assign rfl) rfl rfl ?_
              refine tr_nil ?_
              refine tr_thenN ?_
              refine tr_ret ?_
              exact tr_ret2 rfl rfl rfl ⟨_, _, rfl, H⟩

end Go.Proofs.Ytkedkajdiclmjaa.V
