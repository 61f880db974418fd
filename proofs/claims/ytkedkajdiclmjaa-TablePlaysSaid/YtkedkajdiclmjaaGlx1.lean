/- Printed by a program of this session (gen.py): Go functions as Lean functions over the heap, and that the Go code does what they say; no condition. -/
import Derived.Test.YtkedkajdiclmjaaGlx0
namespace Go.Proofs.Ytkedkajdiclmjaa.V
open Go
set_option linter.unusedVariables false
set_option maxRecDepth 100000
def F.spateref6_Table_Drop.j2 (Q : Int → Bool → H → Prop) (C1 : (Option Addr) → Int → Int → Int → H → Prop) (x0 : Option Addr) (x6 : Int) (x10 : Int) (x11 : Int) (h : H) : Prop :=
  nn x0 fun a60 =>
  ldL h (a60.add 0) fun y62 =>
  ((y62.len : Int) : Int) ≠ 0 ∧
  C1 x0 x6 x10 (Int.tmod (IntKind.wrap .i64 (x11 + 1)) (y62.len : Int)) h
def F.spateref6_Table_Drop.l1 (Q : Int → Bool → H → Prop) : Nat → (Option Addr) → Int → Int → Int → H → Prop
  | 0, _, _, _, _, _ => False
  | q1 + 1, x0, x6, x10, x11, h =>
    nn x0 fun a51 =>
    ldL h (a51.add 0) fun y53 =>
    idxA y53 x11 4 fun a55 =>
    ldB h (a55.add 0) fun y57 =>
    (y57 = true →
    nn x0 fun a65 =>
    ldL h (a65.add 0) fun y67 =>
    nn x0 fun a69 =>
    ldL h (a69.add 0) fun y71 =>
    idxA y71 x11 4 fun a73 =>
    ldS h (a73.add 2) fun y75 =>
    F.spateref6_home y67 y75 h fun r78 h77 =>
    F.spateref6_behind x6 r78 x11 h77 fun r80 h79 =>
    ((!r80) = true →
    nn x0 fun a82 =>
    ldL h79 (a82.add 0) fun y84 =>
    nn x0 fun a86 =>
    ldL h79 (a86.add 0) fun y88 =>
    idxA y88 x11 4 fun a90 =>
    ld_S_spateref6_Place h79 a90 fun y92 =>
    idxA y84 x6 4 fun a94 =>
    stH h79 a94 y92.cells fun h96 =>
    nn x0 fun a97 =>
    ldL h96 (a97.add 0) fun y99 =>
    idxA y99 x11 4 fun a101 =>
    stH h96 a101 ((⟨false, false, (⟨#[]⟩ : ByteArray), 0⟩ : S_spateref6_Place).cells) fun h103 =>
    F.spateref6_Table_Drop.j2 Q (F.spateref6_Table_Drop.l1 Q q1) x0 x11 x10 x11 h103) ∧
    ((!r80) = false →
    F.spateref6_Table_Drop.j2 Q (F.spateref6_Table_Drop.l1 Q q1) x0 x6 x10 x11 h79)) ∧
    (y57 = false →
    Q x10 true h)
/-- (*spate/spateref6.Table).Drop -/
def F.spateref6_Table_Drop (p0 : Option Addr) (p1 : ByteArray) (h : H) (Q : Int → Bool → H → Prop) : Prop :=
  F.spateref6_Table_Move p0 4 h fun r2 h1 =>
  F.spateref6_Table_Place p0 p1 h1 fun r4 r5 r6 h3 =>
  ((!r6) = true →
  Q 0 false h3) ∧
  ((!r6) = false →
  nn p0 fun a8 =>
  ldI .i64 h3 (a8.add 3) fun y10 =>
  nn p0 fun a12 =>
  stH h3 (a12.add 3) [(.int .i64 (IntKind.wrap .i64 (y10 - 1)))] fun h14 =>
  (r5 = true →
  nn p0 fun a16 =>
  ldL h14 (a16.add 1) fun y18 =>
  idxA y18 r4 4 fun a20 =>
  ldI .i64 h14 (a20.add 3) fun y22 =>
  nn p0 fun a24 =>
  ldL h14 (a24.add 1) fun y26 =>
  idxA y26 r4 4 fun a28 =>
  stH h14 a28 ((⟨false, true, (⟨#[]⟩ : ByteArray), 0⟩ : S_spateref6_Place).cells) fun h30 =>
  Q y22 true h30) ∧
  (r5 = false →
  nn p0 fun a31 =>
  ldL h14 (a31.add 0) fun y33 =>
  idxA y33 r4 4 fun a35 =>
  ldI .i64 h14 (a35.add 3) fun y37 =>
  nn p0 fun a39 =>
  ldL h14 (a39.add 0) fun y41 =>
  idxA y41 r4 4 fun a43 =>
  stH h14 a43 ((⟨false, false, (⟨#[]⟩ : ByteArray), 0⟩ : S_spateref6_Place).cells) fun h45 =>
  nn p0 fun a46 =>
  ldL h45 (a46.add 0) fun y48 =>
  ((y48.len : Int) : Int) ≠ 0 ∧
  ∃ m, F.spateref6_Table_Drop.l1 Q m p0 r4 y37 (Int.tmod (IntKind.wrap .i64 (r4 + 1)) (y48.len : Int)) h45))
theorem F.spateref6_Table_Drop_ok {p0 : Option Addr} {p1 : ByteArray} {h : H} {Q : Int → Bool → H → Prop} (H : F.spateref6_Table_Drop p0 p1 h Q) : Fn PP 59 ([(.pointer p0), (.string p1)] : List Value).toArray h fun r h' => ∃ r0 r1, r = .tuple #[(.int .i64 r0), (.bool r1)] ∧ Q r0 r1 h' := by
  unfold F.spateref6_Table_Drop at H
  refine fn_of Try.func59 Try.ntmps59 rfl rfl fun w0 => ?_
  refine tr_sub [(0, (.pointer p0)), (1, (.string p1))] ⟨rfl, rfl, trivial⟩ ?_
  refine tr_seq ?_
  refine tr_region ?_
  refine tr_p (y_assign rfl) rfl rfl ?_
  refine tr_p (y_assign rfl) rfl rfl ?_
  refine tr_nil ?_
  refine tr_thenN ?_
  refine tr_seq ?_
  refine tr_region ?_
  refine tr_p (y_move rfl) rfl rfl ?_
  refine tr_e (e_call Try.call60 rfl (F.spateref6_Table_Move_ok H)) rfl rfl ?_
  rintro _ h1 ⟨r2, rfl, H⟩
  refine tr_nil ?_
  refine tr_thenN ?_
  refine tr_seq ?_
  refine tr_region ?_
  refine tr_p (y_move rfl) rfl rfl ?_
  refine tr_p (y_move rfl) rfl rfl ?_
  refine tr_e (e_call Try.call64 rfl (F.spateref6_Table_Place_ok H)) rfl rfl ?_
  rintro _ h3 ⟨r4, r5, r6, rfl, H⟩
  refine tr_p (y_move rfl) rfl rfl ?_
  refine tr_p (y_ext rfl rfl) rfl rfl ?_
  refine tr_p (y_ext rfl rfl) rfl rfl ?_
  refine tr_p (y_ext rfl rfl) rfl rfl ?_
  refine tr_p (y_assign rfl) rfl rfl ?_
  refine tr_p (y_assign rfl) rfl rfl ?_
  refine tr_p (y_assign rfl) rfl rfl ?_
  refine tr_nil ?_
  refine tr_thenN ?_
  refine tr_seq ?_
  refine tr_seq ?_
  refine tr_region ?_
  refine tr_p (y_move rfl) rfl rfl ?_
  refine tr_p (y_not rfl) rfl rfl ?_
  refine tr_nil ?_
  refine tr_thenN ?_
  refine tr_cond rfl (fun g7 => ?_) (fun g7 => ?_)
  · replace H := H.1 g7
    refine tr_seq ?_
    refine tr_region ?_
    refine tr_p (y_assign rfl) rfl rfl ?_
    refine tr_p (y_assign rfl) rfl rfl ?_
    refine tr_nil ?_
    refine tr_thenN ?_
    refine tr_ret ?_
    refine tr_thenR ?_
    exact tr_ret2 rfl rfl rfl ⟨_, _, rfl, H⟩
  · replace H := H.2 g7
    refine tr_skip ?_
    refine tr_thenN ?_
    refine tr_seq ?_
    refine tr_region ?_
    refine tr_p (y_move rfl) rfl rfl ?_
    obtain ⟨a8, e9, H⟩ := H
    refine tr_p (f_nn rfl e9) rfl rfl ?_
    refine tr_p (y_fa (off := 3) Try.runUnderlying104 fo_104_3 rfl) rfl rfl ?_
    obtain ⟨y10, k11, H⟩ := H
    refine tr_h (y_ld Try.isAgg3 rfl) k11 rfl rfl ?_
    refine tr_p (y_sub rfl rfl) rfl rfl ?_
    obtain ⟨a12, e13, H⟩ := H
    refine tr_p (f_nn rfl e13) rfl rfl ?_
    refine tr_p (y_fa (off := 3) Try.runUnderlying104 fo_104_3 rfl) rfl rfl ?_
    refine tr_e (f_store (vs := [(.int .i64 (IntKind.wrap .i64 (y10 - 1)))]) Try.sizeOf3 rfl rfl rfl rfl (one1 rfl) H) rfl rfl ?_
    rintro _ h14 ⟨rfl, H⟩
    refine tr_nil ?_
    refine tr_thenN ?_
    refine tr_seq ?_
    refine tr_seq ?_
    refine tr_region ?_
    refine tr_p (y_move rfl) rfl rfl ?_
    refine tr_nil ?_
    refine tr_thenN ?_
    refine tr_cond rfl (fun g15 => ?_) (fun g15 => ?_)
    · replace H := H.1 g15
      refine tr_seq ?_
      refine tr_region ?_
      refine tr_p (y_move rfl) rfl rfl ?_
      obtain ⟨a16, e17, H⟩ := H
      refine tr_p (f_nn rfl e17) rfl rfl ?_
      refine tr_p (y_fa (off := 1) Try.runUnderlying104 fo_104_1 rfl) rfl rfl ?_
      obtain ⟨y18, k19, H⟩ := H
      refine tr_h (y_ld Try.isAgg102 rfl) k19 rfl rfl ?_
      refine tr_p (y_move rfl) rfl rfl ?_
      obtain ⟨a20, e21, H⟩ := H
      refine tr_p (f_idx (s := y18) Try.runUnderlying102 Try.sizeOf114 rfl rfl e21) rfl rfl ?_
      refine tr_p (y_fa (off := 3) Try.runUnderlying114 fo_114_3 rfl) rfl rfl ?_
      obtain ⟨y22, k23, H⟩ := H
      refine tr_h (y_ld Try.isAgg3 rfl) k23 rfl rfl ?_
      refine tr_p (y_assign rfl) rfl rfl ?_
      refine tr_nil ?_
      refine tr_thenN ?_
      refine tr_seq ?_
      refine tr_region ?_
      refine tr_p (y_move rfl) rfl rfl ?_
      obtain ⟨a24, e25, H⟩ := H
      refine tr_p (f_nn rfl e25) rfl rfl ?_
      refine tr_p (y_fa (off := 1) Try.runUnderlying104 fo_104_1 rfl) rfl rfl ?_
      obtain ⟨y26, k27, H⟩ := H
      refine tr_h (y_ld Try.isAgg102 rfl) k27 rfl rfl ?_
      refine tr_p (y_move rfl) rfl rfl ?_
      refine tr_p (f_build rfl (bd_114_1 true)) rfl rfl ?_
      obtain ⟨a28, e29, H⟩ := H
      refine tr_p (f_idx (s := y26) Try.runUnderlying102 Try.sizeOf114 rfl rfl e29) rfl rfl ?_
      refine tr_e (f_store (vs := (⟨false, true, (⟨#[]⟩ : ByteArray), 0⟩ : S_spateref6_Place).cells) Try.sizeOf114 rfl rfl cellsOfStruct rfl (by intro v hv; exact ones_S_spateref6_Place _ v hv) H) rfl rfl ?_
      rintro _ h30 ⟨rfl, H⟩
      refine tr_nil ?_
      refine tr_thenN ?_
      refine tr_seq ?_
      refine tr_region ?_
      refine tr_p (y_move rfl) rfl rfl ?_
      refine tr_p (y_assign rfl) rfl rfl ?_
      refine tr_p (y_assign rfl) rfl rfl ?_
      refine tr_nil ?_
      refine tr_thenN ?_
      refine tr_ret ?_
      refine tr_thenR ?_
      exact tr_ret2 rfl rfl rfl ⟨_, _, rfl, H⟩
    · replace H := H.2 g15
      refine tr_skip ?_
      refine tr_thenN ?_
      refine tr_seq ?_
      refine tr_region ?_
      refine tr_p (y_move rfl) rfl rfl ?_
      obtain ⟨a31, e32, H⟩ := H
      refine tr_p (f_nn rfl e32) rfl rfl ?_
      refine tr_p (y_fa (off := 0) Try.runUnderlying104 fo_104_0 rfl) rfl rfl ?_
      obtain ⟨y33, k34, H⟩ := H
      refine tr_h (y_ld Try.isAgg102 rfl) k34 rfl rfl ?_
      refine tr_p (y_move rfl) rfl rfl ?_
      obtain ⟨a35, e36, H⟩ := H
      refine tr_p (f_idx (s := y33) Try.runUnderlying102 Try.sizeOf114 rfl rfl e36) rfl rfl ?_
      refine tr_p (y_fa (off := 3) Try.runUnderlying114 fo_114_3 rfl) rfl rfl ?_
      obtain ⟨y37, k38, H⟩ := H
      refine tr_h (y_ld Try.isAgg3 rfl) k38 rfl rfl ?_
      refine tr_p (y_assign rfl) rfl rfl ?_
      refine tr_nil ?_
      refine tr_thenN ?_
      refine tr_seq ?_
      refine tr_region ?_
      refine tr_p (y_move rfl) rfl rfl ?_
      obtain ⟨a39, e40, H⟩ := H
      refine tr_p (f_nn rfl e40) rfl rfl ?_
      refine tr_p (y_fa (off := 0) Try.runUnderlying104 fo_104_0 rfl) rfl rfl ?_
      obtain ⟨y41, k42, H⟩ := H
      refine tr_h (y_ld Try.isAgg102 rfl) k42 rfl rfl ?_
      refine tr_p (y_move rfl) rfl rfl ?_
      refine tr_p (f_build rfl (bd_114_ )) rfl rfl ?_
      obtain ⟨a43, e44, H⟩ := H
      refine tr_p (f_idx (s := y41) Try.runUnderlying102 Try.sizeOf114 rfl rfl e44) rfl rfl ?_
      refine tr_e (f_store (vs := (⟨false, false, (⟨#[]⟩ : ByteArray), 0⟩ : S_spateref6_Place).cells) Try.sizeOf114 rfl rfl cellsOfStruct rfl (by intro v hv; exact ones_S_spateref6_Place _ v hv) H) rfl rfl ?_
      rintro _ h45 ⟨rfl, H⟩
      refine tr_nil ?_
      refine tr_thenN ?_
      refine tr_seq ?_
      refine tr_region ?_
      refine tr_p (y_move rfl) rfl rfl ?_
      refine tr_p (y_add rfl rfl) rfl rfl ?_
      refine tr_p (y_move rfl) rfl rfl ?_
      obtain ⟨a46, e47, H⟩ := H
      refine tr_p (f_nn rfl e47) rfl rfl ?_
      refine tr_p (y_fa (off := 0) Try.runUnderlying104 fo_104_0 rfl) rfl rfl ?_
      obtain ⟨y48, k49, H⟩ := H
      refine tr_h (y_ld Try.isAgg102 rfl) k49 rfl rfl ?_
      refine tr_p (y_len (ts := #[]) Try.runUnderlying102 (o := y48.ptr) (n := y48.len) (cap := y48.cap) rfl) rfl rfl ?_
      obtain ⟨e50, H⟩ := H
      refine tr_p (y_rem rfl rfl e50) rfl rfl ?_
      refine tr_p (y_assign rfl) rfl rfl ?_
      refine tr_nil ?_
      refine tr_thenN ?_
      refine tr_seq ?_
      refine tr_block ?_
      obtain ⟨m104, H⟩ := H
      refine tr_sub [(0, (.pointer p0)), (6, (.int .i64 r4)), (10, (.int .i64 y37)), (11, (.int .i64 (Int.tmod (IntKind.wrap .i64 (r4 + 1)) (y48.len : Int))))] ⟨rfl, rfl, rfl, rfl, trivial⟩ ?_
      refine tr_loop_j (fun m L' h => ∃ (x0 : Option Addr) (x6 : Int) (x10 : Int) (x11 : Int), L' = [(0, (.pointer x0)), (6, (.int .i64 x6)), (10, (.int .i64 x10)), (11, (.int .i64 x11))] ∧ F.spateref6_Table_Drop.l1 Q m x0 x6 x10 x11 h) ?_ ?_ m104 ⟨_, _, _, _, rfl, H⟩
      · rintro L' h ⟨_, _, _, _, _, H⟩; exact H
      · rintro q1 L' h ⟨x0, x6, x10, x11, rfl, H⟩
        unfold F.spateref6_Table_Drop.l1 at H
        refine tr_seq ?_
        refine tr_seq ?_
        refine tr_region ?_
        refine tr_p (y_move rfl) rfl rfl ?_
        obtain ⟨a51, e52, H⟩ := H
        refine tr_p (f_nn rfl e52) rfl rfl ?_
        refine tr_p (y_fa (off := 0) Try.runUnderlying104 fo_104_0 rfl) rfl rfl ?_
        obtain ⟨y53, k54, H⟩ := H
        refine tr_h (y_ld Try.isAgg102 rfl) k54 rfl rfl ?_
        refine tr_p (y_move rfl) rfl rfl ?_
        obtain ⟨a55, e56, H⟩ := H
        refine tr_p (f_idx (s := y53) Try.runUnderlying102 Try.sizeOf114 rfl rfl e56) rfl rfl ?_
        refine tr_p (y_fa (off := 0) Try.runUnderlying114 fo_114_0 rfl) rfl rfl ?_
        obtain ⟨y57, k58, H⟩ := H
        refine tr_h (y_ld Try.isAgg4 rfl) k58 rfl rfl ?_
        refine tr_nil ?_
        refine tr_thenN ?_
        refine tr_cond rfl (fun g59 => ?_) (fun g59 => ?_)
        · replace H := H.1 g59
          refine tr_skip ?_
          refine tr_thenN ?_
          refine tr_block ?_
          refine tr_seq_j (fun L' h => ∃ (x0 : Option Addr) (x6 : Int) (x10 : Int) (x11 : Int), L' = [(0, (.pointer x0)), (6, (.int .i64 x6)), (10, (.int .i64 x10)), (11, (.int .i64 x11))] ∧ F.spateref6_Table_Drop.j2 Q (F.spateref6_Table_Drop.l1 Q q1) x0 x6 x10 x11 h) ?_ ?_
          · rintro L' h ⟨x0, x6, x10, x11, rfl, H⟩
            unfold F.spateref6_Table_Drop.j2 at H
            refine tr_region ?_
            refine tr_p (y_move rfl) rfl rfl ?_
            refine tr_p (y_add rfl rfl) rfl rfl ?_
            refine tr_p (y_move rfl) rfl rfl ?_
            obtain ⟨a60, e61, H⟩ := H
            refine tr_p (f_nn rfl e61) rfl rfl ?_
            refine tr_p (y_fa (off := 0) Try.runUnderlying104 fo_104_0 rfl) rfl rfl ?_
            obtain ⟨y62, k63, H⟩ := H
            refine tr_h (y_ld Try.isAgg102 rfl) k63 rfl rfl ?_
            refine tr_p (y_len (ts := #[]) Try.runUnderlying102 (o := y62.ptr) (n := y62.len) (cap := y62.cap) rfl) rfl rfl ?_
            obtain ⟨e64, H⟩ := H
            refine tr_p (y_rem rfl rfl e64) rfl rfl ?_
            refine tr_p (y_assign rfl) rfl rfl ?_
            refine tr_nil ?_
            refine tr_blockN ?_
            refine tr_thenN ?_
            exact tr_join [(0, (.pointer x0)), (6, (.int .i64 x6)), (10, (.int .i64 x10)), (11, (.int .i64 (Int.tmod (IntKind.wrap .i64 (x11 + 1)) (y62.len : Int))))] ⟨rfl, rfl, rfl, rfl, trivial⟩ ⟨_, _, _, _, rfl, H⟩
          · refine tr_seq ?_
            refine tr_draw mixed [0, 0, 2, 6, 14, 0, 32, 96, 224, 0, 992, 2016, 4064, 8190, 0, 32767, 65535] (by kernel_rfl) ?_
            refine g_p 0 1 rfl (by kernel_rfl) (y_move rfl) rfl rfl ?_
            refine g_p 1 3 rfl (by kernel_rfl) (y_move rfl) rfl rfl ?_
            obtain ⟨a65, e66, H⟩ := H
            refine g_p 2 7 rfl (by kernel_rfl) (f_nn rfl e66) rfl rfl ?_
            refine g_p 3 15 rfl (by kernel_rfl) (y_fa (off := 0) Try.runUnderlying104 fo_104_0 rfl) rfl rfl ?_
            obtain ⟨y67, k68, H⟩ := H
            refine g_h 4 31 rfl (by kernel_rfl) (y_ld Try.isAgg102 rfl) k68 rfl rfl ?_
            refine g_p 5 63 rfl (by kernel_rfl) (y_move rfl) rfl rfl ?_
            obtain ⟨a69, e70, H⟩ := H
            refine g_p 6 127 rfl (by kernel_rfl) (f_nn rfl e70) rfl rfl ?_
            refine g_p 7 255 rfl (by kernel_rfl) (y_fa (off := 0) Try.runUnderlying104 fo_104_0 rfl) rfl rfl ?_
            obtain ⟨y71, k72, H⟩ := H
            refine g_h 8 511 rfl (by kernel_rfl) (y_ld Try.isAgg102 rfl) k72 rfl rfl ?_
            refine g_p 9 1023 rfl (by kernel_rfl) (y_move rfl) rfl rfl ?_
            obtain ⟨a73, e74, H⟩ := H
            refine g_p 10 2047 rfl (by kernel_rfl) (f_idx (s := y71) Try.runUnderlying102 Try.sizeOf114 rfl rfl e74) rfl rfl ?_
            refine g_p 11 4095 rfl (by kernel_rfl) (y_fa (off := 2) Try.runUnderlying114 fo_114_2 rfl) rfl rfl ?_
            obtain ⟨y75, k76, H⟩ := H
            refine g_h 12 8191 rfl (by kernel_rfl) (y_ld Try.isAgg9 rfl) k76 rfl rfl ?_
            refine g_p 14 24575 rfl (by kernel_rfl) (y_move rfl) rfl rfl ?_
            refine g_e 13 32767 [] (by kernel_rfl) rfl (by kernel_rfl) (e_call Try.call75 rfl (F.spateref6_home_ok H)) rfl rfl ?_
            rintro _ h77 ⟨r78, rfl, H⟩
            refine ⟨trivial, ?_⟩
            refine g_e 15 65535 [] (by kernel_rfl) rfl (by kernel_rfl) (e_call Try.call74 rfl (F.spateref6_behind_ok H)) rfl rfl ?_
            rintro _ h79 ⟨r80, rfl, H⟩
            refine ⟨trivial, ?_⟩
            refine g_p 16 131071 rfl (by kernel_rfl) (y_not rfl) rfl rfl ?_
            refine g_d (by kernel_rfl) ?_
            refine tr_thenN ?_
            refine tr_cond rfl (fun g81 => ?_) (fun g81 => ?_)
            · replace H := H.1 g81
              refine tr_seq ?_
              refine tr_draw mixed [0, 1, 3, 7, 0, 0, 32, 96, 224, 0, 992, 2016, 4095, 8191] (by kernel_rfl) ?_
              refine g_p 0 1 rfl (by kernel_rfl) (y_move rfl) rfl rfl ?_
              obtain ⟨a82, e83, H⟩ := H
              refine g_p 1 3 rfl (by kernel_rfl) (f_nn rfl e83) rfl rfl ?_
              refine g_p 2 7 rfl (by kernel_rfl) (y_fa (off := 0) Try.runUnderlying104 fo_104_0 rfl) rfl rfl ?_
              obtain ⟨y84, k85, H⟩ := H
              refine g_h 3 15 rfl (by kernel_rfl) (y_ld Try.isAgg102 rfl) k85 rfl rfl ?_
              refine g_p 4 31 rfl (by kernel_rfl) (y_move rfl) rfl rfl ?_
              refine g_p 5 63 rfl (by kernel_rfl) (y_move rfl) rfl rfl ?_
              obtain ⟨a86, e87, H⟩ := H
              refine g_p 6 127 rfl (by kernel_rfl) (f_nn rfl e87) rfl rfl ?_
              refine g_p 7 255 rfl (by kernel_rfl) (y_fa (off := 0) Try.runUnderlying104 fo_104_0 rfl) rfl rfl ?_
              obtain ⟨y88, k89, H⟩ := H
              refine g_h 8 511 rfl (by kernel_rfl) (y_ld Try.isAgg102 rfl) k89 rfl rfl ?_
              refine g_p 9 1023 rfl (by kernel_rfl) (y_move rfl) rfl rfl ?_
              obtain ⟨a90, e91, H⟩ := H
              refine g_p 10 2047 rfl (by kernel_rfl) (f_idx (s := y88) Try.runUnderlying102 Try.sizeOf114 rfl rfl e91) rfl rfl ?_
              obtain ⟨y92, k93, H⟩ := H
              refine g_h 11 4095 rfl (by kernel_rfl) (y_ldS Try.isAgg114 Try.sizeOf114 rfl rfl) k93 rfl rfl ?_
              obtain ⟨a94, e95, H⟩ := H
              refine g_p 12 8191 rfl (by kernel_rfl) (f_idx (s := y84) Try.runUnderlying102 Try.sizeOf114 rfl rfl e95) rfl rfl ?_
              refine g_e 13 16383 [] (by kernel_rfl) rfl (by kernel_rfl) (f_store (vs := y92.cells) Try.sizeOf114 rfl rfl cellsOfStruct rfl (by intro v hv; exact ones_S_spateref6_Place _ v hv) H) rfl rfl ?_
              rintro _ h96 ⟨rfl, H⟩
              refine ⟨trivial, ?_⟩
              refine g_d (by kernel_rfl) ?_
              refine tr_thenN ?_
              refine tr_seq ?_
              refine tr_region ?_
              refine tr_p (y_move rfl) rfl rfl ?_
              obtain ⟨a97, e98, H⟩ := H
              refine tr_p (f_nn rfl e98) rfl rfl ?_
              refine tr_p (y_fa (off := 0) Try.runUnderlying104 fo_104_0 rfl) rfl rfl ?_
              obtain ⟨y99, k100, H⟩ := H
              refine tr_h (y_ld Try.isAgg102 rfl) k100 rfl rfl ?_
              refine tr_p (y_move rfl) rfl rfl ?_
              refine tr_p (f_build rfl (bd_114_ )) rfl rfl ?_
              obtain ⟨a101, e102, H⟩ := H
              refine tr_p (f_idx (s := y99) Try.runUnderlying102 Try.sizeOf114 rfl rfl e102) rfl rfl ?_
              refine tr_e (f_store (vs := (⟨false, false, (⟨#[]⟩ : ByteArray), 0⟩ : S_spateref6_Place).cells) Try.sizeOf114 rfl rfl cellsOfStruct rfl (by intro v hv; exact ones_S_spateref6_Place _ v hv) H) rfl rfl ?_
              rintro _ h103 ⟨rfl, H⟩
              refine tr_nil ?_
              refine tr_thenN ?_
              refine tr_region ?_
              refine tr_p (y_move rfl) rfl rfl ?_
              refine tr_p (y_assign rfl) rfl rfl ?_
              refine tr_nil ?_
              refine tr_thenN ?_
              exact tr_join [(0, (.pointer x0)), (6, (.int .i64 x11)), (10, (.int .i64 x10)), (11, (.int .i64 x11))] ⟨rfl, rfl, rfl, rfl, trivial⟩ ⟨_, _, _, _, rfl, H⟩
            · replace H := H.2 g81
              refine tr_skip ?_
              refine tr_thenN ?_
              exact tr_join [(0, (.pointer x0)), (6, (.int .i64 x6)), (10, (.int .i64 x10)), (11, (.int .i64 x11))] ⟨rfl, rfl, rfl, rfl, trivial⟩ ⟨_, _, _, _, rfl, H⟩
        · replace H := H.2 g59
          refine tr_exit ?_
          refine tr_thenE ?_
          refine tr_thenE ?_
          refine tr_hit ?_
          refine tr_thenN ?_
          refine tr_seq ?_
          refine tr_region ?_
          refine tr_p (y_move rfl) rfl rfl ?_
          refine tr_p (y_assign rfl) rfl rfl ?_
          refine tr_p (y_assign rfl) rfl rfl ?_
          refine tr_nil ?_
          refine tr_thenN ?_
          refine tr_ret ?_
          exact tr_ret2 rfl rfl rfl ⟨_, _, rfl, H⟩

def F.spateref6_Table_All.j2 (Q : Sl → Sl → H → Prop) (C1 : (Option Addr) → Sl → Int → H → Prop) (x0 : Option Addr) (x4 : Sl) (x5 : Int) (h : H) : Prop :=
  C1 x0 x4 (IntKind.wrap .i64 (x5 + 1)) h
def F.spateref6_Table_All.j4 (Q : Sl → Sl → H → Prop) (C1 : (Option Addr) → Sl → Int → H → Prop) (x0 : Option Addr) (x4 : Sl) (x6 : Int) (h : H) : Prop :=
  C1 x0 x4 (IntKind.wrap .i64 (x6 + 1)) h
def F.spateref6_Table_All.j7 (Q : Sl → Sl → H → Prop) (C1 : Sl → Sl → Sl → Int → H → Prop) (C2 : Sl → Sl → Sl → Int → Int → H → Prop) (x4 : Sl) (x7 : Sl) (x8 : Sl) (x9 : Int) (x10 : Int) (h : H) : Prop :=
  C2 x4 x7 x8 x9 (IntKind.wrap .i64 (x10 - 1)) h
def F.spateref6_Table_All.l9 (Q : Sl → Sl → H → Prop) (C1 : Sl → Sl → Sl → Int → H → Prop) : Nat → Sl → Sl → Sl → Int → Int → Int → H → Prop
  | 0, _, _, _, _, _, _, _ => False
  | q9 + 1, x4, x7, x8, x9, x10, x11, h =>
    ((decide (x11 > x10)) = true →
    idxA x7 (IntKind.wrap .i64 (x11 - 1)) 1 fun a64 =>
    ldS h a64 fun y66 =>
    idxA x7 x11 1 fun a68 =>
    stH h a68 [(.string y66)] fun h70 =>
    idxA x8 (IntKind.wrap .i64 (x11 - 1)) 1 fun a71 =>
    ldI .i64 h70 a71 fun y73 =>
    idxA x8 x11 1 fun a75 =>
    stH h70 a75 [(.int .i64 y73)] fun h77 =>
    (F.spateref6_Table_All.l9 Q C1 q9) x4 x7 x8 x9 x10 (IntKind.wrap .i64 (x11 - 1)) h77) ∧
    ((decide (x11 > x10)) = false →
    idxA x4 x9 4 fun a78 =>
    ldS h (a78.add 2) fun y80 =>
    idxA x7 x10 1 fun a82 =>
    stH h a82 [(.string y80)] fun h84 =>
    idxA x4 x9 4 fun a85 =>
    ldI .i64 h84 (a85.add 3) fun y87 =>
    idxA x8 x10 1 fun a89 =>
    stH h84 a89 [(.int .i64 y87)] fun h91 =>
    C1 x4 x7 x8 (IntKind.wrap .i64 (x9 + 1)) h91)
def F.spateref6_Table_All.j8 (Q : Sl → Sl → H → Prop) (C1 : Sl → Sl → Sl → Int → H → Prop) (C2 : Sl → Sl → Sl → Int → Int → H → Prop) (x4 : Sl) (x7 : Sl) (x8 : Sl) (x9 : Int) (x10 : Int) (x88 : Bool) (h : H) : Prop :=
  (x88 = true →
  F.spateref6_Table_All.j7 Q C1 C2 x4 x7 x8 x9 x10 h) ∧
  (x88 = false →
  newL h #[(.string (⟨#[]⟩ : ByteArray))] ty_9 1 fun s56 h55 =>
  runL PP (Builtin.append_ #[37, 37] 37 #[x7.enc, s56.enc]) h55 fun s58 h57 =>
  newL h57 #[(.int .i64 0)] ty_3 1 fun s60 h59 =>
  runL PP (Builtin.append_ #[38, 38] 38 #[x8.enc, s60.enc]) h59 fun s62 h61 =>
  ∃ m, F.spateref6_Table_All.l9 Q C1 m x4 s58 s62 x9 x10 (IntKind.wrap .i64 ((s58.len : Int) - 1)) h61)
def F.spateref6_Table_All.l6 (Q : Sl → Sl → H → Prop) (C1 : Sl → Sl → Sl → Int → H → Prop) : Nat → Sl → Sl → Sl → Int → Int → H → Prop
  | 0, _, _, _, _, _, _ => False
  | q6 + 1, x4, x7, x8, x9, x10, h =>
    ((decide (x10 > 0)) = true →
    idxA x7 (IntKind.wrap .i64 (x10 - 1)) 1 fun a94 =>
    ldS h a94 fun y96 =>
    idxA x4 x9 4 fun a98 =>
    ldS h (a98.add 2) fun y100 =>
    F.spateref6_Table_All.j8 Q C1 (F.spateref6_Table_All.l6 Q C1 q6) x4 x7 x8 x9 x10 (!(Op.bytesLess y96.toList y100.toList || (y96.toList == y100.toList))) h) ∧
    ((decide (x10 > 0)) = false →
    F.spateref6_Table_All.j8 Q C1 (F.spateref6_Table_All.l6 Q C1 q6) x4 x7 x8 x9 x10 false h)
def F.spateref6_Table_All.l5 (Q : Sl → Sl → H → Prop) : Nat → Sl → Sl → Sl → Int → H → Prop
  | 0, _, _, _, _, _ => False
  | q5 + 1, x4, x7, x8, x9, h =>
    ((decide (x9 < (x4.len : Int))) = true →
    ∃ m, F.spateref6_Table_All.l6 Q (F.spateref6_Table_All.l5 Q q5) m x4 x7 x8 x9 (x7.len : Int) h) ∧
    ((decide (x9 < (x4.len : Int))) = false →
    Q x7 x8 h)
def F.spateref6_Table_All.l3 (Q : Sl → Sl → H → Prop) : Nat → (Option Addr) → Sl → Int → H → Prop
  | 0, _, _, _, _ => False
  | q3 + 1, x0, x4, x6, h =>
    nn x0 fun a27 =>
    ldL h (a27.add 1) fun y29 =>
    ((decide (x6 < (y29.len : Int))) = true →
    nn x0 fun a32 =>
    ldL h (a32.add 1) fun y34 =>
    idxA y34 x6 4 fun a36 =>
    ldB h (a36.add 0) fun y38 =>
    (y38 = true →
    nn x0 fun a41 =>
    ldL h (a41.add 1) fun y43 =>
    idxA y43 x6 4 fun a45 =>
    ld_S_spateref6_Place h a45 fun y47 =>
    newL h ((y47.cells).toArray) ty_114 1 fun s50 h49 =>
    runL PP (Builtin.append_ #[102, 102] 102 #[x4.enc, s50.enc]) h49 fun s52 h51 =>
    F.spateref6_Table_All.j4 Q (F.spateref6_Table_All.l3 Q q3) x0 s52 x6 h51) ∧
    (y38 = false →
    F.spateref6_Table_All.j4 Q (F.spateref6_Table_All.l3 Q q3) x0 x4 x6 h)) ∧
    ((decide (x6 < (y29.len : Int))) = false →
    ∃ m, F.spateref6_Table_All.l5 Q m x4 (⟨none, 0, 0⟩ : Sl) (⟨none, 0, 0⟩ : Sl) 0 h)
def F.spateref6_Table_All.l1 (Q : Sl → Sl → H → Prop) : Nat → (Option Addr) → Sl → Int → H → Prop
  | 0, _, _, _, _ => False
  | q1 + 1, x0, x4, x5, h =>
    nn x0 fun a1 =>
    ldL h (a1.add 0) fun y3 =>
    ((decide (x5 < (y3.len : Int))) = true →
    nn x0 fun a6 =>
    ldL h (a6.add 0) fun y8 =>
    idxA y8 x5 4 fun a10 =>
    ldB h (a10.add 0) fun y12 =>
    (y12 = true →
    nn x0 fun a15 =>
    ldL h (a15.add 0) fun y17 =>
    idxA y17 x5 4 fun a19 =>
    ld_S_spateref6_Place h a19 fun y21 =>
    newL h ((y21.cells).toArray) ty_114 1 fun s24 h23 =>
    runL PP (Builtin.append_ #[102, 102] 102 #[x4.enc, s24.enc]) h23 fun s26 h25 =>
    F.spateref6_Table_All.j2 Q (F.spateref6_Table_All.l1 Q q1) x0 s26 x5 h25) ∧
    (y12 = false →
    F.spateref6_Table_All.j2 Q (F.spateref6_Table_All.l1 Q q1) x0 x4 x5 h)) ∧
    ((decide (x5 < (y3.len : Int))) = false →
    ∃ m, F.spateref6_Table_All.l3 Q m x0 x4 0 h)
/-- (*spate/spateref6.Table).All -/
def F.spateref6_Table_All (p0 : Option Addr) (h : H) (Q : Sl → Sl → H → Prop) : Prop :=
  ∃ m, F.spateref6_Table_All.l1 Q m p0 (⟨none, 0, 0⟩ : Sl) 0 h
theorem F.spateref6_Table_All_ok {p0 : Option Addr} {h : H} {Q : Sl → Sl → H → Prop} (H : F.spateref6_Table_All p0 h Q) : Fn PP 65 ([(.pointer p0)] : List Value).toArray h fun r h' => ∃ r0 r1, r = .tuple #[r0.enc, r1.enc] ∧ Q r0 r1 h' := by
  unfold F.spateref6_Table_All at H
  refine fn_of Try.func65 Try.ntmps65 rfl rfl fun w0 => ?_
  refine tr_sub [(0, (.pointer p0))] ⟨rfl, trivial⟩ ?_
  refine tr_seq ?_
  refine tr_region ?_
  refine tr_p (y_assign rfl) rfl rfl ?_
  refine tr_p (y_assign rfl) rfl rfl ?_
  refine tr_nil ?_
  refine tr_thenN ?_
  refine tr_seq ?_
  refine tr_region ?_
  refine tr_p (y_assign rfl) rfl rfl ?_
  refine tr_nil ?_
  refine tr_thenN ?_
  refine tr_seq ?_
  refine tr_seq ?_
  refine tr_region ?_
  refine tr_p (y_assign rfl) rfl rfl ?_
  refine tr_nil ?_
  refine tr_thenN ?_
  refine tr_block ?_
  obtain ⟨m105, H⟩ := H
  refine tr_sub [(0, (.pointer p0)), (4, (⟨none, 0, 0⟩ : Sl).enc), (5, (.int .i64 0))] ⟨rfl, rfl, rfl, trivial⟩ ?_
  refine tr_loop_j (fun m L' h => ∃ (x0 : Option Addr) (x4 : Sl) (x5 : Int), L' = [(0, (.pointer x0)), (4, x4.enc), (5, (.int .i64 x5))] ∧ F.spateref6_Table_All.l1 Q m x0 x4 x5 h) ?_ ?_ m105 ⟨_, _, _, rfl, H⟩
  · rintro L' h ⟨_, _, _, _, H⟩; exact H
  · rintro q1 L' h ⟨x0, x4, x5, rfl, H⟩
    unfold F.spateref6_Table_All.l1 at H
    refine tr_seq ?_
    refine tr_seq ?_
    refine tr_region ?_
    refine tr_p (y_move rfl) rfl rfl ?_
    refine tr_p (y_move rfl) rfl rfl ?_
    obtain ⟨a1, e2, H⟩ := H
    refine tr_p (f_nn rfl e2) rfl rfl ?_
    refine tr_p (y_fa (off := 0) Try.runUnderlying104 fo_104_0 rfl) rfl rfl ?_
    obtain ⟨y3, k4, H⟩ := H
    refine tr_h (y_ld Try.isAgg102 rfl) k4 rfl rfl ?_
    refine tr_p (y_len (ts := #[]) Try.runUnderlying102 (o := y3.ptr) (n := y3.len) (cap := y3.cap) rfl) rfl rfl ?_
    refine tr_p (y_lss rfl rfl) rfl rfl ?_
    refine tr_nil ?_
    refine tr_thenN ?_
    refine tr_cond rfl (fun g5 => ?_) (fun g5 => ?_)
    · replace H := H.1 g5
      refine tr_skip ?_
      refine tr_thenN ?_
      refine tr_seq_j (fun L' h => ∃ (x0 : Option Addr) (x4 : Sl) (x5 : Int), L' = [(0, (.pointer x0)), (4, x4.enc), (5, (.int .i64 x5))] ∧ F.spateref6_Table_All.j2 Q (F.spateref6_Table_All.l1 Q q1) x0 x4 x5 h) ?_ ?_
      · rintro L' h ⟨x0, x4, x5, rfl, H⟩
        unfold F.spateref6_Table_All.j2 at H
        refine tr_region ?_
        refine tr_p (y_move rfl) rfl rfl ?_
        refine tr_p (y_add rfl rfl) rfl rfl ?_
        refine tr_p (y_assign rfl) rfl rfl ?_
        refine tr_nil ?_
        refine tr_thenN ?_
        exact tr_join [(0, (.pointer x0)), (4, x4.enc), (5, (.int .i64 (IntKind.wrap .i64 (x5 + 1))))] ⟨rfl, rfl, rfl, trivial⟩ ⟨_, _, _, rfl, H⟩
      · refine tr_block ?_
        refine tr_seq ?_
        refine tr_region ?_
        refine tr_p (y_move rfl) rfl rfl ?_
        obtain ⟨a6, e7, H⟩ := H
        refine tr_p (f_nn rfl e7) rfl rfl ?_
        refine tr_p (y_fa (off := 0) Try.runUnderlying104 fo_104_0 rfl) rfl rfl ?_
        obtain ⟨y8, k9, H⟩ := H
        refine tr_h (y_ld Try.isAgg102 rfl) k9 rfl rfl ?_
        refine tr_p (y_move rfl) rfl rfl ?_
        obtain ⟨a10, e11, H⟩ := H
        refine tr_p (f_idx (s := y8) Try.runUnderlying102 Try.sizeOf114 rfl rfl e11) rfl rfl ?_
        refine tr_p (y_fa (off := 0) Try.runUnderlying114 fo_114_0 rfl) rfl rfl ?_
        obtain ⟨y12, k13, H⟩ := H
        refine tr_h (y_ld Try.isAgg4 rfl) k13 rfl rfl ?_
        refine tr_nil ?_
        refine tr_thenN ?_
        refine tr_cond rfl (fun g14 => ?_) (fun g14 => ?_)
        · replace H := H.1 g14
          refine tr_region ?_
          refine tr_p (y_move rfl) rfl rfl ?_
          refine tr_p (y_move rfl) rfl rfl ?_
          obtain ⟨a15, e16, H⟩ := H
          refine tr_p (f_nn rfl e16) rfl rfl ?_
          refine tr_p (y_fa (off := 0) Try.runUnderlying104 fo_104_0 rfl) rfl rfl ?_
          obtain ⟨y17, k18, H⟩ := H
          refine tr_h (y_ld Try.isAgg102 rfl) k18 rfl rfl ?_
          refine tr_p (y_move rfl) rfl rfl ?_
          obtain ⟨a19, e20, H⟩ := H
          refine tr_p (f_idx (s := y17) Try.runUnderlying102 Try.sizeOf114 rfl rfl e20) rfl rfl ?_
          obtain ⟨y21, k22, H⟩ := H
          refine tr_h (y_ldS Try.isAgg114 Try.sizeOf114 rfl rfl) k22 rfl rfl ?_
          refine tr_e (f_buildL (cs := (y21.cells).toArray) rfl rfl (bl_102_1_0 y21) H) rfl rfl ?_
          rintro _ h23 ⟨s24, rfl, H⟩
          refine tr_e (f_app rfl H) rfl rfl ?_
          rintro _ h25 ⟨s26, rfl, H⟩
          refine tr_p (y_assign rfl) rfl rfl ?_
          refine tr_nil ?_
          refine tr_blockN ?_
          refine tr_thenN ?_
          exact tr_join [(0, (.pointer x0)), (4, s26.enc), (5, (.int .i64 x5))] ⟨rfl, rfl, rfl, trivial⟩ ⟨_, _, _, rfl, H⟩
        · replace H := H.2 g14
          refine tr_skip ?_
          refine tr_blockN ?_
          refine tr_thenN ?_
          exact tr_join [(0, (.pointer x0)), (4, x4.enc), (5, (.int .i64 x5))] ⟨rfl, rfl, rfl, trivial⟩ ⟨_, _, _, rfl, H⟩
    · replace H := H.2 g5
      refine tr_exit ?_
      refine tr_thenE ?_
      refine tr_thenE ?_
      refine tr_hit ?_
      refine tr_thenN ?_
      refine tr_seq ?_
      refine tr_seq ?_
      refine tr_region ?_
      refine tr_p (y_assign rfl) rfl rfl ?_
      refine tr_nil ?_
      refine tr_thenN ?_
      refine tr_block ?_
      obtain ⟨m104, H⟩ := H
      refine tr_sub [(0, (.pointer x0)), (4, x4.enc), (6, (.int .i64 0))] ⟨rfl, rfl, rfl, trivial⟩ ?_
      refine tr_loop_j (fun m L' h => ∃ (x0 : Option Addr) (x4 : Sl) (x6 : Int), L' = [(0, (.pointer x0)), (4, x4.enc), (6, (.int .i64 x6))] ∧ F.spateref6_Table_All.l3 Q m x0 x4 x6 h) ?_ ?_ m104 ⟨_, _, _, rfl, H⟩
      · rintro L' h ⟨_, _, _, _, H⟩; exact H
      · rintro q3 L' h ⟨x0, x4, x6, rfl, H⟩
        unfold F.spateref6_Table_All.l3 at H
        refine tr_seq ?_
        refine tr_seq ?_
        refine tr_region ?_
        refine tr_p (y_move rfl) rfl rfl ?_
        refine tr_p (y_move rfl) rfl rfl ?_
        obtain ⟨a27, e28, H⟩ := H
        refine tr_p (f_nn rfl e28) rfl rfl ?_
        refine tr_p (y_fa (off := 1) Try.runUnderlying104 fo_104_1 rfl) rfl rfl ?_
        obtain ⟨y29, k30, H⟩ := H
        refine tr_h (y_ld Try.isAgg102 rfl) k30 rfl rfl ?_
        refine tr_p (y_len (ts := #[]) Try.runUnderlying102 (o := y29.ptr) (n := y29.len) (cap := y29.cap) rfl) rfl rfl ?_
        refine tr_p (y_lss rfl rfl) rfl rfl ?_
        refine tr_nil ?_
        refine tr_thenN ?_
        refine tr_cond rfl (fun g31 => ?_) (fun g31 => ?_)
        · replace H := H.1 g31
          refine tr_skip ?_
          refine tr_thenN ?_
          refine tr_seq_j (fun L' h => ∃ (x0 : Option Addr) (x4 : Sl) (x6 : Int), L' = [(0, (.pointer x0)), (4, x4.enc), (6, (.int .i64 x6))] ∧ F.spateref6_Table_All.j4 Q (F.spateref6_Table_All.l3 Q q3) x0 x4 x6 h) ?_ ?_
          · rintro L' h ⟨x0, x4, x6, rfl, H⟩
            unfold F.spateref6_Table_All.j4 at H
            refine tr_region ?_
            refine tr_p (y_move rfl) rfl rfl ?_
            refine tr_p (y_add rfl rfl) rfl rfl ?_
            refine tr_p (y_assign rfl) rfl rfl ?_
            refine tr_nil ?_
            refine tr_thenN ?_
            exact tr_join [(0, (.pointer x0)), (4, x4.enc), (6, (.int .i64 (IntKind.wrap .i64 (x6 + 1))))] ⟨rfl, rfl, rfl, trivial⟩ ⟨_, _, _, rfl, H⟩
          · refine tr_block ?_
            refine tr_seq ?_
            refine tr_region ?_
            refine tr_p (y_move rfl) rfl rfl ?_
            obtain ⟨a32, e33, H⟩ := H
            refine tr_p (f_nn rfl e33) rfl rfl ?_
            refine tr_p (y_fa (off := 1) Try.runUnderlying104 fo_104_1 rfl) rfl rfl ?_
            obtain ⟨y34, k35, H⟩ := H
            refine tr_h (y_ld Try.isAgg102 rfl) k35 rfl rfl ?_
            refine tr_p (y_move rfl) rfl rfl ?_
            obtain ⟨a36, e37, H⟩ := H
            refine tr_p (f_idx (s := y34) Try.runUnderlying102 Try.sizeOf114 rfl rfl e37) rfl rfl ?_
            refine tr_p (y_fa (off := 0) Try.runUnderlying114 fo_114_0 rfl) rfl rfl ?_
            obtain ⟨y38, k39, H⟩ := H
            refine tr_h (y_ld Try.isAgg4 rfl) k39 rfl rfl ?_
            refine tr_nil ?_
            refine tr_thenN ?_
            refine tr_cond rfl (fun g40 => ?_) (fun g40 => ?_)
            · replace H := H.1 g40
              refine tr_region ?_
              refine tr_p (y_move rfl) rfl rfl ?_
              refine tr_p (y_move rfl) rfl rfl ?_
              obtain ⟨a41, e42, H⟩ := H
              refine tr_p (f_nn rfl e42) rfl rfl ?_
              refine tr_p (y_fa (off := 1) Try.runUnderlying104 fo_104_1 rfl) rfl rfl ?_
              obtain ⟨y43, k44, H⟩ := H
              refine tr_h (y_ld Try.isAgg102 rfl) k44 rfl rfl ?_
              refine tr_p (y_move rfl) rfl rfl ?_
              obtain ⟨a45, e46, H⟩ := H
              refine tr_p (f_idx (s := y43) Try.runUnderlying102 Try.sizeOf114 rfl rfl e46) rfl rfl ?_
              obtain ⟨y47, k48, H⟩ := H
              refine tr_h (y_ldS Try.isAgg114 Try.sizeOf114 rfl rfl) k48 rfl rfl ?_
              refine tr_e (f_buildL (cs := (y47.cells).toArray) rfl rfl (bl_102_1_0 y47) H) rfl rfl ?_
              rintro _ h49 ⟨s50, rfl, H⟩
              refine tr_e (f_app rfl H) rfl rfl ?_
              rintro _ h51 ⟨s52, rfl, H⟩
              refine tr_p (y_assign rfl) rfl rfl ?_
              refine tr_nil ?_
              refine tr_blockN ?_
              refine tr_thenN ?_
              exact tr_join [(0, (.pointer x0)), (4, s52.enc), (6, (.int .i64 x6))] ⟨rfl, rfl, rfl, trivial⟩ ⟨_, _, _, rfl, H⟩
            · replace H := H.2 g40
              refine tr_skip ?_
              refine tr_blockN ?_
              refine tr_thenN ?_
              exact tr_join [(0, (.pointer x0)), (4, x4.enc), (6, (.int .i64 x6))] ⟨rfl, rfl, rfl, trivial⟩ ⟨_, _, _, rfl, H⟩
        · replace H := H.2 g31
          refine tr_exit ?_
          refine tr_thenE ?_
          refine tr_thenE ?_
          refine tr_hit ?_
          refine tr_thenN ?_
          refine tr_seq ?_
          refine tr_region ?_
          refine tr_p (y_assign rfl) rfl rfl ?_
          refine tr_nil ?_
          refine tr_thenN ?_
          refine tr_seq ?_
          refine tr_region ?_
          refine tr_p (y_assign rfl) rfl rfl ?_
          refine tr_nil ?_
          refine tr_thenN ?_
          refine tr_seq ?_
          refine tr_seq ?_
          refine tr_region ?_
          refine tr_p (y_assign rfl) rfl rfl ?_
          refine tr_nil ?_
          refine tr_thenN ?_
          refine tr_block ?_
          obtain ⟨m103, H⟩ := H
          refine tr_sub [(4, x4.enc), (7, (⟨none, 0, 0⟩ : Sl).enc), (8, (⟨none, 0, 0⟩ : Sl).enc), (9, (.int .i64 0))] ⟨rfl, rfl, rfl, rfl, trivial⟩ ?_
          refine tr_loop_j (fun m L' h => ∃ (x4 : Sl) (x7 : Sl) (x8 : Sl) (x9 : Int), L' = [(4, x4.enc), (7, x7.enc), (8, x8.enc), (9, (.int .i64 x9))] ∧ F.spateref6_Table_All.l5 Q m x4 x7 x8 x9 h) ?_ ?_ m103 ⟨_, _, _, _, rfl, H⟩
          · rintro L' h ⟨_, _, _, _, _, H⟩; exact H
          · rintro q5 L' h ⟨x4, x7, x8, x9, rfl, H⟩
            unfold F.spateref6_Table_All.l5 at H
            refine tr_seq ?_
            refine tr_seq ?_
            refine tr_region ?_
            refine tr_p (y_move rfl) rfl rfl ?_
            refine tr_p (y_move rfl) rfl rfl ?_
            refine tr_p (y_len (ts := #[]) Try.runUnderlying102 (o := x4.ptr) (n := x4.len) (cap := x4.cap) rfl) rfl rfl ?_
            refine tr_p (y_lss rfl rfl) rfl rfl ?_
            refine tr_nil ?_
            refine tr_thenN ?_
            refine tr_cond rfl (fun g53 => ?_) (fun g53 => ?_)
            · replace H := H.1 g53
              refine tr_skip ?_
              refine tr_thenN ?_
              refine tr_seq ?_
              refine tr_block ?_
              refine tr_seq ?_
              refine tr_region ?_
              refine tr_p (y_move rfl) rfl rfl ?_
              refine tr_p (y_len (ts := #[]) Try.runUnderlying37 (o := x7.ptr) (n := x7.len) (cap := x7.cap) rfl) rfl rfl ?_
              refine tr_p (y_assign rfl) rfl rfl ?_
              refine tr_nil ?_
              refine tr_thenN ?_
              refine tr_seq ?_
              refine tr_block ?_
              obtain ⟨m102, H⟩ := H
              refine tr_sub [(4, x4.enc), (7, x7.enc), (8, x8.enc), (9, (.int .i64 x9)), (10, (.int .i64 (x7.len : Int)))] ⟨rfl, rfl, rfl, rfl, rfl, trivial⟩ ?_
              refine tr_loop_j (fun m L' h => ∃ (x4 : Sl) (x7 : Sl) (x8 : Sl) (x9 : Int) (x10 : Int), L' = [(4, x4.enc), (7, x7.enc), (8, x8.enc), (9, (.int .i64 x9)), (10, (.int .i64 x10))] ∧ F.spateref6_Table_All.l6 Q (F.spateref6_Table_All.l5 Q q5) m x4 x7 x8 x9 x10 h) ?_ ?_ m102 ⟨_, _, _, _, _, rfl, H⟩
              · rintro L' h ⟨_, _, _, _, _, _, H⟩; exact H
              · rintro q6 L' h ⟨x4, x7, x8, x9, x10, rfl, H⟩
                unfold F.spateref6_Table_All.l6 at H
                refine tr_seq_j (fun L' h => ∃ (x4 : Sl) (x7 : Sl) (x8 : Sl) (x9 : Int) (x10 : Int), L' = [(4, x4.enc), (7, x7.enc), (8, x8.enc), (9, (.int .i64 x9)), (10, (.int .i64 x10))] ∧ F.spateref6_Table_All.j7 Q (F.spateref6_Table_All.l5 Q q5) (F.spateref6_Table_All.l6 Q (F.spateref6_Table_All.l5 Q q5) q6) x4 x7 x8 x9 x10 h) ?_ ?_
                · rintro L' h ⟨x4, x7, x8, x9, x10, rfl, H⟩
                  unfold F.spateref6_Table_All.j7 at H
                  refine tr_block ?_
                  refine tr_region ?_
                  refine tr_p (y_move rfl) rfl rfl ?_
                  refine tr_p (y_sub rfl rfl) rfl rfl ?_
                  refine tr_p (y_assign rfl) rfl rfl ?_
                  refine tr_nil ?_
                  refine tr_blockN ?_
                  refine tr_thenN ?_
                  exact tr_join [(4, x4.enc), (7, x7.enc), (8, x8.enc), (9, (.int .i64 x9)), (10, (.int .i64 (IntKind.wrap .i64 (x10 - 1))))] ⟨rfl, rfl, rfl, rfl, rfl, trivial⟩ ⟨_, _, _, _, _, rfl, H⟩
                · refine tr_seq_j (fun L' h => ∃ (x4 : Sl) (x7 : Sl) (x8 : Sl) (x9 : Int) (x10 : Int) (x88 : Bool), L' = [(4, x4.enc), (7, x7.enc), (8, x8.enc), (9, (.int .i64 x9)), (10, (.int .i64 x10)), (88, (.bool x88))] ∧ F.spateref6_Table_All.j8 Q (F.spateref6_Table_All.l5 Q q5) (F.spateref6_Table_All.l6 Q (F.spateref6_Table_All.l5 Q q5) q6) x4 x7 x8 x9 x10 x88 h) ?_ ?_
                  · rintro L' h ⟨x4, x7, x8, x9, x10, x88, rfl, H⟩
                    unfold F.spateref6_Table_All.j8 at H
                    refine tr_cond rfl (fun g54 => ?_) (fun g54 => ?_)
                    · replace H := H.1 g54
                      refine tr_skip ?_
                      refine tr_thenN ?_
                      exact tr_join [(4, x4.enc), (7, x7.enc), (8, x8.enc), (9, (.int .i64 x9)), (10, (.int .i64 x10))] ⟨rfl, rfl, rfl, rfl, rfl, trivial⟩ ⟨_, _, _, _, _, rfl, H⟩
                    · replace H := H.2 g54
                      refine tr_exit ?_
                      refine tr_thenE ?_
                      refine tr_thenE ?_
                      refine tr_hit ?_
                      refine tr_thenN ?_
                      refine tr_seq ?_
                      refine tr_region ?_
                      refine tr_p (y_move rfl) rfl rfl ?_
                      refine tr_e (f_buildL (cs := #[(.string (⟨#[]⟩ : ByteArray))]) rfl rfl (bl_37_1_0 (⟨#[]⟩ : ByteArray)) H) rfl rfl ?_
                      rintro _ h55 ⟨s56, rfl, H⟩
                      refine tr_e (f_app rfl H) rfl rfl ?_
                      rintro _ h57 ⟨s58, rfl, H⟩
                      refine tr_p (y_assign rfl) rfl rfl ?_
                      refine tr_nil ?_
                      refine tr_thenN ?_
                      refine tr_seq ?_
                      refine tr_region ?_
                      refine tr_p (y_move rfl) rfl rfl ?_
                      refine tr_e (f_buildL (cs := #[(.int .i64 0)]) rfl rfl (bl_38_1_0 0) H) rfl rfl ?_
                      rintro _ h59 ⟨s60, rfl, H⟩
                      refine tr_e (f_app rfl H) rfl rfl ?_
                      rintro _ h61 ⟨s62, rfl, H⟩
                      refine tr_p (y_assign rfl) rfl rfl ?_
                      refine tr_nil ?_
                      refine tr_thenN ?_
                      refine tr_seq ?_
                      refine tr_seq ?_
                      refine tr_region ?_
                      refine tr_p (y_move rfl) rfl rfl ?_
                      refine tr_p (y_len (ts := #[]) Try.runUnderlying37 (o := s58.ptr) (n := s58.len) (cap := s58.cap) rfl) rfl rfl ?_
                      refine tr_p (y_sub rfl rfl) rfl rfl ?_
                      refine tr_p (y_assign rfl) rfl rfl ?_
                      refine tr_nil ?_
                      refine tr_thenN ?_
                      refine tr_block ?_
                      obtain ⟨m92, H⟩ := H
                      refine tr_sub [(4, x4.enc), (7, s58.enc), (8, s62.enc), (9, (.int .i64 x9)), (10, (.int .i64 x10)), (11, (.int .i64 (IntKind.wrap .i64 ((s58.len : Int) - 1))))] ⟨rfl, rfl, rfl, rfl, rfl, rfl, trivial⟩ ?_
                      refine tr_loop_j (fun m L' h => ∃ (x4 : Sl) (x7 : Sl) (x8 : Sl) (x9 : Int) (x10 : Int) (x11 : Int), L' = [(4, x4.enc), (7, x7.enc), (8, x8.enc), (9, (.int .i64 x9)), (10, (.int .i64 x10)), (11, (.int .i64 x11))] ∧ F.spateref6_Table_All.l9 Q (F.spateref6_Table_All.l5 Q q5) m x4 x7 x8 x9 x10 x11 h) ?_ ?_ m92 ⟨_, _, _, _, _, _, rfl, H⟩
                      · rintro L' h ⟨_, _, _, _, _, _, _, H⟩; exact H
                      · rintro q9 L' h ⟨x4, x7, x8, x9, x10, x11, rfl, H⟩
                        unfold F.spateref6_Table_All.l9 at H
                        refine tr_seq ?_
                        refine tr_seq ?_
                        refine tr_region ?_
                        refine tr_p (y_move rfl) rfl rfl ?_
                        refine tr_p (y_move rfl) rfl rfl ?_
                        refine tr_p (y_gtr rfl rfl) rfl rfl ?_
                        refine tr_nil ?_
                        refine tr_thenN ?_
                        refine tr_cond rfl (fun g63 => ?_) (fun g63 => ?_)
                        · replace H := H.1 g63
                          refine tr_skip ?_
                          refine tr_thenN ?_
                          refine tr_seq ?_
                          refine tr_block ?_
                          refine tr_seq ?_
                          refine tr_region ?_
                          refine tr_p (y_move rfl) rfl rfl ?_
                          refine tr_p (y_move rfl) rfl rfl ?_
                          refine tr_p (y_move rfl) rfl rfl ?_
                          refine tr_p (y_move rfl) rfl rfl ?_
                          refine tr_p (y_sub rfl rfl) rfl rfl ?_
                          obtain ⟨a64, e65, H⟩ := H
                          refine tr_p (f_idx (s := x7) Try.runUnderlying37 Try.sizeOf9 rfl rfl e65) rfl rfl ?_
                          obtain ⟨y66, k67, H⟩ := H
                          refine tr_h (y_ld Try.isAgg9 rfl) k67 rfl rfl ?_
                          obtain ⟨a68, e69, H⟩ := H
                          refine tr_p (f_idx (s := x7) Try.runUnderlying37 Try.sizeOf9 rfl rfl e69) rfl rfl ?_
                          refine tr_e (f_store (vs := [(.string y66)]) Try.sizeOf9 rfl rfl rfl rfl (one1 rfl) H) rfl rfl ?_
                          rintro _ h70 ⟨rfl, H⟩
                          refine tr_nil ?_
                          refine tr_thenN ?_
                          refine tr_region ?_
                          refine tr_p (y_move rfl) rfl rfl ?_
                          refine tr_p (y_move rfl) rfl rfl ?_
                          refine tr_p (y_move rfl) rfl rfl ?_
                          refine tr_p (y_move rfl) rfl rfl ?_
                          refine tr_p (y_sub rfl rfl) rfl rfl ?_
                          obtain ⟨a71, e72, H⟩ := H
                          refine tr_p (f_idx (s := x8) Try.runUnderlying38 Try.sizeOf3 rfl rfl e72) rfl rfl ?_
                          obtain ⟨y73, k74, H⟩ := H
                          refine tr_h (y_ld Try.isAgg3 rfl) k74 rfl rfl ?_
                          obtain ⟨a75, e76, H⟩ := H
                          refine tr_p (f_idx (s := x8) Try.runUnderlying38 Try.sizeOf3 rfl rfl e76) rfl rfl ?_
                          refine tr_e (f_store (vs := [(.int .i64 y73)]) Try.sizeOf3 rfl rfl rfl rfl (one1 rfl) H) rfl rfl ?_
                          rintro _ h77 ⟨rfl, H⟩
                          refine tr_nil ?_
                          refine tr_blockN ?_
                          refine tr_thenN ?_
                          refine tr_region ?_
                          refine tr_p (y_move rfl) rfl rfl ?_
                          refine tr_p (y_sub rfl rfl) rfl rfl ?_
                          refine tr_p (y_assign rfl) rfl rfl ?_
                          refine tr_nil ?_
                          refine tr_thenN ?_
                          exact tr_join [(4, x4.enc), (7, x7.enc), (8, x8.enc), (9, (.int .i64 x9)), (10, (.int .i64 x10)), (11, (.int .i64 (IntKind.wrap .i64 (x11 - 1))))] ⟨rfl, rfl, rfl, rfl, rfl, rfl, trivial⟩ ⟨_, _, _, _, _, _, rfl, H⟩
                        · replace H := H.2 g63
                          refine tr_exit ?_
                          refine tr_thenE ?_
                          refine tr_thenE ?_
                          refine tr_hit ?_
                          refine tr_thenN ?_
                          refine tr_seq ?_
                          refine tr_region ?_
                          refine tr_p (y_move rfl) rfl rfl ?_
                          refine tr_p (y_move rfl) rfl rfl ?_
                          refine tr_p (y_move rfl) rfl rfl ?_
                          refine tr_p (y_move rfl) rfl rfl ?_
                          obtain ⟨a78, e79, H⟩ := H
                          refine tr_p (f_idx (s := x4) Try.runUnderlying102 Try.sizeOf114 rfl rfl e79) rfl rfl ?_
                          refine tr_p (y_fa (off := 2) Try.runUnderlying114 fo_114_2 rfl) rfl rfl ?_
                          obtain ⟨y80, k81, H⟩ := H
                          refine tr_h (y_ld Try.isAgg9 rfl) k81 rfl rfl ?_
                          obtain ⟨a82, e83, H⟩ := H
                          refine tr_p (f_idx (s := x7) Try.runUnderlying37 Try.sizeOf9 rfl rfl e83) rfl rfl ?_
                          refine tr_e (f_store (vs := [(.string y80)]) Try.sizeOf9 rfl rfl rfl rfl (one1 rfl) H) rfl rfl ?_
                          rintro _ h84 ⟨rfl, H⟩
                          refine tr_nil ?_
                          refine tr_thenN ?_
                          refine tr_region ?_
                          refine tr_p (y_move rfl) rfl rfl ?_
                          refine tr_p (y_move rfl) rfl rfl ?_
                          refine tr_p (y_move rfl) rfl rfl ?_
                          refine tr_p (y_move rfl) rfl rfl ?_
                          obtain ⟨a85, e86, H⟩ := H
                          refine tr_p (f_idx (s := x4) Try.runUnderlying102 Try.sizeOf114 rfl rfl e86) rfl rfl ?_
                          refine tr_p (y_fa (off := 3) Try.runUnderlying114 fo_114_3 rfl) rfl rfl ?_
                          obtain ⟨y87, k88, H⟩ := H
                          refine tr_h (y_ld Try.isAgg3 rfl) k88 rfl rfl ?_
                          obtain ⟨a89, e90, H⟩ := H
                          refine tr_p (f_idx (s := x8) Try.runUnderlying38 Try.sizeOf3 rfl rfl e90) rfl rfl ?_
                          refine tr_e (f_store (vs := [(.int .i64 y87)]) Try.sizeOf3 rfl rfl rfl rfl (one1 rfl) H) rfl rfl ?_
                          rintro _ h91 ⟨rfl, H⟩
                          refine tr_nil ?_
                          refine tr_blockN ?_
                          refine tr_thenN ?_
                          refine tr_region ?_
                          refine tr_p (y_move rfl) rfl rfl ?_
                          refine tr_p (y_add rfl rfl) rfl rfl ?_
                          refine tr_p (y_assign rfl) rfl rfl ?_
                          refine tr_nil ?_
                          refine tr_thenN ?_
                          exact tr_join [(4, x4.enc), (7, x7.enc), (8, x8.enc), (9, (.int .i64 (IntKind.wrap .i64 (x9 + 1))))] ⟨rfl, rfl, rfl, rfl, trivial⟩ ⟨_, _, _, _, rfl, H⟩
                  · refine tr_draw mixed [0, 1, 3, 7, 7, 23, 63, 127, 7, 7, 775, 1799, 3847, 8191, 16383] (by kernel_rfl) ?_
                    refine g_p 0 1 rfl (by kernel_rfl) (y_move rfl) rfl rfl ?_
                    refine g_p 1 3 rfl (by kernel_rfl) (y_gtr rfl rfl) rfl rfl ?_
                    refine g_p 2 7 rfl (by kernel_rfl) (y_move rfl) rfl rfl ?_
                    refine g_split (t := 76) rfl (fun g93 => ?_) (fun g93 => ?_)
                    · replace H := H.1 g93
                      refine g_p 3 15 rfl (by kernel_rfl) (y_move rfl) rfl rfl ?_
                      refine g_p 4 31 rfl (by kernel_rfl) (y_move rfl) rfl rfl ?_
                      refine g_p 5 63 rfl (by kernel_rfl) (y_sub rfl rfl) rfl rfl ?_
                      obtain ⟨a94, e95, H⟩ := H
                      refine g_p 6 127 rfl (by kernel_rfl) (f_idx (s := x7) Try.runUnderlying37 Try.sizeOf9 rfl rfl e95) rfl rfl ?_
                      obtain ⟨y96, k97, H⟩ := H
                      refine g_h 7 255 rfl (by kernel_rfl) (y_ld Try.isAgg9 rfl) k97 rfl rfl ?_
                      refine g_p 8 511 rfl (by kernel_rfl) (y_move rfl) rfl rfl ?_
                      refine g_p 9 1023 rfl (by kernel_rfl) (y_move rfl) rfl rfl ?_
                      obtain ⟨a98, e99, H⟩ := H
                      refine g_p 10 2047 rfl (by kernel_rfl) (f_idx (s := x4) Try.runUnderlying102 Try.sizeOf114 rfl rfl e99) rfl rfl ?_
                      refine g_p 11 4095 rfl (by kernel_rfl) (y_fa (off := 2) Try.runUnderlying114 fo_114_2 rfl) rfl rfl ?_
                      obtain ⟨y100, k101, H⟩ := H
                      refine g_h 12 8191 rfl (by kernel_rfl) (y_ld Try.isAgg9 rfl) k101 rfl rfl ?_
                      refine g_p 13 16383 rfl (by kernel_rfl) (y_sgtr rfl rfl) rfl rfl ?_
                      refine g_p 14 32767 rfl (by kernel_rfl) (y_pick_t rfl rfl) rfl rfl ?_
                      refine g_d (by kernel_rfl) ?_
                      refine tr_thenN ?_
                      exact tr_join [(4, x4.enc), (7, x7.enc), (8, x8.enc), (9, (.int .i64 x9)), (10, (.int .i64 x10)), (88, (.bool (!(Op.bytesLess y96.toList y100.toList || (y96.toList == y100.toList)))))] ⟨rfl, rfl, rfl, rfl, rfl, rfl, trivial⟩ ⟨_, _, _, _, _, _, rfl, H⟩
                    · replace H := H.2 g93
                      refine g_s 3 15 rfl (by kernel_rfl) rfl rfl ?_
                      refine g_s 4 31 rfl (by kernel_rfl) rfl rfl ?_
                      refine g_s 5 63 rfl (by kernel_rfl) rfl rfl ?_
                      refine g_s 6 127 rfl (by kernel_rfl) rfl rfl ?_
                      refine g_s 7 255 rfl (by kernel_rfl) rfl rfl ?_
                      refine g_s 8 511 rfl (by kernel_rfl) rfl rfl ?_
                      refine g_s 9 1023 rfl (by kernel_rfl) rfl rfl ?_
                      refine g_s 10 2047 rfl (by kernel_rfl) rfl rfl ?_
                      refine g_s 11 4095 rfl (by kernel_rfl) rfl rfl ?_
                      refine g_s 12 8191 rfl (by kernel_rfl) rfl rfl ?_
                      refine g_s 13 16383 rfl (by kernel_rfl) rfl rfl ?_
                      refine g_p 14 32767 rfl (by kernel_rfl) (y_pick_f rfl rfl) rfl rfl ?_
                      refine g_d (by kernel_rfl) ?_
                      refine tr_thenN ?_
                      exact tr_join [(4, x4.enc), (7, x7.enc), (8, x8.enc), (9, (.int .i64 x9)), (10, (.int .i64 x10)), (88, (.bool false))] ⟨rfl, rfl, rfl, rfl, rfl, rfl, trivial⟩ ⟨_, _, _, _, _, _, rfl, H⟩
            · replace H := H.2 g53
              refine tr_exit ?_
              refine tr_thenE ?_
              refine tr_thenE ?_
              refine tr_hit ?_
              refine tr_thenN ?_
              refine tr_seq ?_
              refine tr_region ?_
              refine tr_p (y_move rfl) rfl rfl ?_
              refine tr_p (y_move rfl) rfl rfl ?_
              refine tr_p (y_assign rfl) rfl rfl ?_
              refine tr_p (y_assign rfl) rfl rfl ?_
              refine tr_nil ?_
              refine tr_thenN ?_
              refine tr_ret ?_
              exact tr_ret2 rfl rfl rfl ⟨_, _, rfl, H⟩

def F.maps_Keys_map_string_int_string_int_1.l1 (Q : H → Prop) : Nat → Value → Addr → H → Prop
  | 0, _, _, _ => False
  | q1 + 1, x0, x5, h =>
    RunS PP (Instr.next (.pointer (some x5)) false 0) h fun u h5 => ∃ (b6 : Bool) (t7 : Array Value), u = (.tuple (#[.bool b6] ++ t7)) ∧
    (b6 = true →
    RunS PP (Instr.entry (.pointer (some x5))) h5 fun u h9 => ∃ (r10 : ByteArray) (r11 : Int), u = (.tuple #[(.string r10), (.int .i64 r11)]) ∧
    CV PP x0 [(.string r10)] h9 fun u h12 => ∃ (r13 : Bool), u = (.bool r13) ∧
    ((!r13) = true →
    Q h12) ∧
    ((!r13) = false →
    (F.maps_Keys_map_string_int_string_int_1.l1 Q q1) x0 x5 h12)) ∧
    (b6 = false →
    Q h5)
/-- maps.Keys[map[string]int,string,int]$1 -/
def F.maps_Keys_map_string_int_string_int_1 (p0 : Value) (p1 : Addr) (h : H) (Q : H → Prop) : Prop :=
  ldV h p1 fun y1 =>
  RunS PP (Instr.range 50 y1) h fun u h3 => ∃ a4 : Addr, u = (.pointer (some a4)) ∧
  ∃ m, F.maps_Keys_map_string_int_string_int_1.l1 Q m p0 a4 h3
theorem F.maps_Keys_map_string_int_string_int_1_ok {p0 : Value} {p1 : Addr} {h : H} {Q : H → Prop} (H : F.maps_Keys_map_string_int_string_int_1 p0 p1 h Q) : Fn PP 69 ([p0, (.pointer (some p1))] : List Value).toArray h fun r h' => r = .tuple #[] ∧ Q  h' := by
  unfold F.maps_Keys_map_string_int_string_int_1 at H
  refine fn_of Try.func69 Try.ntmps69 rfl rfl fun w0 => ?_
  refine tr_sub [(0, p0), (1, (.pointer (some p1)))] ⟨rfl, rfl, trivial⟩ ?_
  refine tr_seq ?_
  refine tr_region ?_
  obtain ⟨y1, k2, H⟩ := H
  refine tr_h (y_ld Try.isAgg50 rfl) k2 rfl rfl ?_
  refine tr_e (f_rg rfl H) rfl rfl ?_
  rintro _ h3 ⟨a4, rfl, H⟩
  refine tr_nil ?_
  refine tr_thenN ?_
  refine tr_block ?_
  obtain ⟨m15, H⟩ := H
  refine tr_sub [(0, p0), (5, (.pointer (some a4)))] ⟨rfl, rfl, trivial⟩ ?_
  refine tr_loop_j (fun m L' h => ∃ (x0 : Value) (x5 : Addr), L' = [(0, x0), (5, (.pointer (some x5)))] ∧ F.maps_Keys_map_string_int_string_int_1.l1 Q m x0 x5 h) ?_ ?_ m15 ⟨_, _, rfl, H⟩
  · rintro L' h ⟨_, _, _, H⟩; exact H
  · rintro q1 L' h ⟨x0, x5, rfl, H⟩
    unfold F.maps_Keys_map_string_int_string_int_1.l1 at H
    refine tr_seq ?_
    refine tr_region ?_
    refine tr_e (f_nx rfl H) rfl rfl ?_
    rintro _ h5 ⟨b6, t7, rfl, H⟩
    refine tr_p (y_ext0 (t := t7) rfl) rfl rfl ?_
    refine tr_nil ?_
    refine tr_thenN ?_
    refine tr_seq ?_
    refine tr_cond rfl (fun g8 => ?_) (fun g8 => ?_)
    · replace H := H.1 g8
      refine tr_skip ?_
      refine tr_thenN ?_
      refine tr_block ?_
      refine tr_seq ?_
      refine tr_region ?_
      refine tr_e (f_en rfl H) rfl rfl ?_
      rintro _ h9 ⟨r10, r11, rfl, H⟩
      refine tr_p (y_ext rfl rfl) rfl rfl ?_
      refine tr_p (y_assign rfl) rfl rfl ?_
      refine tr_nil ?_
      refine tr_thenN ?_
      refine tr_seq ?_
      refine tr_region ?_
      refine tr_p (y_move rfl) rfl rfl ?_
      refine tr_p (y_move rfl) rfl rfl ?_
      refine tr_e (e_callD rfl rfl H) rfl rfl ?_
      rintro _ h12 ⟨r13, rfl, H⟩
      refine tr_p (y_not rfl) rfl rfl ?_
      refine tr_nil ?_
      refine tr_thenN ?_
      refine tr_cond rfl (fun g14 => ?_) (fun g14 => ?_)
      · replace H := H.1 g14
        refine tr_ret ?_
        refine tr_blockR ?_
        refine tr_thenR ?_
        refine tr_blockR ?_
        exact tr_ret0 rfl ⟨rfl, H⟩
      · replace H := H.2 g14
        refine tr_skip ?_
        refine tr_blockN ?_
        refine tr_thenN ?_
        exact tr_join [(0, x0), (5, (.pointer (some x5)))] ⟨rfl, rfl, trivial⟩ ⟨_, _, rfl, H⟩
    · replace H := H.2 g8
      refine tr_exit ?_
      refine tr_thenE ?_
      refine tr_thenE ?_
      refine tr_hit ?_
      exact tr_end0 rfl ⟨rfl, H⟩

/-- maps.Keys[map[string]int,string,int] -/
def F.maps_Keys_map_string_int_string_int (p0 : Value) (h : H) (Q : Value → H → Prop) : Prop :=
  p0.cells = #[p0] ∧
  new h #[p0] ty_50 fun a2 h1 =>
  Q (.func (.func 69) #[] #[(.pointer (some a2))]) h1
theorem F.maps_Keys_map_string_int_string_int_ok {p0 : Value} {h : H} {Q : Value → H → Prop} (H : F.maps_Keys_map_string_int_string_int p0 h Q) : Fn PP 51 ([p0] : List Value).toArray h fun r h' => ∃ r0, r = r0 ∧ Q r0 h' := by
  unfold F.maps_Keys_map_string_int_string_int at H
  refine fn_of Try.func51 Try.ntmps51 rfl rfl fun w0 => ?_
  refine tr_sub [(0, p0)] ⟨rfl, trivial⟩ ?_
  refine tr_seq ?_
  refine tr_region ?_
  refine tr_e (f_box (cs := #[p0]) rfl H.1 H.2) rfl rfl ?_
  rintro _ h1 ⟨a2, rfl, H⟩
  refine tr_p (y_assign rfl) rfl rfl ?_
  refine tr_nil ?_
  refine tr_thenN ?_
  refine tr_seq ?_
  refine tr_region ?_
  refine tr_p (y_fn rfl rfl) rfl rfl ?_
  refine tr_p (y_assign rfl) rfl rfl ?_
  refine tr_nil ?_
  refine tr_thenN ?_
  refine tr_ret ?_
  exact tr_ret1 rfl rfl ⟨_, rfl, H⟩

/-- slices.AppendSeq[[]string,string] -/
def F.slices_AppendSeq_Slstring_string (p0 : Sl) (p1 : Value) (h : H) (Q : Sl → H → Prop) : Prop :=
  new h #[p0.enc] ty_37 fun a2 h1 =>
  rng PP p1 h1 [] (fun bg1 l1 args h K1 J1 => ∃ (y1_7 : ByteArray), args = [(.string y1_7)] ∧
    bg1 h fun h3 =>
    ldL h3 a2 fun y4 =>
    newL h3 #[(.string y1_7)] ty_9 1 fun s7 h6 =>
    runL PP (Builtin.append_ #[37, 37] 37 #[y4.enc, s7.enc]) h6 fun s9 h8 =>
    stH h8 a2 [s9.enc] fun h10 =>
    K1 h10) (fun h11 =>
    ldL h11 a2 fun y12 =>
    shuts (h1.size :: ([] : List Nat)) h11 fun h14 =>
    Q y12 h14) (fun jj h15 =>
    True)
theorem F.slices_AppendSeq_Slstring_string_ok {p0 : Sl} {p1 : Value} {h : H} {Q : Sl → H → Prop} (H : F.slices_AppendSeq_Slstring_string p0 p1 h Q) : Fn PP 76 ([p0.enc, p1] : List Value).toArray h fun r h' => ∃ r0, r = r0.enc ∧ Q r0 h' := by
  unfold F.slices_AppendSeq_Slstring_string at H
  refine fn_ofM Try.func76 Try.ntmps76 rfl rfl fun w0 => ?_
  refine tr_sub [(0, p0.enc), (1, p1)] ⟨rfl, rfl, trivial⟩ ?_
  refine tr_seq ?_
  refine tr_region ?_
  refine tr_e (f_box (cs := #[p0.enc]) rfl rfl H) rfl rfl ?_
  rintro _ h1 ⟨a2, rfl, H⟩
  refine tr_p (y_assign rfl) rfl rfl ?_
  refine tr_nil ?_
  refine tr_thenN ?_
  refine tr_seq ?_
  refine tr_seq ?_
  refine tr_region ?_
  refine tr_p (y_move rfl) rfl rfl ?_
  refine tr_nil ?_
  refine tr_thenN ?_
  refine tr_block ?_
  refine tr_range rfl (by kernel_rfl) H ?_ ?_ ?_
  · intro bg1 l1 args h K1 J1 w1 hbg1 H
    obtain ⟨y1_7, rfl, H⟩ := H
    refine ⟨rfl, ?_⟩
    refine tr_sub [(0, p0.enc), (1, p1), (2, (.pointer (some a2))), (4, (⟨none, 0, 0⟩ : Sl).enc), (6, p1), (7, (.string y1_7))] ⟨rfl, rfl, rfl, rfl, rfl, rfl, trivial⟩ ?_
    refine tr_region ?_
    refine tr_p (y_assign rfl) rfl rfl ?_
    refine tr_nil ?_
    refine tr_thenN ?_
    refine tr_bgn hbg1 H fun h3 H => ?_
    refine tr_block ?_
    refine tr_region ?_
    obtain ⟨y4, k5, H⟩ := H
    refine tr_h (y_ld Try.isAgg37 rfl) k5 rfl rfl ?_
    refine tr_p (y_move rfl) rfl rfl ?_
    refine tr_e (f_buildL (cs := #[(.string y1_7)]) rfl rfl (bl_37_1_0 y1_7) H) rfl rfl ?_
    rintro _ h6 ⟨s7, rfl, H⟩
    refine tr_e (f_app rfl H) rfl rfl ?_
    rintro _ h8 ⟨s9, rfl, H⟩
    refine tr_e (f_store (vs := [s9.enc]) Try.sizeOf37 rfl rfl rfl rfl (one1 rfl) H) rfl rfl ?_
    rintro _ h10 ⟨rfl, H⟩
    refine tr_nil ?_
    refine tr_blockN ?_
    exact tr_rN H
  · intro h11 H
    refine tr_blockN ?_
    refine tr_thenN ?_
    refine tr_seq ?_
    refine tr_region ?_
    obtain ⟨y12, k13, H⟩ := H
    refine tr_h (y_ld Try.isAgg37 rfl) k13 rfl rfl ?_
    refine tr_p (y_assign rfl) rfl rfl ?_
    refine tr_nil ?_
    refine tr_thenN ?_
    refine tr_ret ?_
    refine tr_shut (h1.size :: ([] : List Nat)) rfl H fun h14 H => ?_
    exact tr_ret1 rfl rfl ⟨_, rfl, H⟩
  · intro jj c h15 hjc H
    simp at hjc

/-- slices.Collect[string] -/
def F.slices_Collect_string (p0 : Value) (h : H) (Q : Sl → H → Prop) : Prop :=
  F.slices_AppendSeq_Slstring_string (⟨none, 0, 0⟩ : Sl) p0 h fun r2 h1 =>
  Q r2 h1
theorem F.slices_Collect_string_ok {p0 : Value} {h : H} {Q : Sl → H → Prop} (H : F.slices_Collect_string p0 h Q) : Fn PP 67 ([p0] : List Value).toArray h fun r h' => ∃ r0, r = r0.enc ∧ Q r0 h' := by
  unfold F.slices_Collect_string at H
  refine fn_of Try.func67 Try.ntmps67 rfl rfl fun w0 => ?_
  refine tr_sub [(0, p0)] ⟨rfl, trivial⟩ ?_
  refine tr_seq ?_
  refine tr_region ?_
  refine tr_p (y_assign rfl) rfl rfl ?_
  refine tr_nil ?_
  refine tr_thenN ?_
  refine tr_seq ?_
  refine tr_region ?_
  refine tr_p (y_move rfl) rfl rfl ?_
  refine tr_e (e_call Try.call76 rfl (F.slices_AppendSeq_Slstring_string_ok H)) rfl rfl ?_
  rintro _ h1 ⟨r2, rfl, H⟩
  refine tr_p (y_assign rfl) rfl rfl ?_
  refine tr_nil ?_
  refine tr_thenN ?_
  refine tr_ret ?_
  exact tr_ret1 rfl rfl ⟨_, rfl, H⟩

/-- slices.Sorted[string] -/
def F.slices_Sorted_string (p0 : Value) (h : H) (Q : Sl → H → Prop) : Prop :=
  F.slices_Collect_string p0 h fun r2 h1 =>
  Fn PP 68 [r2.enc].toArray h1 fun u h3 => u = (.tuple #[]) ∧
  Q r2 h3
theorem F.slices_Sorted_string_ok {p0 : Value} {h : H} {Q : Sl → H → Prop} (H : F.slices_Sorted_string p0 h Q) : Fn PP 50 ([p0] : List Value).toArray h fun r h' => ∃ r0, r = r0.enc ∧ Q r0 h' := by
  unfold F.slices_Sorted_string at H
  refine fn_of Try.func50 Try.ntmps50 rfl rfl fun w0 => ?_
  refine tr_sub [(0, p0)] ⟨rfl, trivial⟩ ?_
  refine tr_seq ?_
  refine tr_region ?_
  refine tr_p (y_assign rfl) rfl rfl ?_
  refine tr_nil ?_
  refine tr_thenN ?_
  refine tr_seq ?_
  refine tr_region ?_
  refine tr_p (y_move rfl) rfl rfl ?_
  refine tr_e (e_call Try.call67 rfl (F.slices_Collect_string_ok H)) rfl rfl ?_
  rintro _ h1 ⟨r2, rfl, H⟩
  refine tr_p (y_assign rfl) rfl rfl ?_
  refine tr_nil ?_
  refine tr_thenN ?_
  refine tr_seq ?_
  refine tr_region ?_
  refine tr_p (y_move rfl) rfl rfl ?_
  refine tr_e (e_call Try.call68 rfl H) rfl rfl ?_
  rintro _ h3 ⟨rfl, H⟩
  refine tr_nil ?_
  refine tr_thenN ?_
  refine tr_seq ?_
  refine tr_region ?_
  refine tr_p (y_move rfl) rfl rfl ?_
  refine tr_p (y_assign rfl) rfl rfl ?_
  refine tr_nil ?_
  refine tr_thenN ?_
  refine tr_ret ?_
  exact tr_ret1 rfl rfl ⟨_, rfl, H⟩

def F.table_Table_int_All_1.l1 (Q : H → Prop) : Nat → Value → Addr → Sl → Int → Int → H → Prop
  | 0, _, _, _, _, _, _ => False
  | q1 + 1, x0, x2, x6, x7, x8, h =>
    ((decide (x8 < x7)) = true →
    idxA x6 x8 1 fun a4 =>
    ldS h a4 fun y6 =>
    ldV h x2 fun y8 =>
    RunS PP (Instr.lookup 50 y8 (.string y6) false) h fun u h10 => ∃ r11 : Int, u = (.int .i64 r11) ∧
    CV PP x0 [(.string y6), (.int .i64 r11)] h10 fun u h12 => ∃ (r13 : Bool), u = (.bool r13) ∧
    ((!r13) = true →
    Q h12) ∧
    ((!r13) = false →
    (F.table_Table_int_All_1.l1 Q q1) x0 x2 x6 x7 (IntKind.wrap .i64 (x8 + 1)) h12)) ∧
    ((decide (x8 < x7)) = false →
    Q h)
/-- (*spate/table.Table[int]).All$1 -/
def F.table_Table_int_All_1 (p0 : Value) (p1 : Addr) (p2 : Addr) (h : H) (Q : H → Prop) : Prop :=
  ldL h p1 fun y1 =>
  ∃ m, F.table_Table_int_All_1.l1 Q m p0 p2 y1 (y1.len : Int) 0 h
theorem F.table_Table_int_All_1_ok {p0 : Value} {p1 : Addr} {p2 : Addr} {h : H} {Q : H → Prop} (H : F.table_Table_int_All_1 p0 p1 p2 h Q) : Fn PP 52 ([p0, (.pointer (some p1)), (.pointer (some p2))] : List Value).toArray h fun r h' => r = .tuple #[] ∧ Q  h' := by
  unfold F.table_Table_int_All_1 at H
  refine fn_of Try.func52 Try.ntmps52 rfl rfl fun w0 => ?_
  refine tr_sub [(0, p0), (1, (.pointer (some p1))), (2, (.pointer (some p2)))] ⟨rfl, rfl, rfl, trivial⟩ ?_
  refine tr_seq ?_
  refine tr_region ?_
  obtain ⟨y1, k2, H⟩ := H
  refine tr_h (y_ld Try.isAgg37 rfl) k2 rfl rfl ?_
  refine tr_p (y_len (ts := #[]) Try.runUnderlying37 (o := y1.ptr) (n := y1.len) (cap := y1.cap) rfl) rfl rfl ?_
  refine tr_p (y_move rfl) rfl rfl ?_
  refine tr_nil ?_
  refine tr_thenN ?_
  refine tr_block ?_
  obtain ⟨m15, H⟩ := H
  refine tr_sub [(0, p0), (2, (.pointer (some p2))), (6, y1.enc), (7, (.int .i64 (y1.len : Int))), (8, (.int .i64 0))] ⟨rfl, rfl, rfl, rfl, rfl, trivial⟩ ?_
  refine tr_loop_j (fun m L' h => ∃ (x0 : Value) (x2 : Addr) (x6 : Sl) (x7 : Int) (x8 : Int), L' = [(0, x0), (2, (.pointer (some x2))), (6, x6.enc), (7, (.int .i64 x7)), (8, (.int .i64 x8))] ∧ F.table_Table_int_All_1.l1 Q m x0 x2 x6 x7 x8 h) ?_ ?_ m15 ⟨_, _, _, _, _, rfl, H⟩
  · rintro L' h ⟨_, _, _, _, _, _, H⟩; exact H
  · rintro q1 L' h ⟨x0, x2, x6, x7, x8, rfl, H⟩
    unfold F.table_Table_int_All_1.l1 at H
    refine tr_seq ?_
    refine tr_region ?_
    refine tr_p (y_lss rfl rfl) rfl rfl ?_
    refine tr_nil ?_
    refine tr_thenN ?_
    refine tr_seq ?_
    refine tr_cond rfl (fun g3 => ?_) (fun g3 => ?_)
    · replace H := H.1 g3
      refine tr_skip ?_
      refine tr_thenN ?_
      refine tr_seq ?_
      refine tr_block ?_
      refine tr_seq ?_
      refine tr_region ?_
      obtain ⟨a4, e5, H⟩ := H
      refine tr_p (f_idx (s := x6) Try.runUnderlying37 Try.sizeOf9 rfl rfl e5) rfl rfl ?_
      obtain ⟨y6, k7, H⟩ := H
      refine tr_h (y_ld Try.isAgg9 rfl) k7 rfl rfl ?_
      refine tr_p (y_assign rfl) rfl rfl ?_
      refine tr_nil ?_
      refine tr_thenN ?_
      refine tr_seq ?_
      refine tr_region ?_
      refine tr_p (y_move rfl) rfl rfl ?_
      refine tr_p (y_move rfl) rfl rfl ?_
      obtain ⟨y8, k9, H⟩ := H
      refine tr_h (y_ld Try.isAgg50 rfl) k9 rfl rfl ?_
      refine tr_p (y_move rfl) rfl rfl ?_
      refine tr_e (f_lk rfl rfl H) rfl rfl ?_
      rintro _ h10 ⟨r11, rfl, H⟩
      refine tr_e (e_callD rfl rfl H) rfl rfl ?_
      rintro _ h12 ⟨r13, rfl, H⟩
      refine tr_p (y_not rfl) rfl rfl ?_
      refine tr_nil ?_
      refine tr_thenN ?_
      refine tr_cond rfl (fun g14 => ?_) (fun g14 => ?_)
      · replace H := H.1 g14
        refine tr_ret ?_
        refine tr_blockR ?_
        refine tr_thenR ?_
        refine tr_thenR ?_
        refine tr_blockR ?_
        exact tr_ret0 rfl ⟨rfl, H⟩
      · replace H := H.2 g14
        refine tr_skip ?_
        refine tr_blockN ?_
        refine tr_thenN ?_
        refine tr_region ?_
        refine tr_p (y_add rfl rfl) rfl rfl ?_
        refine tr_p (y_move rfl) rfl rfl ?_
        refine tr_nil ?_
        refine tr_thenN ?_
        exact tr_join [(0, x0), (2, (.pointer (some x2))), (6, x6.enc), (7, (.int .i64 x7)), (8, (.int .i64 (IntKind.wrap .i64 (x8 + 1))))] ⟨rfl, rfl, rfl, rfl, rfl, trivial⟩ ⟨_, _, _, _, _, rfl, H⟩
    · replace H := H.2 g3
      refine tr_exit ?_
      refine tr_thenE ?_
      refine tr_thenE ?_
      refine tr_hit ?_
      exact tr_end0 rfl ⟨rfl, H⟩

def F.table_Table_int_All.l2 (Q : Value → H → Prop) (C1 : Addr → Sl → Int → Int → H → Prop) : Nat → Addr → Sl → Int → Int → Sl → Int → Int → H → Prop
  | 0, _, _, _, _, _, _, _, _ => False
  | q2 + 1, x3, x22, x23, x24, x28, x29, x30, h =>
    ((decide (x30 < x29)) = true →
    idxA x28 x30 3 fun a26 =>
    ld_S_table_place_int h a26 fun y28 =>
    new h (((⟨0, (⟨#[]⟩ : ByteArray), 0⟩ : S_table_place_int) : S_table_place_int).cells.toArray) ty_77 fun a31 h30 =>
    stH h30 a31 y28.cells fun h32 =>
    ldI .u8 h32 (a31.add 0) fun y33 =>
    (((y33 == 1)) = true →
    ldV h32 x3 fun y36 =>
    ldS h32 (a31.add 1) fun y38 =>
    ldI .i64 h32 (a31.add 2) fun y40 =>
    RunS PP (Instr.mapUpdate 50 y36 (.string y38) (.int .i64 y40)) h32 fun _ h42 =>
    (F.table_Table_int_All.l2 Q C1 q2) x3 x22 x23 x24 x28 x29 (IntKind.wrap .i64 (x30 + 1)) h42) ∧
    (((y33 == 1)) = false →
    (F.table_Table_int_All.l2 Q C1 q2) x3 x22 x23 x24 x28 x29 (IntKind.wrap .i64 (x30 + 1)) h32)) ∧
    ((decide (x30 < x29)) = false →
    C1 x3 x22 x23 (IntKind.wrap .i64 (x24 + 1)) h)
def F.table_Table_int_All.l1 (Q : Value → H → Prop) : Nat → Addr → Sl → Int → Int → H → Prop
  | 0, _, _, _, _, _ => False
  | q1 + 1, x3, x22, x23, x24, h =>
    ((decide (x24 < x23)) = true →
    idxA x22 x24 1 fun a21 =>
    ldL h a21 fun y23 =>
    ∃ m, F.table_Table_int_All.l2 Q (F.table_Table_int_All.l1 Q q1) m x3 x22 x23 x24 y23 (y23.len : Int) 0 h) ∧
    ((decide (x24 < x23)) = false →
    ldV h x3 fun y44 =>
    F.maps_Keys_map_string_int_string_int y44 h fun r47 h46 =>
    F.slices_Sorted_string r47 h46 fun r49 h48 =>
    new h48 #[(⟨none, 0, 0⟩ : Sl).enc] ty_37 fun a51 h50 =>
    stH h50 a51 [r49.enc] fun h52 =>
    Q (.func (.func 52) #[] #[(.pointer (some a51)), (.pointer (some x3))]) h52)
/-- (*spate/table.Table[int]).All -/
def F.table_Table_int_All (p0 : Option Addr) (h : H) (Q : Value → H → Prop) : Prop :=
  nn p0 fun a1 =>
  ldI .i64 h (a1.add 3) fun y3 =>
  RunS PP (Instr.makeMap 50 (some (.int .i64 y3))) h fun m6 h5 =>
  new h5 #[(.map none)] ty_50 fun a8 h7 =>
  m6.cells = #[m6] ∧
  m6.oneCell' = true ∧
  stH h7 a8 [m6] fun h9 =>
  nn p0 fun a10 =>
  ldL h9 (a10.add 0) fun y12 =>
  nn p0 fun a14 =>
  ldL h9 (a14.add 1) fun y16 =>
  newL h9 #[y12.enc, y16.enc] ty_71 2 fun s19 h18 =>
  ∃ m, F.table_Table_int_All.l1 Q m a8 s19 (s19.len : Int) 0 h18
theorem F.table_Table_int_All_ok {p0 : Option Addr} {h : H} {Q : Value → H → Prop} (H : F.table_Table_int_All p0 h Q) : Fn PP 29 ([(.pointer p0)] : List Value).toArray h fun r h' => ∃ r0, r = r0 ∧ Q r0 h' := by
  unfold F.table_Table_int_All at H
  refine fn_of Try.func29 Try.ntmps29 rfl rfl fun w0 => ?_
  refine tr_sub [(0, (.pointer p0))] ⟨rfl, trivial⟩ ?_
  refine tr_seq ?_
  refine tr_region ?_
  refine tr_p (y_assign rfl) rfl rfl ?_
  refine tr_nil ?_
  refine tr_thenN ?_
  refine tr_seq ?_
  refine tr_region ?_
  refine tr_p (y_move rfl) rfl rfl ?_
  obtain ⟨a1, e2, H⟩ := H
  refine tr_p (f_nn rfl e2) rfl rfl ?_
  refine tr_p (y_fa (off := 3) Try.runUnderlying73 fo_73_3 rfl) rfl rfl ?_
  obtain ⟨y3, k4, H⟩ := H
  refine tr_h (y_ld Try.isAgg3 rfl) k4 rfl rfl ?_
  refine tr_e (f_mkS rfl H) rfl rfl ?_
  rintro m6 h5 H
  refine tr_e (f_alloc (cs := #[(.map none)]) Try.zeroValue50 rfl H) rfl rfl ?_
  rintro _ h7 ⟨a8, rfl, H⟩
  refine tr_e (f_store (vs := [m6]) Try.sizeOf50 rfl rfl (congrArg Array.toList H.1) rfl (one1 H.2.1) H.2.2) rfl rfl ?_
  rintro _ h9 ⟨rfl, H⟩
  refine tr_nil ?_
  refine tr_thenN ?_
  refine tr_seq ?_
  refine tr_seq ?_
  refine tr_draw mixed [0, 1, 3, 7, 0, 16, 48, 112, 255, 511, 0] (by kernel_rfl) ?_
  refine g_p 0 1 rfl (by kernel_rfl) (y_move rfl) rfl rfl ?_
  obtain ⟨a10, e11, H⟩ := H
  refine g_p 1 3 rfl (by kernel_rfl) (f_nn rfl e11) rfl rfl ?_
  refine g_p 2 7 rfl (by kernel_rfl) (y_fa (off := 0) Try.runUnderlying73 fo_73_0 rfl) rfl rfl ?_
  obtain ⟨y12, k13, H⟩ := H
  refine g_h 3 15 rfl (by kernel_rfl) (y_ld Try.isAgg71 rfl) k13 rfl rfl ?_
  refine g_p 4 31 rfl (by kernel_rfl) (y_move rfl) rfl rfl ?_
  obtain ⟨a14, e15, H⟩ := H
  refine g_p 5 63 rfl (by kernel_rfl) (f_nn rfl e15) rfl rfl ?_
  refine g_p 6 127 rfl (by kernel_rfl) (y_fa (off := 1) Try.runUnderlying73 fo_73_1 rfl) rfl rfl ?_
  obtain ⟨y16, k17, H⟩ := H
  refine g_h 7 255 rfl (by kernel_rfl) (y_ld Try.isAgg71 rfl) k17 rfl rfl ?_
  refine g_p 10 1279 rfl (by kernel_rfl) (y_move rfl) rfl rfl ?_
  refine g_e 8 1535 [] (by kernel_rfl) rfl (by kernel_rfl) (f_buildL (cs := #[y12.enc, y16.enc]) rfl rfl (bl_81_2_0_1 y12 y16) H) rfl rfl ?_
  rintro _ h18 ⟨s19, rfl, H⟩
  refine ⟨trivial, ?_⟩
  refine g_p 9 2047 rfl (by kernel_rfl) (y_len (ts := #[]) Try.runUnderlying81 (o := s19.ptr) (n := s19.len) (cap := s19.cap) rfl) rfl rfl ?_
  refine g_d (by kernel_rfl) ?_
  refine tr_thenN ?_
  refine tr_block ?_
  obtain ⟨m53, H⟩ := H
  refine tr_sub [(3, (.pointer (some a8))), (22, s19.enc), (23, (.int .i64 (s19.len : Int))), (24, (.int .i64 0))] ⟨rfl, rfl, rfl, rfl, trivial⟩ ?_
  refine tr_loop_j (fun m L' h => ∃ (x3 : Addr) (x22 : Sl) (x23 : Int) (x24 : Int), L' = [(3, (.pointer (some x3))), (22, x22.enc), (23, (.int .i64 x23)), (24, (.int .i64 x24))] ∧ F.table_Table_int_All.l1 Q m x3 x22 x23 x24 h) ?_ ?_ m53 ⟨_, _, _, _, rfl, H⟩
  · rintro L' h ⟨_, _, _, _, _, H⟩; exact H
  · rintro q1 L' h ⟨x3, x22, x23, x24, rfl, H⟩
    unfold F.table_Table_int_All.l1 at H
    refine tr_seq ?_
    refine tr_region ?_
    refine tr_p (y_lss rfl rfl) rfl rfl ?_
    refine tr_nil ?_
    refine tr_thenN ?_
    refine tr_seq ?_
    refine tr_cond rfl (fun g20 => ?_) (fun g20 => ?_)
    · replace H := H.1 g20
      refine tr_skip ?_
      refine tr_thenN ?_
      refine tr_seq ?_
      refine tr_block ?_
      refine tr_seq ?_
      refine tr_region ?_
      obtain ⟨a21, e22, H⟩ := H
      refine tr_p (f_idx (s := x22) Try.runUnderlying81 Try.sizeOf71 rfl rfl e22) rfl rfl ?_
      obtain ⟨y23, k24, H⟩ := H
      refine tr_h (y_ld Try.isAgg71 rfl) k24 rfl rfl ?_
      refine tr_p (y_assign rfl) rfl rfl ?_
      refine tr_nil ?_
      refine tr_thenN ?_
      refine tr_seq ?_
      refine tr_region ?_
      refine tr_p (y_move rfl) rfl rfl ?_
      refine tr_p (y_len (ts := #[]) Try.runUnderlying71 (o := y23.ptr) (n := y23.len) (cap := y23.cap) rfl) rfl rfl ?_
      refine tr_p (y_move rfl) rfl rfl ?_
      refine tr_nil ?_
      refine tr_thenN ?_
      refine tr_block ?_
      obtain ⟨m43, H⟩ := H
      refine tr_sub [(3, (.pointer (some x3))), (22, x22.enc), (23, (.int .i64 x23)), (24, (.int .i64 x24)), (28, y23.enc), (29, (.int .i64 (y23.len : Int))), (30, (.int .i64 0))] ⟨rfl, rfl, rfl, rfl, rfl, rfl, rfl, trivial⟩ ?_
      refine tr_loop_j (fun m L' h => ∃ (x3 : Addr) (x22 : Sl) (x23 : Int) (x24 : Int) (x28 : Sl) (x29 : Int) (x30 : Int), L' = [(3, (.pointer (some x3))), (22, x22.enc), (23, (.int .i64 x23)), (24, (.int .i64 x24)), (28, x28.enc), (29, (.int .i64 x29)), (30, (.int .i64 x30))] ∧ F.table_Table_int_All.l2 Q (F.table_Table_int_All.l1 Q q1) m x3 x22 x23 x24 x28 x29 x30 h) ?_ ?_ m43 ⟨_, _, _, _, _, _, _, rfl, H⟩
      · rintro L' h ⟨_, _, _, _, _, _, _, _, H⟩; exact H
      · rintro q2 L' h ⟨x3, x22, x23, x24, x28, x29, x30, rfl, H⟩
        unfold F.table_Table_int_All.l2 at H
        refine tr_seq ?_
        refine tr_region ?_
        refine tr_p (y_lss rfl rfl) rfl rfl ?_
        refine tr_nil ?_
        refine tr_thenN ?_
        refine tr_seq ?_
        refine tr_cond rfl (fun g25 => ?_) (fun g25 => ?_)
        · replace H := H.1 g25
          refine tr_skip ?_
          refine tr_thenN ?_
          refine tr_seq ?_
          refine tr_block ?_
          refine tr_seq ?_
          refine tr_region ?_
          obtain ⟨a26, e27, H⟩ := H
          refine tr_p (f_idx (s := x28) Try.runUnderlying71 Try.sizeOf77 rfl rfl e27) rfl rfl ?_
          obtain ⟨y28, k29, H⟩ := H
          refine tr_h (y_ldS Try.isAgg77 Try.sizeOf77 rfl rfl) k29 rfl rfl ?_
          refine tr_e (f_alloc (cs := ((⟨0, (⟨#[]⟩ : ByteArray), 0⟩ : S_table_place_int) : S_table_place_int).cells.toArray) Try.zeroValue77 rfl H) rfl rfl ?_
          rintro _ h30 ⟨a31, rfl, H⟩
          refine tr_e (f_store (vs := y28.cells) Try.sizeOf77 rfl rfl cellsOfStruct rfl (by intro v hv; exact ones_S_table_place_int _ v hv) H) rfl rfl ?_
          rintro _ h32 ⟨rfl, H⟩
          refine tr_nil ?_
          refine tr_thenN ?_
          refine tr_seq ?_
          refine tr_region ?_
          refine tr_p (y_fa (off := 0) Try.runUnderlying77 fo_77_0 rfl) rfl rfl ?_
          obtain ⟨y33, k34, H⟩ := H
          refine tr_h (y_ld Try.isAgg5 rfl) k34 rfl rfl ?_
          refine tr_p (y_eql rfl rfl) rfl rfl ?_
          refine tr_nil ?_
          refine tr_thenN ?_
          refine tr_cond rfl (fun g35 => ?_) (fun g35 => ?_)
          · replace H := H.1 g35
            refine tr_region ?_
            obtain ⟨y36, k37, H⟩ := H
            refine tr_h (y_ld Try.isAgg50 rfl) k37 rfl rfl ?_
            refine tr_p (y_fa (off := 1) Try.runUnderlying77 fo_77_1 rfl) rfl rfl ?_
            obtain ⟨y38, k39, H⟩ := H
            refine tr_h (y_ld Try.isAgg9 rfl) k39 rfl rfl ?_
            refine tr_p (y_fa (off := 2) Try.runUnderlying77 fo_77_2 rfl) rfl rfl ?_
            obtain ⟨y40, k41, H⟩ := H
            refine tr_h (y_ld Try.isAgg3 rfl) k41 rfl rfl ?_
            refine tr_e (f_mu rfl rfl rfl H) rfl rfl ?_
            rintro _ h42 ⟨rfl, H⟩
            refine tr_nil ?_
            refine tr_blockN ?_
            refine tr_thenN ?_
            refine tr_region ?_
            refine tr_p (y_add rfl rfl) rfl rfl ?_
            refine tr_p (y_move rfl) rfl rfl ?_
            refine tr_nil ?_
            refine tr_thenN ?_
            exact tr_join [(3, (.pointer (some x3))), (22, x22.enc), (23, (.int .i64 x23)), (24, (.int .i64 x24)), (28, x28.enc), (29, (.int .i64 x29)), (30, (.int .i64 (IntKind.wrap .i64 (x30 + 1))))] ⟨rfl, rfl, rfl, rfl, rfl, rfl, rfl, trivial⟩ ⟨_, _, _, _, _, _, _, rfl, H⟩
          · replace H := H.2 g35
            refine tr_skip ?_
            refine tr_blockN ?_
            refine tr_thenN ?_
            refine tr_region ?_
            refine tr_p (y_add rfl rfl) rfl rfl ?_
            refine tr_p (y_move rfl) rfl rfl ?_
            refine tr_nil ?_
            refine tr_thenN ?_
            exact tr_join [(3, (.pointer (some x3))), (22, x22.enc), (23, (.int .i64 x23)), (24, (.int .i64 x24)), (28, x28.enc), (29, (.int .i64 x29)), (30, (.int .i64 (IntKind.wrap .i64 (x30 + 1))))] ⟨rfl, rfl, rfl, rfl, rfl, rfl, rfl, trivial⟩ ⟨_, _, _, _, _, _, _, rfl, H⟩
        · replace H := H.2 g25
          refine tr_exit ?_
          refine tr_thenE ?_
          refine tr_thenE ?_
          refine tr_hit ?_
          refine tr_blockN ?_
          refine tr_thenN ?_
          refine tr_region ?_
          refine tr_p (y_add rfl rfl) rfl rfl ?_
          refine tr_p (y_move rfl) rfl rfl ?_
          refine tr_nil ?_
          refine tr_thenN ?_
          exact tr_join [(3, (.pointer (some x3))), (22, x22.enc), (23, (.int .i64 x23)), (24, (.int .i64 (IntKind.wrap .i64 (x24 + 1))))] ⟨rfl, rfl, rfl, rfl, trivial⟩ ⟨_, _, _, _, rfl, H⟩
    · replace H := H.2 g20
      refine tr_exit ?_
      refine tr_thenE ?_
      refine tr_thenE ?_
      refine tr_hit ?_
      refine tr_thenN ?_
      refine tr_seq ?_
      refine tr_region ?_
      obtain ⟨y44, k45, H⟩ := H
      refine tr_h (y_ld Try.isAgg50 rfl) k45 rfl rfl ?_
      refine tr_e (e_call Try.call51 rfl (F.maps_Keys_map_string_int_string_int_ok H)) rfl rfl ?_
      rintro r47 h46 ⟨_, rfl, H⟩
      refine tr_e (e_call Try.call50 rfl (F.slices_Sorted_string_ok H)) rfl rfl ?_
      rintro _ h48 ⟨r49, rfl, H⟩
      refine tr_e (f_alloc (cs := #[(⟨none, 0, 0⟩ : Sl).enc]) Try.zeroValue37 rfl H) rfl rfl ?_
      rintro _ h50 ⟨a51, rfl, H⟩
      refine tr_e (f_store (vs := [r49.enc]) Try.sizeOf37 rfl rfl rfl rfl (one1 rfl) H) rfl rfl ?_
      rintro _ h52 ⟨rfl, H⟩
      refine tr_nil ?_
      refine tr_thenN ?_
      refine tr_seq ?_
      refine tr_region ?_
      refine tr_p (y_fn rfl rfl) rfl rfl ?_
      refine tr_p (y_assign rfl) rfl rfl ?_
      refine tr_nil ?_
      refine tr_thenN ?_
      refine tr_ret ?_
      exact tr_ret1 rfl rfl ⟨_, rfl, H⟩

def F.spatelaw6_all.j1 (Q : Bool → H → Prop) (K1 : H → Prop) (J1 : Nat → H → Prop) (l1 : Nat) (x7 : Addr) (h : H) : Prop :=
  ldI .i64 h x7 fun y18 =>
  stH h x7 [(.int .i64 (IntKind.wrap .i64 (y18 + 1)))] fun h20 =>
  K1 h20
def F.spatelaw6_all.j2 (Q : Bool → H → Prop) (K1 : H → Prop) (J1 : Nat → H → Prop) (l1 : Nat) (x4 : Addr) (x7 : Addr) (x38 : Bool) (h : H) : Prop :=
  (x38 = true →
  stH h x4 [(.bool false)] fun h22 =>
  J1 0 h22) ∧
  (x38 = false →
  F.spatelaw6_all.j1 Q K1 J1 l1 x7 h)
/-- spate/spatelaw6.all -/
def F.spatelaw6_all (p0 : Option Addr) (p1 : Option Addr) (h : H) (Q : Bool → H → Prop) : Prop :=
  new h #[(.bool false)] ty_4 fun a2 h1 =>
  F.spateref6_Table_All p1 h1 fun r4 r5 h3 =>
  new h3 #[(⟨none, 0, 0⟩ : Sl).enc] ty_37 fun a7 h6 =>
  new h6 #[(⟨none, 0, 0⟩ : Sl).enc] ty_38 fun a9 h8 =>
  stH h8 a7 [r4.enc] fun h10 =>
  stH h10 a9 [r5.enc] fun h11 =>
  new h11 #[(.int .i64 0)] ty_3 fun a13 h12 =>
  stH h12 a13 [(.int .i64 0)] fun h14 =>
  F.table_Table_int_All p0 h14 fun r16 h15 =>
  rng PP r16 h15 [Code.ret] (fun bg1 l1 args h K1 J1 => ∃ (y1_17 : ByteArray), ∃ (y1_18 : Int), args = [(.string y1_17), (.int .i64 y1_18)] ∧
    bg1 h fun h17 =>
    ldI .i64 h17 a13 fun y23 =>
    ldL h17 a7 fun y25 =>
    ((decide (y23 ≥ (y25.len : Int))) = true →
    F.spatelaw6_all.j2 Q K1 J1 l1 a2 a13 true h17) ∧
    ((decide (y23 ≥ (y25.len : Int))) = false →
    ldL h17 a7 fun y28 =>
    ldI .i64 h17 a13 fun y30 =>
    idxA y28 y30 1 fun a32 =>
    ldS h17 a32 fun y34 =>
    ((!(y1_17.toList == y34.toList)) = true →
    F.spatelaw6_all.j2 Q K1 J1 l1 a2 a13 true h17) ∧
    ((!(y1_17.toList == y34.toList)) = false →
    ldL h17 a9 fun y37 =>
    ldI .i64 h17 a13 fun y39 =>
    idxA y37 y39 1 fun a41 =>
    ldI .i64 h17 a41 fun y43 =>
    F.spatelaw6_all.j2 Q K1 J1 l1 a2 a13 ((y1_18 != y43)) h17))) (fun h45 =>
    ldI .i64 h45 a13 fun y46 =>
    ldL h45 a7 fun y48 =>
    stH h45 a2 [(.bool ((y46 == (y48.len : Int))))] fun h50 =>
    shuts (h15.size :: ([] : List Nat)) h50 fun h51 =>
    ldB h51 a2 fun y52 =>
    Q y52 h51) (fun jj h54 =>
    (jj = 0 →
      shuts (h15.size :: ([] : List Nat)) h54 fun h55 =>
      ldB h55 a2 fun y56 =>
      Q y56 h55))
theorem F.spatelaw6_all_ok {p0 : Option Addr} {p1 : Option Addr} {h : H} {Q : Bool → H → Prop} (H : F.spatelaw6_all p0 p1 h Q) : Fn PP 43 ([(.pointer p0), (.pointer p1)] : List Value).toArray h fun r h' => ∃ r0, r = (.bool r0) ∧ Q r0 h' := by
  unfold F.spatelaw6_all at H
  refine fn_ofM Try.func43 Try.ntmps43 rfl rfl fun w0 => ?_
  refine tr_sub [(0, (.pointer p0)), (1, (.pointer p1))] ⟨rfl, rfl, trivial⟩ ?_
  refine tr_seq ?_
  refine tr_region ?_
  refine tr_e (f_alloc (cs := #[(.bool false)]) Try.zeroValue4 rfl H) rfl rfl ?_
  rintro _ h1 ⟨a2, rfl, H⟩
  refine tr_nil ?_
  refine tr_thenN ?_
  refine tr_seq ?_
  refine tr_region ?_
  refine tr_p (y_move rfl) rfl rfl ?_
  refine tr_e (e_call Try.call65 rfl (F.spateref6_Table_All_ok H)) rfl rfl ?_
  rintro _ h3 ⟨r4, r5, rfl, H⟩
  refine tr_p (y_move rfl) rfl rfl ?_
  refine tr_p (y_ext rfl rfl) rfl rfl ?_
  refine tr_p (y_ext rfl rfl) rfl rfl ?_
  refine tr_e (f_alloc (cs := #[(⟨none, 0, 0⟩ : Sl).enc]) Try.zeroValue37 rfl H) rfl rfl ?_
  rintro _ h6 ⟨a7, rfl, H⟩
  refine tr_e (f_alloc (cs := #[(⟨none, 0, 0⟩ : Sl).enc]) Try.zeroValue38 rfl H) rfl rfl ?_
  rintro _ h8 ⟨a9, rfl, H⟩
  refine tr_e (f_store (vs := [r4.enc]) Try.sizeOf37 rfl rfl rfl rfl (one1 rfl) H) rfl rfl ?_
  rintro _ h10 ⟨rfl, H⟩
  refine tr_e (f_store (vs := [r5.enc]) Try.sizeOf38 rfl rfl rfl rfl (one1 rfl) H) rfl rfl ?_
  rintro _ h11 ⟨rfl, H⟩
  refine tr_nil ?_
  refine tr_thenN ?_
  refine tr_seq ?_
  refine tr_region ?_
  refine tr_e (f_alloc (cs := #[(.int .i64 0)]) Try.zeroValue3 rfl H) rfl rfl ?_
  rintro _ h12 ⟨a13, rfl, H⟩
  refine tr_e (f_store (vs := [(.int .i64 0)]) Try.sizeOf3 rfl rfl rfl rfl (one1 rfl) H) rfl rfl ?_
  rintro _ h14 ⟨rfl, H⟩
  refine tr_nil ?_
  refine tr_thenN ?_
  refine tr_seq ?_
  refine tr_seq ?_
  refine tr_region ?_
  refine tr_p (y_move rfl) rfl rfl ?_
  refine tr_e (e_call Try.call29 rfl (F.table_Table_int_All_ok H)) rfl rfl ?_
  rintro r16 h15 ⟨_, rfl, H⟩
  refine tr_nil ?_
  refine tr_thenN ?_
  refine tr_block ?_
  refine tr_range rfl (by kernel_rfl) H ?_ ?_ ?_
  · intro bg1 l1 args h K1 J1 w1 hbg1 H
    obtain ⟨y1_17, y1_18, rfl, H⟩ := H
    refine ⟨rfl, ?_⟩
    refine tr_sub [(0, (.pointer p0)), (1, (.pointer p1)), (4, (.pointer (some a2))), (11, (.pointer p1)), (12, (.tuple #[r4.enc, r5.enc])), (10, (.tuple #[r4.enc, r5.enc])), (13, r4.enc), (14, r5.enc), (5, (.pointer (some a7))), (6, (.pointer (some a9))), (7, (.pointer (some a13))), (15, (.pointer p0)), (16, r16), (17, (.string y1_17)), (18, (.int .i64 y1_18))] ⟨rfl, rfl, rfl, rfl, rfl, rfl, rfl, rfl, rfl, rfl, rfl, rfl, rfl, rfl, rfl, trivial⟩ ?_
    refine tr_seq ?_
    refine tr_region ?_
    refine tr_p (y_assign rfl) rfl rfl ?_
    refine tr_nil ?_
    refine tr_thenN ?_
    refine tr_region ?_
    refine tr_p (y_assign rfl) rfl rfl ?_
    refine tr_nil ?_
    refine tr_thenN ?_
    refine tr_bgn hbg1 H fun h17 H => ?_
    refine tr_block ?_
    refine tr_seq_j (fun L' h => ∃ (x7 : Addr), L' = [(7, (.pointer (some x7)))] ∧ F.spatelaw6_all.j1 Q K1 J1 l1 x7 h) ?_ ?_
    · rintro L' h ⟨x7, rfl, H⟩
      unfold F.spatelaw6_all.j1 at H
      refine tr_region ?_
      obtain ⟨y18, k19, H⟩ := H
      refine tr_h (y_ld Try.isAgg3 rfl) k19 rfl rfl ?_
      refine tr_p (y_add rfl rfl) rfl rfl ?_
      refine tr_e (f_store (vs := [(.int .i64 (IntKind.wrap .i64 (y18 + 1)))]) Try.sizeOf3 rfl rfl rfl rfl (one1 rfl) H) rfl rfl ?_
      rintro _ h20 ⟨rfl, H⟩
      refine tr_nil ?_
      refine tr_blockN ?_
      exact tr_rN H
    · refine tr_seq_j (fun L' h => ∃ (x4 : Addr) (x7 : Addr) (x38 : Bool), L' = [(4, (.pointer (some x4))), (7, (.pointer (some x7))), (38, (.bool x38))] ∧ F.spatelaw6_all.j2 Q K1 J1 l1 x4 x7 x38 h) ?_ ?_
      · rintro L' h ⟨x4, x7, x38, rfl, H⟩
        unfold F.spatelaw6_all.j2 at H
        refine tr_cond rfl (fun g21 => ?_) (fun g21 => ?_)
        · replace H := H.1 g21
          refine tr_seq ?_
          refine tr_region ?_
          refine tr_e (f_store (vs := [(.bool false)]) Try.sizeOf4 rfl rfl rfl rfl (one1 rfl) H) rfl rfl ?_
          rintro _ h22 ⟨rfl, H⟩
          refine tr_nil ?_
          refine tr_thenN ?_
          refine tr_ret ?_
          refine tr_thenR ?_
          refine tr_blockR ?_
          exact tr_rR 0 rfl H
        · replace H := H.2 g21
          refine tr_skip ?_
          refine tr_thenN ?_
          exact tr_join [(7, (.pointer (some x7)))] ⟨rfl, trivial⟩ ⟨_, rfl, H⟩
      · refine tr_region ?_
        obtain ⟨y23, k24, H⟩ := H
        refine tr_h (y_ld Try.isAgg3 rfl) k24 rfl rfl ?_
        obtain ⟨y25, k26, H⟩ := H
        refine tr_h (y_ld Try.isAgg37 rfl) k26 rfl rfl ?_
        refine tr_p (y_len (ts := #[]) Try.runUnderlying37 (o := y25.ptr) (n := y25.len) (cap := y25.cap) rfl) rfl rfl ?_
        refine tr_p (y_geq rfl rfl) rfl rfl ?_
        refine tr_p (y_move rfl) rfl rfl ?_
        refine tr_split (t := 23) rfl (fun g27 => ?_) (fun g27 => ?_)
        · replace H := H.1 g27
          refine tr_s rfl rfl ?_
          refine tr_s rfl rfl ?_
          refine tr_s rfl rfl ?_
          refine tr_s rfl rfl ?_
          refine tr_s rfl rfl ?_
          refine tr_s rfl rfl ?_
          refine tr_p (y_pick_t rfl rfl) rfl rfl ?_
          refine tr_p (y_move rfl) rfl rfl ?_
          refine tr_s rfl rfl ?_
          refine tr_s rfl rfl ?_
          refine tr_s rfl rfl ?_
          refine tr_s rfl rfl ?_
          refine tr_s rfl rfl ?_
          refine tr_s rfl rfl ?_
          refine tr_p (y_pick_t rfl rfl) rfl rfl ?_
          refine tr_nil ?_
          refine tr_thenN ?_
          exact tr_join [(4, (.pointer (some a2))), (7, (.pointer (some a13))), (38, (.bool true))] ⟨rfl, rfl, rfl, trivial⟩ ⟨_, _, _, rfl, H⟩
        · replace H := H.2 g27
          refine tr_p (y_move rfl) rfl rfl ?_
          obtain ⟨y28, k29, H⟩ := H
          refine tr_h (y_ld Try.isAgg37 rfl) k29 rfl rfl ?_
          obtain ⟨y30, k31, H⟩ := H
          refine tr_h (y_ld Try.isAgg3 rfl) k31 rfl rfl ?_
          obtain ⟨a32, e33, H⟩ := H
          refine tr_p (f_idx (s := y28) Try.runUnderlying37 Try.sizeOf9 rfl rfl e33) rfl rfl ?_
          obtain ⟨y34, k35, H⟩ := H
          refine tr_h (y_ld Try.isAgg9 rfl) k35 rfl rfl ?_
          refine tr_p (y_sneq rfl rfl) rfl rfl ?_
          refine tr_p (y_pick_f rfl rfl) rfl rfl ?_
          refine tr_p (y_move rfl) rfl rfl ?_
          refine tr_split (t := 31) rfl (fun g36 => ?_) (fun g36 => ?_)
          · replace H := H.1 g36
            refine tr_s rfl rfl ?_
            refine tr_s rfl rfl ?_
            refine tr_s rfl rfl ?_
            refine tr_s rfl rfl ?_
            refine tr_s rfl rfl ?_
            refine tr_s rfl rfl ?_
            refine tr_p (y_pick_t rfl rfl) rfl rfl ?_
            refine tr_nil ?_
            refine tr_thenN ?_
            exact tr_join [(4, (.pointer (some a2))), (7, (.pointer (some a13))), (38, (.bool true))] ⟨rfl, rfl, rfl, trivial⟩ ⟨_, _, _, rfl, H⟩
          · replace H := H.2 g36
            refine tr_p (y_move rfl) rfl rfl ?_
            obtain ⟨y37, k38, H⟩ := H
            refine tr_h (y_ld Try.isAgg38 rfl) k38 rfl rfl ?_
            obtain ⟨y39, k40, H⟩ := H
            refine tr_h (y_ld Try.isAgg3 rfl) k40 rfl rfl ?_
            obtain ⟨a41, e42, H⟩ := H
            refine tr_p (f_idx (s := y37) Try.runUnderlying38 Try.sizeOf3 rfl rfl e42) rfl rfl ?_
            obtain ⟨y43, k44, H⟩ := H
            refine tr_h (y_ld Try.isAgg3 rfl) k44 rfl rfl ?_
            refine tr_p (y_neq rfl rfl) rfl rfl ?_
            refine tr_p (y_pick_f rfl rfl) rfl rfl ?_
            refine tr_nil ?_
            refine tr_thenN ?_
            exact tr_join [(4, (.pointer (some a2))), (7, (.pointer (some a13))), (38, (.bool ((y1_18 != y43))))] ⟨rfl, rfl, rfl, trivial⟩ ⟨_, _, _, rfl, H⟩
  · intro h45 H
    refine tr_blockN ?_
    refine tr_thenN ?_
    refine tr_seq ?_
    refine tr_region ?_
    obtain ⟨y46, k47, H⟩ := H
    refine tr_h (y_ld Try.isAgg3 rfl) k47 rfl rfl ?_
    obtain ⟨y48, k49, H⟩ := H
    refine tr_h (y_ld Try.isAgg37 rfl) k49 rfl rfl ?_
    refine tr_p (y_len (ts := #[]) Try.runUnderlying37 (o := y48.ptr) (n := y48.len) (cap := y48.cap) rfl) rfl rfl ?_
    refine tr_p (y_eql rfl rfl) rfl rfl ?_
    refine tr_e (f_store (vs := [(.bool ((y46 == (y48.len : Int))))]) Try.sizeOf4 rfl rfl rfl rfl (one1 rfl) H) rfl rfl ?_
    rintro _ h50 ⟨rfl, H⟩
    refine tr_nil ?_
    refine tr_thenN ?_
    refine tr_ret ?_
    refine tr_shut (h15.size :: ([] : List Nat)) rfl H fun h51 H => ?_
    obtain ⟨y52, k53, H⟩ := H
    exact tr_rv1 rfl (rv_cell Try.isAgg4 rfl k53) ⟨_, rfl, H⟩
  · intro jj c h54 hjc H
    rcases jj with _ | jj
    · obtain rfl : Code.ret = c := by simpa using hjc
      replace H := H rfl
      refine tr_ret ?_
      refine tr_blockR ?_
      refine tr_thenR ?_
      refine tr_shut (h15.size :: ([] : List Nat)) rfl H fun h55 H => ?_
      obtain ⟨y56, k57, H⟩ := H
      exact tr_rv1 rfl (rv_cell Try.isAgg4 rfl k57) ⟨_, rfl, H⟩
    · simp at hjc

def F.spatelaw6_told.j1 (Q : Bool → H → Prop) (x0 : Option Addr) (x1 : Option Addr) (x5 : Addr) (h : H) : Prop :=
  F.spatelaw6_sizes x0 x1 h fun r4 h3 =>
  (r4 = true →
  ldS h3 (x5.add 2) fun y6 =>
  F.spatelaw6_like x0 x1 y6 h3 fun r9 h8 =>
  Q r9 h8) ∧
  (r4 = false →
  Q false h3)
def F.spatelaw6_told.j2 (Q : Bool → H → Prop) (x0 : Option Addr) (x1 : Option Addr) (x5 : Addr) (x50 : Bool) (h : H) : Prop :=
  (x50 = true →
  Q false h) ∧
  (x50 = false →
  F.spatelaw6_told.j1 Q x0 x1 x5 h)
/-- spate/spatelaw6.told -/
def F.spatelaw6_told (p0 : Option Addr) (p1 : Option Addr) (p2 : S_spatelaw6_Step) (h : H) (Q : Bool → H → Prop) : Prop :=
  new h p2.cells.toArray ty_46 fun a2 h1 =>
  ldI .i64 h1 (a2.add 0) fun y10 =>
  (((y10 == 1)) = true →
  ldS h1 (a2.add 2) fun y13 =>
  ldI .i64 h1 (a2.add 1) fun y15 =>
  F.table_Table_int_Put p0 y13 y15 h1 fun h17 =>
  ldS h17 (a2.add 2) fun y18 =>
  ldI .i64 h17 (a2.add 1) fun y20 =>
  F.spateref6_Table_Put p1 y18 y20 h17 fun h22 =>
  F.spatelaw6_told.j1 Q p0 p1 a2 h22) ∧
  (((y10 == 1)) = false →
  (((y10 == 3)) = true →
  ldS h1 (a2.add 2) fun y24 =>
  F.table_Table_int_Drop p0 y24 h1 fun r27 r28 h26 =>
  ldS h26 (a2.add 2) fun y29 =>
  F.spateref6_Table_Drop p1 y29 h26 fun r32 r33 h31 =>
  (((r27 != r32)) = true →
  F.spatelaw6_told.j2 Q p0 p1 a2 true h31) ∧
  (((r27 != r32)) = false →
  F.spatelaw6_told.j2 Q p0 p1 a2 (!(r28 == r33)) h31)) ∧
  (((y10 == 3)) = false →
  (((y10 == 4)) = true →
  ldI .i64 h1 (a2.add 1) fun y37 =>
  ldI .i64 h1 (a2.add 1) fun y39 =>
  F.table_Table_int_Move p0 y37 h1 fun r42 h41 =>
  cellH h41 (a2.add 1) = some (.int .i64 y39) ∧
  F.spateref6_Table_Move p1 y39 h41 fun r45 h44 =>
  (((r42 != r45)) = true →
  Q false h44) ∧
  (((r42 != r45)) = false →
  F.spatelaw6_told.j1 Q p0 p1 a2 h44)) ∧
  (((y10 == 4)) = false →
  (((y10 == 5)) = true →
  F.spatelaw6_all p0 p1 h1 fun r49 h48 =>
  ((!r49) = true →
  Q false h48) ∧
  ((!r49) = false →
  F.spatelaw6_told.j1 Q p0 p1 a2 h48)) ∧
  (((y10 == 5)) = false →
  F.spatelaw6_told.j1 Q p0 p1 a2 h1))))
theorem F.spatelaw6_told_ok {p0 : Option Addr} {p1 : Option Addr} {p2 : S_spatelaw6_Step} {h : H} {Q : Bool → H → Prop} (H : F.spatelaw6_told p0 p1 p2 h Q) : Fn PP 41 ([(.pointer p0), (.pointer p1), (.agg p2.cells.toArray)] : List Value).toArray h fun r h' => ∃ r0, r = (.bool r0) ∧ Q r0 h' := by
  unfold F.spatelaw6_told at H
  refine fn_of Try.func41 Try.ntmps41 rfl rfl fun w0 => ?_
  refine tr_sub [(0, (.pointer p0)), (1, (.pointer p1)), (2, (.agg p2.cells.toArray))] ⟨rfl, rfl, rfl, trivial⟩ ?_
  refine tr_seq ?_
  refine tr_region ?_
  refine tr_e (f_box (cs := p2.cells.toArray) rfl rfl H) rfl rfl ?_
  rintro _ h1 ⟨a2, rfl, H⟩
  refine tr_p (y_assign rfl) rfl rfl ?_
  refine tr_nil ?_
  refine tr_thenN ?_
  refine tr_seq_j (fun L' h => ∃ (x0 : Option Addr) (x1 : Option Addr) (x5 : Addr), L' = [(0, (.pointer x0)), (1, (.pointer x1)), (5, (.pointer (some x5)))] ∧ F.spatelaw6_told.j1 Q x0 x1 x5 h) ?_ ?_
  · rintro L' h ⟨x0, x1, x5, rfl, H⟩
    unfold F.spatelaw6_told.j1 at H
    refine tr_seq ?_
    refine tr_region ?_
    refine tr_p (y_move rfl) rfl rfl ?_
    refine tr_p (y_move rfl) rfl rfl ?_
    refine tr_e (e_call Try.call61 rfl (F.spatelaw6_sizes_ok H)) rfl rfl ?_
    rintro _ h3 ⟨r4, rfl, H⟩
    refine tr_p (y_move rfl) rfl rfl ?_
    refine tr_split (t := 71) rfl (fun g5 => ?_) (fun g5 => ?_)
    · replace H := H.1 g5
      refine tr_p (y_move rfl) rfl rfl ?_
      refine tr_p (y_move rfl) rfl rfl ?_
      refine tr_p (y_fa (off := 2) Try.runUnderlying46 fo_46_2 rfl) rfl rfl ?_
      obtain ⟨y6, k7, H⟩ := H
      refine tr_h (y_ld Try.isAgg9 rfl) k7 rfl rfl ?_
      refine tr_e (e_call Try.call42 rfl (F.spatelaw6_like_ok H)) rfl rfl ?_
      rintro _ h8 ⟨r9, rfl, H⟩
      refine tr_p (y_pick_t rfl rfl) rfl rfl ?_
      refine tr_p (y_assign rfl) rfl rfl ?_
      refine tr_nil ?_
      refine tr_thenN ?_
      refine tr_ret ?_
      exact tr_ret1 rfl rfl ⟨_, rfl, H⟩
    · replace H := H.2 g5
      refine tr_s rfl rfl ?_
      refine tr_s rfl rfl ?_
      refine tr_s rfl rfl ?_
      refine tr_s rfl rfl ?_
      refine tr_s rfl rfl ?_
      refine tr_p (y_pick_f rfl rfl) rfl rfl ?_
      refine tr_p (y_assign rfl) rfl rfl ?_
      refine tr_nil ?_
      refine tr_thenN ?_
      refine tr_ret ?_
      exact tr_ret1 rfl rfl ⟨_, rfl, H⟩
  · refine tr_seq ?_
    refine tr_region ?_
    refine tr_p (y_fa (off := 0) Try.runUnderlying46 fo_46_0 rfl) rfl rfl ?_
    obtain ⟨y10, k11, H⟩ := H
    refine tr_h (y_ld Try.isAgg3 rfl) k11 rfl rfl ?_
    refine tr_nil ?_
    refine tr_thenN ?_
    refine tr_block ?_
    refine tr_seq ?_
    refine tr_region ?_
    refine tr_p (y_eql rfl rfl) rfl rfl ?_
    refine tr_p (y_assign rfl) rfl rfl ?_
    refine tr_nil ?_
    refine tr_thenN ?_
    refine tr_cond rfl (fun g12 => ?_) (fun g12 => ?_)
    · replace H := H.1 g12
      refine tr_seq ?_
      refine tr_region ?_
      refine tr_p (y_move rfl) rfl rfl ?_
      refine tr_p (y_fa (off := 2) Try.runUnderlying46 fo_46_2 rfl) rfl rfl ?_
      obtain ⟨y13, k14, H⟩ := H
      refine tr_h (y_ld Try.isAgg9 rfl) k14 rfl rfl ?_
      refine tr_p (y_fa (off := 1) Try.runUnderlying46 fo_46_1 rfl) rfl rfl ?_
      obtain ⟨y15, k16, H⟩ := H
      refine tr_h (y_ld Try.isAgg3 rfl) k16 rfl rfl ?_
      refine tr_e (e_call Try.call20 rfl (F.table_Table_int_Put_ok H)) rfl rfl ?_
      rintro _ h17 ⟨rfl, H⟩
      refine tr_nil ?_
      refine tr_thenN ?_
      refine tr_region ?_
      refine tr_p (y_move rfl) rfl rfl ?_
      refine tr_p (y_fa (off := 2) Try.runUnderlying46 fo_46_2 rfl) rfl rfl ?_
      obtain ⟨y18, k19, H⟩ := H
      refine tr_h (y_ld Try.isAgg9 rfl) k19 rfl rfl ?_
      refine tr_p (y_fa (off := 1) Try.runUnderlying46 fo_46_1 rfl) rfl rfl ?_
      obtain ⟨y20, k21, H⟩ := H
      refine tr_h (y_ld Try.isAgg3 rfl) k21 rfl rfl ?_
      refine tr_e (e_call Try.call58 rfl (F.spateref6_Table_Put_ok H)) rfl rfl ?_
      rintro _ h22 ⟨rfl, H⟩
      refine tr_nil ?_
      refine tr_blockN ?_
      refine tr_thenN ?_
      exact tr_join [(0, (.pointer p0)), (1, (.pointer p1)), (5, (.pointer (some a2)))] ⟨rfl, rfl, rfl, trivial⟩ ⟨_, _, _, rfl, H⟩
    · replace H := H.2 g12
      refine tr_seq ?_
      refine tr_region ?_
      refine tr_p (y_eql rfl rfl) rfl rfl ?_
      refine tr_p (y_assign rfl) rfl rfl ?_
      refine tr_nil ?_
      refine tr_thenN ?_
      refine tr_cond rfl (fun g23 => ?_) (fun g23 => ?_)
      · replace H := H.1 g23
        refine tr_seq ?_
        refine tr_region ?_
        refine tr_p (y_move rfl) rfl rfl ?_
        refine tr_p (y_fa (off := 2) Try.runUnderlying46 fo_46_2 rfl) rfl rfl ?_
        obtain ⟨y24, k25, H⟩ := H
        refine tr_h (y_ld Try.isAgg9 rfl) k25 rfl rfl ?_
        refine tr_e (e_call Try.call22 rfl (F.table_Table_int_Drop_ok H)) rfl rfl ?_
        rintro _ h26 ⟨r27, r28, rfl, H⟩
        refine tr_p (y_move rfl) rfl rfl ?_
        refine tr_p (y_ext rfl rfl) rfl rfl ?_
        refine tr_p (y_ext rfl rfl) rfl rfl ?_
        refine tr_p (y_assign rfl) rfl rfl ?_
        refine tr_p (y_assign rfl) rfl rfl ?_
        refine tr_nil ?_
        refine tr_thenN ?_
        refine tr_seq ?_
        refine tr_region ?_
        refine tr_p (y_move rfl) rfl rfl ?_
        refine tr_p (y_fa (off := 2) Try.runUnderlying46 fo_46_2 rfl) rfl rfl ?_
        obtain ⟨y29, k30, H⟩ := H
        refine tr_h (y_ld Try.isAgg9 rfl) k30 rfl rfl ?_
        refine tr_e (e_call Try.call59 rfl (F.spateref6_Table_Drop_ok H)) rfl rfl ?_
        rintro _ h31 ⟨r32, r33, rfl, H⟩
        refine tr_p (y_move rfl) rfl rfl ?_
        refine tr_p (y_ext rfl rfl) rfl rfl ?_
        refine tr_p (y_ext rfl rfl) rfl rfl ?_
        refine tr_p (y_assign rfl) rfl rfl ?_
        refine tr_p (y_assign rfl) rfl rfl ?_
        refine tr_nil ?_
        refine tr_thenN ?_
        refine tr_seq_j (fun L' h => ∃ (x0 : Option Addr) (x1 : Option Addr) (x5 : Addr) (x50 : Bool), L' = [(0, (.pointer x0)), (1, (.pointer x1)), (5, (.pointer (some x5))), (50, (.bool x50))] ∧ F.spatelaw6_told.j2 Q x0 x1 x5 x50 h) ?_ ?_
        · rintro L' h ⟨x0, x1, x5, x50, rfl, H⟩
          unfold F.spatelaw6_told.j2 at H
          refine tr_cond rfl (fun g34 => ?_) (fun g34 => ?_)
          · replace H := H.1 g34
            refine tr_seq ?_
            refine tr_region ?_
            refine tr_p (y_assign rfl) rfl rfl ?_
            refine tr_nil ?_
            refine tr_thenN ?_
            refine tr_ret ?_
            refine tr_blockR ?_
            refine tr_thenR ?_
            exact tr_ret1 rfl rfl ⟨_, rfl, H⟩
          · replace H := H.2 g34
            refine tr_skip ?_
            refine tr_blockN ?_
            refine tr_thenN ?_
            exact tr_join [(0, (.pointer x0)), (1, (.pointer x1)), (5, (.pointer (some x5)))] ⟨rfl, rfl, rfl, trivial⟩ ⟨_, _, _, rfl, H⟩
        · refine tr_region ?_
          refine tr_p (y_move rfl) rfl rfl ?_
          refine tr_p (y_move rfl) rfl rfl ?_
          refine tr_p (y_neq rfl rfl) rfl rfl ?_
          refine tr_p (y_move rfl) rfl rfl ?_
          refine tr_split (t := 46) rfl (fun g35 => ?_) (fun g35 => ?_)
          · replace H := H.1 g35
            refine tr_s rfl rfl ?_
            refine tr_s rfl rfl ?_
            refine tr_s rfl rfl ?_
            refine tr_p (y_pick_t rfl rfl) rfl rfl ?_
            refine tr_nil ?_
            refine tr_thenN ?_
            exact tr_join [(0, (.pointer p0)), (1, (.pointer p1)), (5, (.pointer (some a2))), (50, (.bool true))] ⟨rfl, rfl, rfl, rfl, trivial⟩ ⟨_, _, _, _, rfl, H⟩
          · replace H := H.2 g35
            refine tr_p (y_move rfl) rfl rfl ?_
            refine tr_p (y_move rfl) rfl rfl ?_
            refine tr_p (y_bneq Try.underlying4 rfl rfl) rfl rfl ?_
            refine tr_p (y_pick_f rfl rfl) rfl rfl ?_
            refine tr_nil ?_
            refine tr_thenN ?_
            exact tr_join [(0, (.pointer p0)), (1, (.pointer p1)), (5, (.pointer (some a2))), (50, (.bool (!(r28 == r33))))] ⟨rfl, rfl, rfl, rfl, trivial⟩ ⟨_, _, _, _, rfl, H⟩
      · replace H := H.2 g23
        refine tr_seq ?_
        refine tr_region ?_
        refine tr_p (y_eql rfl rfl) rfl rfl ?_
        refine tr_p (y_assign rfl) rfl rfl ?_
        refine tr_nil ?_
        refine tr_thenN ?_
        refine tr_cond rfl (fun g36 => ?_) (fun g36 => ?_)
        · replace H := H.1 g36
          refine tr_seq ?_
          refine tr_draw mixed [0, 0, 2, 7, 0, 0, 32, 127, 255] (by kernel_rfl) ?_
          refine g_p 0 1 rfl (by kernel_rfl) (y_move rfl) rfl rfl ?_
          refine g_p 1 3 rfl (by kernel_rfl) (y_fa (off := 1) Try.runUnderlying46 fo_46_1 rfl) rfl rfl ?_
          obtain ⟨y37, k38, H⟩ := H
          refine g_h 2 7 rfl (by kernel_rfl) (y_ld Try.isAgg3 rfl) k38 rfl rfl ?_
          refine g_p 4 23 rfl (by kernel_rfl) (y_move rfl) rfl rfl ?_
          refine g_p 5 55 rfl (by kernel_rfl) (y_fa (off := 1) Try.runUnderlying46 fo_46_1 rfl) rfl rfl ?_
          obtain ⟨y39, k40, H⟩ := H
          refine g_h 6 119 rfl (by kernel_rfl) (y_ld Try.isAgg3 rfl) k40 rfl rfl ?_
          refine g_e 3 127 [(6, fun h => cellH h (a2.add 1) = some (.int .i64 y39))] (by kernel_rfl) rfl (by kernel_rfl) (e_call Try.call26 rfl (F.table_Table_int_Move_ok H)) rfl rfl ?_
          rintro _ h41 ⟨r42, rfl, H⟩
          obtain ⟨k43, H⟩ := H
          refine ⟨And.intro k43 trivial, ?_⟩
          refine g_e 7 255 [] (by kernel_rfl) rfl (by kernel_rfl) (e_call Try.call60 rfl (F.spateref6_Table_Move_ok H)) rfl rfl ?_
          rintro _ h44 ⟨r45, rfl, H⟩
          refine ⟨trivial, ?_⟩
          refine g_p 8 511 rfl (by kernel_rfl) (y_neq rfl rfl) rfl rfl ?_
          refine g_d (by kernel_rfl) ?_
          refine tr_thenN ?_
          refine tr_cond rfl (fun g46 => ?_) (fun g46 => ?_)
          · replace H := H.1 g46
            refine tr_seq ?_
            refine tr_region ?_
            refine tr_p (y_assign rfl) rfl rfl ?_
            refine tr_nil ?_
            refine tr_thenN ?_
            refine tr_ret ?_
            refine tr_blockR ?_
            refine tr_thenR ?_
            exact tr_ret1 rfl rfl ⟨_, rfl, H⟩
          · replace H := H.2 g46
            refine tr_skip ?_
            refine tr_blockN ?_
            refine tr_thenN ?_
            exact tr_join [(0, (.pointer p0)), (1, (.pointer p1)), (5, (.pointer (some a2)))] ⟨rfl, rfl, rfl, trivial⟩ ⟨_, _, _, rfl, H⟩
        · replace H := H.2 g36
          refine tr_seq ?_
          refine tr_region ?_
          refine tr_p (y_eql rfl rfl) rfl rfl ?_
          refine tr_p (y_assign rfl) rfl rfl ?_
          refine tr_nil ?_
          refine tr_thenN ?_
          refine tr_cond rfl (fun g47 => ?_) (fun g47 => ?_)
          · replace H := H.1 g47
            refine tr_seq ?_
            refine tr_region ?_
            refine tr_p (y_move rfl) rfl rfl ?_
            refine tr_p (y_move rfl) rfl rfl ?_
            refine tr_e (e_call Try.call43 rfl (F.spatelaw6_all_ok H)) rfl rfl ?_
            rintro _ h48 ⟨r49, rfl, H⟩
            refine tr_p (y_not rfl) rfl rfl ?_
            refine tr_nil ?_
            refine tr_thenN ?_
            refine tr_cond rfl (fun g50 => ?_) (fun g50 => ?_)
            · replace H := H.1 g50
              refine tr_seq ?_
              refine tr_region ?_
              refine tr_p (y_assign rfl) rfl rfl ?_
              refine tr_nil ?_
              refine tr_thenN ?_
              refine tr_ret ?_
              refine tr_blockR ?_
              refine tr_thenR ?_
              exact tr_ret1 rfl rfl ⟨_, rfl, H⟩
            · replace H := H.2 g50
              refine tr_skip ?_
              refine tr_blockN ?_
              refine tr_thenN ?_
              exact tr_join [(0, (.pointer p0)), (1, (.pointer p1)), (5, (.pointer (some a2)))] ⟨rfl, rfl, rfl, trivial⟩ ⟨_, _, _, rfl, H⟩
          · replace H := H.2 g47
            refine tr_skip ?_
            refine tr_blockN ?_
            refine tr_thenN ?_
            exact tr_join [(0, (.pointer p0)), (1, (.pointer p1)), (5, (.pointer (some a2)))] ⟨rfl, rfl, rfl, trivial⟩ ⟨_, _, _, rfl, H⟩

/-- slices.Clone[[]spate/table.place[int],spate/table.place[int]] -/
def F.slices_Clone_Sltable_place_int_table_place_int (p0 : Sl) (h : H) (Q : Sl → H → Prop) : Prop :=
  (p0.ptr.isNone = true →
  Q (⟨none, 0, 0⟩ : Sl) h) ∧
  (p0.ptr.isNone = false →
  newL h (([]).toArray) ty_77 0 fun s3 h2 =>
  runL PP (Builtin.append_ #[71, 71] 71 #[s3.enc, p0.enc]) h2 fun s5 h4 =>
  Q s5 h4)
theorem F.slices_Clone_Sltable_place_int_table_place_int_ok {p0 : Sl} {h : H} {Q : Sl → H → Prop} (H : F.slices_Clone_Sltable_place_int_table_place_int p0 h Q) : Fn PP 49 ([p0.enc] : List Value).toArray h fun r h' => ∃ r0, r = r0.enc ∧ Q r0 h' := by
  unfold F.slices_Clone_Sltable_place_int_table_place_int at H
  refine fn_of Try.func49 Try.ntmps49 rfl rfl fun w0 => ?_
  refine tr_sub [(0, p0.enc)] ⟨rfl, trivial⟩ ?_
  refine tr_seq ?_
  refine tr_region ?_
  refine tr_p (y_assign rfl) rfl rfl ?_
  refine tr_nil ?_
  refine tr_thenN ?_
  refine tr_seq ?_
  refine tr_seq ?_
  refine tr_region ?_
  refine tr_p (y_move rfl) rfl rfl ?_
  refine tr_p (y_lnil_eql Try.runUnderlying71 (s := p0) rfl rfl) rfl rfl ?_
  refine tr_nil ?_
  refine tr_thenN ?_
  refine tr_cond rfl (fun g1 => ?_) (fun g1 => ?_)
  · replace H := H.1 g1
    refine tr_seq ?_
    refine tr_region ?_
    refine tr_p (y_assign rfl) rfl rfl ?_
    refine tr_nil ?_
    refine tr_thenN ?_
    refine tr_ret ?_
    refine tr_thenR ?_
    exact tr_ret1 rfl rfl ⟨_, rfl, H⟩
  · replace H := H.2 g1
    refine tr_skip ?_
    refine tr_thenN ?_
    refine tr_seq ?_
    refine tr_region ?_
    refine tr_e (f_buildL (cs := ([]).toArray) rfl rfl (bl_71_0_) H) rfl rfl ?_
    rintro _ h2 ⟨s3, rfl, H⟩
    refine tr_p (y_move rfl) rfl rfl ?_
    refine tr_e (f_app rfl H) rfl rfl ?_
    rintro _ h4 ⟨s5, rfl, H⟩
    refine tr_p (y_assign rfl) rfl rfl ?_
    refine tr_nil ?_
    refine tr_thenN ?_
    refine tr_ret ?_
    exact tr_ret1 rfl rfl ⟨_, rfl, H⟩

/-- (*spate/table.Table[int]).Twin -/
def F.table_Table_int_Twin (p0 : Option Addr) (h : H) (Q : (Option Addr) → H → Prop) : Prop :=
  nn p0 fun a1 =>
  ld_S_table_Table_int h a1 fun y3 =>
  new h (((⟨(⟨none, 0, 0⟩ : Sl), (⟨none, 0, 0⟩ : Sl), 0, 0⟩ : S_table_Table_int) : S_table_Table_int).cells.toArray) ty_73 fun a6 h5 =>
  stH h5 a6 y3.cells fun h7 =>
  nn p0 fun a8 =>
  ldL h7 (a8.add 0) fun y10 =>
  nn p0 fun a12 =>
  ldL h7 (a12.add 1) fun y14 =>
  F.slices_Clone_Sltable_place_int_table_place_int y10 h7 fun r17 h16 =>
  cellH h16 (a12.add 1) = some y14.enc ∧
  F.slices_Clone_Sltable_place_int_table_place_int y14 h16 fun r20 h19 =>
  stH h19 (a6.add 0) [r17.enc] fun h21 =>
  stH h21 (a6.add 1) [r20.enc] fun h22 =>
  Q (some a6) h22
theorem F.table_Table_int_Twin_ok {p0 : Option Addr} {h : H} {Q : (Option Addr) → H → Prop} (H : F.table_Table_int_Twin p0 h Q) : Fn PP 28 ([(.pointer p0)] : List Value).toArray h fun r h' => ∃ r0, r = (.pointer r0) ∧ Q r0 h' := by
  unfold F.table_Table_int_Twin at H
  refine fn_of Try.func28 Try.ntmps28 rfl rfl fun w0 => ?_
  refine tr_sub [(0, (.pointer p0))] ⟨rfl, trivial⟩ ?_
  refine tr_seq ?_
  refine tr_region ?_
  refine tr_p (y_assign rfl) rfl rfl ?_
  refine tr_nil ?_
  refine tr_thenN ?_
  refine tr_seq ?_
  refine tr_region ?_
  refine tr_p (y_move rfl) rfl rfl ?_
  obtain ⟨a1, e2, H⟩ := H
  refine tr_p (f_nn rfl e2) rfl rfl ?_
  obtain ⟨y3, k4, H⟩ := H
  refine tr_h (y_ldS Try.isAgg73 Try.sizeOf73 rfl rfl) k4 rfl rfl ?_
  refine tr_e (f_alloc (cs := ((⟨(⟨none, 0, 0⟩ : Sl), (⟨none, 0, 0⟩ : Sl), 0, 0⟩ : S_table_Table_int) : S_table_Table_int).cells.toArray) Try.zeroValue73 rfl H) rfl rfl ?_
  rintro _ h5 ⟨a6, rfl, H⟩
  refine tr_e (f_store (vs := y3.cells) Try.sizeOf73 rfl rfl cellsOfStruct rfl (by intro v hv; exact ones_S_table_Table_int _ v hv) H) rfl rfl ?_
  rintro _ h7 ⟨rfl, H⟩
  refine tr_nil ?_
  refine tr_thenN ?_
  refine tr_seq ?_
  refine tr_draw mixed [0, 1, 3, 7, 15, 0, 32, 96, 224, 511, 1023, 2047, 4095, 8191] (by kernel_rfl) ?_
  refine g_p 0 1 rfl (by kernel_rfl) (y_move rfl) rfl rfl ?_
  obtain ⟨a8, e9, H⟩ := H
  refine g_p 1 3 rfl (by kernel_rfl) (f_nn rfl e9) rfl rfl ?_
  refine g_p 2 7 rfl (by kernel_rfl) (y_fa (off := 0) Try.runUnderlying73 fo_73_0 rfl) rfl rfl ?_
  obtain ⟨y10, k11, H⟩ := H
  refine g_h 3 15 rfl (by kernel_rfl) (y_ld Try.isAgg71 rfl) k11 rfl rfl ?_
  refine g_p 5 47 rfl (by kernel_rfl) (y_move rfl) rfl rfl ?_
  obtain ⟨a12, e13, H⟩ := H
  refine g_p 6 111 rfl (by kernel_rfl) (f_nn rfl e13) rfl rfl ?_
  refine g_p 7 239 rfl (by kernel_rfl) (y_fa (off := 1) Try.runUnderlying73 fo_73_1 rfl) rfl rfl ?_
  obtain ⟨y14, k15, H⟩ := H
  refine g_h 8 495 rfl (by kernel_rfl) (y_ld Try.isAgg71 rfl) k15 rfl rfl ?_
  refine g_e 4 511 [(8, fun h => cellH h (a12.add 1) = some y14.enc)] (by kernel_rfl) rfl (by kernel_rfl) (e_call Try.call49 rfl (F.slices_Clone_Sltable_place_int_table_place_int_ok H)) rfl rfl ?_
  rintro _ h16 ⟨r17, rfl, H⟩
  obtain ⟨k18, H⟩ := H
  refine ⟨And.intro k18 trivial, ?_⟩
  refine g_e 9 1023 [] (by kernel_rfl) rfl (by kernel_rfl) (e_call Try.call49 rfl (F.slices_Clone_Sltable_place_int_table_place_int_ok H)) rfl rfl ?_
  rintro _ h19 ⟨r20, rfl, H⟩
  refine ⟨trivial, ?_⟩
  refine g_p 10 2047 rfl (by kernel_rfl) (y_fa (off := 0) Try.runUnderlying73 fo_73_0 rfl) rfl rfl ?_
  refine g_e 11 4095 [] (by kernel_rfl) rfl (by kernel_rfl) (f_store (vs := [r17.enc]) Try.sizeOf71 rfl rfl rfl rfl (one1 rfl) H) rfl rfl ?_
  rintro _ h21 ⟨rfl, H⟩
  refine ⟨trivial, ?_⟩
  refine g_p 12 8191 rfl (by kernel_rfl) (y_fa (off := 1) Try.runUnderlying73 fo_73_1 rfl) rfl rfl ?_
  refine g_e 13 16383 [] (by kernel_rfl) rfl (by kernel_rfl) (f_store (vs := [r20.enc]) Try.sizeOf71 rfl rfl rfl rfl (one1 rfl) H) rfl rfl ?_
  rintro _ h22 ⟨rfl, H⟩
  refine ⟨trivial, ?_⟩
  refine g_d (by kernel_rfl) ?_
  refine tr_thenN ?_
  refine tr_seq ?_
  refine tr_region ?_
  refine tr_p (y_assign rfl) rfl rfl ?_
  refine tr_nil ?_
  refine tr_thenN ?_
  refine tr_ret ?_
  exact tr_ret1 rfl rfl ⟨_, rfl, H⟩

def F.spatelaw6_TablePlays.j2 (Q : Bool → H → Prop) (C1 : Sl → (Option Addr) → (Option Addr) → Int → H → Prop) (x0 : Sl) (x3 : Option Addr) (x4 : Option Addr) (x5 : Int) (h : H) : Prop :=
  C1 x0 x3 x4 (IntKind.wrap .i64 (x5 + 1)) h
def F.spatelaw6_TablePlays.j3 (Q : Bool → H → Prop) (C1 : Sl → (Option Addr) → (Option Addr) → Int → H → Prop) (x0 : Sl) (x3 : Option Addr) (x4 : Option Addr) (x5 : Int) (h : H) : Prop :=
  idxA x0 x5 3 fun a10 =>
  ld_S_spatelaw6_Step h a10 fun y12 =>
  F.spatelaw6_told x3 x4 y12 h fun r15 h14 =>
  ((!r15) = true →
  Q false h14) ∧
  ((!r15) = false →
  F.spatelaw6_TablePlays.j2 Q C1 x0 x3 x4 x5 h14)
def F.spatelaw6_TablePlays.l4 (Q : Bool → H → Prop) : Nat → Sl → (Option Addr) → (Option Addr) → Int → H → Prop
  | 0, _, _, _, _, _ => False
  | q4 + 1, x0, x3, x4, x6, h =>
    ((decide (x6 < (x0.len : Int))) = true →
    idxA x0 x6 3 fun a26 =>
    ldS h (a26.add 2) fun y28 =>
    F.spatelaw6_like x3 x4 y28 h fun r31 h30 =>
    ((!r31) = true →
    Q false h30) ∧
    ((!r31) = false →
    (F.spatelaw6_TablePlays.l4 Q q4) x0 x3 x4 (IntKind.wrap .i64 (x6 + 1)) h30)) ∧
    ((decide (x6 < (x0.len : Int))) = false →
    F.spatelaw6_all x3 x4 h fun r34 h33 =>
    Q r34 h33)
def F.spatelaw6_TablePlays.l1 (Q : Bool → H → Prop) : Nat → Sl → (Option Addr) → (Option Addr) → Int → H → Prop
  | 0, _, _, _, _, _ => False
  | q1 + 1, x0, x3, x4, x5, h =>
    ((decide (x5 < (x0.len : Int))) = true →
    idxA x0 x5 3 fun a17 =>
    ldI .i64 h (a17.add 0) fun y19 =>
    (((y19 == 6)) = true →
    F.table_Table_int_Twin x3 h fun r23 h22 =>
    (r23.isNone = true →
    Q false h22) ∧
    (r23.isNone = false →
    F.spatelaw6_TablePlays.j3 Q (F.spatelaw6_TablePlays.l1 Q q1) x0 r23 x4 x5 h22)) ∧
    (((y19 == 6)) = false →
    F.spatelaw6_TablePlays.j3 Q (F.spatelaw6_TablePlays.l1 Q q1) x0 x3 x4 x5 h)) ∧
    ((decide (x5 < (x0.len : Int))) = false →
    ∃ m, F.spatelaw6_TablePlays.l4 Q m x0 x3 x4 0 h)
/-- spate/spatelaw6.TablePlays -/
def F.spatelaw6_TablePlays (p0 : Sl) (h : H) (Q : Bool → H → Prop) : Prop :=
  F.spatelaw6_known  h fun r2 h1 =>
  ((!r2) = true →
  Q false h1) ∧
  ((!r2) = false →
  ((decide ((p0.len : Int) > 20000)) = true →
  Q true h1) ∧
  ((decide ((p0.len : Int) > 20000)) = false →
  F.table_New_int  h1 fun r6 h5 =>
  F.spateref6_New  h5 fun r8 h7 =>
  ∃ m, F.spatelaw6_TablePlays.l1 Q m p0 r6 r8 0 h7))
theorem F.spatelaw6_TablePlays_ok {p0 : Sl} {h : H} {Q : Bool → H → Prop} (H : F.spatelaw6_TablePlays p0 h Q) : Fn PP 9 ([p0.enc] : List Value).toArray h fun r h' => ∃ r0, r = (.bool r0) ∧ Q r0 h' := by
  unfold F.spatelaw6_TablePlays at H
  refine fn_of Try.func9 Try.ntmps9 rfl rfl fun w0 => ?_
  refine tr_sub [(0, p0.enc)] ⟨rfl, trivial⟩ ?_
  refine tr_seq ?_
  refine tr_region ?_
  refine tr_p (y_assign rfl) rfl rfl ?_
  refine tr_nil ?_
  refine tr_thenN ?_
  refine tr_seq ?_
  refine tr_seq ?_
  refine tr_region ?_
  refine tr_e (e_call Try.call17 rfl (F.spatelaw6_known_ok H)) rfl rfl ?_
  rintro _ h1 ⟨r2, rfl, H⟩
  refine tr_p (y_not rfl) rfl rfl ?_
  refine tr_nil ?_
  refine tr_thenN ?_
  refine tr_cond rfl (fun g3 => ?_) (fun g3 => ?_)
  · replace H := H.1 g3
    refine tr_seq ?_
    refine tr_region ?_
    refine tr_p (y_assign rfl) rfl rfl ?_
    refine tr_nil ?_
    refine tr_thenN ?_
    refine tr_ret ?_
    refine tr_thenR ?_
    exact tr_ret1 rfl rfl ⟨_, rfl, H⟩
  · replace H := H.2 g3
    refine tr_skip ?_
    refine tr_thenN ?_
    refine tr_seq ?_
    refine tr_seq ?_
    refine tr_region ?_
    refine tr_p (y_move rfl) rfl rfl ?_
    refine tr_p (y_len (ts := #[]) Try.runUnderlying43 (o := p0.ptr) (n := p0.len) (cap := p0.cap) rfl) rfl rfl ?_
    refine tr_p (y_gtr rfl rfl) rfl rfl ?_
    refine tr_nil ?_
    refine tr_thenN ?_
    refine tr_cond rfl (fun g4 => ?_) (fun g4 => ?_)
    · replace H := H.1 g4
      refine tr_seq ?_
      refine tr_region ?_
      refine tr_p (y_assign rfl) rfl rfl ?_
      refine tr_nil ?_
      refine tr_thenN ?_
      refine tr_ret ?_
      refine tr_thenR ?_
      exact tr_ret1 rfl rfl ⟨_, rfl, H⟩
    · replace H := H.2 g4
      refine tr_skip ?_
      refine tr_thenN ?_
      refine tr_seq ?_
      refine tr_region ?_
      refine tr_e (e_call Try.call19 rfl (F.table_New_int_ok H)) rfl rfl ?_
      rintro _ h5 ⟨r6, rfl, H⟩
      refine tr_p (y_assign rfl) rfl rfl ?_
      refine tr_nil ?_
      refine tr_thenN ?_
      refine tr_seq ?_
      refine tr_region ?_
      refine tr_e (e_call Try.call40 rfl (F.spateref6_New_ok H)) rfl rfl ?_
      rintro _ h7 ⟨r8, rfl, H⟩
      refine tr_p (y_assign rfl) rfl rfl ?_
      refine tr_nil ?_
      refine tr_thenN ?_
      refine tr_seq ?_
      refine tr_seq ?_
      refine tr_region ?_
      refine tr_p (y_assign rfl) rfl rfl ?_
      refine tr_nil ?_
      refine tr_thenN ?_
      refine tr_block ?_
      obtain ⟨m36, H⟩ := H
      refine tr_sub [(0, p0.enc), (3, (.pointer r6)), (4, (.pointer r8)), (5, (.int .i64 0))] ⟨rfl, rfl, rfl, rfl, trivial⟩ ?_
      refine tr_loop_j (fun m L' h => ∃ (x0 : Sl) (x3 : Option Addr) (x4 : Option Addr) (x5 : Int), L' = [(0, x0.enc), (3, (.pointer x3)), (4, (.pointer x4)), (5, (.int .i64 x5))] ∧ F.spatelaw6_TablePlays.l1 Q m x0 x3 x4 x5 h) ?_ ?_ m36 ⟨_, _, _, _, rfl, H⟩
      · rintro L' h ⟨_, _, _, _, _, H⟩; exact H
      · rintro q1 L' h ⟨x0, x3, x4, x5, rfl, H⟩
        unfold F.spatelaw6_TablePlays.l1 at H
        refine tr_seq ?_
        refine tr_seq ?_
        refine tr_region ?_
        refine tr_p (y_move rfl) rfl rfl ?_
        refine tr_p (y_move rfl) rfl rfl ?_
        refine tr_p (y_len (ts := #[]) Try.runUnderlying43 (o := x0.ptr) (n := x0.len) (cap := x0.cap) rfl) rfl rfl ?_
        refine tr_p (y_lss rfl rfl) rfl rfl ?_
        refine tr_nil ?_
        refine tr_thenN ?_
        refine tr_cond rfl (fun g9 => ?_) (fun g9 => ?_)
        · replace H := H.1 g9
          refine tr_skip ?_
          refine tr_thenN ?_
          refine tr_seq_j (fun L' h => ∃ (x0 : Sl) (x3 : Option Addr) (x4 : Option Addr) (x5 : Int), L' = [(0, x0.enc), (3, (.pointer x3)), (4, (.pointer x4)), (5, (.int .i64 x5))] ∧ F.spatelaw6_TablePlays.j2 Q (F.spatelaw6_TablePlays.l1 Q q1) x0 x3 x4 x5 h) ?_ ?_
          · rintro L' h ⟨x0, x3, x4, x5, rfl, H⟩
            unfold F.spatelaw6_TablePlays.j2 at H
            refine tr_region ?_
            refine tr_p (y_move rfl) rfl rfl ?_
            refine tr_p (y_add rfl rfl) rfl rfl ?_
            refine tr_p (y_assign rfl) rfl rfl ?_
            refine tr_nil ?_
            refine tr_thenN ?_
            exact tr_join [(0, x0.enc), (3, (.pointer x3)), (4, (.pointer x4)), (5, (.int .i64 (IntKind.wrap .i64 (x5 + 1))))] ⟨rfl, rfl, rfl, rfl, trivial⟩ ⟨_, _, _, _, rfl, H⟩
          · refine tr_block ?_
            refine tr_seq_j (fun L' h => ∃ (x0 : Sl) (x3 : Option Addr) (x4 : Option Addr) (x5 : Int), L' = [(0, x0.enc), (3, (.pointer x3)), (4, (.pointer x4)), (5, (.int .i64 x5))] ∧ F.spatelaw6_TablePlays.j3 Q (F.spatelaw6_TablePlays.l1 Q q1) x0 x3 x4 x5 h) ?_ ?_
            · rintro L' h ⟨x0, x3, x4, x5, rfl, H⟩
              unfold F.spatelaw6_TablePlays.j3 at H
              refine tr_seq ?_
              refine tr_region ?_
              refine tr_p (y_move rfl) rfl rfl ?_
              refine tr_p (y_move rfl) rfl rfl ?_
              refine tr_p (y_move rfl) rfl rfl ?_
              refine tr_p (y_move rfl) rfl rfl ?_
              obtain ⟨a10, e11, H⟩ := H
              refine tr_p (f_idx (s := x0) Try.runUnderlying43 Try.sizeOf46 rfl rfl e11) rfl rfl ?_
              obtain ⟨y12, k13, H⟩ := H
              refine tr_h (y_ldS Try.isAgg46 Try.sizeOf46 rfl rfl) k13 rfl rfl ?_
              refine tr_e (e_call Try.call41 rfl (F.spatelaw6_told_ok H)) rfl rfl ?_
              rintro _ h14 ⟨r15, rfl, H⟩
              refine tr_p (y_not rfl) rfl rfl ?_
              refine tr_nil ?_
              refine tr_thenN ?_
              refine tr_cond rfl (fun g16 => ?_) (fun g16 => ?_)
              · replace H := H.1 g16
                refine tr_seq ?_
                refine tr_region ?_
                refine tr_p (y_assign rfl) rfl rfl ?_
                refine tr_nil ?_
                refine tr_thenN ?_
                refine tr_ret ?_
                refine tr_blockR ?_
                refine tr_thenR ?_
                refine tr_thenR ?_
                refine tr_blockR ?_
                refine tr_thenR ?_
                exact tr_ret1 rfl rfl ⟨_, rfl, H⟩
              · replace H := H.2 g16
                refine tr_skip ?_
                refine tr_blockN ?_
                refine tr_thenN ?_
                exact tr_join [(0, x0.enc), (3, (.pointer x3)), (4, (.pointer x4)), (5, (.int .i64 x5))] ⟨rfl, rfl, rfl, rfl, trivial⟩ ⟨_, _, _, _, rfl, H⟩
            · refine tr_seq ?_
              refine tr_region ?_
              refine tr_p (y_move rfl) rfl rfl ?_
              refine tr_p (y_move rfl) rfl rfl ?_
              obtain ⟨a17, e18, H⟩ := H
              refine tr_p (f_idx (s := x0) Try.runUnderlying43 Try.sizeOf46 rfl rfl e18) rfl rfl ?_
              refine tr_p (y_fa (off := 0) Try.runUnderlying46 fo_46_0 rfl) rfl rfl ?_
              obtain ⟨y19, k20, H⟩ := H
              refine tr_h (y_ld Try.isAgg3 rfl) k20 rfl rfl ?_
              refine tr_p (y_eql rfl rfl) rfl rfl ?_
              refine tr_nil ?_
              refine tr_thenN ?_
              refine tr_cond rfl (fun g21 => ?_) (fun g21 => ?_)
              · replace H := H.1 g21
                refine tr_seq ?_
                refine tr_region ?_
                refine tr_p (y_move rfl) rfl rfl ?_
                refine tr_e (e_call Try.call28 rfl (F.table_Table_int_Twin_ok H)) rfl rfl ?_
                rintro _ h22 ⟨r23, rfl, H⟩
                refine tr_p (y_assign rfl) rfl rfl ?_
                refine tr_nil ?_
                refine tr_thenN ?_
                refine tr_seq ?_
                refine tr_region ?_
                refine tr_p (y_move rfl) rfl rfl ?_
                refine tr_p (y_pnil_eql Try.runUnderlying30 rfl rfl) rfl rfl ?_
                refine tr_nil ?_
                refine tr_thenN ?_
                refine tr_cond rfl (fun g24 => ?_) (fun g24 => ?_)
                · replace H := H.1 g24
                  refine tr_seq ?_
                  refine tr_region ?_
                  refine tr_p (y_assign rfl) rfl rfl ?_
                  refine tr_nil ?_
                  refine tr_thenN ?_
                  refine tr_ret ?_
                  refine tr_thenR ?_
                  refine tr_blockR ?_
                  refine tr_thenR ?_
                  refine tr_thenR ?_
                  refine tr_blockR ?_
                  refine tr_thenR ?_
                  exact tr_ret1 rfl rfl ⟨_, rfl, H⟩
                · replace H := H.2 g24
                  refine tr_skip ?_
                  refine tr_thenN ?_
                  exact tr_join [(0, x0.enc), (3, (.pointer r23)), (4, (.pointer x4)), (5, (.int .i64 x5))] ⟨rfl, rfl, rfl, rfl, trivial⟩ ⟨_, _, _, _, rfl, H⟩
              · replace H := H.2 g21
                refine tr_skip ?_
                refine tr_thenN ?_
                exact tr_join [(0, x0.enc), (3, (.pointer x3)), (4, (.pointer x4)), (5, (.int .i64 x5))] ⟨rfl, rfl, rfl, rfl, trivial⟩ ⟨_, _, _, _, rfl, H⟩
        · replace H := H.2 g9
          refine tr_exit ?_
          refine tr_thenE ?_
          refine tr_thenE ?_
          refine tr_hit ?_
          refine tr_thenN ?_
          refine tr_seq ?_
          refine tr_seq ?_
          refine tr_region ?_
          refine tr_p (y_assign rfl) rfl rfl ?_
          refine tr_nil ?_
          refine tr_thenN ?_
          refine tr_block ?_
          obtain ⟨m35, H⟩ := H
          refine tr_sub [(0, x0.enc), (3, (.pointer x3)), (4, (.pointer x4)), (6, (.int .i64 0))] ⟨rfl, rfl, rfl, rfl, trivial⟩ ?_
          refine tr_loop_j (fun m L' h => ∃ (x0 : Sl) (x3 : Option Addr) (x4 : Option Addr) (x6 : Int), L' = [(0, x0.enc), (3, (.pointer x3)), (4, (.pointer x4)), (6, (.int .i64 x6))] ∧ F.spatelaw6_TablePlays.l4 Q m x0 x3 x4 x6 h) ?_ ?_ m35 ⟨_, _, _, _, rfl, H⟩
          · rintro L' h ⟨_, _, _, _, _, H⟩; exact H
          · rintro q4 L' h ⟨x0, x3, x4, x6, rfl, H⟩
            unfold F.spatelaw6_TablePlays.l4 at H
            refine tr_seq ?_
            refine tr_seq ?_
            refine tr_region ?_
            refine tr_p (y_move rfl) rfl rfl ?_
            refine tr_p (y_move rfl) rfl rfl ?_
            refine tr_p (y_len (ts := #[]) Try.runUnderlying43 (o := x0.ptr) (n := x0.len) (cap := x0.cap) rfl) rfl rfl ?_
            refine tr_p (y_lss rfl rfl) rfl rfl ?_
            refine tr_nil ?_
            refine tr_thenN ?_
            refine tr_cond rfl (fun g25 => ?_) (fun g25 => ?_)
            · replace H := H.1 g25
              refine tr_skip ?_
              refine tr_thenN ?_
              refine tr_seq ?_
              refine tr_block ?_
              refine tr_seq ?_
              refine tr_region ?_
              refine tr_p (y_move rfl) rfl rfl ?_
              refine tr_p (y_move rfl) rfl rfl ?_
              refine tr_p (y_move rfl) rfl rfl ?_
              refine tr_p (y_move rfl) rfl rfl ?_
              obtain ⟨a26, e27, H⟩ := H
              refine tr_p (f_idx (s := x0) Try.runUnderlying43 Try.sizeOf46 rfl rfl e27) rfl rfl ?_
              refine tr_p (y_fa (off := 2) Try.runUnderlying46 fo_46_2 rfl) rfl rfl ?_
              obtain ⟨y28, k29, H⟩ := H
              refine tr_h (y_ld Try.isAgg9 rfl) k29 rfl rfl ?_
              refine tr_e (e_call Try.call42 rfl (F.spatelaw6_like_ok H)) rfl rfl ?_
              rintro _ h30 ⟨r31, rfl, H⟩
              refine tr_p (y_not rfl) rfl rfl ?_
              refine tr_nil ?_
              refine tr_thenN ?_
              refine tr_cond rfl (fun g32 => ?_) (fun g32 => ?_)
              · replace H := H.1 g32
                refine tr_seq ?_
                refine tr_region ?_
                refine tr_p (y_assign rfl) rfl rfl ?_
                refine tr_nil ?_
                refine tr_thenN ?_
                refine tr_ret ?_
                refine tr_blockR ?_
                refine tr_thenR ?_
                refine tr_thenR ?_
                refine tr_blockR ?_
                refine tr_thenR ?_
                exact tr_ret1 rfl rfl ⟨_, rfl, H⟩
              · replace H := H.2 g32
                refine tr_skip ?_
                refine tr_blockN ?_
                refine tr_thenN ?_
                refine tr_region ?_
                refine tr_p (y_move rfl) rfl rfl ?_
                refine tr_p (y_add rfl rfl) rfl rfl ?_
                refine tr_p (y_assign rfl) rfl rfl ?_
                refine tr_nil ?_
                refine tr_thenN ?_
                exact tr_join [(0, x0.enc), (3, (.pointer x3)), (4, (.pointer x4)), (6, (.int .i64 (IntKind.wrap .i64 (x6 + 1))))] ⟨rfl, rfl, rfl, rfl, trivial⟩ ⟨_, _, _, _, rfl, H⟩
            · replace H := H.2 g25
              refine tr_exit ?_
              refine tr_thenE ?_
              refine tr_thenE ?_
              refine tr_hit ?_
              refine tr_thenN ?_
              refine tr_seq ?_
              refine tr_region ?_
              refine tr_p (y_move rfl) rfl rfl ?_
              refine tr_p (y_move rfl) rfl rfl ?_
              refine tr_e (e_call Try.call43 rfl (F.spatelaw6_all_ok H)) rfl rfl ?_
              rintro _ h33 ⟨r34, rfl, H⟩
              refine tr_p (y_assign rfl) rfl rfl ?_
              refine tr_nil ?_
              refine tr_thenN ?_
              refine tr_ret ?_
              exact tr_ret1 rfl rfl ⟨_, rfl, H⟩

/-- spate/spatelaw6.do -/
def F.spatelaw6_do (p0 : Option Addr) (p1 : S_spatelaw6_Step) (h : H) (Q : H → Prop) : Prop :=
  new h p1.cells.toArray ty_46 fun a2 h1 =>
  ldI .i64 h1 (a2.add 0) fun y3 =>
  (((y3 == 1)) = true →
  ldS h1 (a2.add 2) fun y6 =>
  ldI .i64 h1 (a2.add 1) fun y8 =>
  F.table_Table_int_Put p0 y6 y8 h1 fun h10 =>
  Q h10) ∧
  (((y3 == 1)) = false →
  (((y3 == 3)) = true →
  ldS h1 (a2.add 2) fun y12 =>
  F.table_Table_int_Drop p0 y12 h1 fun r15 r16 h14 =>
  Q h14) ∧
  (((y3 == 3)) = false →
  (((y3 == 4)) = true →
  ldI .i64 h1 (a2.add 1) fun y18 =>
  F.table_Table_int_Move p0 y18 h1 fun r21 h20 =>
  Q h20) ∧
  (((y3 == 4)) = false →
  Q h1)))
theorem F.spatelaw6_do_ok {p0 : Option Addr} {p1 : S_spatelaw6_Step} {h : H} {Q : H → Prop} (H : F.spatelaw6_do p0 p1 h Q) : Fn PP 30 ([(.pointer p0), (.agg p1.cells.toArray)] : List Value).toArray h fun r h' => r = .tuple #[] ∧ Q  h' := by
  unfold F.spatelaw6_do at H
  refine fn_of Try.func30 Try.ntmps30 rfl rfl fun w0 => ?_
  refine tr_sub [(0, (.pointer p0)), (1, (.agg p1.cells.toArray))] ⟨rfl, rfl, trivial⟩ ?_
  refine tr_seq ?_
  refine tr_region ?_
  refine tr_e (f_box (cs := p1.cells.toArray) rfl rfl H) rfl rfl ?_
  rintro _ h1 ⟨a2, rfl, H⟩
  refine tr_nil ?_
  refine tr_thenN ?_
  refine tr_seq ?_
  refine tr_region ?_
  refine tr_p (y_fa (off := 0) Try.runUnderlying46 fo_46_0 rfl) rfl rfl ?_
  obtain ⟨y3, k4, H⟩ := H
  refine tr_h (y_ld Try.isAgg3 rfl) k4 rfl rfl ?_
  refine tr_nil ?_
  refine tr_thenN ?_
  refine tr_block ?_
  refine tr_seq ?_
  refine tr_region ?_
  refine tr_p (y_eql rfl rfl) rfl rfl ?_
  refine tr_p (y_assign rfl) rfl rfl ?_
  refine tr_nil ?_
  refine tr_thenN ?_
  refine tr_cond rfl (fun g5 => ?_) (fun g5 => ?_)
  · replace H := H.1 g5
    refine tr_region ?_
    refine tr_p (y_move rfl) rfl rfl ?_
    refine tr_p (y_fa (off := 2) Try.runUnderlying46 fo_46_2 rfl) rfl rfl ?_
    obtain ⟨y6, k7, H⟩ := H
    refine tr_h (y_ld Try.isAgg9 rfl) k7 rfl rfl ?_
    refine tr_p (y_fa (off := 1) Try.runUnderlying46 fo_46_1 rfl) rfl rfl ?_
    obtain ⟨y8, k9, H⟩ := H
    refine tr_h (y_ld Try.isAgg3 rfl) k9 rfl rfl ?_
    refine tr_e (e_call Try.call20 rfl (F.table_Table_int_Put_ok H)) rfl rfl ?_
    rintro _ h10 ⟨rfl, H⟩
    refine tr_nil ?_
    refine tr_blockN ?_
    exact tr_end0 rfl ⟨rfl, H⟩
  · replace H := H.2 g5
    refine tr_seq ?_
    refine tr_region ?_
    refine tr_p (y_eql rfl rfl) rfl rfl ?_
    refine tr_p (y_assign rfl) rfl rfl ?_
    refine tr_nil ?_
    refine tr_thenN ?_
    refine tr_cond rfl (fun g11 => ?_) (fun g11 => ?_)
    · replace H := H.1 g11
      refine tr_region ?_
      refine tr_p (y_move rfl) rfl rfl ?_
      refine tr_p (y_fa (off := 2) Try.runUnderlying46 fo_46_2 rfl) rfl rfl ?_
      obtain ⟨y12, k13, H⟩ := H
      refine tr_h (y_ld Try.isAgg9 rfl) k13 rfl rfl ?_
      refine tr_e (e_call Try.call22 rfl (F.table_Table_int_Drop_ok H)) rfl rfl ?_
      rintro _ h14 ⟨r15, r16, rfl, H⟩
      refine tr_nil ?_
      refine tr_blockN ?_
      exact tr_end0 rfl ⟨rfl, H⟩
    · replace H := H.2 g11
      refine tr_seq ?_
      refine tr_region ?_
      refine tr_p (y_eql rfl rfl) rfl rfl ?_
      refine tr_p (y_assign rfl) rfl rfl ?_
      refine tr_nil ?_
      refine tr_thenN ?_
      refine tr_cond rfl (fun g17 => ?_) (fun g17 => ?_)
      · replace H := H.1 g17
        refine tr_region ?_
        refine tr_p (y_move rfl) rfl rfl ?_
        refine tr_p (y_fa (off := 1) Try.runUnderlying46 fo_46_1 rfl) rfl rfl ?_
        obtain ⟨y18, k19, H⟩ := H
        refine tr_h (y_ld Try.isAgg3 rfl) k19 rfl rfl ?_
        refine tr_e (e_call Try.call26 rfl (F.table_Table_int_Move_ok H)) rfl rfl ?_
        rintro _ h20 ⟨r21, rfl, H⟩
        refine tr_nil ?_
        refine tr_blockN ?_
        exact tr_end0 rfl ⟨rfl, H⟩
      · replace H := H.2 g17
        refine tr_skip ?_
        refine tr_blockN ?_
        exact tr_end0 rfl ⟨rfl, H⟩

def F.spatelaw6_alike.j2 (Q : Bool → H → Prop) (K1 : H → Prop) (J1 : Nat → H → Prop) (l1 : Nat) (x4 : Addr) (x74 : Bool) (h : H) : Prop :=
  (x74 = true →
  stH h x4 [(.bool false)] fun h30 =>
  J1 0 h30) ∧
  (x74 = false →
  K1 h)
def F.spatelaw6_alike.j1 (Q : Bool → H → Prop) (ds : List Nat) (x2 : Addr) (x3 : Addr) (x4 : Addr) (h : H) : Prop :=
  ldP h x2 fun y7 =>
  F.table_Table_int_All y7 h fun r10 h9 =>
  rng PP r10 h9 [Code.ret] (fun bg1 l1 args h K1 J1 => ∃ (y1_36 : ByteArray), ∃ (y1_37 : Int), args = [(.string y1_36), (.int .i64 y1_37)] ∧
    bg1 h fun h11 =>
    ldP h11 x3 fun y12 =>
    F.table_Table_int_Get y12 y1_36 h11 fun r15 r16 h14 =>
    ldP h14 x2 fun y17 =>
    F.table_Table_int_Place y17 y1_36 h14 fun r20 r21 r22 h19 =>
    ldP h19 x3 fun y23 =>
    F.table_Table_int_Place y23 y1_36 h19 fun r26 r27 r28 h25 =>
    ((!r16) = true →
    F.spatelaw6_alike.j2 Q K1 J1 l1 x4 true h25) ∧
    ((!r16) = false →
    (((y1_37 != r15)) = true →
    F.spatelaw6_alike.j2 Q K1 J1 l1 x4 true h25) ∧
    (((y1_37 != r15)) = false →
    (((r20 != r26)) = true →
    F.spatelaw6_alike.j2 Q K1 J1 l1 x4 true h25) ∧
    (((r20 != r26)) = false →
    F.spatelaw6_alike.j2 Q K1 J1 l1 x4 (!(r21 == r27)) h25)))) (fun h34 =>
    stH h34 x4 [(.bool true)] fun h35 =>
    shuts (h9.size :: ds) h35 fun h36 =>
    ldB h36 x4 fun y37 =>
    Q y37 h36) (fun jj h39 =>
    (jj = 0 →
      shuts (h9.size :: ds) h39 fun h40 =>
      ldB h40 x4 fun y41 =>
      Q y41 h40))
def F.spatelaw6_alike.j3 (Q : Bool → H → Prop) (ds : List Nat) (x2 : Addr) (x3 : Addr) (x4 : Addr) (x33 : Bool) (h : H) : Prop :=
  (x33 = true →
  stH h x4 [(.bool false)] fun h44 =>
  shuts ds h44 fun h45 =>
  ldB h45 x4 fun y46 =>
  Q y46 h45) ∧
  (x33 = false →
  F.spatelaw6_alike.j1 Q ds x2 x3 x4 h)
/-- spate/spatelaw6.alike -/
def F.spatelaw6_alike (p0 : Option Addr) (p1 : Option Addr) (h : H) (Q : Bool → H → Prop) : Prop :=
  new h #[(.pointer p0)] ty_30 fun a2 h1 =>
  new h1 #[(.pointer p1)] ty_30 fun a4 h3 =>
  new h3 #[(.bool false)] ty_4 fun a6 h5 =>
  ldP h5 a2 fun y48 =>
  ldP h5 a4 fun y50 =>
  F.table_Table_int_Len y48 h5 fun r53 h52 =>
  cellH h52 a4 = some (.pointer y50) ∧
  F.table_Table_int_Len y50 h52 fun r56 h55 =>
  (((r53 != r56)) = true →
  F.spatelaw6_alike.j3 Q ([] : List Nat) a2 a4 a6 true h55) ∧
  (((r53 != r56)) = false →
  ldP h55 a2 fun y58 =>
  ldP h55 a4 fun y60 =>
  F.table_Table_int_Slots y58 h55 fun r63 h62 =>
  cellH h62 a4 = some (.pointer y60) ∧
  F.table_Table_int_Slots y60 h62 fun r66 h65 =>
  (((r63 != r66)) = true →
  F.spatelaw6_alike.j3 Q ([] : List Nat) a2 a4 a6 true h65) ∧
  (((r63 != r66)) = false →
  ldP h65 a2 fun y68 =>
  ldP h65 a4 fun y70 =>
  F.table_Table_int_Left y68 h65 fun r73 h72 =>
  cellH h72 a4 = some (.pointer y70) ∧
  F.table_Table_int_Left y70 h72 fun r76 h75 =>
  F.spatelaw6_alike.j3 Q ([] : List Nat) a2 a4 a6 ((r73 != r76)) h75))
theorem F.spatelaw6_alike_ok {p0 : Option Addr} {p1 : Option Addr} {h : H} {Q : Bool → H → Prop} (H : F.spatelaw6_alike p0 p1 h Q) : Fn PP 44 ([(.pointer p0), (.pointer p1)] : List Value).toArray h fun r h' => ∃ r0, r = (.bool r0) ∧ Q r0 h' := by
  unfold F.spatelaw6_alike at H
  refine fn_ofM Try.func44 Try.ntmps44 rfl rfl fun w0 => ?_
  refine tr_sub [(0, (.pointer p0)), (1, (.pointer p1))] ⟨rfl, rfl, trivial⟩ ?_
  refine tr_seq ?_
  refine tr_region ?_
  refine tr_e (f_box (cs := #[(.pointer p0)]) rfl rfl H) rfl rfl ?_
  rintro _ h1 ⟨a2, rfl, H⟩
  refine tr_e (f_box (cs := #[(.pointer p1)]) rfl rfl H) rfl rfl ?_
  rintro _ h3 ⟨a4, rfl, H⟩
  refine tr_e (f_alloc (cs := #[(.bool false)]) Try.zeroValue4 rfl H) rfl rfl ?_
  rintro _ h5 ⟨a6, rfl, H⟩
  refine tr_nil ?_
  refine tr_thenN ?_
  refine tr_seq_jD (fun ds L' h => ∃ (x2 : Addr) (x3 : Addr) (x4 : Addr), L' = [(2, (.pointer (some x2))), (3, (.pointer (some x3))), (4, (.pointer (some x4)))] ∧ F.spatelaw6_alike.j1 Q ds x2 x3 x4 h) ?_ ?_
  · rintro ds L' h ⟨x2, x3, x4, rfl, H⟩
    unfold F.spatelaw6_alike.j1 at H
    refine tr_seq ?_
    refine tr_seq ?_
    refine tr_region ?_
    obtain ⟨y7, k8, H⟩ := H
    refine tr_h (y_ld Try.isAgg30 rfl) k8 rfl rfl ?_
    refine tr_e (e_call Try.call29 rfl (F.table_Table_int_All_ok H)) rfl rfl ?_
    rintro r10 h9 ⟨_, rfl, H⟩
    refine tr_nil ?_
    refine tr_thenN ?_
    refine tr_block ?_
    refine tr_range rfl (by kernel_rfl) H ?_ ?_ ?_
    · intro bg1 l1 args h K1 J1 w1 hbg1 H
      obtain ⟨y1_36, y1_37, rfl, H⟩ := H
      refine ⟨rfl, ?_⟩
      refine tr_sub [(2, (.pointer (some x2))), (3, (.pointer (some x3))), (4, (.pointer (some x4))), (34, (.pointer y7)), (35, r10), (36, (.string y1_36)), (37, (.int .i64 y1_37))] ⟨rfl, rfl, rfl, rfl, rfl, rfl, rfl, trivial⟩ ?_
      refine tr_seq ?_
      refine tr_region ?_
      refine tr_p (y_assign rfl) rfl rfl ?_
      refine tr_nil ?_
      refine tr_thenN ?_
      refine tr_region ?_
      refine tr_p (y_assign rfl) rfl rfl ?_
      refine tr_nil ?_
      refine tr_thenN ?_
      refine tr_bgn hbg1 H fun h11 H => ?_
      refine tr_block ?_
      refine tr_seq ?_
      refine tr_region ?_
      obtain ⟨y12, k13, H⟩ := H
      refine tr_h (y_ld Try.isAgg30 rfl) k13 rfl rfl ?_
      refine tr_p (y_move rfl) rfl rfl ?_
      refine tr_e (e_call Try.call25 rfl (F.table_Table_int_Get_ok H)) rfl rfl ?_
      rintro _ h14 ⟨r15, r16, rfl, H⟩
      refine tr_p (y_move rfl) rfl rfl ?_
      refine tr_p (y_ext rfl rfl) rfl rfl ?_
      refine tr_p (y_ext rfl rfl) rfl rfl ?_
      refine tr_p (y_assign rfl) rfl rfl ?_
      refine tr_p (y_assign rfl) rfl rfl ?_
      refine tr_nil ?_
      refine tr_thenN ?_
      refine tr_seq ?_
      refine tr_region ?_
      obtain ⟨y17, k18, H⟩ := H
      refine tr_h (y_ld Try.isAgg30 rfl) k18 rfl rfl ?_
      refine tr_p (y_move rfl) rfl rfl ?_
      refine tr_e (e_call Try.call63 rfl (F.table_Table_int_Place_ok H)) rfl rfl ?_
      rintro _ h19 ⟨r20, r21, r22, rfl, H⟩
      refine tr_p (y_move rfl) rfl rfl ?_
      refine tr_p (y_ext rfl rfl) rfl rfl ?_
      refine tr_p (y_ext rfl rfl) rfl rfl ?_
      refine tr_p (y_ext rfl rfl) rfl rfl ?_
      refine tr_p (y_assign rfl) rfl rfl ?_
      refine tr_p (y_assign rfl) rfl rfl ?_
      refine tr_p (y_assign rfl) rfl rfl ?_
      refine tr_nil ?_
      refine tr_thenN ?_
      refine tr_seq ?_
      refine tr_region ?_
      obtain ⟨y23, k24, H⟩ := H
      refine tr_h (y_ld Try.isAgg30 rfl) k24 rfl rfl ?_
      refine tr_p (y_move rfl) rfl rfl ?_
      refine tr_e (e_call Try.call63 rfl (F.table_Table_int_Place_ok H)) rfl rfl ?_
      rintro _ h25 ⟨r26, r27, r28, rfl, H⟩
      refine tr_p (y_move rfl) rfl rfl ?_
      refine tr_p (y_ext rfl rfl) rfl rfl ?_
      refine tr_p (y_ext rfl rfl) rfl rfl ?_
      refine tr_p (y_ext rfl rfl) rfl rfl ?_
      refine tr_p (y_assign rfl) rfl rfl ?_
      refine tr_p (y_assign rfl) rfl rfl ?_
      refine tr_p (y_assign rfl) rfl rfl ?_
      refine tr_nil ?_
      refine tr_thenN ?_
      refine tr_seq_j (fun L' h => ∃ (x4 : Addr) (x74 : Bool), L' = [(4, (.pointer (some x4))), (74, (.bool x74))] ∧ F.spatelaw6_alike.j2 Q K1 J1 l1 x4 x74 h) ?_ ?_
      · rintro L' h ⟨x4, x74, rfl, H⟩
        unfold F.spatelaw6_alike.j2 at H
        refine tr_cond rfl (fun g29 => ?_) (fun g29 => ?_)
        · replace H := H.1 g29
          refine tr_seq ?_
          refine tr_region ?_
          refine tr_e (f_store (vs := [(.bool false)]) Try.sizeOf4 rfl rfl rfl rfl (one1 rfl) H) rfl rfl ?_
          rintro _ h30 ⟨rfl, H⟩
          refine tr_nil ?_
          refine tr_thenN ?_
          refine tr_ret ?_
          refine tr_blockR ?_
          exact tr_rR 0 rfl H
        · replace H := H.2 g29
          refine tr_skip ?_
          refine tr_blockN ?_
          exact tr_rN H
      · refine tr_region ?_
        refine tr_p (y_move rfl) rfl rfl ?_
        refine tr_p (y_not rfl) rfl rfl ?_
        refine tr_p (y_move rfl) rfl rfl ?_
        refine tr_split (t := 60) rfl (fun g31 => ?_) (fun g31 => ?_)
        · replace H := H.1 g31
          refine tr_s rfl rfl ?_
          refine tr_s rfl rfl ?_
          refine tr_s rfl rfl ?_
          refine tr_p (y_pick_t rfl rfl) rfl rfl ?_
          refine tr_p (y_move rfl) rfl rfl ?_
          refine tr_s rfl rfl ?_
          refine tr_s rfl rfl ?_
          refine tr_s rfl rfl ?_
          refine tr_p (y_pick_t rfl rfl) rfl rfl ?_
          refine tr_p (y_move rfl) rfl rfl ?_
          refine tr_s rfl rfl ?_
          refine tr_s rfl rfl ?_
          refine tr_s rfl rfl ?_
          refine tr_p (y_pick_t rfl rfl) rfl rfl ?_
          refine tr_nil ?_
          refine tr_thenN ?_
          exact tr_join [(4, (.pointer (some x4))), (74, (.bool true))] ⟨rfl, rfl, trivial⟩ ⟨_, _, rfl, H⟩
        · replace H := H.2 g31
          refine tr_p (y_move rfl) rfl rfl ?_
          refine tr_p (y_move rfl) rfl rfl ?_
          refine tr_p (y_neq rfl rfl) rfl rfl ?_
          refine tr_p (y_pick_f rfl rfl) rfl rfl ?_
          refine tr_p (y_move rfl) rfl rfl ?_
          refine tr_split (t := 65) rfl (fun g32 => ?_) (fun g32 => ?_)
          · replace H := H.1 g32
            refine tr_s rfl rfl ?_
            refine tr_s rfl rfl ?_
            refine tr_s rfl rfl ?_
            refine tr_p (y_pick_t rfl rfl) rfl rfl ?_
            refine tr_p (y_move rfl) rfl rfl ?_
            refine tr_s rfl rfl ?_
            refine tr_s rfl rfl ?_
            refine tr_s rfl rfl ?_
            refine tr_p (y_pick_t rfl rfl) rfl rfl ?_
            refine tr_nil ?_
            refine tr_thenN ?_
            exact tr_join [(4, (.pointer (some x4))), (74, (.bool true))] ⟨rfl, rfl, trivial⟩ ⟨_, _, rfl, H⟩
          · replace H := H.2 g32
            refine tr_p (y_move rfl) rfl rfl ?_
            refine tr_p (y_move rfl) rfl rfl ?_
            refine tr_p (y_neq rfl rfl) rfl rfl ?_
            refine tr_p (y_pick_f rfl rfl) rfl rfl ?_
            refine tr_p (y_move rfl) rfl rfl ?_
            refine tr_split (t := 70) rfl (fun g33 => ?_) (fun g33 => ?_)
            · replace H := H.1 g33
              refine tr_s rfl rfl ?_
              refine tr_s rfl rfl ?_
              refine tr_s rfl rfl ?_
              refine tr_p (y_pick_t rfl rfl) rfl rfl ?_
              refine tr_nil ?_
              refine tr_thenN ?_
              exact tr_join [(4, (.pointer (some x4))), (74, (.bool true))] ⟨rfl, rfl, trivial⟩ ⟨_, _, rfl, H⟩
            · replace H := H.2 g33
              refine tr_p (y_move rfl) rfl rfl ?_
              refine tr_p (y_move rfl) rfl rfl ?_
              refine tr_p (y_bneq Try.underlying4 rfl rfl) rfl rfl ?_
              refine tr_p (y_pick_f rfl rfl) rfl rfl ?_
              refine tr_nil ?_
              refine tr_thenN ?_
              exact tr_join [(4, (.pointer (some x4))), (74, (.bool (!(r21 == r27))))] ⟨rfl, rfl, trivial⟩ ⟨_, _, rfl, H⟩
    · intro h34 H
      refine tr_blockN ?_
      refine tr_thenN ?_
      refine tr_seq ?_
      refine tr_region ?_
      refine tr_e (f_store (vs := [(.bool true)]) Try.sizeOf4 rfl rfl rfl rfl (one1 rfl) H) rfl rfl ?_
      rintro _ h35 ⟨rfl, H⟩
      refine tr_nil ?_
      refine tr_thenN ?_
      refine tr_ret ?_
      refine tr_shut (h9.size :: ds) rfl H fun h36 H => ?_
      obtain ⟨y37, k38, H⟩ := H
      exact tr_rv1 rfl (rv_cell Try.isAgg4 rfl k38) ⟨_, rfl, H⟩
    · intro jj c h39 hjc H
      rcases jj with _ | jj
      · obtain rfl : Code.ret = c := by simpa using hjc
        replace H := H rfl
        refine tr_ret ?_
        refine tr_blockR ?_
        refine tr_thenR ?_
        refine tr_shut (h9.size :: ds) rfl H fun h40 H => ?_
        obtain ⟨y41, k42, H⟩ := H
        exact tr_rv1 rfl (rv_cell Try.isAgg4 rfl k42) ⟨_, rfl, H⟩
      · simp at hjc
  · refine tr_seq_jD (fun ds L' h => ∃ (x2 : Addr) (x3 : Addr) (x4 : Addr) (x33 : Bool), L' = [(2, (.pointer (some x2))), (3, (.pointer (some x3))), (4, (.pointer (some x4))), (33, (.bool x33))] ∧ F.spatelaw6_alike.j3 Q ds x2 x3 x4 x33 h) ?_ ?_
    · rintro ds L' h ⟨x2, x3, x4, x33, rfl, H⟩
      unfold F.spatelaw6_alike.j3 at H
      refine tr_cond rfl (fun g43 => ?_) (fun g43 => ?_)
      · replace H := H.1 g43
        refine tr_seq ?_
        refine tr_region ?_
        refine tr_e (f_store (vs := [(.bool false)]) Try.sizeOf4 rfl rfl rfl rfl (one1 rfl) H) rfl rfl ?_
        rintro _ h44 ⟨rfl, H⟩
        refine tr_nil ?_
        refine tr_thenN ?_
        refine tr_ret ?_
        refine tr_thenR ?_
        refine tr_shut ds rfl H fun h45 H => ?_
        obtain ⟨y46, k47, H⟩ := H
        exact tr_rv1 rfl (rv_cell Try.isAgg4 rfl k47) ⟨_, rfl, H⟩
      · replace H := H.2 g43
        refine tr_skip ?_
        refine tr_thenN ?_
        exact tr_joinD ds [(2, (.pointer (some x2))), (3, (.pointer (some x3))), (4, (.pointer (some x4)))] rfl ⟨rfl, rfl, rfl, trivial⟩ ⟨_, _, _, rfl, H⟩
    · refine tr_draw mixed [0, 1, 0, 7, 15, 31, 63, 127, 63, 511, 1023, 2047, 4095, 8191, 16383, 8191, 65535, 131071, 262143] (by kernel_rfl) ?_
      obtain ⟨y48, k49, H⟩ := H
      refine g_h 0 1 rfl (by kernel_rfl) (y_ld Try.isAgg30 rfl) k49 rfl rfl ?_
      obtain ⟨y50, k51, H⟩ := H
      refine g_h 2 5 rfl (by kernel_rfl) (y_ld Try.isAgg30 rfl) k51 rfl rfl ?_
      refine g_e 1 7 [(2, fun h => cellH h a4 = some (.pointer y50))] (by kernel_rfl) rfl (by kernel_rfl) (e_call Try.call23 rfl (F.table_Table_int_Len_ok H)) rfl rfl ?_
      rintro _ h52 ⟨r53, rfl, H⟩
      obtain ⟨k54, H⟩ := H
      refine ⟨And.intro k54 trivial, ?_⟩
      refine g_e 3 15 [] (by kernel_rfl) rfl (by kernel_rfl) (e_call Try.call23 rfl (F.table_Table_int_Len_ok H)) rfl rfl ?_
      rintro _ h55 ⟨r56, rfl, H⟩
      refine ⟨trivial, ?_⟩
      refine g_p 4 31 rfl (by kernel_rfl) (y_neq rfl rfl) rfl rfl ?_
      refine g_p 5 63 rfl (by kernel_rfl) (y_move rfl) rfl rfl ?_
      refine g_split (t := 20) rfl (fun g57 => ?_) (fun g57 => ?_)
      · replace H := H.1 g57
        refine g_s 6 127 rfl (by kernel_rfl) rfl rfl ?_
        refine g_s 7 255 rfl (by kernel_rfl) rfl rfl ?_
        refine g_s 8 511 rfl (by kernel_rfl) rfl rfl ?_
        refine g_s 9 1023 rfl (by kernel_rfl) rfl rfl ?_
        refine g_s 10 2047 rfl (by kernel_rfl) rfl rfl ?_
        refine g_p 11 4095 rfl (by kernel_rfl) (y_pick_t rfl rfl) rfl rfl ?_
        refine g_p 12 8191 rfl (by kernel_rfl) (y_move rfl) rfl rfl ?_
        refine g_s 13 16383 rfl (by kernel_rfl) rfl rfl ?_
        refine g_s 14 32767 rfl (by kernel_rfl) rfl rfl ?_
        refine g_s 15 65535 rfl (by kernel_rfl) rfl rfl ?_
        refine g_s 16 131071 rfl (by kernel_rfl) rfl rfl ?_
        refine g_s 17 262143 rfl (by kernel_rfl) rfl rfl ?_
        refine g_p 18 524287 rfl (by kernel_rfl) (y_pick_t rfl rfl) rfl rfl ?_
        refine g_d (by kernel_rfl) ?_
        refine tr_thenN ?_
        exact tr_joinD ([] : List Nat) [(2, (.pointer (some a2))), (3, (.pointer (some a4))), (4, (.pointer (some a6))), (33, (.bool true))] rfl ⟨rfl, rfl, rfl, rfl, trivial⟩ ⟨_, _, _, _, rfl, H⟩
      · replace H := H.2 g57
        obtain ⟨y58, k59, H⟩ := H
        refine g_h 6 127 rfl (by kernel_rfl) (y_ld Try.isAgg30 rfl) k59 rfl rfl ?_
        obtain ⟨y60, k61, H⟩ := H
        refine g_h 8 383 rfl (by kernel_rfl) (y_ld Try.isAgg30 rfl) k61 rfl rfl ?_
        refine g_e 7 511 [(8, fun h => cellH h a4 = some (.pointer y60))] (by kernel_rfl) rfl (by kernel_rfl) (e_call Try.call24 rfl (F.table_Table_int_Slots_ok H)) rfl rfl ?_
        rintro _ h62 ⟨r63, rfl, H⟩
        obtain ⟨k64, H⟩ := H
        refine ⟨And.intro k64 trivial, ?_⟩
        refine g_e 9 1023 [] (by kernel_rfl) rfl (by kernel_rfl) (e_call Try.call24 rfl (F.table_Table_int_Slots_ok H)) rfl rfl ?_
        rintro _ h65 ⟨r66, rfl, H⟩
        refine ⟨trivial, ?_⟩
        refine g_p 10 2047 rfl (by kernel_rfl) (y_neq rfl rfl) rfl rfl ?_
        refine g_p 11 4095 rfl (by kernel_rfl) (y_pick_f rfl rfl) rfl rfl ?_
        refine g_p 12 8191 rfl (by kernel_rfl) (y_move rfl) rfl rfl ?_
        refine g_split (t := 27) rfl (fun g67 => ?_) (fun g67 => ?_)
        · replace H := H.1 g67
          refine g_s 13 16383 rfl (by kernel_rfl) rfl rfl ?_
          refine g_s 14 32767 rfl (by kernel_rfl) rfl rfl ?_
          refine g_s 15 65535 rfl (by kernel_rfl) rfl rfl ?_
          refine g_s 16 131071 rfl (by kernel_rfl) rfl rfl ?_
          refine g_s 17 262143 rfl (by kernel_rfl) rfl rfl ?_
          refine g_p 18 524287 rfl (by kernel_rfl) (y_pick_t rfl rfl) rfl rfl ?_
          refine g_d (by kernel_rfl) ?_
          refine tr_thenN ?_
          exact tr_joinD ([] : List Nat) [(2, (.pointer (some a2))), (3, (.pointer (some a4))), (4, (.pointer (some a6))), (33, (.bool true))] rfl ⟨rfl, rfl, rfl, rfl, trivial⟩ ⟨_, _, _, _, rfl, H⟩
        · replace H := H.2 g67
          obtain ⟨y68, k69, H⟩ := H
          refine g_h 13 16383 rfl (by kernel_rfl) (y_ld Try.isAgg30 rfl) k69 rfl rfl ?_
          obtain ⟨y70, k71, H⟩ := H
          refine g_h 15 49151 rfl (by kernel_rfl) (y_ld Try.isAgg30 rfl) k71 rfl rfl ?_
          refine g_e 14 65535 [(15, fun h => cellH h a4 = some (.pointer y70))] (by kernel_rfl) rfl (by kernel_rfl) (e_call Try.call27 rfl (F.table_Table_int_Left_ok H)) rfl rfl ?_
          rintro _ h72 ⟨r73, rfl, H⟩
          obtain ⟨k74, H⟩ := H
          refine ⟨And.intro k74 trivial, ?_⟩
          refine g_e 16 131071 [] (by kernel_rfl) rfl (by kernel_rfl) (e_call Try.call27 rfl (F.table_Table_int_Left_ok H)) rfl rfl ?_
          rintro _ h75 ⟨r76, rfl, H⟩
          refine ⟨trivial, ?_⟩
          refine g_p 17 262143 rfl (by kernel_rfl) (y_neq rfl rfl) rfl rfl ?_
          refine g_p 18 524287 rfl (by kernel_rfl) (y_pick_f rfl rfl) rfl rfl ?_
          refine g_d (by kernel_rfl) ?_
          refine tr_thenN ?_
          exact tr_joinD ([] : List Nat) [(2, (.pointer (some a2))), (3, (.pointer (some a4))), (4, (.pointer (some a6))), (33, (.bool ((r73 != r76))))] rfl ⟨rfl, rfl, rfl, rfl, trivial⟩ ⟨_, _, _, _, rfl, H⟩

def F.spatelaw6_TableTwins.j6 (Q : Bool → H → Prop) (C1 : Sl → Sl → (Option Addr) → (Option Addr) → (Option Addr) → (Option Addr) → Int → H → Prop) (x1 : Sl) (x2 : Sl) (x7 : Option Addr) (x9 : Option Addr) (x10 : Option Addr) (x11 : Option Addr) (x12 : Int) (h : H) : Prop :=
  C1 x1 x2 x7 x9 x10 x11 (IntKind.wrap .i64 (x12 + 1)) h
def F.spatelaw6_TableTwins.j7 (Q : Bool → H → Prop) (C1 : Sl → Sl → (Option Addr) → (Option Addr) → (Option Addr) → (Option Addr) → Int → H → Prop) (x1 : Sl) (x2 : Sl) (x7 : Option Addr) (x9 : Option Addr) (x10 : Option Addr) (x11 : Option Addr) (x12 : Int) (h : H) : Prop :=
  ((decide (x12 < (x2.len : Int))) = true →
  idxA x2 x12 3 fun a19 =>
  ld_S_spatelaw6_Step h a19 fun y21 =>
  F.spatelaw6_do x10 y21 h fun h23 =>
  F.spatelaw6_TableTwins.j6 Q C1 x1 x2 x7 x9 x10 x11 x12 h23) ∧
  ((decide (x12 < (x2.len : Int))) = false →
  F.spatelaw6_TableTwins.j6 Q C1 x1 x2 x7 x9 x10 x11 x12 h)
def F.spatelaw6_TableTwins.j5 (Q : Bool → H → Prop) (C1 : Sl → Sl → (Option Addr) → (Option Addr) → (Option Addr) → (Option Addr) → Int → H → Prop) (x1 : Sl) (x2 : Sl) (x7 : Option Addr) (x9 : Option Addr) (x10 : Option Addr) (x11 : Option Addr) (x12 : Int) (h : H) : Prop :=
  ((decide (x12 < (x1.len : Int))) = true →
  idxA x1 x12 3 fun a25 =>
  ld_S_spatelaw6_Step h a25 fun y27 =>
  F.spatelaw6_do x9 y27 h fun h29 =>
  F.spatelaw6_TableTwins.j7 Q C1 x1 x2 x7 x9 x10 x11 x12 h29) ∧
  ((decide (x12 < (x1.len : Int))) = false →
  F.spatelaw6_TableTwins.j7 Q C1 x1 x2 x7 x9 x10 x11 x12 h)
def F.spatelaw6_TableTwins.l10 (Q : Bool → H → Prop) : Nat → Sl → (Option Addr) → (Option Addr) → (Option Addr) → (Option Addr) → Int → H → Prop
  | 0, _, _, _, _, _, _, _ => False
  | q10 + 1, x2, x7, x9, x10, x11, x14, h =>
    ((decide (x14 < (x2.len : Int))) = true →
    idxA x2 x14 3 fun a41 =>
    ld_S_spatelaw6_Step h a41 fun y43 =>
    F.spatelaw6_do x11 y43 h fun h45 =>
    (F.spatelaw6_TableTwins.l10 Q q10) x2 x7 x9 x10 x11 (IntKind.wrap .i64 (x14 + 1)) h45) ∧
    ((decide (x14 < (x2.len : Int))) = false →
    F.spatelaw6_alike x7 x9 h fun r47 h46 =>
    (r47 = true →
    F.spatelaw6_alike x11 x10 h46 fun r50 h49 =>
    Q r50 h49) ∧
    (r47 = false →
    Q false h46))
def F.spatelaw6_TableTwins.l9 (Q : Bool → H → Prop) : Nat → Sl → Sl → (Option Addr) → (Option Addr) → (Option Addr) → (Option Addr) → Int → H → Prop
  | 0, _, _, _, _, _, _, _, _ => False
  | q9 + 1, x1, x2, x7, x9, x10, x11, x13, h =>
    ((decide (x13 < (x1.len : Int))) = true →
    idxA x1 x13 3 fun a35 =>
    ld_S_spatelaw6_Step h a35 fun y37 =>
    F.spatelaw6_do x7 y37 h fun h39 =>
    (F.spatelaw6_TableTwins.l9 Q q9) x1 x2 x7 x9 x10 x11 (IntKind.wrap .i64 (x13 + 1)) h39) ∧
    ((decide (x13 < (x1.len : Int))) = false →
    ∃ m, F.spatelaw6_TableTwins.l10 Q m x2 x7 x9 x10 x11 0 h)
def F.spatelaw6_TableTwins.j8 (Q : Bool → H → Prop) (C1 : Sl → Sl → (Option Addr) → (Option Addr) → (Option Addr) → (Option Addr) → Int → H → Prop) (x1 : Sl) (x2 : Sl) (x7 : Option Addr) (x9 : Option Addr) (x10 : Option Addr) (x11 : Option Addr) (x12 : Int) (x68 : Bool) (h : H) : Prop :=
  (x68 = true →
  F.spatelaw6_TableTwins.j5 Q C1 x1 x2 x7 x9 x10 x11 x12 h) ∧
  (x68 = false →
  F.spatelaw6_alike x7 x11 h fun r32 h31 =>
  ((!r32) = true →
  Q false h31) ∧
  ((!r32) = false →
  ∃ m, F.spatelaw6_TableTwins.l9 Q m x1 x2 x7 x9 x10 x11 0 h31))
def F.spatelaw6_TableTwins.l4 (Q : Bool → H → Prop) : Nat → Sl → Sl → (Option Addr) → (Option Addr) → (Option Addr) → (Option Addr) → Int → H → Prop
  | 0, _, _, _, _, _, _, _, _ => False
  | q4 + 1, x1, x2, x7, x9, x10, x11, x12, h =>
    ((decide (x12 < (x1.len : Int))) = true →
    F.spatelaw6_TableTwins.j8 Q (F.spatelaw6_TableTwins.l4 Q q4) x1 x2 x7 x9 x10 x11 x12 true h) ∧
    ((decide (x12 < (x1.len : Int))) = false →
    F.spatelaw6_TableTwins.j8 Q (F.spatelaw6_TableTwins.l4 Q q4) x1 x2 x7 x9 x10 x11 x12 (decide (x12 < (x2.len : Int))) h)
def F.spatelaw6_TableTwins.j3 (Q : Bool → H → Prop) (x1 : Sl) (x2 : Sl) (x7 : Option Addr) (x9 : Option Addr) (x10 : Option Addr) (x11 : Option Addr) (h : H) : Prop :=
  ∃ m, F.spatelaw6_TableTwins.l4 Q m x1 x2 x7 x9 x10 x11 0 h
def F.spatelaw6_TableTwins.j11 (Q : Bool → H → Prop) (x1 : Sl) (x2 : Sl) (x7 : Option Addr) (x9 : Option Addr) (x10 : Option Addr) (x11 : Option Addr) (x58 : Bool) (h : H) : Prop :=
  (x58 = true →
  Q false h) ∧
  (x58 = false →
  F.spatelaw6_TableTwins.j3 Q x1 x2 x7 x9 x10 x11 h)
def F.spatelaw6_TableTwins.l2 (Q : Bool → H → Prop) : Nat → Sl → Sl → Sl → (Option Addr) → Int → H → Prop
  | 0, _, _, _, _, _, _ => False
  | q2 + 1, x0, x1, x2, x7, x8, h =>
    ((decide (x8 < (x0.len : Int))) = true →
    idxA x0 x8 3 fun a7 =>
    ld_S_spatelaw6_Step h a7 fun y9 =>
    F.spatelaw6_do x7 y9 h fun h11 =>
    (F.spatelaw6_TableTwins.l2 Q q2) x0 x1 x2 x7 (IntKind.wrap .i64 (x8 + 1)) h11) ∧
    ((decide (x8 < (x0.len : Int))) = false →
    F.table_Table_int_Twin x7 h fun r13 h12 =>
    F.table_Table_int_Twin x7 h12 fun r15 h14 =>
    F.table_Table_int_Twin x7 h14 fun r17 h16 =>
    (r13.isNone = true →
    F.spatelaw6_TableTwins.j11 Q x1 x2 x7 r13 r15 r17 true h16) ∧
    (r13.isNone = false →
    (r15.isNone = true →
    F.spatelaw6_TableTwins.j11 Q x1 x2 x7 r13 r15 r17 true h16) ∧
    (r15.isNone = false →
    F.spatelaw6_TableTwins.j11 Q x1 x2 x7 r13 r15 r17 r17.isNone h16)))
def F.spatelaw6_TableTwins.j1 (Q : Bool → H → Prop) (x0 : Sl) (x1 : Sl) (x2 : Sl) (h : H) : Prop :=
  F.table_New_int  h fun r5 h4 =>
  ∃ m, F.spatelaw6_TableTwins.l2 Q m x0 x1 x2 r5 0 h4
def F.spatelaw6_TableTwins.j12 (Q : Bool → H → Prop) (x0 : Sl) (x1 : Sl) (x2 : Sl) (x29 : Bool) (h : H) : Prop :=
  (x29 = true →
  Q true h) ∧
  (x29 = false →
  F.spatelaw6_TableTwins.j1 Q x0 x1 x2 h)
/-- spate/spatelaw6.TableTwins -/
def F.spatelaw6_TableTwins (p0 : Sl) (p1 : Sl) (p2 : Sl) (h : H) (Q : Bool → H → Prop) : Prop :=
  F.spatelaw6_known  h fun r2 h1 =>
  ((!r2) = true →
  Q false h1) ∧
  ((!r2) = false →
  ((decide ((p0.len : Int) > 3000)) = true →
  F.spatelaw6_TableTwins.j12 Q p0 p1 p2 true h1) ∧
  ((decide ((p0.len : Int) > 3000)) = false →
  ((decide ((p1.len : Int) > 3000)) = true →
  F.spatelaw6_TableTwins.j12 Q p0 p1 p2 true h1) ∧
  ((decide ((p1.len : Int) > 3000)) = false →
  F.spatelaw6_TableTwins.j12 Q p0 p1 p2 (decide ((p2.len : Int) > 3000)) h1)))
theorem F.spatelaw6_TableTwins_ok {p0 : Sl} {p1 : Sl} {p2 : Sl} {h : H} {Q : Bool → H → Prop} (H : F.spatelaw6_TableTwins p0 p1 p2 h Q) : Fn PP 10 ([p0.enc, p1.enc, p2.enc] : List Value).toArray h fun r h' => ∃ r0, r = (.bool r0) ∧ Q r0 h' := by
  unfold F.spatelaw6_TableTwins at H
  refine fn_of Try.func10 Try.ntmps10 rfl rfl fun w0 => ?_
  refine tr_sub [(0, p0.enc), (1, p1.enc), (2, p2.enc)] ⟨rfl, rfl, rfl, trivial⟩ ?_
  refine tr_seq ?_
  refine tr_region ?_
  refine tr_p (y_assign rfl) rfl rfl ?_
  refine tr_nil ?_
  refine tr_thenN ?_
  refine tr_seq ?_
  refine tr_seq ?_
  refine tr_region ?_
  refine tr_e (e_call Try.call17 rfl (F.spatelaw6_known_ok H)) rfl rfl ?_
  rintro _ h1 ⟨r2, rfl, H⟩
  refine tr_p (y_not rfl) rfl rfl ?_
  refine tr_nil ?_
  refine tr_thenN ?_
  refine tr_cond rfl (fun g3 => ?_) (fun g3 => ?_)
  · replace H := H.1 g3
    refine tr_seq ?_
    refine tr_region ?_
    refine tr_p (y_assign rfl) rfl rfl ?_
    refine tr_nil ?_
    refine tr_thenN ?_
    refine tr_ret ?_
    refine tr_thenR ?_
    exact tr_ret1 rfl rfl ⟨_, rfl, H⟩
  · replace H := H.2 g3
    refine tr_skip ?_
    refine tr_thenN ?_
    refine tr_seq_j (fun L' h => ∃ (x0 : Sl) (x1 : Sl) (x2 : Sl), L' = [(0, x0.enc), (1, x1.enc), (2, x2.enc)] ∧ F.spatelaw6_TableTwins.j1 Q x0 x1 x2 h) ?_ ?_
    · rintro L' h ⟨x0, x1, x2, rfl, H⟩
      unfold F.spatelaw6_TableTwins.j1 at H
      refine tr_seq ?_
      refine tr_region ?_
      refine tr_e (e_call Try.call19 rfl (F.table_New_int_ok H)) rfl rfl ?_
      rintro _ h4 ⟨r5, rfl, H⟩
      refine tr_p (y_assign rfl) rfl rfl ?_
      refine tr_nil ?_
      refine tr_thenN ?_
      refine tr_seq ?_
      refine tr_seq ?_
      refine tr_region ?_
      refine tr_p (y_assign rfl) rfl rfl ?_
      refine tr_nil ?_
      refine tr_thenN ?_
      refine tr_block ?_
      obtain ⟨m58, H⟩ := H
      refine tr_sub [(0, x0.enc), (1, x1.enc), (2, x2.enc), (7, (.pointer r5)), (8, (.int .i64 0))] ⟨rfl, rfl, rfl, rfl, rfl, trivial⟩ ?_
      refine tr_loop_j (fun m L' h => ∃ (x0 : Sl) (x1 : Sl) (x2 : Sl) (x7 : Option Addr) (x8 : Int), L' = [(0, x0.enc), (1, x1.enc), (2, x2.enc), (7, (.pointer x7)), (8, (.int .i64 x8))] ∧ F.spatelaw6_TableTwins.l2 Q m x0 x1 x2 x7 x8 h) ?_ ?_ m58 ⟨_, _, _, _, _, rfl, H⟩
      · rintro L' h ⟨_, _, _, _, _, _, H⟩; exact H
      · rintro q2 L' h ⟨x0, x1, x2, x7, x8, rfl, H⟩
        unfold F.spatelaw6_TableTwins.l2 at H
        refine tr_seq ?_
        refine tr_seq ?_
        refine tr_region ?_
        refine tr_p (y_move rfl) rfl rfl ?_
        refine tr_p (y_move rfl) rfl rfl ?_
        refine tr_p (y_len (ts := #[]) Try.runUnderlying43 (o := x0.ptr) (n := x0.len) (cap := x0.cap) rfl) rfl rfl ?_
        refine tr_p (y_lss rfl rfl) rfl rfl ?_
        refine tr_nil ?_
        refine tr_thenN ?_
        refine tr_cond rfl (fun g6 => ?_) (fun g6 => ?_)
        · replace H := H.1 g6
          refine tr_skip ?_
          refine tr_thenN ?_
          refine tr_seq ?_
          refine tr_block ?_
          refine tr_region ?_
          refine tr_p (y_move rfl) rfl rfl ?_
          refine tr_p (y_move rfl) rfl rfl ?_
          refine tr_p (y_move rfl) rfl rfl ?_
          obtain ⟨a7, e8, H⟩ := H
          refine tr_p (f_idx (s := x0) Try.runUnderlying43 Try.sizeOf46 rfl rfl e8) rfl rfl ?_
          obtain ⟨y9, k10, H⟩ := H
          refine tr_h (y_ldS Try.isAgg46 Try.sizeOf46 rfl rfl) k10 rfl rfl ?_
          refine tr_e (e_call Try.call30 rfl (F.spatelaw6_do_ok H)) rfl rfl ?_
          rintro _ h11 ⟨rfl, H⟩
          refine tr_nil ?_
          refine tr_blockN ?_
          refine tr_thenN ?_
          refine tr_region ?_
          refine tr_p (y_move rfl) rfl rfl ?_
          refine tr_p (y_add rfl rfl) rfl rfl ?_
          refine tr_p (y_assign rfl) rfl rfl ?_
          refine tr_nil ?_
          refine tr_thenN ?_
          exact tr_join [(0, x0.enc), (1, x1.enc), (2, x2.enc), (7, (.pointer x7)), (8, (.int .i64 (IntKind.wrap .i64 (x8 + 1))))] ⟨rfl, rfl, rfl, rfl, rfl, trivial⟩ ⟨_, _, _, _, _, rfl, H⟩
        · replace H := H.2 g6
          refine tr_exit ?_
          refine tr_thenE ?_
          refine tr_thenE ?_
          refine tr_hit ?_
          refine tr_thenN ?_
          refine tr_seq ?_
          refine tr_region ?_
          refine tr_p (y_move rfl) rfl rfl ?_
          refine tr_e (e_call Try.call28 rfl (F.table_Table_int_Twin_ok H)) rfl rfl ?_
          rintro _ h12 ⟨r13, rfl, H⟩
          refine tr_p (y_assign rfl) rfl rfl ?_
          refine tr_nil ?_
          refine tr_thenN ?_
          refine tr_seq ?_
          refine tr_region ?_
          refine tr_p (y_move rfl) rfl rfl ?_
          refine tr_e (e_call Try.call28 rfl (F.table_Table_int_Twin_ok H)) rfl rfl ?_
          rintro _ h14 ⟨r15, rfl, H⟩
          refine tr_p (y_assign rfl) rfl rfl ?_
          refine tr_nil ?_
          refine tr_thenN ?_
          refine tr_seq ?_
          refine tr_region ?_
          refine tr_p (y_move rfl) rfl rfl ?_
          refine tr_e (e_call Try.call28 rfl (F.table_Table_int_Twin_ok H)) rfl rfl ?_
          rintro _ h16 ⟨r17, rfl, H⟩
          refine tr_p (y_assign rfl) rfl rfl ?_
          refine tr_nil ?_
          refine tr_thenN ?_
          refine tr_seq_j (fun L' h => ∃ (x1 : Sl) (x2 : Sl) (x7 : Option Addr) (x9 : Option Addr) (x10 : Option Addr) (x11 : Option Addr), L' = [(1, x1.enc), (2, x2.enc), (7, (.pointer x7)), (9, (.pointer x9)), (10, (.pointer x10)), (11, (.pointer x11))] ∧ F.spatelaw6_TableTwins.j3 Q x1 x2 x7 x9 x10 x11 h) ?_ ?_
          · rintro L' h ⟨x1, x2, x7, x9, x10, x11, rfl, H⟩
            unfold F.spatelaw6_TableTwins.j3 at H
            refine tr_seq ?_
            refine tr_seq ?_
            refine tr_region ?_
            refine tr_p (y_assign rfl) rfl rfl ?_
            refine tr_nil ?_
            refine tr_thenN ?_
            refine tr_block ?_
            obtain ⟨m54, H⟩ := H
            refine tr_sub [(1, x1.enc), (2, x2.enc), (7, (.pointer x7)), (9, (.pointer x9)), (10, (.pointer x10)), (11, (.pointer x11)), (12, (.int .i64 0))] ⟨rfl, rfl, rfl, rfl, rfl, rfl, rfl, trivial⟩ ?_
            refine tr_loop_j (fun m L' h => ∃ (x1 : Sl) (x2 : Sl) (x7 : Option Addr) (x9 : Option Addr) (x10 : Option Addr) (x11 : Option Addr) (x12 : Int), L' = [(1, x1.enc), (2, x2.enc), (7, (.pointer x7)), (9, (.pointer x9)), (10, (.pointer x10)), (11, (.pointer x11)), (12, (.int .i64 x12))] ∧ F.spatelaw6_TableTwins.l4 Q m x1 x2 x7 x9 x10 x11 x12 h) ?_ ?_ m54 ⟨_, _, _, _, _, _, _, rfl, H⟩
            · rintro L' h ⟨_, _, _, _, _, _, _, _, H⟩; exact H
            · rintro q4 L' h ⟨x1, x2, x7, x9, x10, x11, x12, rfl, H⟩
              unfold F.spatelaw6_TableTwins.l4 at H
              refine tr_seq_j (fun L' h => ∃ (x1 : Sl) (x2 : Sl) (x7 : Option Addr) (x9 : Option Addr) (x10 : Option Addr) (x11 : Option Addr) (x12 : Int), L' = [(1, x1.enc), (2, x2.enc), (7, (.pointer x7)), (9, (.pointer x9)), (10, (.pointer x10)), (11, (.pointer x11)), (12, (.int .i64 x12))] ∧ F.spatelaw6_TableTwins.j5 Q (F.spatelaw6_TableTwins.l4 Q q4) x1 x2 x7 x9 x10 x11 x12 h) ?_ ?_
              · rintro L' h ⟨x1, x2, x7, x9, x10, x11, x12, rfl, H⟩
                unfold F.spatelaw6_TableTwins.j5 at H
                refine tr_seq_j (fun L' h => ∃ (x1 : Sl) (x2 : Sl) (x7 : Option Addr) (x9 : Option Addr) (x10 : Option Addr) (x11 : Option Addr) (x12 : Int), L' = [(1, x1.enc), (2, x2.enc), (7, (.pointer x7)), (9, (.pointer x9)), (10, (.pointer x10)), (11, (.pointer x11)), (12, (.int .i64 x12))] ∧ F.spatelaw6_TableTwins.j6 Q (F.spatelaw6_TableTwins.l4 Q q4) x1 x2 x7 x9 x10 x11 x12 h) ?_ ?_
                · rintro L' h ⟨x1, x2, x7, x9, x10, x11, x12, rfl, H⟩
                  unfold F.spatelaw6_TableTwins.j6 at H
                  refine tr_region ?_
                  refine tr_p (y_move rfl) rfl rfl ?_
                  refine tr_p (y_add rfl rfl) rfl rfl ?_
                  refine tr_p (y_assign rfl) rfl rfl ?_
                  refine tr_nil ?_
                  refine tr_thenN ?_
                  exact tr_join [(1, x1.enc), (2, x2.enc), (7, (.pointer x7)), (9, (.pointer x9)), (10, (.pointer x10)), (11, (.pointer x11)), (12, (.int .i64 (IntKind.wrap .i64 (x12 + 1))))] ⟨rfl, rfl, rfl, rfl, rfl, rfl, rfl, trivial⟩ ⟨_, _, _, _, _, _, _, rfl, H⟩
                · refine tr_block ?_
                  refine tr_seq_j (fun L' h => ∃ (x1 : Sl) (x2 : Sl) (x7 : Option Addr) (x9 : Option Addr) (x10 : Option Addr) (x11 : Option Addr) (x12 : Int), L' = [(1, x1.enc), (2, x2.enc), (7, (.pointer x7)), (9, (.pointer x9)), (10, (.pointer x10)), (11, (.pointer x11)), (12, (.int .i64 x12))] ∧ F.spatelaw6_TableTwins.j7 Q (F.spatelaw6_TableTwins.l4 Q q4) x1 x2 x7 x9 x10 x11 x12 h) ?_ ?_
                  · rintro L' h ⟨x1, x2, x7, x9, x10, x11, x12, rfl, H⟩
                    unfold F.spatelaw6_TableTwins.j7 at H
                    refine tr_seq ?_
                    refine tr_region ?_
                    refine tr_p (y_move rfl) rfl rfl ?_
                    refine tr_p (y_move rfl) rfl rfl ?_
                    refine tr_p (y_len (ts := #[]) Try.runUnderlying43 (o := x2.ptr) (n := x2.len) (cap := x2.cap) rfl) rfl rfl ?_
                    refine tr_p (y_lss rfl rfl) rfl rfl ?_
                    refine tr_nil ?_
                    refine tr_thenN ?_
                    refine tr_cond rfl (fun g18 => ?_) (fun g18 => ?_)
                    · replace H := H.1 g18
                      refine tr_region ?_
                      refine tr_p (y_move rfl) rfl rfl ?_
                      refine tr_p (y_move rfl) rfl rfl ?_
                      refine tr_p (y_move rfl) rfl rfl ?_
                      obtain ⟨a19, e20, H⟩ := H
                      refine tr_p (f_idx (s := x2) Try.runUnderlying43 Try.sizeOf46 rfl rfl e20) rfl rfl ?_
                      obtain ⟨y21, k22, H⟩ := H
                      refine tr_h (y_ldS Try.isAgg46 Try.sizeOf46 rfl rfl) k22 rfl rfl ?_
                      refine tr_e (e_call Try.call30 rfl (F.spatelaw6_do_ok H)) rfl rfl ?_
                      rintro _ h23 ⟨rfl, H⟩
                      refine tr_nil ?_
                      refine tr_blockN ?_
                      refine tr_thenN ?_
                      exact tr_join [(1, x1.enc), (2, x2.enc), (7, (.pointer x7)), (9, (.pointer x9)), (10, (.pointer x10)), (11, (.pointer x11)), (12, (.int .i64 x12))] ⟨rfl, rfl, rfl, rfl, rfl, rfl, rfl, trivial⟩ ⟨_, _, _, _, _, _, _, rfl, H⟩
                    · replace H := H.2 g18
                      refine tr_skip ?_
                      refine tr_blockN ?_
                      refine tr_thenN ?_
                      exact tr_join [(1, x1.enc), (2, x2.enc), (7, (.pointer x7)), (9, (.pointer x9)), (10, (.pointer x10)), (11, (.pointer x11)), (12, (.int .i64 x12))] ⟨rfl, rfl, rfl, rfl, rfl, rfl, rfl, trivial⟩ ⟨_, _, _, _, _, _, _, rfl, H⟩
                  · refine tr_seq ?_
                    refine tr_region ?_
                    refine tr_p (y_move rfl) rfl rfl ?_
                    refine tr_p (y_move rfl) rfl rfl ?_
                    refine tr_p (y_len (ts := #[]) Try.runUnderlying43 (o := x1.ptr) (n := x1.len) (cap := x1.cap) rfl) rfl rfl ?_
                    refine tr_p (y_lss rfl rfl) rfl rfl ?_
                    refine tr_nil ?_
                    refine tr_thenN ?_
                    refine tr_cond rfl (fun g24 => ?_) (fun g24 => ?_)
                    · replace H := H.1 g24
                      refine tr_region ?_
                      refine tr_p (y_move rfl) rfl rfl ?_
                      refine tr_p (y_move rfl) rfl rfl ?_
                      refine tr_p (y_move rfl) rfl rfl ?_
                      obtain ⟨a25, e26, H⟩ := H
                      refine tr_p (f_idx (s := x1) Try.runUnderlying43 Try.sizeOf46 rfl rfl e26) rfl rfl ?_
                      obtain ⟨y27, k28, H⟩ := H
                      refine tr_h (y_ldS Try.isAgg46 Try.sizeOf46 rfl rfl) k28 rfl rfl ?_
                      refine tr_e (e_call Try.call30 rfl (F.spatelaw6_do_ok H)) rfl rfl ?_
                      rintro _ h29 ⟨rfl, H⟩
                      refine tr_nil ?_
                      refine tr_thenN ?_
                      exact tr_join [(1, x1.enc), (2, x2.enc), (7, (.pointer x7)), (9, (.pointer x9)), (10, (.pointer x10)), (11, (.pointer x11)), (12, (.int .i64 x12))] ⟨rfl, rfl, rfl, rfl, rfl, rfl, rfl, trivial⟩ ⟨_, _, _, _, _, _, _, rfl, H⟩
                    · replace H := H.2 g24
                      refine tr_skip ?_
                      refine tr_thenN ?_
                      exact tr_join [(1, x1.enc), (2, x2.enc), (7, (.pointer x7)), (9, (.pointer x9)), (10, (.pointer x10)), (11, (.pointer x11)), (12, (.int .i64 x12))] ⟨rfl, rfl, rfl, rfl, rfl, rfl, rfl, trivial⟩ ⟨_, _, _, _, _, _, _, rfl, H⟩
              · refine tr_seq_j (fun L' h => ∃ (x1 : Sl) (x2 : Sl) (x7 : Option Addr) (x9 : Option Addr) (x10 : Option Addr) (x11 : Option Addr) (x12 : Int) (x68 : Bool), L' = [(1, x1.enc), (2, x2.enc), (7, (.pointer x7)), (9, (.pointer x9)), (10, (.pointer x10)), (11, (.pointer x11)), (12, (.int .i64 x12)), (68, (.bool x68))] ∧ F.spatelaw6_TableTwins.j8 Q (F.spatelaw6_TableTwins.l4 Q q4) x1 x2 x7 x9 x10 x11 x12 x68 h) ?_ ?_
                · rintro L' h ⟨x1, x2, x7, x9, x10, x11, x12, x68, rfl, H⟩
                  unfold F.spatelaw6_TableTwins.j8 at H
                  refine tr_cond rfl (fun g30 => ?_) (fun g30 => ?_)
                  · replace H := H.1 g30
                    refine tr_skip ?_
                    refine tr_thenN ?_
                    exact tr_join [(1, x1.enc), (2, x2.enc), (7, (.pointer x7)), (9, (.pointer x9)), (10, (.pointer x10)), (11, (.pointer x11)), (12, (.int .i64 x12))] ⟨rfl, rfl, rfl, rfl, rfl, rfl, rfl, trivial⟩ ⟨_, _, _, _, _, _, _, rfl, H⟩
                  · replace H := H.2 g30
                    refine tr_exit ?_
                    refine tr_thenE ?_
                    refine tr_thenE ?_
                    refine tr_hit ?_
                    refine tr_thenN ?_
                    refine tr_seq ?_
                    refine tr_seq ?_
                    refine tr_region ?_
                    refine tr_p (y_move rfl) rfl rfl ?_
                    refine tr_p (y_move rfl) rfl rfl ?_
                    refine tr_e (e_call Try.call44 rfl (F.spatelaw6_alike_ok H)) rfl rfl ?_
                    rintro _ h31 ⟨r32, rfl, H⟩
                    refine tr_p (y_not rfl) rfl rfl ?_
                    refine tr_nil ?_
                    refine tr_thenN ?_
                    refine tr_cond rfl (fun g33 => ?_) (fun g33 => ?_)
                    · replace H := H.1 g33
                      refine tr_seq ?_
                      refine tr_region ?_
                      refine tr_p (y_assign rfl) rfl rfl ?_
                      refine tr_nil ?_
                      refine tr_thenN ?_
                      refine tr_ret ?_
                      refine tr_thenR ?_
                      exact tr_ret1 rfl rfl ⟨_, rfl, H⟩
                    · replace H := H.2 g33
                      refine tr_skip ?_
                      refine tr_thenN ?_
                      refine tr_seq ?_
                      refine tr_seq ?_
                      refine tr_region ?_
                      refine tr_p (y_assign rfl) rfl rfl ?_
                      refine tr_nil ?_
                      refine tr_thenN ?_
                      refine tr_block ?_
                      obtain ⟨m52, H⟩ := H
                      refine tr_sub [(1, x1.enc), (2, x2.enc), (7, (.pointer x7)), (9, (.pointer x9)), (10, (.pointer x10)), (11, (.pointer x11)), (13, (.int .i64 0))] ⟨rfl, rfl, rfl, rfl, rfl, rfl, rfl, trivial⟩ ?_
                      refine tr_loop_j (fun m L' h => ∃ (x1 : Sl) (x2 : Sl) (x7 : Option Addr) (x9 : Option Addr) (x10 : Option Addr) (x11 : Option Addr) (x13 : Int), L' = [(1, x1.enc), (2, x2.enc), (7, (.pointer x7)), (9, (.pointer x9)), (10, (.pointer x10)), (11, (.pointer x11)), (13, (.int .i64 x13))] ∧ F.spatelaw6_TableTwins.l9 Q m x1 x2 x7 x9 x10 x11 x13 h) ?_ ?_ m52 ⟨_, _, _, _, _, _, _, rfl, H⟩
                      · rintro L' h ⟨_, _, _, _, _, _, _, _, H⟩; exact H
                      · rintro q9 L' h ⟨x1, x2, x7, x9, x10, x11, x13, rfl, H⟩
                        unfold F.spatelaw6_TableTwins.l9 at H
                        refine tr_seq ?_
                        refine tr_seq ?_
                        refine tr_region ?_
                        refine tr_p (y_move rfl) rfl rfl ?_
                        refine tr_p (y_move rfl) rfl rfl ?_
                        refine tr_p (y_len (ts := #[]) Try.runUnderlying43 (o := x1.ptr) (n := x1.len) (cap := x1.cap) rfl) rfl rfl ?_
                        refine tr_p (y_lss rfl rfl) rfl rfl ?_
                        refine tr_nil ?_
                        refine tr_thenN ?_
                        refine tr_cond rfl (fun g34 => ?_) (fun g34 => ?_)
                        · replace H := H.1 g34
                          refine tr_skip ?_
                          refine tr_thenN ?_
                          refine tr_seq ?_
                          refine tr_block ?_
                          refine tr_region ?_
                          refine tr_p (y_move rfl) rfl rfl ?_
                          refine tr_p (y_move rfl) rfl rfl ?_
                          refine tr_p (y_move rfl) rfl rfl ?_
                          obtain ⟨a35, e36, H⟩ := H
                          refine tr_p (f_idx (s := x1) Try.runUnderlying43 Try.sizeOf46 rfl rfl e36) rfl rfl ?_
                          obtain ⟨y37, k38, H⟩ := H
                          refine tr_h (y_ldS Try.isAgg46 Try.sizeOf46 rfl rfl) k38 rfl rfl ?_
                          refine tr_e (e_call Try.call30 rfl (F.spatelaw6_do_ok H)) rfl rfl ?_
                          rintro _ h39 ⟨rfl, H⟩
                          refine tr_nil ?_
                          refine tr_blockN ?_
                          refine tr_thenN ?_
                          refine tr_region ?_
                          refine tr_p (y_move rfl) rfl rfl ?_
                          refine tr_p (y_add rfl rfl) rfl rfl ?_
                          refine tr_p (y_assign rfl) rfl rfl ?_
                          refine tr_nil ?_
                          refine tr_thenN ?_
                          exact tr_join [(1, x1.enc), (2, x2.enc), (7, (.pointer x7)), (9, (.pointer x9)), (10, (.pointer x10)), (11, (.pointer x11)), (13, (.int .i64 (IntKind.wrap .i64 (x13 + 1))))] ⟨rfl, rfl, rfl, rfl, rfl, rfl, rfl, trivial⟩ ⟨_, _, _, _, _, _, _, rfl, H⟩
                        · replace H := H.2 g34
                          refine tr_exit ?_
                          refine tr_thenE ?_
                          refine tr_thenE ?_
                          refine tr_hit ?_
                          refine tr_thenN ?_
                          refine tr_seq ?_
                          refine tr_seq ?_
                          refine tr_region ?_
                          refine tr_p (y_assign rfl) rfl rfl ?_
                          refine tr_nil ?_
                          refine tr_thenN ?_
                          refine tr_block ?_
                          obtain ⟨m51, H⟩ := H
                          refine tr_sub [(2, x2.enc), (7, (.pointer x7)), (9, (.pointer x9)), (10, (.pointer x10)), (11, (.pointer x11)), (14, (.int .i64 0))] ⟨rfl, rfl, rfl, rfl, rfl, rfl, trivial⟩ ?_
                          refine tr_loop_j (fun m L' h => ∃ (x2 : Sl) (x7 : Option Addr) (x9 : Option Addr) (x10 : Option Addr) (x11 : Option Addr) (x14 : Int), L' = [(2, x2.enc), (7, (.pointer x7)), (9, (.pointer x9)), (10, (.pointer x10)), (11, (.pointer x11)), (14, (.int .i64 x14))] ∧ F.spatelaw6_TableTwins.l10 Q m x2 x7 x9 x10 x11 x14 h) ?_ ?_ m51 ⟨_, _, _, _, _, _, rfl, H⟩
                          · rintro L' h ⟨_, _, _, _, _, _, _, H⟩; exact H
                          · rintro q10 L' h ⟨x2, x7, x9, x10, x11, x14, rfl, H⟩
                            unfold F.spatelaw6_TableTwins.l10 at H
                            refine tr_seq ?_
                            refine tr_seq ?_
                            refine tr_region ?_
                            refine tr_p (y_move rfl) rfl rfl ?_
                            refine tr_p (y_move rfl) rfl rfl ?_
                            refine tr_p (y_len (ts := #[]) Try.runUnderlying43 (o := x2.ptr) (n := x2.len) (cap := x2.cap) rfl) rfl rfl ?_
                            refine tr_p (y_lss rfl rfl) rfl rfl ?_
                            refine tr_nil ?_
                            refine tr_thenN ?_
                            refine tr_cond rfl (fun g40 => ?_) (fun g40 => ?_)
                            · replace H := H.1 g40
                              refine tr_skip ?_
                              refine tr_thenN ?_
                              refine tr_seq ?_
                              refine tr_block ?_
                              refine tr_region ?_
                              refine tr_p (y_move rfl) rfl rfl ?_
                              refine tr_p (y_move rfl) rfl rfl ?_
                              refine tr_p (y_move rfl) rfl rfl ?_
                              obtain ⟨a41, e42, H⟩ := H
                              refine tr_p (f_idx (s := x2) Try.runUnderlying43 Try.sizeOf46 rfl rfl e42) rfl rfl ?_
                              obtain ⟨y43, k44, H⟩ := H
                              refine tr_h (y_ldS Try.isAgg46 Try.sizeOf46 rfl rfl) k44 rfl rfl ?_
                              refine tr_e (e_call Try.call30 rfl (F.spatelaw6_do_ok H)) rfl rfl ?_
                              rintro _ h45 ⟨rfl, H⟩
                              refine tr_nil ?_
                              refine tr_blockN ?_
                              refine tr_thenN ?_
                              refine tr_region ?_
                              refine tr_p (y_move rfl) rfl rfl ?_
                              refine tr_p (y_add rfl rfl) rfl rfl ?_
                              refine tr_p (y_assign rfl) rfl rfl ?_
                              refine tr_nil ?_
                              refine tr_thenN ?_
                              exact tr_join [(2, x2.enc), (7, (.pointer x7)), (9, (.pointer x9)), (10, (.pointer x10)), (11, (.pointer x11)), (14, (.int .i64 (IntKind.wrap .i64 (x14 + 1))))] ⟨rfl, rfl, rfl, rfl, rfl, rfl, trivial⟩ ⟨_, _, _, _, _, _, rfl, H⟩
                            · replace H := H.2 g40
                              refine tr_exit ?_
                              refine tr_thenE ?_
                              refine tr_thenE ?_
                              refine tr_hit ?_
                              refine tr_thenN ?_
                              refine tr_seq ?_
                              refine tr_region ?_
                              refine tr_p (y_move rfl) rfl rfl ?_
                              refine tr_p (y_move rfl) rfl rfl ?_
                              refine tr_e (e_call Try.call44 rfl (F.spatelaw6_alike_ok H)) rfl rfl ?_
                              rintro _ h46 ⟨r47, rfl, H⟩
                              refine tr_p (y_move rfl) rfl rfl ?_
                              refine tr_split (t := 122) rfl (fun g48 => ?_) (fun g48 => ?_)
                              · replace H := H.1 g48
                                refine tr_p (y_move rfl) rfl rfl ?_
                                refine tr_p (y_move rfl) rfl rfl ?_
                                refine tr_e (e_call Try.call44 rfl (F.spatelaw6_alike_ok H)) rfl rfl ?_
                                rintro _ h49 ⟨r50, rfl, H⟩
                                refine tr_p (y_pick_t rfl rfl) rfl rfl ?_
                                refine tr_p (y_assign rfl) rfl rfl ?_
                                refine tr_nil ?_
                                refine tr_thenN ?_
                                refine tr_ret ?_
                                exact tr_ret1 rfl rfl ⟨_, rfl, H⟩
                              · replace H := H.2 g48
                                refine tr_s rfl rfl ?_
                                refine tr_s rfl rfl ?_
                                refine tr_s rfl rfl ?_
                                refine tr_p (y_pick_f rfl rfl) rfl rfl ?_
                                refine tr_p (y_assign rfl) rfl rfl ?_
                                refine tr_nil ?_
                                refine tr_thenN ?_
                                refine tr_ret ?_
                                exact tr_ret1 rfl rfl ⟨_, rfl, H⟩
                · refine tr_region ?_
                  refine tr_p (y_move rfl) rfl rfl ?_
                  refine tr_p (y_move rfl) rfl rfl ?_
                  refine tr_p (y_len (ts := #[]) Try.runUnderlying43 (o := x1.ptr) (n := x1.len) (cap := x1.cap) rfl) rfl rfl ?_
                  refine tr_p (y_lss rfl rfl) rfl rfl ?_
                  refine tr_p (y_move rfl) rfl rfl ?_
                  refine tr_split (t := 63) rfl (fun g53 => ?_) (fun g53 => ?_)
                  · replace H := H.1 g53
                    refine tr_s rfl rfl ?_
                    refine tr_s rfl rfl ?_
                    refine tr_s rfl rfl ?_
                    refine tr_s rfl rfl ?_
                    refine tr_p (y_pick_t rfl rfl) rfl rfl ?_
                    refine tr_nil ?_
                    refine tr_thenN ?_
                    exact tr_join [(1, x1.enc), (2, x2.enc), (7, (.pointer x7)), (9, (.pointer x9)), (10, (.pointer x10)), (11, (.pointer x11)), (12, (.int .i64 x12)), (68, (.bool true))] ⟨rfl, rfl, rfl, rfl, rfl, rfl, rfl, rfl, trivial⟩ ⟨_, _, _, _, _, _, _, _, rfl, H⟩
                  · replace H := H.2 g53
                    refine tr_p (y_move rfl) rfl rfl ?_
                    refine tr_p (y_move rfl) rfl rfl ?_
                    refine tr_p (y_len (ts := #[]) Try.runUnderlying43 (o := x2.ptr) (n := x2.len) (cap := x2.cap) rfl) rfl rfl ?_
                    refine tr_p (y_lss rfl rfl) rfl rfl ?_
                    refine tr_p (y_pick_f rfl rfl) rfl rfl ?_
                    refine tr_nil ?_
                    refine tr_thenN ?_
                    exact tr_join [(1, x1.enc), (2, x2.enc), (7, (.pointer x7)), (9, (.pointer x9)), (10, (.pointer x10)), (11, (.pointer x11)), (12, (.int .i64 x12)), (68, (.bool (decide (x12 < (x2.len : Int)))))] ⟨rfl, rfl, rfl, rfl, rfl, rfl, rfl, rfl, trivial⟩ ⟨_, _, _, _, _, _, _, _, rfl, H⟩
          · refine tr_seq_j (fun L' h => ∃ (x1 : Sl) (x2 : Sl) (x7 : Option Addr) (x9 : Option Addr) (x10 : Option Addr) (x11 : Option Addr) (x58 : Bool), L' = [(1, x1.enc), (2, x2.enc), (7, (.pointer x7)), (9, (.pointer x9)), (10, (.pointer x10)), (11, (.pointer x11)), (58, (.bool x58))] ∧ F.spatelaw6_TableTwins.j11 Q x1 x2 x7 x9 x10 x11 x58 h) ?_ ?_
            · rintro L' h ⟨x1, x2, x7, x9, x10, x11, x58, rfl, H⟩
              unfold F.spatelaw6_TableTwins.j11 at H
              refine tr_cond rfl (fun g55 => ?_) (fun g55 => ?_)
              · replace H := H.1 g55
                refine tr_seq ?_
                refine tr_region ?_
                refine tr_p (y_assign rfl) rfl rfl ?_
                refine tr_nil ?_
                refine tr_thenN ?_
                refine tr_ret ?_
                refine tr_thenR ?_
                exact tr_ret1 rfl rfl ⟨_, rfl, H⟩
              · replace H := H.2 g55
                refine tr_skip ?_
                refine tr_thenN ?_
                exact tr_join [(1, x1.enc), (2, x2.enc), (7, (.pointer x7)), (9, (.pointer x9)), (10, (.pointer x10)), (11, (.pointer x11))] ⟨rfl, rfl, rfl, rfl, rfl, rfl, trivial⟩ ⟨_, _, _, _, _, _, rfl, H⟩
            · refine tr_region ?_
              refine tr_p (y_move rfl) rfl rfl ?_
              refine tr_p (y_pnil_eql Try.runUnderlying30 rfl rfl) rfl rfl ?_
              refine tr_p (y_move rfl) rfl rfl ?_
              refine tr_split (t := 51) rfl (fun g56 => ?_) (fun g56 => ?_)
              · replace H := H.1 g56
                refine tr_s rfl rfl ?_
                refine tr_s rfl rfl ?_
                refine tr_p (y_pick_t rfl rfl) rfl rfl ?_
                refine tr_p (y_move rfl) rfl rfl ?_
                refine tr_s rfl rfl ?_
                refine tr_s rfl rfl ?_
                refine tr_p (y_pick_t rfl rfl) rfl rfl ?_
                refine tr_nil ?_
                refine tr_thenN ?_
                exact tr_join [(1, x1.enc), (2, x2.enc), (7, (.pointer x7)), (9, (.pointer r13)), (10, (.pointer r15)), (11, (.pointer r17)), (58, (.bool true))] ⟨rfl, rfl, rfl, rfl, rfl, rfl, rfl, trivial⟩ ⟨_, _, _, _, _, _, _, rfl, H⟩
              · replace H := H.2 g56
                refine tr_p (y_move rfl) rfl rfl ?_
                refine tr_p (y_pnil_eql Try.runUnderlying30 rfl rfl) rfl rfl ?_
                refine tr_p (y_pick_f rfl rfl) rfl rfl ?_
                refine tr_p (y_move rfl) rfl rfl ?_
                refine tr_split (t := 55) rfl (fun g57 => ?_) (fun g57 => ?_)
                · replace H := H.1 g57
                  refine tr_s rfl rfl ?_
                  refine tr_s rfl rfl ?_
                  refine tr_p (y_pick_t rfl rfl) rfl rfl ?_
                  refine tr_nil ?_
                  refine tr_thenN ?_
                  exact tr_join [(1, x1.enc), (2, x2.enc), (7, (.pointer x7)), (9, (.pointer r13)), (10, (.pointer r15)), (11, (.pointer r17)), (58, (.bool true))] ⟨rfl, rfl, rfl, rfl, rfl, rfl, rfl, trivial⟩ ⟨_, _, _, _, _, _, _, rfl, H⟩
                · replace H := H.2 g57
                  refine tr_p (y_move rfl) rfl rfl ?_
                  refine tr_p (y_pnil_eql Try.runUnderlying30 rfl rfl) rfl rfl ?_
                  refine tr_p (y_pick_f rfl rfl) rfl rfl ?_
                  refine tr_nil ?_
                  refine tr_thenN ?_
                  exact tr_join [(1, x1.enc), (2, x2.enc), (7, (.pointer x7)), (9, (.pointer r13)), (10, (.pointer r15)), (11, (.pointer r17)), (58, (.bool r17.isNone))] ⟨rfl, rfl, rfl, rfl, rfl, rfl, rfl, trivial⟩ ⟨_, _, _, _, _, _, _, rfl, H⟩
    · refine tr_seq_j (fun L' h => ∃ (x0 : Sl) (x1 : Sl) (x2 : Sl) (x29 : Bool), L' = [(0, x0.enc), (1, x1.enc), (2, x2.enc), (29, (.bool x29))] ∧ F.spatelaw6_TableTwins.j12 Q x0 x1 x2 x29 h) ?_ ?_
      · rintro L' h ⟨x0, x1, x2, x29, rfl, H⟩
        unfold F.spatelaw6_TableTwins.j12 at H
        refine tr_cond rfl (fun g59 => ?_) (fun g59 => ?_)
        · replace H := H.1 g59
          refine tr_seq ?_
          refine tr_region ?_
          refine tr_p (y_assign rfl) rfl rfl ?_
          refine tr_nil ?_
          refine tr_thenN ?_
          refine tr_ret ?_
          refine tr_thenR ?_
          exact tr_ret1 rfl rfl ⟨_, rfl, H⟩
        · replace H := H.2 g59
          refine tr_skip ?_
          refine tr_thenN ?_
          exact tr_join [(0, x0.enc), (1, x1.enc), (2, x2.enc)] ⟨rfl, rfl, rfl, trivial⟩ ⟨_, _, _, rfl, H⟩
      · refine tr_region ?_
        refine tr_p (y_move rfl) rfl rfl ?_
        refine tr_p (y_len (ts := #[]) Try.runUnderlying43 (o := p0.ptr) (n := p0.len) (cap := p0.cap) rfl) rfl rfl ?_
        refine tr_p (y_gtr rfl rfl) rfl rfl ?_
        refine tr_p (y_move rfl) rfl rfl ?_
        refine tr_split (t := 20) rfl (fun g60 => ?_) (fun g60 => ?_)
        · replace H := H.1 g60
          refine tr_s rfl rfl ?_
          refine tr_s rfl rfl ?_
          refine tr_s rfl rfl ?_
          refine tr_p (y_pick_t rfl rfl) rfl rfl ?_
          refine tr_p (y_move rfl) rfl rfl ?_
          refine tr_s rfl rfl ?_
          refine tr_s rfl rfl ?_
          refine tr_s rfl rfl ?_
          refine tr_p (y_pick_t rfl rfl) rfl rfl ?_
          refine tr_nil ?_
          refine tr_thenN ?_
          exact tr_join [(0, p0.enc), (1, p1.enc), (2, p2.enc), (29, (.bool true))] ⟨rfl, rfl, rfl, rfl, trivial⟩ ⟨_, _, _, _, rfl, H⟩
        · replace H := H.2 g60
          refine tr_p (y_move rfl) rfl rfl ?_
          refine tr_p (y_len (ts := #[]) Try.runUnderlying43 (o := p1.ptr) (n := p1.len) (cap := p1.cap) rfl) rfl rfl ?_
          refine tr_p (y_gtr rfl rfl) rfl rfl ?_
          refine tr_p (y_pick_f rfl rfl) rfl rfl ?_
          refine tr_p (y_move rfl) rfl rfl ?_
          refine tr_split (t := 25) rfl (fun g61 => ?_) (fun g61 => ?_)
          · replace H := H.1 g61
            refine tr_s rfl rfl ?_
            refine tr_s rfl rfl ?_
            refine tr_s rfl rfl ?_
            refine tr_p (y_pick_t rfl rfl) rfl rfl ?_
            refine tr_nil ?_
            refine tr_thenN ?_
            exact tr_join [(0, p0.enc), (1, p1.enc), (2, p2.enc), (29, (.bool true))] ⟨rfl, rfl, rfl, rfl, trivial⟩ ⟨_, _, _, _, rfl, H⟩
          · replace H := H.2 g61
            refine tr_p (y_move rfl) rfl rfl ?_
            refine tr_p (y_len (ts := #[]) Try.runUnderlying43 (o := p2.ptr) (n := p2.len) (cap := p2.cap) rfl) rfl rfl ?_
            refine tr_p (y_gtr rfl rfl) rfl rfl ?_
            refine tr_p (y_pick_f rfl rfl) rfl rfl ?_
            refine tr_nil ?_
            refine tr_thenN ?_
            exact tr_join [(0, p0.enc), (1, p1.enc), (2, p2.enc), (29, (.bool (decide ((p2.len : Int) > 3000))))] ⟨rfl, rfl, rfl, rfl, trivial⟩ ⟨_, _, _, _, rfl, H⟩

end Go.Proofs.Ytkedkajdiclmjaa.V
