/- Printed by a program of this session (gen.py): Go functions as Lean functions over the heap, and that the Go code does what they say; no condition. -/
import Derived.Test.YtkedkajdiclmjaaGlh
namespace Go.Proofs.Ytkedkajdiclmjaa.V
open Go
set_option linter.unusedVariables false
set_option maxRecDepth 100000
/-- spate/table.New[string] -/
def F.table_New_string  (h : H) (Q : (Option Addr) → H → Prop) : Prop :=
  runL PP (Instr.makeSlice 63 (.int .i64 8) (.int .i64 8)) h fun s2 h1 =>
  new h1 ((⟨s2, (⟨none, 0, 0⟩ : Sl), 0, 0⟩ : S_table_Table_string).cells.toArray) ty_65 fun a4 h3 =>
  Q (some a4) h3
theorem F.table_New_string_ok  {h : H} {Q : (Option Addr) → H → Prop} (H : F.table_New_string  h Q) : Fn PP 11 ([] : List Value).toArray h fun r h' => ∃ r0, r = (.pointer r0) ∧ Q r0 h' := by
  unfold F.table_New_string at H
  refine fn_of Try.func11 Try.ntmps11 rfl rfl fun w0 => ?_
  refine tr_sub [] trivial ?_
  refine tr_seq ?_
  refine tr_region ?_
  refine tr_p (y_assign rfl) rfl rfl ?_
  refine tr_nil ?_
  refine tr_thenN ?_
  refine tr_seq ?_
  refine tr_region ?_
  refine tr_e (f_make rfl rfl H) rfl rfl ?_
  rintro _ h1 ⟨s2, rfl, H⟩
  refine tr_p (f_build rfl (bd_65_0 s2)) rfl rfl ?_
  refine tr_e (f_box (cs := (⟨s2, (⟨none, 0, 0⟩ : Sl), 0, 0⟩ : S_table_Table_string).cells.toArray) rfl rfl H) rfl rfl ?_
  rintro _ h3 ⟨a4, rfl, H⟩
  refine tr_p (y_assign rfl) rfl rfl ?_
  refine tr_nil ?_
  refine tr_thenN ?_
  refine tr_ret ?_
  exact tr_ret1 rfl rfl ⟨_, rfl, H⟩

/-- (*spate/table.Table[string]).Len -/
def F.table_Table_string_Len (p0 : Option Addr) (h : H) (Q : Int → H → Prop) : Prop :=
  nn p0 fun a1 =>
  ldI .i64 h (a1.add 3) fun y3 =>
  Q y3 h
theorem F.table_Table_string_Len_ok {p0 : Option Addr} {h : H} {Q : Int → H → Prop} (H : F.table_Table_string_Len p0 h Q) : Fn PP 12 ([(.pointer p0)] : List Value).toArray h fun r h' => ∃ r0, r = (.int .i64 r0) ∧ Q r0 h' := by
  unfold F.table_Table_string_Len at H
  refine fn_of Try.func12 Try.ntmps12 rfl rfl fun w0 => ?_
  refine tr_sub [(0, (.pointer p0))] ⟨rfl, trivial⟩ ?_
  refine tr_seq ?_
  refine tr_region ?_
  refine tr_p (y_assign rfl) rfl rfl ?_
  refine tr_nil ?_
  refine tr_thenN ?_
  refine tr_seq ?_
  refine tr_region ?_
  refine tr_p (y_move rfl) rfl rfl ?_
  obtain ⟨a1, e2, H⟩ := H
  refine tr_p (f_nn rfl e2) rfl rfl ?_
  refine tr_p (y_fa (off := 3) Try.runUnderlying65 fo_65_3 rfl) rfl rfl ?_
  obtain ⟨y3, k4, H⟩ := H
  refine tr_h (y_ld Try.isAgg3 rfl) k4 rfl rfl ?_
  refine tr_p (y_assign rfl) rfl rfl ?_
  refine tr_nil ?_
  refine tr_thenN ?_
  refine tr_ret ?_
  exact tr_ret1 rfl rfl ⟨_, rfl, H⟩

/-- (*spate/table.Table[string]).Slots -/
def F.table_Table_string_Slots (p0 : Option Addr) (h : H) (Q : Int → H → Prop) : Prop :=
  nn p0 fun a1 =>
  ldL h (a1.add 0) fun y3 =>
  Q (y3.len : Int) h
theorem F.table_Table_string_Slots_ok {p0 : Option Addr} {h : H} {Q : Int → H → Prop} (H : F.table_Table_string_Slots p0 h Q) : Fn PP 13 ([(.pointer p0)] : List Value).toArray h fun r h' => ∃ r0, r = (.int .i64 r0) ∧ Q r0 h' := by
  unfold F.table_Table_string_Slots at H
  refine fn_of Try.func13 Try.ntmps13 rfl rfl fun w0 => ?_
  refine tr_sub [(0, (.pointer p0))] ⟨rfl, trivial⟩ ?_
  refine tr_seq ?_
  refine tr_region ?_
  refine tr_p (y_assign rfl) rfl rfl ?_
  refine tr_nil ?_
  refine tr_thenN ?_
  refine tr_seq ?_
  refine tr_region ?_
  refine tr_p (y_move rfl) rfl rfl ?_
  obtain ⟨a1, e2, H⟩ := H
  refine tr_p (f_nn rfl e2) rfl rfl ?_
  refine tr_p (y_fa (off := 0) Try.runUnderlying65 fo_65_0 rfl) rfl rfl ?_
  obtain ⟨y3, k4, H⟩ := H
  refine tr_h (y_ld Try.isAgg63 rfl) k4 rfl rfl ?_
  refine tr_p (y_len (ts := #[]) Try.runUnderlying63 (o := y3.ptr) (n := y3.len) (cap := y3.cap) rfl) rfl rfl ?_
  refine tr_p (y_assign rfl) rfl rfl ?_
  refine tr_nil ?_
  refine tr_thenN ?_
  refine tr_ret ?_
  exact tr_ret1 rfl rfl ⟨_, rfl, H⟩

/-- (*spate/table.Table[string]).Left -/
def F.table_Table_string_Left (p0 : Option Addr) (h : H) (Q : Int → H → Prop) : Prop :=
  nn p0 fun a1 =>
  ldL h (a1.add 1) fun y3 =>
  nn p0 fun a5 =>
  ldI .i64 h (a5.add 2) fun y7 =>
  Q (IntKind.wrap .i64 ((y3.len : Int) - y7)) h
theorem F.table_Table_string_Left_ok {p0 : Option Addr} {h : H} {Q : Int → H → Prop} (H : F.table_Table_string_Left p0 h Q) : Fn PP 14 ([(.pointer p0)] : List Value).toArray h fun r h' => ∃ r0, r = (.int .i64 r0) ∧ Q r0 h' := by
  unfold F.table_Table_string_Left at H
  refine fn_of Try.func14 Try.ntmps14 rfl rfl fun w0 => ?_
  refine tr_sub [(0, (.pointer p0))] ⟨rfl, trivial⟩ ?_
  refine tr_seq ?_
  refine tr_region ?_
  refine tr_p (y_assign rfl) rfl rfl ?_
  refine tr_nil ?_
  refine tr_thenN ?_
  refine tr_seq ?_
  refine tr_draw mixed [0, 1, 3, 7, 15, 0, 32, 96, 224, 511, 1023] (by kernel_rfl) ?_
  refine g_p 0 1 rfl (by kernel_rfl) (y_move rfl) rfl rfl ?_
  obtain ⟨a1, e2, H⟩ := H
  refine g_p 1 3 rfl (by kernel_rfl) (f_nn rfl e2) rfl rfl ?_
  refine g_p 2 7 rfl (by kernel_rfl) (y_fa (off := 1) Try.runUnderlying65 fo_65_1 rfl) rfl rfl ?_
  obtain ⟨y3, k4, H⟩ := H
  refine g_h 3 15 rfl (by kernel_rfl) (y_ld Try.isAgg63 rfl) k4 rfl rfl ?_
  refine g_p 4 31 rfl (by kernel_rfl) (y_len (ts := #[]) Try.runUnderlying63 (o := y3.ptr) (n := y3.len) (cap := y3.cap) rfl) rfl rfl ?_
  refine g_p 5 63 rfl (by kernel_rfl) (y_move rfl) rfl rfl ?_
  obtain ⟨a5, e6, H⟩ := H
  refine g_p 6 127 rfl (by kernel_rfl) (f_nn rfl e6) rfl rfl ?_
  refine g_p 7 255 rfl (by kernel_rfl) (y_fa (off := 2) Try.runUnderlying65 fo_65_2 rfl) rfl rfl ?_
  obtain ⟨y7, k8, H⟩ := H
  refine g_h 8 511 rfl (by kernel_rfl) (y_ld Try.isAgg3 rfl) k8 rfl rfl ?_
  refine g_p 9 1023 rfl (by kernel_rfl) (y_sub rfl rfl) rfl rfl ?_
  refine g_p 10 2047 rfl (by kernel_rfl) (y_assign rfl) rfl rfl ?_
  refine g_d (by kernel_rfl) ?_
  refine tr_thenN ?_
  refine tr_ret ?_
  exact tr_ret1 rfl rfl ⟨_, rfl, H⟩

def F.table_Hash.l1 (Q : Int → H → Prop) : Nat → Int → Sl → Int → Int → H → Prop
  | 0, _, _, _, _, _ => False
  | q1 + 1, x3, x7, x8, x9, h =>
    ((decide (x9 < x8)) = true →
    idxA x7 x9 1 fun a4 =>
    ldI .u8 h a4 fun y6 =>
    (F.table_Hash.l1 Q q1) (IntKind.wrap .u64 ((bitsOf .xor .u64 x3 (IntKind.wrap .u64 y6)) * 1099511628211)) x7 x8 (IntKind.wrap .i64 (x9 + 1)) h) ∧
    ((decide (x9 < x8)) = false →
    Q x3 h)
/-- spate/table.Hash -/
def F.table_Hash (p0 : ByteArray) (h : H) (Q : Int → H → Prop) : Prop :=
  runL PP (convert 9 70 (.string p0)) h fun s2 h1 =>
  ∃ m, F.table_Hash.l1 Q m 14695981039346656037 s2 (s2.len : Int) 0 h1
theorem F.table_Hash_ok {p0 : ByteArray} {h : H} {Q : Int → H → Prop} (H : F.table_Hash p0 h Q) : Fn PP 16 ([(.string p0)] : List Value).toArray h fun r h' => ∃ r0, r = (.int .u64 r0) ∧ Q r0 h' := by
  unfold F.table_Hash at H
  refine fn_of Try.func16 Try.ntmps16 rfl rfl fun w0 => ?_
  refine tr_sub [(0, (.string p0))] ⟨rfl, trivial⟩ ?_
  refine tr_seq ?_
  refine tr_region ?_
  refine tr_p (y_assign rfl) rfl rfl ?_
  refine tr_nil ?_
  refine tr_thenN ?_
  refine tr_seq ?_
  refine tr_region ?_
  refine tr_p (y_assign rfl) rfl rfl ?_
  refine tr_nil ?_
  refine tr_thenN ?_
  refine tr_seq ?_
  refine tr_seq ?_
  refine tr_region ?_
  refine tr_p (y_move rfl) rfl rfl ?_
  refine tr_e (f_cvtL rfl H) rfl rfl ?_
  rintro _ h1 ⟨s2, rfl, H⟩
  refine tr_p (y_len (ts := #[]) Try.runUnderlying70 (o := s2.ptr) (n := s2.len) (cap := s2.cap) rfl) rfl rfl ?_
  refine tr_p (y_move rfl) rfl rfl ?_
  refine tr_nil ?_
  refine tr_thenN ?_
  refine tr_block ?_
  obtain ⟨m8, H⟩ := H
  refine tr_sub [(3, (.int .u64 14695981039346656037)), (7, s2.enc), (8, (.int .i64 (s2.len : Int))), (9, (.int .i64 0))] ⟨rfl, rfl, rfl, rfl, trivial⟩ ?_
  refine tr_loop_j (fun m L' h => ∃ (x3 : Int) (x7 : Sl) (x8 : Int) (x9 : Int), L' = [(3, (.int .u64 x3)), (7, x7.enc), (8, (.int .i64 x8)), (9, (.int .i64 x9))] ∧ F.table_Hash.l1 Q m x3 x7 x8 x9 h) ?_ ?_ m8 ⟨_, _, _, _, rfl, H⟩
  · rintro L' h ⟨_, _, _, _, _, H⟩; exact H
  · rintro q1 L' h ⟨x3, x7, x8, x9, rfl, H⟩
    unfold F.table_Hash.l1 at H
    refine tr_seq ?_
    refine tr_region ?_
    refine tr_p (y_lss rfl rfl) rfl rfl ?_
    refine tr_nil ?_
    refine tr_thenN ?_
    refine tr_seq ?_
    refine tr_cond rfl (fun g3 => ?_) (fun g3 => ?_)
    · replace H := H.1 g3
      refine tr_skip ?_
      refine tr_thenN ?_
      refine tr_seq ?_
      refine tr_block ?_
      refine tr_seq ?_
      refine tr_region ?_
      obtain ⟨a4, e5, H⟩ := H
      refine tr_p (f_idx (s := x7) Try.runUnderlying70 Try.sizeOf5 rfl rfl e5) rfl rfl ?_
      obtain ⟨y6, k7, H⟩ := H
      refine tr_h (y_ld Try.isAgg5 rfl) k7 rfl rfl ?_
      refine tr_p (y_assign rfl) rfl rfl ?_
      refine tr_nil ?_
      refine tr_thenN ?_
      refine tr_region ?_
      refine tr_p (y_move rfl) rfl rfl ?_
      refine tr_p (y_move rfl) rfl rfl ?_
      refine tr_p (y_cvt Try.runUnderlying5 Try.runUnderlying26 rfl) rfl rfl ?_
      refine tr_p (y_xor rfl rfl) rfl rfl ?_
      refine tr_p (y_mul rfl rfl) rfl rfl ?_
      refine tr_p (y_assign rfl) rfl rfl ?_
      refine tr_nil ?_
      refine tr_blockN ?_
      refine tr_thenN ?_
      refine tr_region ?_
      refine tr_p (y_add rfl rfl) rfl rfl ?_
      refine tr_p (y_move rfl) rfl rfl ?_
      refine tr_nil ?_
      refine tr_thenN ?_
      exact tr_join [(3, (.int .u64 (IntKind.wrap .u64 ((bitsOf .xor .u64 x3 (IntKind.wrap .u64 y6)) * 1099511628211)))), (7, x7.enc), (8, (.int .i64 x8)), (9, (.int .i64 (IntKind.wrap .i64 (x9 + 1))))] ⟨rfl, rfl, rfl, rfl, trivial⟩ ⟨_, _, _, _, rfl, H⟩
    · replace H := H.2 g3
      refine tr_exit ?_
      refine tr_thenE ?_
      refine tr_thenE ?_
      refine tr_hit ?_
      refine tr_thenN ?_
      refine tr_seq ?_
      refine tr_region ?_
      refine tr_p (y_move rfl) rfl rfl ?_
      refine tr_p (y_assign rfl) rfl rfl ?_
      refine tr_nil ?_
      refine tr_thenN ?_
      refine tr_ret ?_
      exact tr_ret1 rfl rfl ⟨_, rfl, H⟩

/-- spate/table.home[string] -/
def F.table_home_string (p0 : Sl) (p1 : ByteArray) (h : H) (Q : Int → H → Prop) : Prop :=
  F.table_Hash p1 h fun r2 h1 =>
  ((IntKind.wrap .u64 (p0.len : Int)) : Int) ≠ 0 ∧
  Q (IntKind.wrap .i64 (Int.tmod r2 (IntKind.wrap .u64 (p0.len : Int)))) h1
theorem F.table_home_string_ok {p0 : Sl} {p1 : ByteArray} {h : H} {Q : Int → H → Prop} (H : F.table_home_string p0 p1 h Q) : Fn PP 66 ([p0.enc, (.string p1)] : List Value).toArray h fun r h' => ∃ r0, r = (.int .i64 r0) ∧ Q r0 h' := by
  unfold F.table_home_string at H
  refine fn_of Try.func66 Try.ntmps66 rfl rfl fun w0 => ?_
  refine tr_sub [(0, p0.enc), (1, (.string p1))] ⟨rfl, rfl, trivial⟩ ?_
  refine tr_seq ?_
  refine tr_region ?_
  refine tr_p (y_assign rfl) rfl rfl ?_
  refine tr_nil ?_
  refine tr_thenN ?_
  refine tr_seq ?_
  refine tr_region ?_
  refine tr_p (y_move rfl) rfl rfl ?_
  refine tr_e (e_call Try.call16 rfl (F.table_Hash_ok H)) rfl rfl ?_
  rintro _ h1 ⟨r2, rfl, H⟩
  refine tr_p (y_move rfl) rfl rfl ?_
  refine tr_p (y_len (ts := #[]) Try.runUnderlying63 (o := p0.ptr) (n := p0.len) (cap := p0.cap) rfl) rfl rfl ?_
  refine tr_p (y_cvt Try.runUnderlying3 Try.runUnderlying26 rfl) rfl rfl ?_
  obtain ⟨e3, H⟩ := H
  refine tr_p (y_rem rfl rfl e3) rfl rfl ?_
  refine tr_p (y_cvt Try.runUnderlying26 Try.runUnderlying3 rfl) rfl rfl ?_
  refine tr_p (y_assign rfl) rfl rfl ?_
  refine tr_nil ?_
  refine tr_thenN ?_
  refine tr_ret ?_
  exact tr_ret1 rfl rfl ⟨_, rfl, H⟩

def F.table_find_string.j2 (Q : Int → Bool → H → Prop) (C1 : Sl → ByteArray → Int → H → Prop) (x0 : Sl) (x1 : ByteArray) (x6 : Int) (h : H) : Prop :=
  ((x0.len : Int) : Int) ≠ 0 ∧
  C1 x0 x1 (Int.tmod (IntKind.wrap .i64 (x6 + 1)) (x0.len : Int)) h
def F.table_find_string.j3 (Q : Int → Bool → H → Prop) (C1 : Sl → ByteArray → Int → H → Prop) (x0 : Sl) (x1 : ByteArray) (x6 : Int) (x38 : Bool) (h : H) : Prop :=
  (x38 = true →
  Q x6 true h) ∧
  (x38 = false →
  F.table_find_string.j2 Q C1 x0 x1 x6 h)
def F.table_find_string.l1 (Q : Int → Bool → H → Prop) : Nat → Sl → ByteArray → Int → H → Prop
  | 0, _, _, _, _ => False
  | q1 + 1, x0, x1, x6, h =>
    idxA x0 x6 3 fun a4 =>
    ldI .u8 h (a4.add 0) fun y6 =>
    (((y6 != 0)) = true →
    idxA x0 x6 3 fun a11 =>
    ldI .u8 h (a11.add 0) fun y13 =>
    (((y13 == 1)) = true →
    idxA x0 x6 3 fun a16 =>
    ldS h (a16.add 1) fun y18 =>
    F.table_find_string.j3 Q (F.table_find_string.l1 Q q1) x0 x1 x6 (y18.toList == x1.toList) h) ∧
    (((y13 == 1)) = false →
    F.table_find_string.j3 Q (F.table_find_string.l1 Q q1) x0 x1 x6 false h)) ∧
    (((y6 != 0)) = false →
    Q x6 false h)
/-- spate/table.find[string] -/
def F.table_find_string (p0 : Sl) (p1 : ByteArray) (h : H) (Q : Int → Bool → H → Prop) : Prop :=
  ((((p0.len : Int) == 0)) = true →
  Q 0 false h) ∧
  ((((p0.len : Int) == 0)) = false →
  F.table_home_string p0 p1 h fun r3 h2 =>
  ∃ m, F.table_find_string.l1 Q m p0 p1 r3 h2)
theorem F.table_find_string_ok {p0 : Sl} {p1 : ByteArray} {h : H} {Q : Int → Bool → H → Prop} (H : F.table_find_string p0 p1 h Q) : Fn PP 45 ([p0.enc, (.string p1)] : List Value).toArray h fun r h' => ∃ r0 r1, r = .tuple #[(.int .i64 r0), (.bool r1)] ∧ Q r0 r1 h' := by
  unfold F.table_find_string at H
  refine fn_of Try.func45 Try.ntmps45 rfl rfl fun w0 => ?_
  refine tr_sub [(0, p0.enc), (1, (.string p1))] ⟨rfl, rfl, trivial⟩ ?_
  refine tr_seq ?_
  refine tr_region ?_
  refine tr_p (y_assign rfl) rfl rfl ?_
  refine tr_p (y_assign rfl) rfl rfl ?_
  refine tr_nil ?_
  refine tr_thenN ?_
  refine tr_seq ?_
  refine tr_seq ?_
  refine tr_region ?_
  refine tr_p (y_move rfl) rfl rfl ?_
  refine tr_p (y_len (ts := #[]) Try.runUnderlying63 (o := p0.ptr) (n := p0.len) (cap := p0.cap) rfl) rfl rfl ?_
  refine tr_p (y_eql rfl rfl) rfl rfl ?_
  refine tr_nil ?_
  refine tr_thenN ?_
  refine tr_cond rfl (fun g1 => ?_) (fun g1 => ?_)
  · replace H := H.1 g1
    refine tr_seq ?_
    refine tr_region ?_
    refine tr_p (y_assign rfl) rfl rfl ?_
    refine tr_p (y_assign rfl) rfl rfl ?_
    refine tr_nil ?_
    refine tr_thenN ?_
    refine tr_ret ?_
    refine tr_thenR ?_
    exact tr_ret2 rfl rfl rfl ⟨_, _, rfl, H⟩
  · replace H := H.2 g1
    refine tr_skip ?_
    refine tr_thenN ?_
    refine tr_seq ?_
    refine tr_region ?_
    refine tr_p (y_move rfl) rfl rfl ?_
    refine tr_p (y_move rfl) rfl rfl ?_
    refine tr_e (e_call Try.call66 rfl (F.table_home_string_ok H)) rfl rfl ?_
    rintro _ h2 ⟨r3, rfl, H⟩
    refine tr_p (y_assign rfl) rfl rfl ?_
    refine tr_nil ?_
    refine tr_thenN ?_
    refine tr_seq ?_
    refine tr_block ?_
    obtain ⟨m20, H⟩ := H
    refine tr_sub [(0, p0.enc), (1, (.string p1)), (6, (.int .i64 r3))] ⟨rfl, rfl, rfl, trivial⟩ ?_
    refine tr_loop_j (fun m L' h => ∃ (x0 : Sl) (x1 : ByteArray) (x6 : Int), L' = [(0, x0.enc), (1, (.string x1)), (6, (.int .i64 x6))] ∧ F.table_find_string.l1 Q m x0 x1 x6 h) ?_ ?_ m20 ⟨_, _, _, rfl, H⟩
    · rintro L' h ⟨_, _, _, _, H⟩; exact H
    · rintro q1 L' h ⟨x0, x1, x6, rfl, H⟩
      unfold F.table_find_string.l1 at H
      refine tr_seq ?_
      refine tr_seq ?_
      refine tr_region ?_
      refine tr_p (y_move rfl) rfl rfl ?_
      refine tr_p (y_move rfl) rfl rfl ?_
      obtain ⟨a4, e5, H⟩ := H
      refine tr_p (f_idx (s := x0) Try.runUnderlying63 Try.sizeOf68 rfl rfl e5) rfl rfl ?_
      refine tr_p (y_fa (off := 0) Try.runUnderlying68 fo_68_0 rfl) rfl rfl ?_
      obtain ⟨y6, k7, H⟩ := H
      refine tr_h (y_ld Try.isAgg5 rfl) k7 rfl rfl ?_
      refine tr_p (y_neq rfl rfl) rfl rfl ?_
      refine tr_nil ?_
      refine tr_thenN ?_
      refine tr_cond rfl (fun g8 => ?_) (fun g8 => ?_)
      · replace H := H.1 g8
        refine tr_skip ?_
        refine tr_thenN ?_
        refine tr_seq_j (fun L' h => ∃ (x0 : Sl) (x1 : ByteArray) (x6 : Int), L' = [(0, x0.enc), (1, (.string x1)), (6, (.int .i64 x6))] ∧ F.table_find_string.j2 Q (F.table_find_string.l1 Q q1) x0 x1 x6 h) ?_ ?_
        · rintro L' h ⟨x0, x1, x6, rfl, H⟩
          unfold F.table_find_string.j2 at H
          refine tr_region ?_
          refine tr_p (y_move rfl) rfl rfl ?_
          refine tr_p (y_add rfl rfl) rfl rfl ?_
          refine tr_p (y_move rfl) rfl rfl ?_
          refine tr_p (y_len (ts := #[]) Try.runUnderlying63 (o := x0.ptr) (n := x0.len) (cap := x0.cap) rfl) rfl rfl ?_
          obtain ⟨e9, H⟩ := H
          refine tr_p (y_rem rfl rfl e9) rfl rfl ?_
          refine tr_p (y_assign rfl) rfl rfl ?_
          refine tr_nil ?_
          refine tr_thenN ?_
          exact tr_join [(0, x0.enc), (1, (.string x1)), (6, (.int .i64 (Int.tmod (IntKind.wrap .i64 (x6 + 1)) (x0.len : Int))))] ⟨rfl, rfl, rfl, trivial⟩ ⟨_, _, _, rfl, H⟩
        · refine tr_block ?_
          refine tr_seq_j (fun L' h => ∃ (x0 : Sl) (x1 : ByteArray) (x6 : Int) (x38 : Bool), L' = [(0, x0.enc), (1, (.string x1)), (6, (.int .i64 x6)), (38, (.bool x38))] ∧ F.table_find_string.j3 Q (F.table_find_string.l1 Q q1) x0 x1 x6 x38 h) ?_ ?_
          · rintro L' h ⟨x0, x1, x6, x38, rfl, H⟩
            unfold F.table_find_string.j3 at H
            refine tr_cond rfl (fun g10 => ?_) (fun g10 => ?_)
            · replace H := H.1 g10
              refine tr_seq ?_
              refine tr_region ?_
              refine tr_p (y_move rfl) rfl rfl ?_
              refine tr_p (y_assign rfl) rfl rfl ?_
              refine tr_p (y_assign rfl) rfl rfl ?_
              refine tr_nil ?_
              refine tr_thenN ?_
              refine tr_ret ?_
              refine tr_blockR ?_
              refine tr_thenR ?_
              refine tr_thenR ?_
              refine tr_blockR ?_
              refine tr_thenR ?_
              exact tr_ret2 rfl rfl rfl ⟨_, _, rfl, H⟩
            · replace H := H.2 g10
              refine tr_skip ?_
              refine tr_blockN ?_
              refine tr_thenN ?_
              exact tr_join [(0, x0.enc), (1, (.string x1)), (6, (.int .i64 x6))] ⟨rfl, rfl, rfl, trivial⟩ ⟨_, _, _, rfl, H⟩
          · refine tr_region ?_
            refine tr_p (y_move rfl) rfl rfl ?_
            refine tr_p (y_move rfl) rfl rfl ?_
            obtain ⟨a11, e12, H⟩ := H
            refine tr_p (f_idx (s := x0) Try.runUnderlying63 Try.sizeOf68 rfl rfl e12) rfl rfl ?_
            refine tr_p (y_fa (off := 0) Try.runUnderlying68 fo_68_0 rfl) rfl rfl ?_
            obtain ⟨y13, k14, H⟩ := H
            refine tr_h (y_ld Try.isAgg5 rfl) k14 rfl rfl ?_
            refine tr_p (y_eql rfl rfl) rfl rfl ?_
            refine tr_p (y_move rfl) rfl rfl ?_
            refine tr_split (t := 30) rfl (fun g15 => ?_) (fun g15 => ?_)
            · replace H := H.1 g15
              refine tr_p (y_move rfl) rfl rfl ?_
              refine tr_p (y_move rfl) rfl rfl ?_
              obtain ⟨a16, e17, H⟩ := H
              refine tr_p (f_idx (s := x0) Try.runUnderlying63 Try.sizeOf68 rfl rfl e17) rfl rfl ?_
              refine tr_p (y_fa (off := 1) Try.runUnderlying68 fo_68_1 rfl) rfl rfl ?_
              obtain ⟨y18, k19, H⟩ := H
              refine tr_h (y_ld Try.isAgg9 rfl) k19 rfl rfl ?_
              refine tr_p (y_move rfl) rfl rfl ?_
              refine tr_p (y_seql rfl rfl) rfl rfl ?_
              refine tr_p (y_pick_t rfl rfl) rfl rfl ?_
              refine tr_nil ?_
              refine tr_thenN ?_
              exact tr_join [(0, x0.enc), (1, (.string x1)), (6, (.int .i64 x6)), (38, (.bool (y18.toList == x1.toList)))] ⟨rfl, rfl, rfl, rfl, trivial⟩ ⟨_, _, _, _, rfl, H⟩
            · replace H := H.2 g15
              refine tr_s rfl rfl ?_
              refine tr_s rfl rfl ?_
              refine tr_s rfl rfl ?_
              refine tr_s rfl rfl ?_
              refine tr_s rfl rfl ?_
              refine tr_s rfl rfl ?_
              refine tr_s rfl rfl ?_
              refine tr_p (y_pick_f rfl rfl) rfl rfl ?_
              refine tr_nil ?_
              refine tr_thenN ?_
              exact tr_join [(0, x0.enc), (1, (.string x1)), (6, (.int .i64 x6)), (38, (.bool false))] ⟨rfl, rfl, rfl, rfl, trivial⟩ ⟨_, _, _, _, rfl, H⟩
      · replace H := H.2 g8
        refine tr_exit ?_
        refine tr_thenE ?_
        refine tr_thenE ?_
        refine tr_hit ?_
        refine tr_thenN ?_
        refine tr_seq ?_
        refine tr_region ?_
        refine tr_p (y_move rfl) rfl rfl ?_
        refine tr_p (y_assign rfl) rfl rfl ?_
        refine tr_p (y_assign rfl) rfl rfl ?_
        refine tr_nil ?_
        refine tr_thenN ?_
        refine tr_ret ?_
        exact tr_ret2 rfl rfl rfl ⟨_, _, rfl, H⟩

def F.table_Table_string_Move.j3 (Q : Int → H → Prop) (C1 : (Option Addr) → Int → H → Prop) (x0 : Option Addr) (x1 : Int) (h : H) : Prop :=
  C1 x0 (IntKind.wrap .i64 (x1 - 1)) h
def F.table_Table_string_Move.j4 (Q : Int → H → Prop) (C1 : (Option Addr) → Int → H → Prop) (x0 : Option Addr) (x1 : Int) (h : H) : Prop :=
  nn x0 fun a1 =>
  ldI .i64 h (a1.add 2) fun y3 =>
  nn x0 fun a5 =>
  stH h (a5.add 2) [(.int .i64 (IntKind.wrap .i64 (y3 + 1)))] fun h7 =>
  F.table_Table_string_Move.j3 Q C1 x0 x1 h7
def F.table_Table_string_Move.j2 (Q : Int → H → Prop) (C1 : (Option Addr) → Int → H → Prop) (x0 : Option Addr) (x1 : Int) (h : H) : Prop :=
  nn x0 fun a8 =>
  ldL h (a8.add 1) fun y10 =>
  nn x0 fun a12 =>
  ldI .i64 h (a12.add 2) fun y14 =>
  idxA y10 y14 3 fun a16 =>
  ldI .u8 h (a16.add 0) fun y18 =>
  (((y18 == 1)) = true →
  nn x0 fun a21 =>
  ldL h (a21.add 0) fun y23 =>
  ldS h (a16.add 1) fun y25 =>
  F.table_find_string y23 y25 h fun r28 r29 h27 =>
  nn x0 fun a30 =>
  ldL h27 (a30.add 0) fun y32 =>
  ld_S_table_place_string h27 a16 fun y34 =>
  idxA y32 r28 3 fun a36 =>
  stH h27 a36 y34.cells fun h38 =>
  stH h38 a16 ((⟨2, (⟨#[]⟩ : ByteArray), (⟨#[]⟩ : ByteArray)⟩ : S_table_place_string).cells) fun h39 =>
  F.table_Table_string_Move.j4 Q C1 x0 x1 h39) ∧
  (((y18 == 1)) = false →
  F.table_Table_string_Move.j4 Q C1 x0 x1 h)
def F.table_Table_string_Move.j6 (Q : Int → H → Prop) (x0 : Option Addr) (h : H) : Prop :=
  F.table_Table_string_Left x0 h fun r42 h41 =>
  Q r42 h41
def F.table_Table_string_Move.j5 (Q : Int → H → Prop) (C1 : (Option Addr) → Int → H → Prop) (x0 : Option Addr) (x1 : Int) (x21 : Bool) (h : H) : Prop :=
  (x21 = true →
  F.table_Table_string_Move.j2 Q C1 x0 x1 h) ∧
  (x21 = false →
  nn x0 fun a43 =>
  ldI .i64 h (a43.add 2) fun y45 =>
  nn x0 fun a47 =>
  ldL h (a47.add 1) fun y49 =>
  (((y45 == (y49.len : Int))) = true →
  nn x0 fun a52 =>
  stH h (a52.add 1) [(⟨none, 0, 0⟩ : Sl).enc] fun h54 =>
  nn x0 fun a55 =>
  stH h54 (a55.add 2) [(.int .i64 0)] fun h57 =>
  F.table_Table_string_Move.j6 Q x0 h57) ∧
  (((y45 == (y49.len : Int))) = false →
  F.table_Table_string_Move.j6 Q x0 h))
def F.table_Table_string_Move.l1 (Q : Int → H → Prop) : Nat → (Option Addr) → Int → H → Prop
  | 0, _, _, _ => False
  | q1 + 1, x0, x1, h =>
    ((decide (x1 > 0)) = true →
    nn x0 fun a59 =>
    ldI .i64 h (a59.add 2) fun y61 =>
    nn x0 fun a63 =>
    ldL h (a63.add 1) fun y65 =>
    F.table_Table_string_Move.j5 Q (F.table_Table_string_Move.l1 Q q1) x0 x1 (decide (y61 < (y65.len : Int))) h) ∧
    ((decide (x1 > 0)) = false →
    F.table_Table_string_Move.j5 Q (F.table_Table_string_Move.l1 Q q1) x0 x1 false h)
/-- (*spate/table.Table[string]).Move -/
def F.table_Table_string_Move (p0 : Option Addr) (p1 : Int) (h : H) (Q : Int → H → Prop) : Prop :=
  ∃ m, F.table_Table_string_Move.l1 Q m p0 p1 h
theorem F.table_Table_string_Move_ok {p0 : Option Addr} {p1 : Int} {h : H} {Q : Int → H → Prop} (H : F.table_Table_string_Move p0 p1 h Q) : Fn PP 15 ([(.pointer p0), (.int .i64 p1)] : List Value).toArray h fun r h' => ∃ r0, r = (.int .i64 r0) ∧ Q r0 h' := by
  unfold F.table_Table_string_Move at H
  refine fn_of Try.func15 Try.ntmps15 rfl rfl fun w0 => ?_
  refine tr_sub [(0, (.pointer p0)), (1, (.int .i64 p1))] ⟨rfl, rfl, trivial⟩ ?_
  refine tr_seq ?_
  refine tr_region ?_
  refine tr_p (y_assign rfl) rfl rfl ?_
  refine tr_nil ?_
  refine tr_thenN ?_
  refine tr_seq ?_
  refine tr_block ?_
  obtain ⟨m67, H⟩ := H
  refine tr_sub [(0, (.pointer p0)), (1, (.int .i64 p1))] ⟨rfl, rfl, trivial⟩ ?_
  refine tr_loop_j (fun m L' h => ∃ (x0 : Option Addr) (x1 : Int), L' = [(0, (.pointer x0)), (1, (.int .i64 x1))] ∧ F.table_Table_string_Move.l1 Q m x0 x1 h) ?_ ?_ m67 ⟨_, _, rfl, H⟩
  · rintro L' h ⟨_, _, _, H⟩; exact H
  · rintro q1 L' h ⟨x0, x1, rfl, H⟩
    unfold F.table_Table_string_Move.l1 at H
    refine tr_seq_j (fun L' h => ∃ (x0 : Option Addr) (x1 : Int), L' = [(0, (.pointer x0)), (1, (.int .i64 x1))] ∧ F.table_Table_string_Move.j2 Q (F.table_Table_string_Move.l1 Q q1) x0 x1 h) ?_ ?_
    · rintro L' h ⟨x0, x1, rfl, H⟩
      unfold F.table_Table_string_Move.j2 at H
      refine tr_seq_j (fun L' h => ∃ (x0 : Option Addr) (x1 : Int), L' = [(0, (.pointer x0)), (1, (.int .i64 x1))] ∧ F.table_Table_string_Move.j3 Q (F.table_Table_string_Move.l1 Q q1) x0 x1 h) ?_ ?_
      · rintro L' h ⟨x0, x1, rfl, H⟩
        unfold F.table_Table_string_Move.j3 at H
        refine tr_region ?_
        refine tr_p (y_move rfl) rfl rfl ?_
        refine tr_p (y_sub rfl rfl) rfl rfl ?_
        refine tr_p (y_assign rfl) rfl rfl ?_
        refine tr_nil ?_
        refine tr_thenN ?_
        exact tr_join [(0, (.pointer x0)), (1, (.int .i64 (IntKind.wrap .i64 (x1 - 1))))] ⟨rfl, rfl, trivial⟩ ⟨_, _, rfl, H⟩
      · refine tr_block ?_
        refine tr_seq_j (fun L' h => ∃ (x0 : Option Addr) (x1 : Int), L' = [(0, (.pointer x0)), (1, (.int .i64 x1))] ∧ F.table_Table_string_Move.j4 Q (F.table_Table_string_Move.l1 Q q1) x0 x1 h) ?_ ?_
        · rintro L' h ⟨x0, x1, rfl, H⟩
          unfold F.table_Table_string_Move.j4 at H
          refine tr_region ?_
          refine tr_p (y_move rfl) rfl rfl ?_
          obtain ⟨a1, e2, H⟩ := H
          refine tr_p (f_nn rfl e2) rfl rfl ?_
          refine tr_p (y_fa (off := 2) Try.runUnderlying65 fo_65_2 rfl) rfl rfl ?_
          obtain ⟨y3, k4, H⟩ := H
          refine tr_h (y_ld Try.isAgg3 rfl) k4 rfl rfl ?_
          refine tr_p (y_add rfl rfl) rfl rfl ?_
          obtain ⟨a5, e6, H⟩ := H
          refine tr_p (f_nn rfl e6) rfl rfl ?_
          refine tr_p (y_fa (off := 2) Try.runUnderlying65 fo_65_2 rfl) rfl rfl ?_
          refine tr_e (f_store (vs := [(.int .i64 (IntKind.wrap .i64 (y3 + 1)))]) Try.sizeOf3 rfl rfl rfl rfl (one1 rfl) H) rfl rfl ?_
          rintro _ h7 ⟨rfl, H⟩
          refine tr_nil ?_
          refine tr_blockN ?_
          refine tr_thenN ?_
          exact tr_join [(0, (.pointer x0)), (1, (.int .i64 x1))] ⟨rfl, rfl, trivial⟩ ⟨_, _, rfl, H⟩
        · refine tr_seq ?_
          refine tr_draw mixed [0, 1, 3, 7, 0, 16, 48, 112, 255, 511] (by kernel_rfl) ?_
          refine g_p 0 1 rfl (by kernel_rfl) (y_move rfl) rfl rfl ?_
          obtain ⟨a8, e9, H⟩ := H
          refine g_p 1 3 rfl (by kernel_rfl) (f_nn rfl e9) rfl rfl ?_
          refine g_p 2 7 rfl (by kernel_rfl) (y_fa (off := 1) Try.runUnderlying65 fo_65_1 rfl) rfl rfl ?_
          obtain ⟨y10, k11, H⟩ := H
          refine g_h 3 15 rfl (by kernel_rfl) (y_ld Try.isAgg63 rfl) k11 rfl rfl ?_
          refine g_p 4 31 rfl (by kernel_rfl) (y_move rfl) rfl rfl ?_
          obtain ⟨a12, e13, H⟩ := H
          refine g_p 5 63 rfl (by kernel_rfl) (f_nn rfl e13) rfl rfl ?_
          refine g_p 6 127 rfl (by kernel_rfl) (y_fa (off := 2) Try.runUnderlying65 fo_65_2 rfl) rfl rfl ?_
          obtain ⟨y14, k15, H⟩ := H
          refine g_h 7 255 rfl (by kernel_rfl) (y_ld Try.isAgg3 rfl) k15 rfl rfl ?_
          obtain ⟨a16, e17, H⟩ := H
          refine g_p 8 511 rfl (by kernel_rfl) (f_idx (s := y10) Try.runUnderlying63 Try.sizeOf68 rfl rfl e17) rfl rfl ?_
          refine g_p 9 1023 rfl (by kernel_rfl) (y_assign rfl) rfl rfl ?_
          refine g_d (by kernel_rfl) ?_
          refine tr_thenN ?_
          refine tr_seq ?_
          refine tr_region ?_
          refine tr_p (y_move rfl) rfl rfl ?_
          refine tr_p (y_nil rfl) rfl rfl ?_
          refine tr_p (y_fa (off := 0) Try.runUnderlying68 fo_68_0 rfl) rfl rfl ?_
          obtain ⟨y18, k19, H⟩ := H
          refine tr_h (y_ld Try.isAgg5 rfl) k19 rfl rfl ?_
          refine tr_p (y_eql rfl rfl) rfl rfl ?_
          refine tr_nil ?_
          refine tr_thenN ?_
          refine tr_cond rfl (fun g20 => ?_) (fun g20 => ?_)
          · replace H := H.1 g20
            refine tr_seq ?_
            refine tr_draw mixed [0, 1, 3, 7, 0, 16, 48, 112, 255, 511, 1023, 1023, 2047, 8191] (by kernel_rfl) ?_
            refine g_p 0 1 rfl (by kernel_rfl) (y_move rfl) rfl rfl ?_
            obtain ⟨a21, e22, H⟩ := H
            refine g_p 1 3 rfl (by kernel_rfl) (f_nn rfl e22) rfl rfl ?_
            refine g_p 2 7 rfl (by kernel_rfl) (y_fa (off := 0) Try.runUnderlying65 fo_65_0 rfl) rfl rfl ?_
            obtain ⟨y23, k24, H⟩ := H
            refine g_h 3 15 rfl (by kernel_rfl) (y_ld Try.isAgg63 rfl) k24 rfl rfl ?_
            refine g_p 4 31 rfl (by kernel_rfl) (y_move rfl) rfl rfl ?_
            refine g_p 5 63 rfl (by kernel_rfl) (y_nil rfl) rfl rfl ?_
            refine g_p 6 127 rfl (by kernel_rfl) (y_fa (off := 1) Try.runUnderlying68 fo_68_1 rfl) rfl rfl ?_
            obtain ⟨y25, k26, H⟩ := H
            refine g_h 7 255 rfl (by kernel_rfl) (y_ld Try.isAgg9 rfl) k26 rfl rfl ?_
            refine g_e 8 511 [] (by kernel_rfl) rfl (by kernel_rfl) (e_call Try.call45 rfl (F.table_find_string_ok H)) rfl rfl ?_
            rintro _ h27 ⟨r28, r29, rfl, H⟩
            refine ⟨trivial, ?_⟩
            refine g_p 9 1023 rfl (by kernel_rfl) (y_move rfl) rfl rfl ?_
            refine g_p 10 2047 rfl (by kernel_rfl) (y_ext rfl rfl) rfl rfl ?_
            refine g_p 11 4095 rfl (by kernel_rfl) (y_ext rfl rfl) rfl rfl ?_
            refine g_p 12 8191 rfl (by kernel_rfl) (y_assign rfl) rfl rfl ?_
            refine g_p 13 16383 rfl (by kernel_rfl) (y_assign rfl) rfl rfl ?_
            refine g_d (by kernel_rfl) ?_
            refine tr_thenN ?_
            refine tr_seq ?_
            refine tr_draw mixed [0, 1, 3, 7, 0, 0, 32, 96, 255, 511] (by kernel_rfl) ?_
            refine g_p 0 1 rfl (by kernel_rfl) (y_move rfl) rfl rfl ?_
            obtain ⟨a30, e31, H⟩ := H
            refine g_p 1 3 rfl (by kernel_rfl) (f_nn rfl e31) rfl rfl ?_
            refine g_p 2 7 rfl (by kernel_rfl) (y_fa (off := 0) Try.runUnderlying65 fo_65_0 rfl) rfl rfl ?_
            obtain ⟨y32, k33, H⟩ := H
            refine g_h 3 15 rfl (by kernel_rfl) (y_ld Try.isAgg63 rfl) k33 rfl rfl ?_
            refine g_p 4 31 rfl (by kernel_rfl) (y_move rfl) rfl rfl ?_
            refine g_p 5 63 rfl (by kernel_rfl) (y_move rfl) rfl rfl ?_
            refine g_p 6 127 rfl (by kernel_rfl) (y_nil rfl) rfl rfl ?_
            obtain ⟨y34, k35, H⟩ := H
            refine g_h 7 255 rfl (by kernel_rfl) (y_ldS Try.isAgg68 Try.sizeOf68 rfl rfl) k35 rfl rfl ?_
            obtain ⟨a36, e37, H⟩ := H
            refine g_p 8 511 rfl (by kernel_rfl) (f_idx (s := y32) Try.runUnderlying63 Try.sizeOf68 rfl rfl e37) rfl rfl ?_
            refine g_e 9 1023 [] (by kernel_rfl) rfl (by kernel_rfl) (f_store (vs := y34.cells) Try.sizeOf68 rfl rfl cellsOfStruct rfl (by intro v hv; exact ones_S_table_place_string _ v hv) H) rfl rfl ?_
            rintro _ h38 ⟨rfl, H⟩
            refine ⟨trivial, ?_⟩
            refine g_d (by kernel_rfl) ?_
            refine tr_thenN ?_
            refine tr_region ?_
            refine tr_p (y_move rfl) rfl rfl ?_
            refine tr_p (f_build rfl (bd_68_0 2)) rfl rfl ?_
            refine tr_p (y_nil rfl) rfl rfl ?_
            refine tr_e (f_store (vs := (⟨2, (⟨#[]⟩ : ByteArray), (⟨#[]⟩ : ByteArray)⟩ : S_table_place_string).cells) Try.sizeOf68 rfl rfl cellsOfStruct rfl (by intro v hv; exact ones_S_table_place_string _ v hv) H) rfl rfl ?_
            rintro _ h39 ⟨rfl, H⟩
            refine tr_nil ?_
            refine tr_thenN ?_
            exact tr_join [(0, (.pointer x0)), (1, (.int .i64 x1))] ⟨rfl, rfl, trivial⟩ ⟨_, _, rfl, H⟩
          · replace H := H.2 g20
            refine tr_skip ?_
            refine tr_thenN ?_
            exact tr_join [(0, (.pointer x0)), (1, (.int .i64 x1))] ⟨rfl, rfl, trivial⟩ ⟨_, _, rfl, H⟩
    · refine tr_seq_j (fun L' h => ∃ (x0 : Option Addr) (x1 : Int) (x21 : Bool), L' = [(0, (.pointer x0)), (1, (.int .i64 x1)), (21, (.bool x21))] ∧ F.table_Table_string_Move.j5 Q (F.table_Table_string_Move.l1 Q q1) x0 x1 x21 h) ?_ ?_
      · rintro L' h ⟨x0, x1, x21, rfl, H⟩
        unfold F.table_Table_string_Move.j5 at H
        refine tr_cond rfl (fun g40 => ?_) (fun g40 => ?_)
        · replace H := H.1 g40
          refine tr_skip ?_
          refine tr_thenN ?_
          exact tr_join [(0, (.pointer x0)), (1, (.int .i64 x1))] ⟨rfl, rfl, trivial⟩ ⟨_, _, rfl, H⟩
        · replace H := H.2 g40
          refine tr_exit ?_
          refine tr_thenE ?_
          refine tr_thenE ?_
          refine tr_hit ?_
          refine tr_thenN ?_
          refine tr_seq_j (fun L' h => ∃ (x0 : Option Addr), L' = [(0, (.pointer x0))] ∧ F.table_Table_string_Move.j6 Q x0 h) ?_ ?_
          · rintro L' h ⟨x0, rfl, H⟩
            unfold F.table_Table_string_Move.j6 at H
            refine tr_seq ?_
            refine tr_region ?_
            refine tr_p (y_move rfl) rfl rfl ?_
            refine tr_e (e_call Try.call14 rfl (F.table_Table_string_Left_ok H)) rfl rfl ?_
            rintro _ h41 ⟨r42, rfl, H⟩
            refine tr_p (y_assign rfl) rfl rfl ?_
            refine tr_nil ?_
            refine tr_thenN ?_
            refine tr_ret ?_
            exact tr_ret1 rfl rfl ⟨_, rfl, H⟩
          · refine tr_seq ?_
            refine tr_draw mixed [0, 1, 3, 7, 0, 16, 48, 112, 240, 511] (by kernel_rfl) ?_
            refine g_p 0 1 rfl (by kernel_rfl) (y_move rfl) rfl rfl ?_
            obtain ⟨a43, e44, H⟩ := H
            refine g_p 1 3 rfl (by kernel_rfl) (f_nn rfl e44) rfl rfl ?_
            refine g_p 2 7 rfl (by kernel_rfl) (y_fa (off := 2) Try.runUnderlying65 fo_65_2 rfl) rfl rfl ?_
            obtain ⟨y45, k46, H⟩ := H
            refine g_h 3 15 rfl (by kernel_rfl) (y_ld Try.isAgg3 rfl) k46 rfl rfl ?_
            refine g_p 4 31 rfl (by kernel_rfl) (y_move rfl) rfl rfl ?_
            obtain ⟨a47, e48, H⟩ := H
            refine g_p 5 63 rfl (by kernel_rfl) (f_nn rfl e48) rfl rfl ?_
            refine g_p 6 127 rfl (by kernel_rfl) (y_fa (off := 1) Try.runUnderlying65 fo_65_1 rfl) rfl rfl ?_
            obtain ⟨y49, k50, H⟩ := H
            refine g_h 7 255 rfl (by kernel_rfl) (y_ld Try.isAgg63 rfl) k50 rfl rfl ?_
            refine g_p 8 511 rfl (by kernel_rfl) (y_len (ts := #[]) Try.runUnderlying63 (o := y49.ptr) (n := y49.len) (cap := y49.cap) rfl) rfl rfl ?_
            refine g_p 9 1023 rfl (by kernel_rfl) (y_eql rfl rfl) rfl rfl ?_
            refine g_d (by kernel_rfl) ?_
            refine tr_thenN ?_
            refine tr_cond rfl (fun g51 => ?_) (fun g51 => ?_)
            · replace H := H.1 g51
              refine tr_region ?_
              refine tr_p (y_move rfl) rfl rfl ?_
              refine tr_p (y_move rfl) rfl rfl ?_
              obtain ⟨a52, e53, H⟩ := H
              refine tr_p (f_nn rfl e53) rfl rfl ?_
              refine tr_p (y_fa (off := 1) Try.runUnderlying65 fo_65_1 rfl) rfl rfl ?_
              refine tr_e (f_store (vs := [(⟨none, 0, 0⟩ : Sl).enc]) Try.sizeOf63 rfl rfl rfl rfl (one1 rfl) H) rfl rfl ?_
              rintro _ h54 ⟨rfl, H⟩
              obtain ⟨a55, e56, H⟩ := H
              refine tr_p (f_nn rfl e56) rfl rfl ?_
              refine tr_p (y_fa (off := 2) Try.runUnderlying65 fo_65_2 rfl) rfl rfl ?_
              refine tr_e (f_store (vs := [(.int .i64 0)]) Try.sizeOf3 rfl rfl rfl rfl (one1 rfl) H) rfl rfl ?_
              rintro _ h57 ⟨rfl, H⟩
              refine tr_nil ?_
              refine tr_thenN ?_
              exact tr_join [(0, (.pointer x0))] ⟨rfl, trivial⟩ ⟨_, rfl, H⟩
            · replace H := H.2 g51
              refine tr_skip ?_
              refine tr_thenN ?_
              exact tr_join [(0, (.pointer x0))] ⟨rfl, trivial⟩ ⟨_, rfl, H⟩
      · refine tr_draw mixed [0, 1, 3, 7, 15, 31, 63, 7, 135, 391, 903, 1927, 4095, 8191] (by kernel_rfl) ?_
        refine g_p 0 1 rfl (by kernel_rfl) (y_move rfl) rfl rfl ?_
        refine g_p 1 3 rfl (by kernel_rfl) (y_gtr rfl rfl) rfl rfl ?_
        refine g_p 2 7 rfl (by kernel_rfl) (y_move rfl) rfl rfl ?_
        refine g_split (t := 10) rfl (fun g58 => ?_) (fun g58 => ?_)
        · replace H := H.1 g58
          refine g_p 3 15 rfl (by kernel_rfl) (y_move rfl) rfl rfl ?_
          obtain ⟨a59, e60, H⟩ := H
          refine g_p 4 31 rfl (by kernel_rfl) (f_nn rfl e60) rfl rfl ?_
          refine g_p 5 63 rfl (by kernel_rfl) (y_fa (off := 2) Try.runUnderlying65 fo_65_2 rfl) rfl rfl ?_
          obtain ⟨y61, k62, H⟩ := H
          refine g_h 6 127 rfl (by kernel_rfl) (y_ld Try.isAgg3 rfl) k62 rfl rfl ?_
          refine g_p 7 255 rfl (by kernel_rfl) (y_move rfl) rfl rfl ?_
          obtain ⟨a63, e64, H⟩ := H
          refine g_p 8 511 rfl (by kernel_rfl) (f_nn rfl e64) rfl rfl ?_
          refine g_p 9 1023 rfl (by kernel_rfl) (y_fa (off := 1) Try.runUnderlying65 fo_65_1 rfl) rfl rfl ?_
          obtain ⟨y65, k66, H⟩ := H
          refine g_h 10 2047 rfl (by kernel_rfl) (y_ld Try.isAgg63 rfl) k66 rfl rfl ?_
          refine g_p 11 4095 rfl (by kernel_rfl) (y_len (ts := #[]) Try.runUnderlying63 (o := y65.ptr) (n := y65.len) (cap := y65.cap) rfl) rfl rfl ?_
          refine g_p 12 8191 rfl (by kernel_rfl) (y_lss rfl rfl) rfl rfl ?_
          refine g_p 13 16383 rfl (by kernel_rfl) (y_pick_t rfl rfl) rfl rfl ?_
          refine g_d (by kernel_rfl) ?_
          refine tr_thenN ?_
          exact tr_join [(0, (.pointer x0)), (1, (.int .i64 x1)), (21, (.bool (decide (y61 < (y65.len : Int)))))] ⟨rfl, rfl, rfl, trivial⟩ ⟨_, _, _, rfl, H⟩
        · replace H := H.2 g58
          refine g_s 3 15 rfl (by kernel_rfl) rfl rfl ?_
          refine g_s 4 31 rfl (by kernel_rfl) rfl rfl ?_
          refine g_s 5 63 rfl (by kernel_rfl) rfl rfl ?_
          refine g_s 6 127 rfl (by kernel_rfl) rfl rfl ?_
          refine g_s 7 255 rfl (by kernel_rfl) rfl rfl ?_
          refine g_s 8 511 rfl (by kernel_rfl) rfl rfl ?_
          refine g_s 9 1023 rfl (by kernel_rfl) rfl rfl ?_
          refine g_s 10 2047 rfl (by kernel_rfl) rfl rfl ?_
          refine g_s 11 4095 rfl (by kernel_rfl) rfl rfl ?_
          refine g_s 12 8191 rfl (by kernel_rfl) rfl rfl ?_
          refine g_p 13 16383 rfl (by kernel_rfl) (y_pick_f rfl rfl) rfl rfl ?_
          refine g_d (by kernel_rfl) ?_
          refine tr_thenN ?_
          exact tr_join [(0, (.pointer x0)), (1, (.int .i64 x1)), (21, (.bool false))] ⟨rfl, rfl, rfl, trivial⟩ ⟨_, _, _, rfl, H⟩

/-- spate/spatelaw6.TableNames -/
def F.spatelaw6_TableNames  (h : H) (Q : Bool → H → Prop) : Prop :=
  F.table_New_string  h fun r2 h1 =>
  ((!r2.isNone) = true →
  F.table_Table_string_Len r2 h1 fun r5 h4 =>
  (((r5 == 0)) = true →
  F.table_Table_string_Slots r2 h4 fun r8 h7 =>
  (((r8 == 8)) = true →
  F.table_Table_string_Left r2 h7 fun r11 h10 =>
  (((r11 == 0)) = true →
  F.table_Table_string_Move r2 9 h10 fun r14 h13 =>
  (((r14 == 0)) = true →
  F.table_Hash (⟨#[]⟩ : ByteArray) h13 fun r17 h16 =>
  (((r17 == 14695981039346656037)) = true →
  F.table_Hash (⟨#[97]⟩ : ByteArray) h16 fun r20 h19 =>
  (((r20 == 12638187200555641996)) = true →
  F.table_Hash (⟨#[98]⟩ : ByteArray) h19 fun r23 h22 =>
  Q ((r23 == 12638190499090526629)) h22) ∧
  (((r20 == 12638187200555641996)) = false →
  Q false h19)) ∧
  (((r17 == 14695981039346656037)) = false →
  Q false h16)) ∧
  (((r14 == 0)) = false →
  Q false h13)) ∧
  (((r11 == 0)) = false →
  Q false h10)) ∧
  (((r8 == 8)) = false →
  Q false h7)) ∧
  (((r5 == 0)) = false →
  Q false h4)) ∧
  ((!r2.isNone) = false →
  Q false h1)
theorem F.spatelaw6_TableNames_ok  {h : H} {Q : Bool → H → Prop} (H : F.spatelaw6_TableNames  h Q) : Fn PP 3 ([] : List Value).toArray h fun r h' => ∃ r0, r = (.bool r0) ∧ Q r0 h' := by
  unfold F.spatelaw6_TableNames at H
  refine fn_of Try.func3 Try.ntmps3 rfl rfl fun w0 => ?_
  refine tr_sub [] trivial ?_
  refine tr_seq ?_
  refine tr_region ?_
  refine tr_p (y_assign rfl) rfl rfl ?_
  refine tr_nil ?_
  refine tr_thenN ?_
  refine tr_seq ?_
  refine tr_region ?_
  refine tr_e (e_call Try.call11 rfl (F.table_New_string_ok H)) rfl rfl ?_
  rintro _ h1 ⟨r2, rfl, H⟩
  refine tr_p (y_assign rfl) rfl rfl ?_
  refine tr_nil ?_
  refine tr_thenN ?_
  refine tr_seq ?_
  refine tr_region ?_
  refine tr_p (y_move rfl) rfl rfl ?_
  refine tr_p (y_pnil_neq Try.runUnderlying22 rfl rfl) rfl rfl ?_
  refine tr_p (y_move rfl) rfl rfl ?_
  refine tr_split (t := 5) rfl (fun g3 => ?_) (fun g3 => ?_)
  · replace H := H.1 g3
    refine tr_p (y_move rfl) rfl rfl ?_
    refine tr_e (e_call Try.call12 rfl (F.table_Table_string_Len_ok H)) rfl rfl ?_
    rintro _ h4 ⟨r5, rfl, H⟩
    refine tr_p (y_eql rfl rfl) rfl rfl ?_
    refine tr_p (y_pick_t rfl rfl) rfl rfl ?_
    refine tr_p (y_move rfl) rfl rfl ?_
    refine tr_split (t := 10) rfl (fun g6 => ?_) (fun g6 => ?_)
    · replace H := H.1 g6
      refine tr_p (y_move rfl) rfl rfl ?_
      refine tr_e (e_call Try.call13 rfl (F.table_Table_string_Slots_ok H)) rfl rfl ?_
      rintro _ h7 ⟨r8, rfl, H⟩
      refine tr_p (y_eql rfl rfl) rfl rfl ?_
      refine tr_p (y_pick_t rfl rfl) rfl rfl ?_
      refine tr_p (y_move rfl) rfl rfl ?_
      refine tr_split (t := 15) rfl (fun g9 => ?_) (fun g9 => ?_)
      · replace H := H.1 g9
        refine tr_p (y_move rfl) rfl rfl ?_
        refine tr_e (e_call Try.call14 rfl (F.table_Table_string_Left_ok H)) rfl rfl ?_
        rintro _ h10 ⟨r11, rfl, H⟩
        refine tr_p (y_eql rfl rfl) rfl rfl ?_
        refine tr_p (y_pick_t rfl rfl) rfl rfl ?_
        refine tr_p (y_move rfl) rfl rfl ?_
        refine tr_split (t := 20) rfl (fun g12 => ?_) (fun g12 => ?_)
        · replace H := H.1 g12
          refine tr_p (y_move rfl) rfl rfl ?_
          refine tr_e (e_call Try.call15 rfl (F.table_Table_string_Move_ok H)) rfl rfl ?_
          rintro _ h13 ⟨r14, rfl, H⟩
          refine tr_p (y_eql rfl rfl) rfl rfl ?_
          refine tr_p (y_pick_t rfl rfl) rfl rfl ?_
          refine tr_p (y_move rfl) rfl rfl ?_
          refine tr_split (t := 25) rfl (fun g15 => ?_) (fun g15 => ?_)
          · replace H := H.1 g15
            refine tr_e (e_call Try.call16 rfl (F.table_Hash_ok H)) rfl rfl ?_
            rintro _ h16 ⟨r17, rfl, H⟩
            refine tr_p (y_eql rfl rfl) rfl rfl ?_
            refine tr_p (y_pick_t rfl rfl) rfl rfl ?_
            refine tr_p (y_move rfl) rfl rfl ?_
            refine tr_split (t := 29) rfl (fun g18 => ?_) (fun g18 => ?_)
            · replace H := H.1 g18
              refine tr_e (e_call Try.call16 rfl (F.table_Hash_ok H)) rfl rfl ?_
              rintro _ h19 ⟨r20, rfl, H⟩
              refine tr_p (y_eql rfl rfl) rfl rfl ?_
              refine tr_p (y_pick_t rfl rfl) rfl rfl ?_
              refine tr_p (y_move rfl) rfl rfl ?_
              refine tr_split (t := 33) rfl (fun g21 => ?_) (fun g21 => ?_)
              · replace H := H.1 g21
                refine tr_e (e_call Try.call16 rfl (F.table_Hash_ok H)) rfl rfl ?_
                rintro _ h22 ⟨r23, rfl, H⟩
                refine tr_p (y_eql rfl rfl) rfl rfl ?_
                refine tr_p (y_pick_t rfl rfl) rfl rfl ?_
                refine tr_p (y_assign rfl) rfl rfl ?_
                refine tr_nil ?_
                refine tr_thenN ?_
                refine tr_ret ?_
                exact tr_ret1 rfl rfl ⟨_, rfl, H⟩
              · replace H := H.2 g21
                refine tr_s rfl rfl ?_
                refine tr_s rfl rfl ?_
                refine tr_p (y_pick_f rfl rfl) rfl rfl ?_
                refine tr_p (y_assign rfl) rfl rfl ?_
                refine tr_nil ?_
                refine tr_thenN ?_
                refine tr_ret ?_
                exact tr_ret1 rfl rfl ⟨_, rfl, H⟩
            · replace H := H.2 g18
              refine tr_s rfl rfl ?_
              refine tr_s rfl rfl ?_
              refine tr_p (y_pick_f rfl rfl) rfl rfl ?_
              refine tr_p (y_move rfl) rfl rfl ?_
              refine tr_s rfl rfl ?_
              refine tr_s rfl rfl ?_
              refine tr_p (y_pick_f rfl rfl) rfl rfl ?_
              refine tr_p (y_assign rfl) rfl rfl ?_
              refine tr_nil ?_
              refine tr_thenN ?_
              refine tr_ret ?_
              exact tr_ret1 rfl rfl ⟨_, rfl, H⟩
          · replace H := H.2 g15
            refine tr_s rfl rfl ?_
            refine tr_s rfl rfl ?_
            refine tr_p (y_pick_f rfl rfl) rfl rfl ?_
            refine tr_p (y_move rfl) rfl rfl ?_
            refine tr_s rfl rfl ?_
            refine tr_s rfl rfl ?_
            refine tr_p (y_pick_f rfl rfl) rfl rfl ?_
            refine tr_p (y_move rfl) rfl rfl ?_
            refine tr_s rfl rfl ?_
            refine tr_s rfl rfl ?_
            refine tr_p (y_pick_f rfl rfl) rfl rfl ?_
            refine tr_p (y_assign rfl) rfl rfl ?_
            refine tr_nil ?_
            refine tr_thenN ?_
            refine tr_ret ?_
            exact tr_ret1 rfl rfl ⟨_, rfl, H⟩
        · replace H := H.2 g12
          refine tr_s rfl rfl ?_
          refine tr_s rfl rfl ?_
          refine tr_s rfl rfl ?_
          refine tr_p (y_pick_f rfl rfl) rfl rfl ?_
          refine tr_p (y_move rfl) rfl rfl ?_
          refine tr_s rfl rfl ?_
          refine tr_s rfl rfl ?_
          refine tr_p (y_pick_f rfl rfl) rfl rfl ?_
          refine tr_p (y_move rfl) rfl rfl ?_
          refine tr_s rfl rfl ?_
          refine tr_s rfl rfl ?_
          refine tr_p (y_pick_f rfl rfl) rfl rfl ?_
          refine tr_p (y_move rfl) rfl rfl ?_
          refine tr_s rfl rfl ?_
          refine tr_s rfl rfl ?_
          refine tr_p (y_pick_f rfl rfl) rfl rfl ?_
          refine tr_p (y_assign rfl) rfl rfl ?_
          refine tr_nil ?_
          refine tr_thenN ?_
          refine tr_ret ?_
          exact tr_ret1 rfl rfl ⟨_, rfl, H⟩
      · replace H := H.2 g9
        refine tr_s rfl rfl ?_
        refine tr_s rfl rfl ?_
        refine tr_s rfl rfl ?_
        refine tr_p (y_pick_f rfl rfl) rfl rfl ?_
        refine tr_p (y_move rfl) rfl rfl ?_
        refine tr_s rfl rfl ?_
        refine tr_s rfl rfl ?_
        refine tr_s rfl rfl ?_
        refine tr_p (y_pick_f rfl rfl) rfl rfl ?_
        refine tr_p (y_move rfl) rfl rfl ?_
        refine tr_s rfl rfl ?_
        refine tr_s rfl rfl ?_
        refine tr_p (y_pick_f rfl rfl) rfl rfl ?_
        refine tr_p (y_move rfl) rfl rfl ?_
        refine tr_s rfl rfl ?_
        refine tr_s rfl rfl ?_
        refine tr_p (y_pick_f rfl rfl) rfl rfl ?_
        refine tr_p (y_move rfl) rfl rfl ?_
        refine tr_s rfl rfl ?_
        refine tr_s rfl rfl ?_
        refine tr_p (y_pick_f rfl rfl) rfl rfl ?_
        refine tr_p (y_assign rfl) rfl rfl ?_
        refine tr_nil ?_
        refine tr_thenN ?_
        refine tr_ret ?_
        exact tr_ret1 rfl rfl ⟨_, rfl, H⟩
    · replace H := H.2 g6
      refine tr_s rfl rfl ?_
      refine tr_s rfl rfl ?_
      refine tr_s rfl rfl ?_
      refine tr_p (y_pick_f rfl rfl) rfl rfl ?_
      refine tr_p (y_move rfl) rfl rfl ?_
      refine tr_s rfl rfl ?_
      refine tr_s rfl rfl ?_
      refine tr_s rfl rfl ?_
      refine tr_p (y_pick_f rfl rfl) rfl rfl ?_
      refine tr_p (y_move rfl) rfl rfl ?_
      refine tr_s rfl rfl ?_
      refine tr_s rfl rfl ?_
      refine tr_s rfl rfl ?_
      refine tr_p (y_pick_f rfl rfl) rfl rfl ?_
      refine tr_p (y_move rfl) rfl rfl ?_
      refine tr_s rfl rfl ?_
      refine tr_s rfl rfl ?_
      refine tr_p (y_pick_f rfl rfl) rfl rfl ?_
      refine tr_p (y_move rfl) rfl rfl ?_
      refine tr_s rfl rfl ?_
      refine tr_s rfl rfl ?_
      refine tr_p (y_pick_f rfl rfl) rfl rfl ?_
      refine tr_p (y_move rfl) rfl rfl ?_
      refine tr_s rfl rfl ?_
      refine tr_s rfl rfl ?_
      refine tr_p (y_pick_f rfl rfl) rfl rfl ?_
      refine tr_p (y_assign rfl) rfl rfl ?_
      refine tr_nil ?_
      refine tr_thenN ?_
      refine tr_ret ?_
      exact tr_ret1 rfl rfl ⟨_, rfl, H⟩
  · replace H := H.2 g3
    refine tr_s rfl rfl ?_
    refine tr_s rfl rfl ?_
    refine tr_s rfl rfl ?_
    refine tr_p (y_pick_f rfl rfl) rfl rfl ?_
    refine tr_p (y_move rfl) rfl rfl ?_
    refine tr_s rfl rfl ?_
    refine tr_s rfl rfl ?_
    refine tr_s rfl rfl ?_
    refine tr_p (y_pick_f rfl rfl) rfl rfl ?_
    refine tr_p (y_move rfl) rfl rfl ?_
    refine tr_s rfl rfl ?_
    refine tr_s rfl rfl ?_
    refine tr_s rfl rfl ?_
    refine tr_p (y_pick_f rfl rfl) rfl rfl ?_
    refine tr_p (y_move rfl) rfl rfl ?_
    refine tr_s rfl rfl ?_
    refine tr_s rfl rfl ?_
    refine tr_s rfl rfl ?_
    refine tr_p (y_pick_f rfl rfl) rfl rfl ?_
    refine tr_p (y_move rfl) rfl rfl ?_
    refine tr_s rfl rfl ?_
    refine tr_s rfl rfl ?_
    refine tr_p (y_pick_f rfl rfl) rfl rfl ?_
    refine tr_p (y_move rfl) rfl rfl ?_
    refine tr_s rfl rfl ?_
    refine tr_s rfl rfl ?_
    refine tr_p (y_pick_f rfl rfl) rfl rfl ?_
    refine tr_p (y_move rfl) rfl rfl ?_
    refine tr_s rfl rfl ?_
    refine tr_s rfl rfl ?_
    refine tr_p (y_pick_f rfl rfl) rfl rfl ?_
    refine tr_p (y_assign rfl) rfl rfl ?_
    refine tr_nil ?_
    refine tr_thenN ?_
    refine tr_ret ?_
    exact tr_ret1 rfl rfl ⟨_, rfl, H⟩

/-- spate/table.New[int] -/
def F.table_New_int  (h : H) (Q : (Option Addr) → H → Prop) : Prop :=
  runL PP (Instr.makeSlice 71 (.int .i64 8) (.int .i64 8)) h fun s2 h1 =>
  new h1 ((⟨s2, (⟨none, 0, 0⟩ : Sl), 0, 0⟩ : S_table_Table_int).cells.toArray) ty_73 fun a4 h3 =>
  Q (some a4) h3
theorem F.table_New_int_ok  {h : H} {Q : (Option Addr) → H → Prop} (H : F.table_New_int  h Q) : Fn PP 19 ([] : List Value).toArray h fun r h' => ∃ r0, r = (.pointer r0) ∧ Q r0 h' := by
  unfold F.table_New_int at H
  refine fn_of Try.func19 Try.ntmps19 rfl rfl fun w0 => ?_
  refine tr_sub [] trivial ?_
  refine tr_seq ?_
  refine tr_region ?_
  refine tr_p (y_assign rfl) rfl rfl ?_
  refine tr_nil ?_
  refine tr_thenN ?_
  refine tr_seq ?_
  refine tr_region ?_
  refine tr_e (f_make rfl rfl H) rfl rfl ?_
  rintro _ h1 ⟨s2, rfl, H⟩
  refine tr_p (f_build rfl (bd_73_0 s2)) rfl rfl ?_
  refine tr_e (f_box (cs := (⟨s2, (⟨none, 0, 0⟩ : Sl), 0, 0⟩ : S_table_Table_int).cells.toArray) rfl rfl H) rfl rfl ?_
  rintro _ h3 ⟨a4, rfl, H⟩
  refine tr_p (y_assign rfl) rfl rfl ?_
  refine tr_nil ?_
  refine tr_thenN ?_
  refine tr_ret ?_
  exact tr_ret1 rfl rfl ⟨_, rfl, H⟩

/-- spate/table.home[int] -/
def F.table_home_int (p0 : Sl) (p1 : ByteArray) (h : H) (Q : Int → H → Prop) : Prop :=
  F.table_Hash p1 h fun r2 h1 =>
  ((IntKind.wrap .u64 (p0.len : Int)) : Int) ≠ 0 ∧
  Q (IntKind.wrap .i64 (Int.tmod r2 (IntKind.wrap .u64 (p0.len : Int)))) h1
theorem F.table_home_int_ok {p0 : Sl} {p1 : ByteArray} {h : H} {Q : Int → H → Prop} (H : F.table_home_int p0 p1 h Q) : Fn PP 48 ([p0.enc, (.string p1)] : List Value).toArray h fun r h' => ∃ r0, r = (.int .i64 r0) ∧ Q r0 h' := by
  unfold F.table_home_int at H
  refine fn_of Try.func48 Try.ntmps48 rfl rfl fun w0 => ?_
  refine tr_sub [(0, p0.enc), (1, (.string p1))] ⟨rfl, rfl, trivial⟩ ?_
  refine tr_seq ?_
  refine tr_region ?_
  refine tr_p (y_assign rfl) rfl rfl ?_
  refine tr_nil ?_
  refine tr_thenN ?_
  refine tr_seq ?_
  refine tr_region ?_
  refine tr_p (y_move rfl) rfl rfl ?_
  refine tr_e (e_call Try.call16 rfl (F.table_Hash_ok H)) rfl rfl ?_
  rintro _ h1 ⟨r2, rfl, H⟩
  refine tr_p (y_move rfl) rfl rfl ?_
  refine tr_p (y_len (ts := #[]) Try.runUnderlying71 (o := p0.ptr) (n := p0.len) (cap := p0.cap) rfl) rfl rfl ?_
  refine tr_p (y_cvt Try.runUnderlying3 Try.runUnderlying26 rfl) rfl rfl ?_
  obtain ⟨e3, H⟩ := H
  refine tr_p (y_rem rfl rfl e3) rfl rfl ?_
  refine tr_p (y_cvt Try.runUnderlying26 Try.runUnderlying3 rfl) rfl rfl ?_
  refine tr_p (y_assign rfl) rfl rfl ?_
  refine tr_nil ?_
  refine tr_thenN ?_
  refine tr_ret ?_
  exact tr_ret1 rfl rfl ⟨_, rfl, H⟩

def F.table_find_int.j2 (Q : Int → Bool → H → Prop) (C1 : Sl → ByteArray → Int → H → Prop) (x0 : Sl) (x1 : ByteArray) (x6 : Int) (h : H) : Prop :=
  ((x0.len : Int) : Int) ≠ 0 ∧
  C1 x0 x1 (Int.tmod (IntKind.wrap .i64 (x6 + 1)) (x0.len : Int)) h
def F.table_find_int.j3 (Q : Int → Bool → H → Prop) (C1 : Sl → ByteArray → Int → H → Prop) (x0 : Sl) (x1 : ByteArray) (x6 : Int) (x38 : Bool) (h : H) : Prop :=
  (x38 = true →
  Q x6 true h) ∧
  (x38 = false →
  F.table_find_int.j2 Q C1 x0 x1 x6 h)
def F.table_find_int.l1 (Q : Int → Bool → H → Prop) : Nat → Sl → ByteArray → Int → H → Prop
  | 0, _, _, _, _ => False
  | q1 + 1, x0, x1, x6, h =>
    idxA x0 x6 3 fun a4 =>
    ldI .u8 h (a4.add 0) fun y6 =>
    (((y6 != 0)) = true →
    idxA x0 x6 3 fun a11 =>
    ldI .u8 h (a11.add 0) fun y13 =>
    (((y13 == 1)) = true →
    idxA x0 x6 3 fun a16 =>
    ldS h (a16.add 1) fun y18 =>
    F.table_find_int.j3 Q (F.table_find_int.l1 Q q1) x0 x1 x6 (y18.toList == x1.toList) h) ∧
    (((y13 == 1)) = false →
    F.table_find_int.j3 Q (F.table_find_int.l1 Q q1) x0 x1 x6 false h)) ∧
    (((y6 != 0)) = false →
    Q x6 false h)
/-- spate/table.find[int] -/
def F.table_find_int (p0 : Sl) (p1 : ByteArray) (h : H) (Q : Int → Bool → H → Prop) : Prop :=
  ((((p0.len : Int) == 0)) = true →
  Q 0 false h) ∧
  ((((p0.len : Int) == 0)) = false →
  F.table_home_int p0 p1 h fun r3 h2 =>
  ∃ m, F.table_find_int.l1 Q m p0 p1 r3 h2)
theorem F.table_find_int_ok {p0 : Sl} {p1 : ByteArray} {h : H} {Q : Int → Bool → H → Prop} (H : F.table_find_int p0 p1 h Q) : Fn PP 47 ([p0.enc, (.string p1)] : List Value).toArray h fun r h' => ∃ r0 r1, r = .tuple #[(.int .i64 r0), (.bool r1)] ∧ Q r0 r1 h' := by
  unfold F.table_find_int at H
  refine fn_of Try.func47 Try.ntmps47 rfl rfl fun w0 => ?_
  refine tr_sub [(0, p0.enc), (1, (.string p1))] ⟨rfl, rfl, trivial⟩ ?_
  refine tr_seq ?_
  refine tr_region ?_
  refine tr_p (y_assign rfl) rfl rfl ?_
  refine tr_p (y_assign rfl) rfl rfl ?_
  refine tr_nil ?_
  refine tr_thenN ?_
  refine tr_seq ?_
  refine tr_seq ?_
  refine tr_region ?_
  refine tr_p (y_move rfl) rfl rfl ?_
  refine tr_p (y_len (ts := #[]) Try.runUnderlying71 (o := p0.ptr) (n := p0.len) (cap := p0.cap) rfl) rfl rfl ?_
  refine tr_p (y_eql rfl rfl) rfl rfl ?_
  refine tr_nil ?_
  refine tr_thenN ?_
  refine tr_cond rfl (fun g1 => ?_) (fun g1 => ?_)
  · replace H := H.1 g1
    refine tr_seq ?_
    refine tr_region ?_
    refine tr_p (y_assign rfl) rfl rfl ?_
    refine tr_p (y_assign rfl) rfl rfl ?_
    refine tr_nil ?_
    refine tr_thenN ?_
    refine tr_ret ?_
    refine tr_thenR ?_
    exact tr_ret2 rfl rfl rfl ⟨_, _, rfl, H⟩
  · replace H := H.2 g1
    refine tr_skip ?_
    refine tr_thenN ?_
    refine tr_seq ?_
    refine tr_region ?_
    refine tr_p (y_move rfl) rfl rfl ?_
    refine tr_p (y_move rfl) rfl rfl ?_
    refine tr_e (e_call Try.call48 rfl (F.table_home_int_ok H)) rfl rfl ?_
    rintro _ h2 ⟨r3, rfl, H⟩
    refine tr_p (y_assign rfl) rfl rfl ?_
    refine tr_nil ?_
    refine tr_thenN ?_
    refine tr_seq ?_
    refine tr_block ?_
    obtain ⟨m20, H⟩ := H
    refine tr_sub [(0, p0.enc), (1, (.string p1)), (6, (.int .i64 r3))] ⟨rfl, rfl, rfl, trivial⟩ ?_
    refine tr_loop_j (fun m L' h => ∃ (x0 : Sl) (x1 : ByteArray) (x6 : Int), L' = [(0, x0.enc), (1, (.string x1)), (6, (.int .i64 x6))] ∧ F.table_find_int.l1 Q m x0 x1 x6 h) ?_ ?_ m20 ⟨_, _, _, rfl, H⟩
    · rintro L' h ⟨_, _, _, _, H⟩; exact H
    · rintro q1 L' h ⟨x0, x1, x6, rfl, H⟩
      unfold F.table_find_int.l1 at H
      refine tr_seq ?_
      refine tr_seq ?_
      refine tr_region ?_
      refine tr_p (y_move rfl) rfl rfl ?_
      refine tr_p (y_move rfl) rfl rfl ?_
      obtain ⟨a4, e5, H⟩ := H
      refine tr_p (f_idx (s := x0) Try.runUnderlying71 Try.sizeOf77 rfl rfl e5) rfl rfl ?_
      refine tr_p (y_fa (off := 0) Try.runUnderlying77 fo_77_0 rfl) rfl rfl ?_
      obtain ⟨y6, k7, H⟩ := H
      refine tr_h (y_ld Try.isAgg5 rfl) k7 rfl rfl ?_
      refine tr_p (y_neq rfl rfl) rfl rfl ?_
      refine tr_nil ?_
      refine tr_thenN ?_
      refine tr_cond rfl (fun g8 => ?_) (fun g8 => ?_)
      · replace H := H.1 g8
        refine tr_skip ?_
        refine tr_thenN ?_
        refine tr_seq_j (fun L' h => ∃ (x0 : Sl) (x1 : ByteArray) (x6 : Int), L' = [(0, x0.enc), (1, (.string x1)), (6, (.int .i64 x6))] ∧ F.table_find_int.j2 Q (F.table_find_int.l1 Q q1) x0 x1 x6 h) ?_ ?_
        · rintro L' h ⟨x0, x1, x6, rfl, H⟩
          unfold F.table_find_int.j2 at H
          refine tr_region ?_
          refine tr_p (y_move rfl) rfl rfl ?_
          refine tr_p (y_add rfl rfl) rfl rfl ?_
          refine tr_p (y_move rfl) rfl rfl ?_
          refine tr_p (y_len (ts := #[]) Try.runUnderlying71 (o := x0.ptr) (n := x0.len) (cap := x0.cap) rfl) rfl rfl ?_
          obtain ⟨e9, H⟩ := H
          refine tr_p (y_rem rfl rfl e9) rfl rfl ?_
          refine tr_p (y_assign rfl) rfl rfl ?_
          refine tr_nil ?_
          refine tr_thenN ?_
          exact tr_join [(0, x0.enc), (1, (.string x1)), (6, (.int .i64 (Int.tmod (IntKind.wrap .i64 (x6 + 1)) (x0.len : Int))))] ⟨rfl, rfl, rfl, trivial⟩ ⟨_, _, _, rfl, H⟩
        · refine tr_block ?_
          refine tr_seq_j (fun L' h => ∃ (x0 : Sl) (x1 : ByteArray) (x6 : Int) (x38 : Bool), L' = [(0, x0.enc), (1, (.string x1)), (6, (.int .i64 x6)), (38, (.bool x38))] ∧ F.table_find_int.j3 Q (F.table_find_int.l1 Q q1) x0 x1 x6 x38 h) ?_ ?_
          · rintro L' h ⟨x0, x1, x6, x38, rfl, H⟩
            unfold F.table_find_int.j3 at H
            refine tr_cond rfl (fun g10 => ?_) (fun g10 => ?_)
            · replace H := H.1 g10
              refine tr_seq ?_
              refine tr_region ?_
              refine tr_p (y_move rfl) rfl rfl ?_
              refine tr_p (y_assign rfl) rfl rfl ?_
              refine tr_p (y_assign rfl) rfl rfl ?_
              refine tr_nil ?_
              refine tr_thenN ?_
              refine tr_ret ?_
              refine tr_blockR ?_
              refine tr_thenR ?_
              refine tr_thenR ?_
              refine tr_blockR ?_
              refine tr_thenR ?_
              exact tr_ret2 rfl rfl rfl ⟨_, _, rfl, H⟩
            · replace H := H.2 g10
              refine tr_skip ?_
              refine tr_blockN ?_
              refine tr_thenN ?_
              exact tr_join [(0, x0.enc), (1, (.string x1)), (6, (.int .i64 x6))] ⟨rfl, rfl, rfl, trivial⟩ ⟨_, _, _, rfl, H⟩
          · refine tr_region ?_
            refine tr_p (y_move rfl) rfl rfl ?_
            refine tr_p (y_move rfl) rfl rfl ?_
            obtain ⟨a11, e12, H⟩ := H
            refine tr_p (f_idx (s := x0) Try.runUnderlying71 Try.sizeOf77 rfl rfl e12) rfl rfl ?_
            refine tr_p (y_fa (off := 0) Try.runUnderlying77 fo_77_0 rfl) rfl rfl ?_
            obtain ⟨y13, k14, H⟩ := H
            refine tr_h (y_ld Try.isAgg5 rfl) k14 rfl rfl ?_
            refine tr_p (y_eql rfl rfl) rfl rfl ?_
            refine tr_p (y_move rfl) rfl rfl ?_
            refine tr_split (t := 30) rfl (fun g15 => ?_) (fun g15 => ?_)
            · replace H := H.1 g15
              refine tr_p (y_move rfl) rfl rfl ?_
              refine tr_p (y_move rfl) rfl rfl ?_
              obtain ⟨a16, e17, H⟩ := H
              refine tr_p (f_idx (s := x0) Try.runUnderlying71 Try.sizeOf77 rfl rfl e17) rfl rfl ?_
              refine tr_p (y_fa (off := 1) Try.runUnderlying77 fo_77_1 rfl) rfl rfl ?_
              obtain ⟨y18, k19, H⟩ := H
              refine tr_h (y_ld Try.isAgg9 rfl) k19 rfl rfl ?_
              refine tr_p (y_move rfl) rfl rfl ?_
              refine tr_p (y_seql rfl rfl) rfl rfl ?_
              refine tr_p (y_pick_t rfl rfl) rfl rfl ?_
              refine tr_nil ?_
              refine tr_thenN ?_
              exact tr_join [(0, x0.enc), (1, (.string x1)), (6, (.int .i64 x6)), (38, (.bool (y18.toList == x1.toList)))] ⟨rfl, rfl, rfl, rfl, trivial⟩ ⟨_, _, _, _, rfl, H⟩
            · replace H := H.2 g15
              refine tr_s rfl rfl ?_
              refine tr_s rfl rfl ?_
              refine tr_s rfl rfl ?_
              refine tr_s rfl rfl ?_
              refine tr_s rfl rfl ?_
              refine tr_s rfl rfl ?_
              refine tr_s rfl rfl ?_
              refine tr_p (y_pick_f rfl rfl) rfl rfl ?_
              refine tr_nil ?_
              refine tr_thenN ?_
              exact tr_join [(0, x0.enc), (1, (.string x1)), (6, (.int .i64 x6)), (38, (.bool false))] ⟨rfl, rfl, rfl, rfl, trivial⟩ ⟨_, _, _, _, rfl, H⟩
      · replace H := H.2 g8
        refine tr_exit ?_
        refine tr_thenE ?_
        refine tr_thenE ?_
        refine tr_hit ?_
        refine tr_thenN ?_
        refine tr_seq ?_
        refine tr_region ?_
        refine tr_p (y_move rfl) rfl rfl ?_
        refine tr_p (y_assign rfl) rfl rfl ?_
        refine tr_p (y_assign rfl) rfl rfl ?_
        refine tr_nil ?_
        refine tr_thenN ?_
        refine tr_ret ?_
        exact tr_ret2 rfl rfl rfl ⟨_, _, rfl, H⟩

/-- (*spate/table.Table[int]).Left -/
def F.table_Table_int_Left (p0 : Option Addr) (h : H) (Q : Int → H → Prop) : Prop :=
  nn p0 fun a1 =>
  ldL h (a1.add 1) fun y3 =>
  nn p0 fun a5 =>
  ldI .i64 h (a5.add 2) fun y7 =>
  Q (IntKind.wrap .i64 ((y3.len : Int) - y7)) h
theorem F.table_Table_int_Left_ok {p0 : Option Addr} {h : H} {Q : Int → H → Prop} (H : F.table_Table_int_Left p0 h Q) : Fn PP 27 ([(.pointer p0)] : List Value).toArray h fun r h' => ∃ r0, r = (.int .i64 r0) ∧ Q r0 h' := by
  unfold F.table_Table_int_Left at H
  refine fn_of Try.func27 Try.ntmps27 rfl rfl fun w0 => ?_
  refine tr_sub [(0, (.pointer p0))] ⟨rfl, trivial⟩ ?_
  refine tr_seq ?_
  refine tr_region ?_
  refine tr_p (y_assign rfl) rfl rfl ?_
  refine tr_nil ?_
  refine tr_thenN ?_
  refine tr_seq ?_
  refine tr_draw mixed [0, 1, 3, 7, 15, 0, 32, 96, 224, 511, 1023] (by kernel_rfl) ?_
  refine g_p 0 1 rfl (by kernel_rfl) (y_move rfl) rfl rfl ?_
  obtain ⟨a1, e2, H⟩ := H
  refine g_p 1 3 rfl (by kernel_rfl) (f_nn rfl e2) rfl rfl ?_
  refine g_p 2 7 rfl (by kernel_rfl) (y_fa (off := 1) Try.runUnderlying73 fo_73_1 rfl) rfl rfl ?_
  obtain ⟨y3, k4, H⟩ := H
  refine g_h 3 15 rfl (by kernel_rfl) (y_ld Try.isAgg71 rfl) k4 rfl rfl ?_
  refine g_p 4 31 rfl (by kernel_rfl) (y_len (ts := #[]) Try.runUnderlying71 (o := y3.ptr) (n := y3.len) (cap := y3.cap) rfl) rfl rfl ?_
  refine g_p 5 63 rfl (by kernel_rfl) (y_move rfl) rfl rfl ?_
  obtain ⟨a5, e6, H⟩ := H
  refine g_p 6 127 rfl (by kernel_rfl) (f_nn rfl e6) rfl rfl ?_
  refine g_p 7 255 rfl (by kernel_rfl) (y_fa (off := 2) Try.runUnderlying73 fo_73_2 rfl) rfl rfl ?_
  obtain ⟨y7, k8, H⟩ := H
  refine g_h 8 511 rfl (by kernel_rfl) (y_ld Try.isAgg3 rfl) k8 rfl rfl ?_
  refine g_p 9 1023 rfl (by kernel_rfl) (y_sub rfl rfl) rfl rfl ?_
  refine g_p 10 2047 rfl (by kernel_rfl) (y_assign rfl) rfl rfl ?_
  refine g_d (by kernel_rfl) ?_
  refine tr_thenN ?_
  refine tr_ret ?_
  exact tr_ret1 rfl rfl ⟨_, rfl, H⟩

def F.table_Table_int_Move.j3 (Q : Int → H → Prop) (C1 : (Option Addr) → Int → H → Prop) (x0 : Option Addr) (x1 : Int) (h : H) : Prop :=
  C1 x0 (IntKind.wrap .i64 (x1 - 1)) h
def F.table_Table_int_Move.j4 (Q : Int → H → Prop) (C1 : (Option Addr) → Int → H → Prop) (x0 : Option Addr) (x1 : Int) (h : H) : Prop :=
  nn x0 fun a1 =>
  ldI .i64 h (a1.add 2) fun y3 =>
  nn x0 fun a5 =>
  stH h (a5.add 2) [(.int .i64 (IntKind.wrap .i64 (y3 + 1)))] fun h7 =>
  F.table_Table_int_Move.j3 Q C1 x0 x1 h7
def F.table_Table_int_Move.j2 (Q : Int → H → Prop) (C1 : (Option Addr) → Int → H → Prop) (x0 : Option Addr) (x1 : Int) (h : H) : Prop :=
  nn x0 fun a8 =>
  ldL h (a8.add 1) fun y10 =>
  nn x0 fun a12 =>
  ldI .i64 h (a12.add 2) fun y14 =>
  idxA y10 y14 3 fun a16 =>
  ldI .u8 h (a16.add 0) fun y18 =>
  (((y18 == 1)) = true →
  nn x0 fun a21 =>
  ldL h (a21.add 0) fun y23 =>
  ldS h (a16.add 1) fun y25 =>
  F.table_find_int y23 y25 h fun r28 r29 h27 =>
  nn x0 fun a30 =>
  ldL h27 (a30.add 0) fun y32 =>
  ld_S_table_place_int h27 a16 fun y34 =>
  idxA y32 r28 3 fun a36 =>
  stH h27 a36 y34.cells fun h38 =>
  stH h38 a16 ((⟨2, (⟨#[]⟩ : ByteArray), 0⟩ : S_table_place_int).cells) fun h39 =>
  F.table_Table_int_Move.j4 Q C1 x0 x1 h39) ∧
  (((y18 == 1)) = false →
  F.table_Table_int_Move.j4 Q C1 x0 x1 h)
def F.table_Table_int_Move.j6 (Q : Int → H → Prop) (x0 : Option Addr) (h : H) : Prop :=
  F.table_Table_int_Left x0 h fun r42 h41 =>
  Q r42 h41
def F.table_Table_int_Move.j5 (Q : Int → H → Prop) (C1 : (Option Addr) → Int → H → Prop) (x0 : Option Addr) (x1 : Int) (x21 : Bool) (h : H) : Prop :=
  (x21 = true →
  F.table_Table_int_Move.j2 Q C1 x0 x1 h) ∧
  (x21 = false →
  nn x0 fun a43 =>
  ldI .i64 h (a43.add 2) fun y45 =>
  nn x0 fun a47 =>
  ldL h (a47.add 1) fun y49 =>
  (((y45 == (y49.len : Int))) = true →
  nn x0 fun a52 =>
  stH h (a52.add 1) [(⟨none, 0, 0⟩ : Sl).enc] fun h54 =>
  nn x0 fun a55 =>
  stH h54 (a55.add 2) [(.int .i64 0)] fun h57 =>
  F.table_Table_int_Move.j6 Q x0 h57) ∧
  (((y45 == (y49.len : Int))) = false →
  F.table_Table_int_Move.j6 Q x0 h))
def F.table_Table_int_Move.l1 (Q : Int → H → Prop) : Nat → (Option Addr) → Int → H → Prop
  | 0, _, _, _ => False
  | q1 + 1, x0, x1, h =>
    ((decide (x1 > 0)) = true →
    nn x0 fun a59 =>
    ldI .i64 h (a59.add 2) fun y61 =>
    nn x0 fun a63 =>
    ldL h (a63.add 1) fun y65 =>
    F.table_Table_int_Move.j5 Q (F.table_Table_int_Move.l1 Q q1) x0 x1 (decide (y61 < (y65.len : Int))) h) ∧
    ((decide (x1 > 0)) = false →
    F.table_Table_int_Move.j5 Q (F.table_Table_int_Move.l1 Q q1) x0 x1 false h)
/-- (*spate/table.Table[int]).Move -/
def F.table_Table_int_Move (p0 : Option Addr) (p1 : Int) (h : H) (Q : Int → H → Prop) : Prop :=
  ∃ m, F.table_Table_int_Move.l1 Q m p0 p1 h
theorem F.table_Table_int_Move_ok {p0 : Option Addr} {p1 : Int} {h : H} {Q : Int → H → Prop} (H : F.table_Table_int_Move p0 p1 h Q) : Fn PP 26 ([(.pointer p0), (.int .i64 p1)] : List Value).toArray h fun r h' => ∃ r0, r = (.int .i64 r0) ∧ Q r0 h' := by
  unfold F.table_Table_int_Move at H
  refine fn_of Try.func26 Try.ntmps26 rfl rfl fun w0 => ?_
  refine tr_sub [(0, (.pointer p0)), (1, (.int .i64 p1))] ⟨rfl, rfl, trivial⟩ ?_
  refine tr_seq ?_
  refine tr_region ?_
  refine tr_p (y_assign rfl) rfl rfl ?_
  refine tr_nil ?_
  refine tr_thenN ?_
  refine tr_seq ?_
  refine tr_block ?_
  obtain ⟨m67, H⟩ := H
  refine tr_sub [(0, (.pointer p0)), (1, (.int .i64 p1))] ⟨rfl, rfl, trivial⟩ ?_
  refine tr_loop_j (fun m L' h => ∃ (x0 : Option Addr) (x1 : Int), L' = [(0, (.pointer x0)), (1, (.int .i64 x1))] ∧ F.table_Table_int_Move.l1 Q m x0 x1 h) ?_ ?_ m67 ⟨_, _, rfl, H⟩
  · rintro L' h ⟨_, _, _, H⟩; exact H
  · rintro q1 L' h ⟨x0, x1, rfl, H⟩
    unfold F.table_Table_int_Move.l1 at H
    refine tr_seq_j (fun L' h => ∃ (x0 : Option Addr) (x1 : Int), L' = [(0, (.pointer x0)), (1, (.int .i64 x1))] ∧ F.table_Table_int_Move.j2 Q (F.table_Table_int_Move.l1 Q q1) x0 x1 h) ?_ ?_
    · rintro L' h ⟨x0, x1, rfl, H⟩
      unfold F.table_Table_int_Move.j2 at H
      refine tr_seq_j (fun L' h => ∃ (x0 : Option Addr) (x1 : Int), L' = [(0, (.pointer x0)), (1, (.int .i64 x1))] ∧ F.table_Table_int_Move.j3 Q (F.table_Table_int_Move.l1 Q q1) x0 x1 h) ?_ ?_
      · rintro L' h ⟨x0, x1, rfl, H⟩
        unfold F.table_Table_int_Move.j3 at H
        refine tr_region ?_
        refine tr_p (y_move rfl) rfl rfl ?_
        refine tr_p (y_sub rfl rfl) rfl rfl ?_
        refine tr_p (y_assign rfl) rfl rfl ?_
        refine tr_nil ?_
        refine tr_thenN ?_
        exact tr_join [(0, (.pointer x0)), (1, (.int .i64 (IntKind.wrap .i64 (x1 - 1))))] ⟨rfl, rfl, trivial⟩ ⟨_, _, rfl, H⟩
      · refine tr_block ?_
        refine tr_seq_j (fun L' h => ∃ (x0 : Option Addr) (x1 : Int), L' = [(0, (.pointer x0)), (1, (.int .i64 x1))] ∧ F.table_Table_int_Move.j4 Q (F.table_Table_int_Move.l1 Q q1) x0 x1 h) ?_ ?_
        · rintro L' h ⟨x0, x1, rfl, H⟩
          unfold F.table_Table_int_Move.j4 at H
          refine tr_region ?_
          refine tr_p (y_move rfl) rfl rfl ?_
          obtain ⟨a1, e2, H⟩ := H
          refine tr_p (f_nn rfl e2) rfl rfl ?_
          refine tr_p (y_fa (off := 2) Try.runUnderlying73 fo_73_2 rfl) rfl rfl ?_
          obtain ⟨y3, k4, H⟩ := H
          refine tr_h (y_ld Try.isAgg3 rfl) k4 rfl rfl ?_
          refine tr_p (y_add rfl rfl) rfl rfl ?_
          obtain ⟨a5, e6, H⟩ := H
          refine tr_p (f_nn rfl e6) rfl rfl ?_
          refine tr_p (y_fa (off := 2) Try.runUnderlying73 fo_73_2 rfl) rfl rfl ?_
          refine tr_e (f_store (vs := [(.int .i64 (IntKind.wrap .i64 (y3 + 1)))]) Try.sizeOf3 rfl rfl rfl rfl (one1 rfl) H) rfl rfl ?_
          rintro _ h7 ⟨rfl, H⟩
          refine tr_nil ?_
          refine tr_blockN ?_
          refine tr_thenN ?_
          exact tr_join [(0, (.pointer x0)), (1, (.int .i64 x1))] ⟨rfl, rfl, trivial⟩ ⟨_, _, rfl, H⟩
        · refine tr_seq ?_
          refine tr_draw mixed [0, 1, 3, 7, 0, 16, 48, 112, 255, 511] (by kernel_rfl) ?_
          refine g_p 0 1 rfl (by kernel_rfl) (y_move rfl) rfl rfl ?_
          obtain ⟨a8, e9, H⟩ := H
          refine g_p 1 3 rfl (by kernel_rfl) (f_nn rfl e9) rfl rfl ?_
          refine g_p 2 7 rfl (by kernel_rfl) (y_fa (off := 1) Try.runUnderlying73 fo_73_1 rfl) rfl rfl ?_
          obtain ⟨y10, k11, H⟩ := H
          refine g_h 3 15 rfl (by kernel_rfl) (y_ld Try.isAgg71 rfl) k11 rfl rfl ?_
          refine g_p 4 31 rfl (by kernel_rfl) (y_move rfl) rfl rfl ?_
          obtain ⟨a12, e13, H⟩ := H
          refine g_p 5 63 rfl (by kernel_rfl) (f_nn rfl e13) rfl rfl ?_
          refine g_p 6 127 rfl (by kernel_rfl) (y_fa (off := 2) Try.runUnderlying73 fo_73_2 rfl) rfl rfl ?_
          obtain ⟨y14, k15, H⟩ := H
          refine g_h 7 255 rfl (by kernel_rfl) (y_ld Try.isAgg3 rfl) k15 rfl rfl ?_
          obtain ⟨a16, e17, H⟩ := H
          refine g_p 8 511 rfl (by kernel_rfl) (f_idx (s := y10) Try.runUnderlying71 Try.sizeOf77 rfl rfl e17) rfl rfl ?_
          refine g_p 9 1023 rfl (by kernel_rfl) (y_assign rfl) rfl rfl ?_
          refine g_d (by kernel_rfl) ?_
          refine tr_thenN ?_
          refine tr_seq ?_
          refine tr_region ?_
          refine tr_p (y_move rfl) rfl rfl ?_
          refine tr_p (y_nil rfl) rfl rfl ?_
          refine tr_p (y_fa (off := 0) Try.runUnderlying77 fo_77_0 rfl) rfl rfl ?_
          obtain ⟨y18, k19, H⟩ := H
          refine tr_h (y_ld Try.isAgg5 rfl) k19 rfl rfl ?_
          refine tr_p (y_eql rfl rfl) rfl rfl ?_
          refine tr_nil ?_
          refine tr_thenN ?_
          refine tr_cond rfl (fun g20 => ?_) (fun g20 => ?_)
          · replace H := H.1 g20
            refine tr_seq ?_
            refine tr_draw mixed [0, 1, 3, 7, 0, 16, 48, 112, 255, 511, 1023, 1023, 2047, 8191] (by kernel_rfl) ?_
            refine g_p 0 1 rfl (by kernel_rfl) (y_move rfl) rfl rfl ?_
            obtain ⟨a21, e22, H⟩ := H
            refine g_p 1 3 rfl (by kernel_rfl) (f_nn rfl e22) rfl rfl ?_
            refine g_p 2 7 rfl (by kernel_rfl) (y_fa (off := 0) Try.runUnderlying73 fo_73_0 rfl) rfl rfl ?_
            obtain ⟨y23, k24, H⟩ := H
            refine g_h 3 15 rfl (by kernel_rfl) (y_ld Try.isAgg71 rfl) k24 rfl rfl ?_
            refine g_p 4 31 rfl (by kernel_rfl) (y_move rfl) rfl rfl ?_
            refine g_p 5 63 rfl (by kernel_rfl) (y_nil rfl) rfl rfl ?_
            refine g_p 6 127 rfl (by kernel_rfl) (y_fa (off := 1) Try.runUnderlying77 fo_77_1 rfl) rfl rfl ?_
            obtain ⟨y25, k26, H⟩ := H
            refine g_h 7 255 rfl (by kernel_rfl) (y_ld Try.isAgg9 rfl) k26 rfl rfl ?_
            refine g_e 8 511 [] (by kernel_rfl) rfl (by kernel_rfl) (e_call Try.call47 rfl (F.table_find_int_ok H)) rfl rfl ?_
            rintro _ h27 ⟨r28, r29, rfl, H⟩
            refine ⟨trivial, ?_⟩
            refine g_p 9 1023 rfl (by kernel_rfl) (y_move rfl) rfl rfl ?_
            refine g_p 10 2047 rfl (by kernel_rfl) (y_ext rfl rfl) rfl rfl ?_
            refine g_p 11 4095 rfl (by kernel_rfl) (y_ext rfl rfl) rfl rfl ?_
            refine g_p 12 8191 rfl (by kernel_rfl) (y_assign rfl) rfl rfl ?_
            refine g_p 13 16383 rfl (by kernel_rfl) (y_assign rfl) rfl rfl ?_
            refine g_d (by kernel_rfl) ?_
            refine tr_thenN ?_
            refine tr_seq ?_
            refine tr_draw mixed [0, 1, 3, 7, 0, 0, 32, 96, 255, 511] (by kernel_rfl) ?_
            refine g_p 0 1 rfl (by kernel_rfl) (y_move rfl) rfl rfl ?_
            obtain ⟨a30, e31, H⟩ := H
            refine g_p 1 3 rfl (by kernel_rfl) (f_nn rfl e31) rfl rfl ?_
            refine g_p 2 7 rfl (by kernel_rfl) (y_fa (off := 0) Try.runUnderlying73 fo_73_0 rfl) rfl rfl ?_
            obtain ⟨y32, k33, H⟩ := H
            refine g_h 3 15 rfl (by kernel_rfl) (y_ld Try.isAgg71 rfl) k33 rfl rfl ?_
            refine g_p 4 31 rfl (by kernel_rfl) (y_move rfl) rfl rfl ?_
            refine g_p 5 63 rfl (by kernel_rfl) (y_move rfl) rfl rfl ?_
            refine g_p 6 127 rfl (by kernel_rfl) (y_nil rfl) rfl rfl ?_
            obtain ⟨y34, k35, H⟩ := H
            refine g_h 7 255 rfl (by kernel_rfl) (y_ldS Try.isAgg77 Try.sizeOf77 rfl rfl) k35 rfl rfl ?_
            obtain ⟨a36, e37, H⟩ := H
            refine g_p 8 511 rfl (by kernel_rfl) (f_idx (s := y32) Try.runUnderlying71 Try.sizeOf77 rfl rfl e37) rfl rfl ?_
            refine g_e 9 1023 [] (by kernel_rfl) rfl (by kernel_rfl) (f_store (vs := y34.cells) Try.sizeOf77 rfl rfl cellsOfStruct rfl (by intro v hv; exact ones_S_table_place_int _ v hv) H) rfl rfl ?_
            rintro _ h38 ⟨rfl, H⟩
            refine ⟨trivial, ?_⟩
            refine g_d (by kernel_rfl) ?_
            refine tr_thenN ?_
            refine tr_region ?_
            refine tr_p (y_move rfl) rfl rfl ?_
            refine tr_p (f_build rfl (bd_77_0 2)) rfl rfl ?_
            refine tr_p (y_nil rfl) rfl rfl ?_
            refine tr_e (f_store (vs := (⟨2, (⟨#[]⟩ : ByteArray), 0⟩ : S_table_place_int).cells) Try.sizeOf77 rfl rfl cellsOfStruct rfl (by intro v hv; exact ones_S_table_place_int _ v hv) H) rfl rfl ?_
            rintro _ h39 ⟨rfl, H⟩
            refine tr_nil ?_
            refine tr_thenN ?_
            exact tr_join [(0, (.pointer x0)), (1, (.int .i64 x1))] ⟨rfl, rfl, trivial⟩ ⟨_, _, rfl, H⟩
          · replace H := H.2 g20
            refine tr_skip ?_
            refine tr_thenN ?_
            exact tr_join [(0, (.pointer x0)), (1, (.int .i64 x1))] ⟨rfl, rfl, trivial⟩ ⟨_, _, rfl, H⟩
    · refine tr_seq_j (fun L' h => ∃ (x0 : Option Addr) (x1 : Int) (x21 : Bool), L' = [(0, (.pointer x0)), (1, (.int .i64 x1)), (21, (.bool x21))] ∧ F.table_Table_int_Move.j5 Q (F.table_Table_int_Move.l1 Q q1) x0 x1 x21 h) ?_ ?_
      · rintro L' h ⟨x0, x1, x21, rfl, H⟩
        unfold F.table_Table_int_Move.j5 at H
        refine tr_cond rfl (fun g40 => ?_) (fun g40 => ?_)
        · replace H := H.1 g40
          refine tr_skip ?_
          refine tr_thenN ?_
          exact tr_join [(0, (.pointer x0)), (1, (.int .i64 x1))] ⟨rfl, rfl, trivial⟩ ⟨_, _, rfl, H⟩
        · replace H := H.2 g40
          refine tr_exit ?_
          refine tr_thenE ?_
          refine tr_thenE ?_
          refine tr_hit ?_
          refine tr_thenN ?_
          refine tr_seq_j (fun L' h => ∃ (x0 : Option Addr), L' = [(0, (.pointer x0))] ∧ F.table_Table_int_Move.j6 Q x0 h) ?_ ?_
          · rintro L' h ⟨x0, rfl, H⟩
            unfold F.table_Table_int_Move.j6 at H
            refine tr_seq ?_
            refine tr_region ?_
            refine tr_p (y_move rfl) rfl rfl ?_
            refine tr_e (e_call Try.call27 rfl (F.table_Table_int_Left_ok H)) rfl rfl ?_
            rintro _ h41 ⟨r42, rfl, H⟩
            refine tr_p (y_assign rfl) rfl rfl ?_
            refine tr_nil ?_
            refine tr_thenN ?_
            refine tr_ret ?_
            exact tr_ret1 rfl rfl ⟨_, rfl, H⟩
          · refine tr_seq ?_
            refine tr_draw mixed [0, 1, 3, 7, 0, 16, 48, 112, 240, 511] (by kernel_rfl) ?_
            refine g_p 0 1 rfl (by kernel_rfl) (y_move rfl) rfl rfl ?_
            obtain ⟨a43, e44, H⟩ := H
            refine g_p 1 3 rfl (by kernel_rfl) (f_nn rfl e44) rfl rfl ?_
            refine g_p 2 7 rfl (by kernel_rfl) (y_fa (off := 2) Try.runUnderlying73 fo_73_2 rfl) rfl rfl ?_
            obtain ⟨y45, k46, H⟩ := H
            refine g_h 3 15 rfl (by kernel_rfl) (y_ld Try.isAgg3 rfl) k46 rfl rfl ?_
            refine g_p 4 31 rfl (by kernel_rfl) (y_move rfl) rfl rfl ?_
            obtain ⟨a47, e48, H⟩ := H
            refine g_p 5 63 rfl (by kernel_rfl) (f_nn rfl e48) rfl rfl ?_
            refine g_p 6 127 rfl (by kernel_rfl) (y_fa (off := 1) Try.runUnderlying73 fo_73_1 rfl) rfl rfl ?_
            obtain ⟨y49, k50, H⟩ := H
            refine g_h 7 255 rfl (by kernel_rfl) (y_ld Try.isAgg71 rfl) k50 rfl rfl ?_
            refine g_p 8 511 rfl (by kernel_rfl) (y_len (ts := #[]) Try.runUnderlying71 (o := y49.ptr) (n := y49.len) (cap := y49.cap) rfl) rfl rfl ?_
            refine g_p 9 1023 rfl (by kernel_rfl) (y_eql rfl rfl) rfl rfl ?_
            refine g_d (by kernel_rfl) ?_
            refine tr_thenN ?_
            refine tr_cond rfl (fun g51 => ?_) (fun g51 => ?_)
            · replace H := H.1 g51
              refine tr_region ?_
              refine tr_p (y_move rfl) rfl rfl ?_
              refine tr_p (y_move rfl) rfl rfl ?_
              obtain ⟨a52, e53, H⟩ := H
              refine tr_p (f_nn rfl e53) rfl rfl ?_
              refine tr_p (y_fa (off := 1) Try.runUnderlying73 fo_73_1 rfl) rfl rfl ?_
              refine tr_e (f_store (vs := [(⟨none, 0, 0⟩ : Sl).enc]) Try.sizeOf71 rfl rfl rfl rfl (one1 rfl) H) rfl rfl ?_
              rintro _ h54 ⟨rfl, H⟩
              obtain ⟨a55, e56, H⟩ := H
              refine tr_p (f_nn rfl e56) rfl rfl ?_
              refine tr_p (y_fa (off := 2) Try.runUnderlying73 fo_73_2 rfl) rfl rfl ?_
              refine tr_e (f_store (vs := [(.int .i64 0)]) Try.sizeOf3 rfl rfl rfl rfl (one1 rfl) H) rfl rfl ?_
              rintro _ h57 ⟨rfl, H⟩
              refine tr_nil ?_
              refine tr_thenN ?_
              exact tr_join [(0, (.pointer x0))] ⟨rfl, trivial⟩ ⟨_, rfl, H⟩
            · replace H := H.2 g51
              refine tr_skip ?_
              refine tr_thenN ?_
              exact tr_join [(0, (.pointer x0))] ⟨rfl, trivial⟩ ⟨_, rfl, H⟩
      · refine tr_draw mixed [0, 1, 3, 7, 15, 31, 63, 7, 135, 391, 903, 1927, 4095, 8191] (by kernel_rfl) ?_
        refine g_p 0 1 rfl (by kernel_rfl) (y_move rfl) rfl rfl ?_
        refine g_p 1 3 rfl (by kernel_rfl) (y_gtr rfl rfl) rfl rfl ?_
        refine g_p 2 7 rfl (by kernel_rfl) (y_move rfl) rfl rfl ?_
        refine g_split (t := 10) rfl (fun g58 => ?_) (fun g58 => ?_)
        · replace H := H.1 g58
          refine g_p 3 15 rfl (by kernel_rfl) (y_move rfl) rfl rfl ?_
          obtain ⟨a59, e60, H⟩ := H
          refine g_p 4 31 rfl (by kernel_rfl) (f_nn rfl e60) rfl rfl ?_
          refine g_p 5 63 rfl (by kernel_rfl) (y_fa (off := 2) Try.runUnderlying73 fo_73_2 rfl) rfl rfl ?_
          obtain ⟨y61, k62, H⟩ := H
          refine g_h 6 127 rfl (by kernel_rfl) (y_ld Try.isAgg3 rfl) k62 rfl rfl ?_
          refine g_p 7 255 rfl (by kernel_rfl) (y_move rfl) rfl rfl ?_
          obtain ⟨a63, e64, H⟩ := H
          refine g_p 8 511 rfl (by kernel_rfl) (f_nn rfl e64) rfl rfl ?_
          refine g_p 9 1023 rfl (by kernel_rfl) (y_fa (off := 1) Try.runUnderlying73 fo_73_1 rfl) rfl rfl ?_
          obtain ⟨y65, k66, H⟩ := H
          refine g_h 10 2047 rfl (by kernel_rfl) (y_ld Try.isAgg71 rfl) k66 rfl rfl ?_
          refine g_p 11 4095 rfl (by kernel_rfl) (y_len (ts := #[]) Try.runUnderlying71 (o := y65.ptr) (n := y65.len) (cap := y65.cap) rfl) rfl rfl ?_
          refine g_p 12 8191 rfl (by kernel_rfl) (y_lss rfl rfl) rfl rfl ?_
          refine g_p 13 16383 rfl (by kernel_rfl) (y_pick_t rfl rfl) rfl rfl ?_
          refine g_d (by kernel_rfl) ?_
          refine tr_thenN ?_
          exact tr_join [(0, (.pointer x0)), (1, (.int .i64 x1)), (21, (.bool (decide (y61 < (y65.len : Int)))))] ⟨rfl, rfl, rfl, trivial⟩ ⟨_, _, _, rfl, H⟩
        · replace H := H.2 g58
          refine g_s 3 15 rfl (by kernel_rfl) rfl rfl ?_
          refine g_s 4 31 rfl (by kernel_rfl) rfl rfl ?_
          refine g_s 5 63 rfl (by kernel_rfl) rfl rfl ?_
          refine g_s 6 127 rfl (by kernel_rfl) rfl rfl ?_
          refine g_s 7 255 rfl (by kernel_rfl) rfl rfl ?_
          refine g_s 8 511 rfl (by kernel_rfl) rfl rfl ?_
          refine g_s 9 1023 rfl (by kernel_rfl) rfl rfl ?_
          refine g_s 10 2047 rfl (by kernel_rfl) rfl rfl ?_
          refine g_s 11 4095 rfl (by kernel_rfl) rfl rfl ?_
          refine g_s 12 8191 rfl (by kernel_rfl) rfl rfl ?_
          refine g_p 13 16383 rfl (by kernel_rfl) (y_pick_f rfl rfl) rfl rfl ?_
          refine g_d (by kernel_rfl) ?_
          refine tr_thenN ?_
          exact tr_join [(0, (.pointer x0)), (1, (.int .i64 x1)), (21, (.bool false))] ⟨rfl, rfl, rfl, trivial⟩ ⟨_, _, _, rfl, H⟩

/-- (*spate/table.Table[int]).where -/
def F.table_Table_int_where (p0 : Option Addr) (p1 : ByteArray) (h : H) (Q : (Option Addr) → H → Prop) : Prop :=
  nn p0 fun a1 =>
  ldL h (a1.add 0) fun y3 =>
  F.table_find_int y3 p1 h fun r6 r7 h5 =>
  (r7 = true →
  nn p0 fun a9 =>
  ldL h5 (a9.add 0) fun y11 =>
  idxA y11 r6 3 fun a13 =>
  Q (some a13) h5) ∧
  (r7 = false →
  nn p0 fun a15 =>
  ldL h5 (a15.add 1) fun y17 =>
  F.table_find_int y17 p1 h5 fun r20 r21 h19 =>
  (r21 = true →
  nn p0 fun a23 =>
  ldL h19 (a23.add 1) fun y25 =>
  idxA y25 r20 3 fun a27 =>
  Q (some a27) h19) ∧
  (r21 = false →
  Q none h19))
theorem F.table_Table_int_where_ok {p0 : Option Addr} {p1 : ByteArray} {h : H} {Q : (Option Addr) → H → Prop} (H : F.table_Table_int_where p0 p1 h Q) : Fn PP 46 ([(.pointer p0), (.string p1)] : List Value).toArray h fun r h' => ∃ r0, r = (.pointer r0) ∧ Q r0 h' := by
  unfold F.table_Table_int_where at H
  refine fn_of Try.func46 Try.ntmps46 rfl rfl fun w0 => ?_
  refine tr_sub [(0, (.pointer p0)), (1, (.string p1))] ⟨rfl, rfl, trivial⟩ ?_
  refine tr_seq ?_
  refine tr_region ?_
  refine tr_p (y_assign rfl) rfl rfl ?_
  refine tr_nil ?_
  refine tr_thenN ?_
  refine tr_seq ?_
  refine tr_seq ?_
  refine tr_region ?_
  refine tr_p (y_move rfl) rfl rfl ?_
  obtain ⟨a1, e2, H⟩ := H
  refine tr_p (f_nn rfl e2) rfl rfl ?_
  refine tr_p (y_fa (off := 0) Try.runUnderlying73 fo_73_0 rfl) rfl rfl ?_
  obtain ⟨y3, k4, H⟩ := H
  refine tr_h (y_ld Try.isAgg71 rfl) k4 rfl rfl ?_
  refine tr_p (y_move rfl) rfl rfl ?_
  refine tr_e (e_call Try.call47 rfl (F.table_find_int_ok H)) rfl rfl ?_
  rintro _ h5 ⟨r6, r7, rfl, H⟩
  refine tr_p (y_move rfl) rfl rfl ?_
  refine tr_p (y_ext rfl rfl) rfl rfl ?_
  refine tr_p (y_ext rfl rfl) rfl rfl ?_
  refine tr_p (y_assign rfl) rfl rfl ?_
  refine tr_p (y_assign rfl) rfl rfl ?_
  refine tr_nil ?_
  refine tr_thenN ?_
  refine tr_seq ?_
  refine tr_region ?_
  refine tr_p (y_move rfl) rfl rfl ?_
  refine tr_nil ?_
  refine tr_thenN ?_
  refine tr_cond rfl (fun g8 => ?_) (fun g8 => ?_)
  · replace H := H.1 g8
    refine tr_seq ?_
    refine tr_region ?_
    refine tr_p (y_move rfl) rfl rfl ?_
    obtain ⟨a9, e10, H⟩ := H
    refine tr_p (f_nn rfl e10) rfl rfl ?_
    refine tr_p (y_fa (off := 0) Try.runUnderlying73 fo_73_0 rfl) rfl rfl ?_
    obtain ⟨y11, k12, H⟩ := H
    refine tr_h (y_ld Try.isAgg71 rfl) k12 rfl rfl ?_
    refine tr_p (y_move rfl) rfl rfl ?_
    obtain ⟨a13, e14, H⟩ := H
    refine tr_p (f_idx (s := y11) Try.runUnderlying71 Try.sizeOf77 rfl rfl e14) rfl rfl ?_
    refine tr_p (y_assign rfl) rfl rfl ?_
    refine tr_nil ?_
    refine tr_thenN ?_
    refine tr_ret ?_
    refine tr_thenR ?_
    exact tr_ret1 rfl rfl ⟨_, rfl, H⟩
  · replace H := H.2 g8
    refine tr_skip ?_
    refine tr_thenN ?_
    refine tr_seq ?_
    refine tr_seq ?_
    refine tr_region ?_
    refine tr_p (y_move rfl) rfl rfl ?_
    obtain ⟨a15, e16, H⟩ := H
    refine tr_p (f_nn rfl e16) rfl rfl ?_
    refine tr_p (y_fa (off := 1) Try.runUnderlying73 fo_73_1 rfl) rfl rfl ?_
    obtain ⟨y17, k18, H⟩ := H
    refine tr_h (y_ld Try.isAgg71 rfl) k18 rfl rfl ?_
    refine tr_p (y_move rfl) rfl rfl ?_
    refine tr_e (e_call Try.call47 rfl (F.table_find_int_ok H)) rfl rfl ?_
    rintro _ h19 ⟨r20, r21, rfl, H⟩
    refine tr_p (y_move rfl) rfl rfl ?_
    refine tr_p (y_ext rfl rfl) rfl rfl ?_
    refine tr_p (y_ext rfl rfl) rfl rfl ?_
    refine tr_p (y_assign rfl) rfl rfl ?_
    refine tr_p (y_assign rfl) rfl rfl ?_
    refine tr_nil ?_
    refine tr_thenN ?_
    refine tr_seq ?_
    refine tr_region ?_
    refine tr_p (y_move rfl) rfl rfl ?_
    refine tr_nil ?_
    refine tr_thenN ?_
    refine tr_cond rfl (fun g22 => ?_) (fun g22 => ?_)
    · replace H := H.1 g22
      refine tr_seq ?_
      refine tr_region ?_
      refine tr_p (y_move rfl) rfl rfl ?_
      obtain ⟨a23, e24, H⟩ := H
      refine tr_p (f_nn rfl e24) rfl rfl ?_
      refine tr_p (y_fa (off := 1) Try.runUnderlying73 fo_73_1 rfl) rfl rfl ?_
      obtain ⟨y25, k26, H⟩ := H
      refine tr_h (y_ld Try.isAgg71 rfl) k26 rfl rfl ?_
      refine tr_p (y_move rfl) rfl rfl ?_
      obtain ⟨a27, e28, H⟩ := H
      refine tr_p (f_idx (s := y25) Try.runUnderlying71 Try.sizeOf77 rfl rfl e28) rfl rfl ?_
      refine tr_p (y_assign rfl) rfl rfl ?_
      refine tr_nil ?_
      refine tr_thenN ?_
      refine tr_ret ?_
      refine tr_thenR ?_
      exact tr_ret1 rfl rfl ⟨_, rfl, H⟩
    · replace H := H.2 g22
      refine tr_skip ?_
      refine tr_thenN ?_
      refine tr_seq ?_
      refine tr_region ?_
      refine tr_p (y_assign rfl) rfl rfl ?_
      refine tr_nil ?_
      refine tr_thenN ?_
      refine tr_ret ?_
      exact tr_ret1 rfl rfl ⟨_, rfl, H⟩

def F.table_Table_int_Put.j1 (Q : H → Prop) (x0 : Option Addr) (x1 : ByteArray) (x2 : Int) (h : H) : Prop :=
  nn x0 fun a9 =>
  ldL h (a9.add 0) fun y11 =>
  F.table_find_int y11 x1 h fun r14 r15 h13 =>
  nn x0 fun a16 =>
  ldL h13 (a16.add 0) fun y18 =>
  idxA y18 r14 3 fun a20 =>
  stH h13 a20 ((⟨1, x1, x2⟩ : S_table_place_int).cells) fun h22 =>
  nn x0 fun a23 =>
  ldI .i64 h22 (a23.add 3) fun y25 =>
  nn x0 fun a27 =>
  stH h22 (a27.add 3) [(.int .i64 (IntKind.wrap .i64 (y25 + 1)))] fun h29 =>
  Q h29
/-- (*spate/table.Table[int]).Put -/
def F.table_Table_int_Put (p0 : Option Addr) (p1 : ByteArray) (p2 : Int) (h : H) (Q : H → Prop) : Prop :=
  F.table_Table_int_Move p0 4 h fun r2 h1 =>
  F.table_Table_int_where p0 p1 h1 fun r4 h3 =>
  ((!r4.isNone) = true →
  nn r4 fun a6 =>
  stH h3 (a6.add 2) [(.int .i64 p2)] fun h8 =>
  Q h8) ∧
  ((!r4.isNone) = false →
  nn p0 fun a30 =>
  ldI .i64 h3 (a30.add 3) fun y32 =>
  nn p0 fun a34 =>
  ldL h3 (a34.add 0) fun y36 =>
  ((decide ((IntKind.wrap .i64 (4 * (IntKind.wrap .i64 (y32 + 1)))) > (IntKind.wrap .i64 (3 * (y36.len : Int))))) = true →
  nn p0 fun a39 =>
  ldL h3 (a39.add 1) fun y41 =>
  F.table_Table_int_Move p0 (y41.len : Int) h3 fun r44 h43 =>
  nn p0 fun a45 =>
  ldL h43 (a45.add 0) fun y47 =>
  nn p0 fun a49 =>
  ldL h43 (a49.add 0) fun y51 =>
  runL PP (Instr.makeSlice 71 (.int .i64 (IntKind.wrap .i64 (2 * (y47.len : Int)))) (.int .i64 (IntKind.wrap .i64 (2 * (y47.len : Int))))) h43 fun s54 h53 =>
  cellH h53 (a49.add 0) = some y51.enc ∧
  nn p0 fun a56 =>
  stH h53 (a56.add 0) [s54.enc] fun h58 =>
  nn p0 fun a59 =>
  stH h58 (a59.add 1) [y51.enc] fun h61 =>
  nn p0 fun a62 =>
  stH h61 (a62.add 2) [(.int .i64 0)] fun h64 =>
  F.table_Table_int_Put.j1 Q p0 p1 p2 h64) ∧
  ((decide ((IntKind.wrap .i64 (4 * (IntKind.wrap .i64 (y32 + 1)))) > (IntKind.wrap .i64 (3 * (y36.len : Int))))) = false →
  F.table_Table_int_Put.j1 Q p0 p1 p2 h3))
theorem F.table_Table_int_Put_ok {p0 : Option Addr} {p1 : ByteArray} {p2 : Int} {h : H} {Q : H → Prop} (H : F.table_Table_int_Put p0 p1 p2 h Q) : Fn PP 20 ([(.pointer p0), (.string p1), (.int .i64 p2)] : List Value).toArray h fun r h' => r = .tuple #[] ∧ Q  h' := by
  unfold F.table_Table_int_Put at H
  refine fn_of Try.func20 Try.ntmps20 rfl rfl fun w0 => ?_
  refine tr_sub [(0, (.pointer p0)), (1, (.string p1)), (2, (.int .i64 p2))] ⟨rfl, rfl, rfl, trivial⟩ ?_
  refine tr_seq ?_
  refine tr_region ?_
  refine tr_p (y_move rfl) rfl rfl ?_
  refine tr_e (e_call Try.call26 rfl (F.table_Table_int_Move_ok H)) rfl rfl ?_
  rintro _ h1 ⟨r2, rfl, H⟩
  refine tr_nil ?_
  refine tr_thenN ?_
  refine tr_seq ?_
  refine tr_seq ?_
  refine tr_region ?_
  refine tr_p (y_move rfl) rfl rfl ?_
  refine tr_p (y_move rfl) rfl rfl ?_
  refine tr_e (e_call Try.call46 rfl (F.table_Table_int_where_ok H)) rfl rfl ?_
  rintro _ h3 ⟨r4, rfl, H⟩
  refine tr_p (y_assign rfl) rfl rfl ?_
  refine tr_nil ?_
  refine tr_thenN ?_
  refine tr_seq ?_
  refine tr_region ?_
  refine tr_p (y_move rfl) rfl rfl ?_
  refine tr_p (y_pnil_neq Try.runUnderlying74 rfl rfl) rfl rfl ?_
  refine tr_nil ?_
  refine tr_thenN ?_
  refine tr_cond rfl (fun g5 => ?_) (fun g5 => ?_)
  · replace H := H.1 g5
    refine tr_seq ?_
    refine tr_region ?_
    refine tr_p (y_move rfl) rfl rfl ?_
    refine tr_p (y_move rfl) rfl rfl ?_
    obtain ⟨a6, e7, H⟩ := H
    refine tr_p (f_nn rfl e7) rfl rfl ?_
    refine tr_p (y_fa (off := 2) Try.runUnderlying77 fo_77_2 rfl) rfl rfl ?_
    refine tr_e (f_store (vs := [(.int .i64 p2)]) Try.sizeOf3 rfl rfl rfl rfl (one1 rfl) H) rfl rfl ?_
    rintro _ h8 ⟨rfl, H⟩
    refine tr_nil ?_
    refine tr_thenN ?_
    refine tr_ret ?_
    refine tr_thenR ?_
    exact tr_ret0 rfl ⟨rfl, H⟩
  · replace H := H.2 g5
    refine tr_skip ?_
    refine tr_thenN ?_
    refine tr_seq_j (fun L' h => ∃ (x0 : Option Addr) (x1 : ByteArray) (x2 : Int), L' = [(0, (.pointer x0)), (1, (.string x1)), (2, (.int .i64 x2))] ∧ F.table_Table_int_Put.j1 Q x0 x1 x2 h) ?_ ?_
    · rintro L' h ⟨x0, x1, x2, rfl, H⟩
      unfold F.table_Table_int_Put.j1 at H
      refine tr_seq ?_
      refine tr_region ?_
      refine tr_p (y_move rfl) rfl rfl ?_
      obtain ⟨a9, e10, H⟩ := H
      refine tr_p (f_nn rfl e10) rfl rfl ?_
      refine tr_p (y_fa (off := 0) Try.runUnderlying73 fo_73_0 rfl) rfl rfl ?_
      obtain ⟨y11, k12, H⟩ := H
      refine tr_h (y_ld Try.isAgg71 rfl) k12 rfl rfl ?_
      refine tr_p (y_move rfl) rfl rfl ?_
      refine tr_e (e_call Try.call47 rfl (F.table_find_int_ok H)) rfl rfl ?_
      rintro _ h13 ⟨r14, r15, rfl, H⟩
      refine tr_p (y_move rfl) rfl rfl ?_
      refine tr_p (y_ext rfl rfl) rfl rfl ?_
      refine tr_p (y_ext rfl rfl) rfl rfl ?_
      refine tr_p (y_assign rfl) rfl rfl ?_
      refine tr_p (y_assign rfl) rfl rfl ?_
      refine tr_nil ?_
      refine tr_thenN ?_
      refine tr_seq ?_
      refine tr_region ?_
      refine tr_p (y_move rfl) rfl rfl ?_
      obtain ⟨a16, e17, H⟩ := H
      refine tr_p (f_nn rfl e17) rfl rfl ?_
      refine tr_p (y_fa (off := 0) Try.runUnderlying73 fo_73_0 rfl) rfl rfl ?_
      obtain ⟨y18, k19, H⟩ := H
      refine tr_h (y_ld Try.isAgg71 rfl) k19 rfl rfl ?_
      refine tr_p (y_move rfl) rfl rfl ?_
      refine tr_p (y_move rfl) rfl rfl ?_
      refine tr_p (y_move rfl) rfl rfl ?_
      refine tr_p (f_build rfl (bd_77_0_1_2 1 x1 x2)) rfl rfl ?_
      obtain ⟨a20, e21, H⟩ := H
      refine tr_p (f_idx (s := y18) Try.runUnderlying71 Try.sizeOf77 rfl rfl e21) rfl rfl ?_
      refine tr_e (f_store (vs := (⟨1, x1, x2⟩ : S_table_place_int).cells) Try.sizeOf77 rfl rfl cellsOfStruct rfl (by intro v hv; exact ones_S_table_place_int _ v hv) H) rfl rfl ?_
      rintro _ h22 ⟨rfl, H⟩
      refine tr_nil ?_
      refine tr_thenN ?_
      refine tr_region ?_
      refine tr_p (y_move rfl) rfl rfl ?_
      obtain ⟨a23, e24, H⟩ := H
      refine tr_p (f_nn rfl e24) rfl rfl ?_
      refine tr_p (y_fa (off := 3) Try.runUnderlying73 fo_73_3 rfl) rfl rfl ?_
      obtain ⟨y25, k26, H⟩ := H
      refine tr_h (y_ld Try.isAgg3 rfl) k26 rfl rfl ?_
      refine tr_p (y_add rfl rfl) rfl rfl ?_
      obtain ⟨a27, e28, H⟩ := H
      refine tr_p (f_nn rfl e28) rfl rfl ?_
      refine tr_p (y_fa (off := 3) Try.runUnderlying73 fo_73_3 rfl) rfl rfl ?_
      refine tr_e (f_store (vs := [(.int .i64 (IntKind.wrap .i64 (y25 + 1)))]) Try.sizeOf3 rfl rfl rfl rfl (one1 rfl) H) rfl rfl ?_
      rintro _ h29 ⟨rfl, H⟩
      refine tr_nil ?_
      exact tr_end0 rfl ⟨rfl, H⟩
    · refine tr_seq ?_
      refine tr_draw mixed [0, 1, 3, 7, 15, 31, 0, 64, 192, 448, 960, 1984, 4095] (by kernel_rfl) ?_
      refine g_p 0 1 rfl (by kernel_rfl) (y_move rfl) rfl rfl ?_
      obtain ⟨a30, e31, H⟩ := H
      refine g_p 1 3 rfl (by kernel_rfl) (f_nn rfl e31) rfl rfl ?_
      refine g_p 2 7 rfl (by kernel_rfl) (y_fa (off := 3) Try.runUnderlying73 fo_73_3 rfl) rfl rfl ?_
      obtain ⟨y32, k33, H⟩ := H
      refine g_h 3 15 rfl (by kernel_rfl) (y_ld Try.isAgg3 rfl) k33 rfl rfl ?_
      refine g_p 4 31 rfl (by kernel_rfl) (y_add rfl rfl) rfl rfl ?_
      refine g_p 5 63 rfl (by kernel_rfl) (y_mul rfl rfl) rfl rfl ?_
      refine g_p 6 127 rfl (by kernel_rfl) (y_move rfl) rfl rfl ?_
      obtain ⟨a34, e35, H⟩ := H
      refine g_p 7 255 rfl (by kernel_rfl) (f_nn rfl e35) rfl rfl ?_
      refine g_p 8 511 rfl (by kernel_rfl) (y_fa (off := 0) Try.runUnderlying73 fo_73_0 rfl) rfl rfl ?_
      obtain ⟨y36, k37, H⟩ := H
      refine g_h 9 1023 rfl (by kernel_rfl) (y_ld Try.isAgg71 rfl) k37 rfl rfl ?_
      refine g_p 10 2047 rfl (by kernel_rfl) (y_len (ts := #[]) Try.runUnderlying71 (o := y36.ptr) (n := y36.len) (cap := y36.cap) rfl) rfl rfl ?_
      refine g_p 11 4095 rfl (by kernel_rfl) (y_mul rfl rfl) rfl rfl ?_
      refine g_p 12 8191 rfl (by kernel_rfl) (y_gtr rfl rfl) rfl rfl ?_
      refine g_d (by kernel_rfl) ?_
      refine tr_thenN ?_
      refine tr_cond rfl (fun g38 => ?_) (fun g38 => ?_)
      · replace H := H.1 g38
        refine tr_seq ?_
        refine tr_region ?_
        refine tr_p (y_move rfl) rfl rfl ?_
        refine tr_p (y_move rfl) rfl rfl ?_
        obtain ⟨a39, e40, H⟩ := H
        refine tr_p (f_nn rfl e40) rfl rfl ?_
        refine tr_p (y_fa (off := 1) Try.runUnderlying73 fo_73_1 rfl) rfl rfl ?_
        obtain ⟨y41, k42, H⟩ := H
        refine tr_h (y_ld Try.isAgg71 rfl) k42 rfl rfl ?_
        refine tr_p (y_len (ts := #[]) Try.runUnderlying71 (o := y41.ptr) (n := y41.len) (cap := y41.cap) rfl) rfl rfl ?_
        refine tr_e (e_call Try.call26 rfl (F.table_Table_int_Move_ok H)) rfl rfl ?_
        rintro _ h43 ⟨r44, rfl, H⟩
        refine tr_nil ?_
        refine tr_thenN ?_
        refine tr_draw mixed [0, 0, 0, 0, 8, 24, 56, 120, 248, 504, 0, 1024, 3072, 7168, 16377, 32761, 65529, 131067, 262139, 524283, 1048575, 2097151, 4194303] (by kernel_rfl) ?_
        refine g_p 0 1 rfl (by kernel_rfl) (y_move rfl) rfl rfl ?_
        refine g_p 1 3 rfl (by kernel_rfl) (y_move rfl) rfl rfl ?_
        refine g_p 2 7 rfl (by kernel_rfl) (y_move rfl) rfl rfl ?_
        refine g_p 3 15 rfl (by kernel_rfl) (y_move rfl) rfl rfl ?_
        obtain ⟨a45, e46, H⟩ := H
        refine g_p 4 31 rfl (by kernel_rfl) (f_nn rfl e46) rfl rfl ?_
        refine g_p 5 63 rfl (by kernel_rfl) (y_fa (off := 0) Try.runUnderlying73 fo_73_0 rfl) rfl rfl ?_
        obtain ⟨y47, k48, H⟩ := H
        refine g_h 6 127 rfl (by kernel_rfl) (y_ld Try.isAgg71 rfl) k48 rfl rfl ?_
        refine g_p 7 255 rfl (by kernel_rfl) (y_len (ts := #[]) Try.runUnderlying71 (o := y47.ptr) (n := y47.len) (cap := y47.cap) rfl) rfl rfl ?_
        refine g_p 8 511 rfl (by kernel_rfl) (y_mul rfl rfl) rfl rfl ?_
        refine g_p 10 1535 rfl (by kernel_rfl) (y_move rfl) rfl rfl ?_
        obtain ⟨a49, e50, H⟩ := H
        refine g_p 11 3583 rfl (by kernel_rfl) (f_nn rfl e50) rfl rfl ?_
        refine g_p 12 7679 rfl (by kernel_rfl) (y_fa (off := 0) Try.runUnderlying73 fo_73_0 rfl) rfl rfl ?_
        obtain ⟨y51, k52, H⟩ := H
        refine g_h 13 15871 rfl (by kernel_rfl) (y_ld Try.isAgg71 rfl) k52 rfl rfl ?_
        refine g_e 9 16383 [(13, fun h => cellH h (a49.add 0) = some y51.enc)] (by kernel_rfl) rfl (by kernel_rfl) (f_make rfl rfl H) rfl rfl ?_
        rintro _ h53 ⟨s54, rfl, H⟩
        obtain ⟨k55, H⟩ := H
        refine ⟨And.intro k55 trivial, ?_⟩
        obtain ⟨a56, e57, H⟩ := H
        refine g_p 14 32767 rfl (by kernel_rfl) (f_nn rfl e57) rfl rfl ?_
        refine g_p 15 65535 rfl (by kernel_rfl) (y_fa (off := 0) Try.runUnderlying73 fo_73_0 rfl) rfl rfl ?_
        refine g_e 16 131071 [] (by kernel_rfl) rfl (by kernel_rfl) (f_store (vs := [s54.enc]) Try.sizeOf71 rfl rfl rfl rfl (one1 rfl) H) rfl rfl ?_
        rintro _ h58 ⟨rfl, H⟩
        refine ⟨trivial, ?_⟩
        obtain ⟨a59, e60, H⟩ := H
        refine g_p 17 262143 rfl (by kernel_rfl) (f_nn rfl e60) rfl rfl ?_
        refine g_p 18 524287 rfl (by kernel_rfl) (y_fa (off := 1) Try.runUnderlying73 fo_73_1 rfl) rfl rfl ?_
        refine g_e 19 1048575 [] (by kernel_rfl) rfl (by kernel_rfl) (f_store (vs := [y51.enc]) Try.sizeOf71 rfl rfl rfl rfl (one1 rfl) H) rfl rfl ?_
        rintro _ h61 ⟨rfl, H⟩
        refine ⟨trivial, ?_⟩
        obtain ⟨a62, e63, H⟩ := H
        refine g_p 20 2097151 rfl (by kernel_rfl) (f_nn rfl e63) rfl rfl ?_
        refine g_p 21 4194303 rfl (by kernel_rfl) (y_fa (off := 2) Try.runUnderlying73 fo_73_2 rfl) rfl rfl ?_
        refine g_e 22 8388607 [] (by kernel_rfl) rfl (by kernel_rfl) (f_store (vs := [(.int .i64 0)]) Try.sizeOf3 rfl rfl rfl rfl (one1 rfl) H) rfl rfl ?_
        rintro _ h64 ⟨rfl, H⟩
        refine ⟨trivial, ?_⟩
        refine g_d (by kernel_rfl) ?_
        refine tr_thenN ?_
        exact tr_join [(0, (.pointer p0)), (1, (.string p1)), (2, (.int .i64 p2))] ⟨rfl, rfl, rfl, trivial⟩ ⟨_, _, _, rfl, H⟩
      · replace H := H.2 g38
        refine tr_skip ?_
        refine tr_thenN ?_
        exact tr_join [(0, (.pointer p0)), (1, (.string p1)), (2, (.int .i64 p2))] ⟨rfl, rfl, rfl, trivial⟩ ⟨_, _, _, rfl, H⟩

/-- (*spate/table.Table[int]).Get -/
def F.table_Table_int_Get (p0 : Option Addr) (p1 : ByteArray) (h : H) (Q : Int → Bool → H → Prop) : Prop :=
  F.table_Table_int_where p0 p1 h fun r2 h1 =>
  ((!r2.isNone) = true →
  nn r2 fun a4 =>
  ldI .i64 h1 (a4.add 2) fun y6 =>
  Q y6 true h1) ∧
  ((!r2.isNone) = false →
  Q 0 false h1)
theorem F.table_Table_int_Get_ok {p0 : Option Addr} {p1 : ByteArray} {h : H} {Q : Int → Bool → H → Prop} (H : F.table_Table_int_Get p0 p1 h Q) : Fn PP 25 ([(.pointer p0), (.string p1)] : List Value).toArray h fun r h' => ∃ r0 r1, r = .tuple #[(.int .i64 r0), (.bool r1)] ∧ Q r0 r1 h' := by
  unfold F.table_Table_int_Get at H
  refine fn_of Try.func25 Try.ntmps25 rfl rfl fun w0 => ?_
  refine tr_sub [(0, (.pointer p0)), (1, (.string p1))] ⟨rfl, rfl, trivial⟩ ?_
  refine tr_seq ?_
  refine tr_region ?_
  refine tr_p (y_assign rfl) rfl rfl ?_
  refine tr_p (y_assign rfl) rfl rfl ?_
  refine tr_nil ?_
  refine tr_thenN ?_
  refine tr_seq ?_
  refine tr_seq ?_
  refine tr_region ?_
  refine tr_p (y_move rfl) rfl rfl ?_
  refine tr_p (y_move rfl) rfl rfl ?_
  refine tr_e (e_call Try.call46 rfl (F.table_Table_int_where_ok H)) rfl rfl ?_
  rintro _ h1 ⟨r2, rfl, H⟩
  refine tr_p (y_assign rfl) rfl rfl ?_
  refine tr_nil ?_
  refine tr_thenN ?_
  refine tr_seq ?_
  refine tr_region ?_
  refine tr_p (y_move rfl) rfl rfl ?_
  refine tr_p (y_pnil_neq Try.runUnderlying74 rfl rfl) rfl rfl ?_
  refine tr_nil ?_
  refine tr_thenN ?_
  refine tr_cond rfl (fun g3 => ?_) (fun g3 => ?_)
  · replace H := H.1 g3
    refine tr_seq ?_
    refine tr_region ?_
    refine tr_p (y_move rfl) rfl rfl ?_
    obtain ⟨a4, e5, H⟩ := H
    refine tr_p (f_nn rfl e5) rfl rfl ?_
    refine tr_p (y_fa (off := 2) Try.runUnderlying77 fo_77_2 rfl) rfl rfl ?_
    obtain ⟨y6, k7, H⟩ := H
    refine tr_h (y_ld Try.isAgg3 rfl) k7 rfl rfl ?_
    refine tr_p (y_assign rfl) rfl rfl ?_
    refine tr_p (y_assign rfl) rfl rfl ?_
    refine tr_nil ?_
    refine tr_thenN ?_
    refine tr_ret ?_
    refine tr_thenR ?_
    exact tr_ret2 rfl rfl rfl ⟨_, _, rfl, H⟩
  · replace H := H.2 g3
    refine tr_skip ?_
    refine tr_thenN ?_
    refine tr_seq ?_
    refine tr_region ?_
    refine tr_p (y_move rfl) rfl rfl ?_
    refine tr_p (y_assign rfl) rfl rfl ?_
    refine tr_p (y_assign rfl) rfl rfl ?_
    refine tr_nil ?_
    refine tr_thenN ?_
    refine tr_ret ?_
    exact tr_ret2 rfl rfl rfl ⟨_, _, rfl, H⟩

/-- (*spate/table.Table[int]).Slots -/
def F.table_Table_int_Slots (p0 : Option Addr) (h : H) (Q : Int → H → Prop) : Prop :=
  nn p0 fun a1 =>
  ldL h (a1.add 0) fun y3 =>
  Q (y3.len : Int) h
theorem F.table_Table_int_Slots_ok {p0 : Option Addr} {h : H} {Q : Int → H → Prop} (H : F.table_Table_int_Slots p0 h Q) : Fn PP 24 ([(.pointer p0)] : List Value).toArray h fun r h' => ∃ r0, r = (.int .i64 r0) ∧ Q r0 h' := by
  unfold F.table_Table_int_Slots at H
  refine fn_of Try.func24 Try.ntmps24 rfl rfl fun w0 => ?_
  refine tr_sub [(0, (.pointer p0))] ⟨rfl, trivial⟩ ?_
  refine tr_seq ?_
  refine tr_region ?_
  refine tr_p (y_assign rfl) rfl rfl ?_
  refine tr_nil ?_
  refine tr_thenN ?_
  refine tr_seq ?_
  refine tr_region ?_
  refine tr_p (y_move rfl) rfl rfl ?_
  obtain ⟨a1, e2, H⟩ := H
  refine tr_p (f_nn rfl e2) rfl rfl ?_
  refine tr_p (y_fa (off := 0) Try.runUnderlying73 fo_73_0 rfl) rfl rfl ?_
  obtain ⟨y3, k4, H⟩ := H
  refine tr_h (y_ld Try.isAgg71 rfl) k4 rfl rfl ?_
  refine tr_p (y_len (ts := #[]) Try.runUnderlying71 (o := y3.ptr) (n := y3.len) (cap := y3.cap) rfl) rfl rfl ?_
  refine tr_p (y_assign rfl) rfl rfl ?_
  refine tr_nil ?_
  refine tr_thenN ?_
  refine tr_ret ?_
  exact tr_ret1 rfl rfl ⟨_, rfl, H⟩

/-- (*spate/table.Table[int]).Len -/
def F.table_Table_int_Len (p0 : Option Addr) (h : H) (Q : Int → H → Prop) : Prop :=
  nn p0 fun a1 =>
  ldI .i64 h (a1.add 3) fun y3 =>
  Q y3 h
theorem F.table_Table_int_Len_ok {p0 : Option Addr} {h : H} {Q : Int → H → Prop} (H : F.table_Table_int_Len p0 h Q) : Fn PP 23 ([(.pointer p0)] : List Value).toArray h fun r h' => ∃ r0, r = (.int .i64 r0) ∧ Q r0 h' := by
  unfold F.table_Table_int_Len at H
  refine fn_of Try.func23 Try.ntmps23 rfl rfl fun w0 => ?_
  refine tr_sub [(0, (.pointer p0))] ⟨rfl, trivial⟩ ?_
  refine tr_seq ?_
  refine tr_region ?_
  refine tr_p (y_assign rfl) rfl rfl ?_
  refine tr_nil ?_
  refine tr_thenN ?_
  refine tr_seq ?_
  refine tr_region ?_
  refine tr_p (y_move rfl) rfl rfl ?_
  obtain ⟨a1, e2, H⟩ := H
  refine tr_p (f_nn rfl e2) rfl rfl ?_
  refine tr_p (y_fa (off := 3) Try.runUnderlying73 fo_73_3 rfl) rfl rfl ?_
  obtain ⟨y3, k4, H⟩ := H
  refine tr_h (y_ld Try.isAgg3 rfl) k4 rfl rfl ?_
  refine tr_p (y_assign rfl) rfl rfl ?_
  refine tr_nil ?_
  refine tr_thenN ?_
  refine tr_ret ?_
  exact tr_ret1 rfl rfl ⟨_, rfl, H⟩

def F.spatelaw6_known.j3 (Q : Bool → H → Prop) (x1 : Option Addr) (h : H) : Prop :=
  F.table_Table_int_Put x1 (⟨#[103]⟩ : ByteArray) 6 h fun h9 =>
  F.table_Table_int_Get x1 (⟨#[99]⟩ : ByteArray) h9 fun r11 r12 h10 =>
  F.table_Table_int_Get x1 (⟨#[120]⟩ : ByteArray) h10 fun r14 r15 h13 =>
  F.table_Table_int_Slots x1 h13 fun r17 h16 =>
  (((r17 == 16)) = true →
  F.table_Table_int_Left x1 h16 fun r20 h19 =>
  (((r20 == 8)) = true →
  (((r11 == 2)) = true →
  (r12 = true →
  Q (!r15) h19) ∧
  (r12 = false →
  Q false h19)) ∧
  (((r11 == 2)) = false →
  Q false h19)) ∧
  (((r20 == 8)) = false →
  Q false h19)) ∧
  (((r17 == 16)) = false →
  Q false h16)
def F.spatelaw6_known.j4 (Q : Bool → H → Prop) (x1 : Option Addr) (x42 : Bool) (h : H) : Prop :=
  (x42 = true →
  Q false h) ∧
  (x42 = false →
  F.spatelaw6_known.j3 Q x1 h)
def F.spatelaw6_known.l2 (Q : Bool → H → Prop) : Nat → (Option Addr) → Int → H → Prop
  | 0, _, _, _ => False
  | q2 + 1, x1, x2, h =>
    ((decide (x2 < 6)) = true →
    newL h #[(.int .u8 (IntKind.wrap .u8 (IntKind.wrap .i64 (97 + x2))))] ty_5 1 fun s5 h4 =>
    runT PP (convert 70 9 s5.enc) h4 fun s7 h6 =>
    F.table_Table_int_Put x1 s7 x2 h6 fun h8 =>
    (F.spatelaw6_known.l2 Q q2) x1 (IntKind.wrap .i64 (x2 + 1)) h8) ∧
    ((decide (x2 < 6)) = false →
    F.table_Table_int_Len x1 h fun r26 h25 =>
    (((r26 != 6)) = true →
    F.spatelaw6_known.j4 Q x1 true h25) ∧
    (((r26 != 6)) = false →
    F.table_Table_int_Slots x1 h25 fun r29 h28 =>
    (((r29 != 8)) = true →
    F.spatelaw6_known.j4 Q x1 true h28) ∧
    (((r29 != 8)) = false →
    F.table_Table_int_Left x1 h28 fun r32 h31 =>
    F.spatelaw6_known.j4 Q x1 ((r32 != 0)) h31)))
def F.spatelaw6_known.j1 (Q : Bool → H → Prop) (x1 : Option Addr) (h : H) : Prop :=
  ∃ m, F.spatelaw6_known.l2 Q m x1 0 h
def F.spatelaw6_known.j5 (Q : Bool → H → Prop) (x1 : Option Addr) (x17 : Bool) (h : H) : Prop :=
  (x17 = true →
  Q false h) ∧
  (x17 = false →
  F.spatelaw6_known.j1 Q x1 h)
/-- spate/spatelaw6.known -/
def F.spatelaw6_known  (h : H) (Q : Bool → H → Prop) : Prop :=
  F.table_New_int  h fun r2 h1 =>
  (r2.isNone = true →
  F.spatelaw6_known.j5 Q r2 true h1) ∧
  (r2.isNone = false →
  F.table_Hash (⟨#[97]⟩ : ByteArray) h1 fun r37 h36 =>
  (((r37 != 12638187200555641996)) = true →
  F.spatelaw6_known.j5 Q r2 true h36) ∧
  (((r37 != 12638187200555641996)) = false →
  F.table_Hash (⟨#[]⟩ : ByteArray) h36 fun r40 h39 =>
  F.spatelaw6_known.j5 Q r2 ((r40 != 14695981039346656037)) h39))
theorem F.spatelaw6_known_ok  {h : H} {Q : Bool → H → Prop} (H : F.spatelaw6_known  h Q) : Fn PP 17 ([] : List Value).toArray h fun r h' => ∃ r0, r = (.bool r0) ∧ Q r0 h' := by
  unfold F.spatelaw6_known at H
  refine fn_of Try.func17 Try.ntmps17 rfl rfl fun w0 => ?_
  refine tr_sub [] trivial ?_
  refine tr_seq ?_
  refine tr_region ?_
  refine tr_p (y_assign rfl) rfl rfl ?_
  refine tr_nil ?_
  refine tr_thenN ?_
  refine tr_seq ?_
  refine tr_region ?_
  refine tr_e (e_call Try.call19 rfl (F.table_New_int_ok H)) rfl rfl ?_
  rintro _ h1 ⟨r2, rfl, H⟩
  refine tr_p (y_assign rfl) rfl rfl ?_
  refine tr_nil ?_
  refine tr_thenN ?_
  refine tr_seq_j (fun L' h => ∃ (x1 : Option Addr), L' = [(1, (.pointer x1))] ∧ F.spatelaw6_known.j1 Q x1 h) ?_ ?_
  · rintro L' h ⟨x1, rfl, H⟩
    unfold F.spatelaw6_known.j1 at H
    refine tr_seq ?_
    refine tr_seq ?_
    refine tr_region ?_
    refine tr_p (y_assign rfl) rfl rfl ?_
    refine tr_nil ?_
    refine tr_thenN ?_
    refine tr_block ?_
    obtain ⟨m33, H⟩ := H
    refine tr_sub [(1, (.pointer x1)), (2, (.int .i64 0))] ⟨rfl, rfl, trivial⟩ ?_
    refine tr_loop_j (fun m L' h => ∃ (x1 : Option Addr) (x2 : Int), L' = [(1, (.pointer x1)), (2, (.int .i64 x2))] ∧ F.spatelaw6_known.l2 Q m x1 x2 h) ?_ ?_ m33 ⟨_, _, rfl, H⟩
    · rintro L' h ⟨_, _, _, H⟩; exact H
    · rintro q2 L' h ⟨x1, x2, rfl, H⟩
      unfold F.spatelaw6_known.l2 at H
      refine tr_seq ?_
      refine tr_seq ?_
      refine tr_region ?_
      refine tr_p (y_move rfl) rfl rfl ?_
      refine tr_p (y_lss rfl rfl) rfl rfl ?_
      refine tr_nil ?_
      refine tr_thenN ?_
      refine tr_cond rfl (fun g3 => ?_) (fun g3 => ?_)
      · replace H := H.1 g3
        refine tr_skip ?_
        refine tr_thenN ?_
        refine tr_seq ?_
        refine tr_block ?_
        refine tr_region ?_
        refine tr_p (y_move rfl) rfl rfl ?_
        refine tr_p (y_move rfl) rfl rfl ?_
        refine tr_p (y_add rfl rfl) rfl rfl ?_
        refine tr_p (y_cvt Try.runUnderlying3 Try.runUnderlying5 rfl) rfl rfl ?_
        refine tr_e (f_buildL (cs := #[(.int .u8 (IntKind.wrap .u8 (IntKind.wrap .i64 (97 + x2))))]) rfl rfl (bl_70_1_0 (IntKind.wrap .u8 (IntKind.wrap .i64 (97 + x2)))) H) rfl rfl ?_
        rintro _ h4 ⟨s5, rfl, H⟩
        refine tr_e (f_cvtT rfl H) rfl rfl ?_
        rintro _ h6 ⟨s7, rfl, H⟩
        refine tr_p (y_move rfl) rfl rfl ?_
        refine tr_e (e_call Try.call20 rfl (F.table_Table_int_Put_ok H)) rfl rfl ?_
        rintro _ h8 ⟨rfl, H⟩
        refine tr_nil ?_
        refine tr_blockN ?_
        refine tr_thenN ?_
        refine tr_region ?_
        refine tr_p (y_move rfl) rfl rfl ?_
        refine tr_p (y_add rfl rfl) rfl rfl ?_
        refine tr_p (y_assign rfl) rfl rfl ?_
        refine tr_nil ?_
        refine tr_thenN ?_
        exact tr_join [(1, (.pointer x1)), (2, (.int .i64 (IntKind.wrap .i64 (x2 + 1))))] ⟨rfl, rfl, trivial⟩ ⟨_, _, rfl, H⟩
      · replace H := H.2 g3
        refine tr_exit ?_
        refine tr_thenE ?_
        refine tr_thenE ?_
        refine tr_hit ?_
        refine tr_thenN ?_
        refine tr_seq_j (fun L' h => ∃ (x1 : Option Addr), L' = [(1, (.pointer x1))] ∧ F.spatelaw6_known.j3 Q x1 h) ?_ ?_
        · rintro L' h ⟨x1, rfl, H⟩
          unfold F.spatelaw6_known.j3 at H
          refine tr_seq ?_
          refine tr_region ?_
          refine tr_p (y_move rfl) rfl rfl ?_
          refine tr_e (e_call Try.call20 rfl (F.table_Table_int_Put_ok H)) rfl rfl ?_
          rintro _ h9 ⟨rfl, H⟩
          refine tr_nil ?_
          refine tr_thenN ?_
          refine tr_seq ?_
          refine tr_region ?_
          refine tr_p (y_move rfl) rfl rfl ?_
          refine tr_e (e_call Try.call25 rfl (F.table_Table_int_Get_ok H)) rfl rfl ?_
          rintro _ h10 ⟨r11, r12, rfl, H⟩
          refine tr_p (y_move rfl) rfl rfl ?_
          refine tr_p (y_ext rfl rfl) rfl rfl ?_
          refine tr_p (y_ext rfl rfl) rfl rfl ?_
          refine tr_p (y_assign rfl) rfl rfl ?_
          refine tr_p (y_assign rfl) rfl rfl ?_
          refine tr_nil ?_
          refine tr_thenN ?_
          refine tr_seq ?_
          refine tr_region ?_
          refine tr_p (y_move rfl) rfl rfl ?_
          refine tr_e (e_call Try.call25 rfl (F.table_Table_int_Get_ok H)) rfl rfl ?_
          rintro _ h13 ⟨r14, r15, rfl, H⟩
          refine tr_p (y_move rfl) rfl rfl ?_
          refine tr_p (y_ext rfl rfl) rfl rfl ?_
          refine tr_p (y_ext rfl rfl) rfl rfl ?_
          refine tr_p (y_assign rfl) rfl rfl ?_
          refine tr_p (y_assign rfl) rfl rfl ?_
          refine tr_nil ?_
          refine tr_thenN ?_
          refine tr_seq ?_
          refine tr_region ?_
          refine tr_p (y_move rfl) rfl rfl ?_
          refine tr_e (e_call Try.call24 rfl (F.table_Table_int_Slots_ok H)) rfl rfl ?_
          rintro _ h16 ⟨r17, rfl, H⟩
          refine tr_p (y_eql rfl rfl) rfl rfl ?_
          refine tr_p (y_move rfl) rfl rfl ?_
          refine tr_split (t := 58) rfl (fun g18 => ?_) (fun g18 => ?_)
          · replace H := H.1 g18
            refine tr_p (y_move rfl) rfl rfl ?_
            refine tr_e (e_call Try.call27 rfl (F.table_Table_int_Left_ok H)) rfl rfl ?_
            rintro _ h19 ⟨r20, rfl, H⟩
            refine tr_p (y_eql rfl rfl) rfl rfl ?_
            refine tr_p (y_pick_t rfl rfl) rfl rfl ?_
            refine tr_p (y_move rfl) rfl rfl ?_
            refine tr_split (t := 63) rfl (fun g21 => ?_) (fun g21 => ?_)
            · replace H := H.1 g21
              refine tr_p (y_move rfl) rfl rfl ?_
              refine tr_p (y_eql rfl rfl) rfl rfl ?_
              refine tr_p (y_pick_t rfl rfl) rfl rfl ?_
              refine tr_p (y_move rfl) rfl rfl ?_
              refine tr_split (t := 67) rfl (fun g22 => ?_) (fun g22 => ?_)
              · replace H := H.1 g22
                refine tr_p (y_move rfl) rfl rfl ?_
                refine tr_p (y_pick_t rfl rfl) rfl rfl ?_
                refine tr_p (y_move rfl) rfl rfl ?_
                refine tr_split (t := 70) rfl (fun g23 => ?_) (fun g23 => ?_)
                · replace H := H.1 g23
                  refine tr_p (y_move rfl) rfl rfl ?_
                  refine tr_p (y_not rfl) rfl rfl ?_
                  refine tr_p (y_pick_t rfl rfl) rfl rfl ?_
                  refine tr_p (y_assign rfl) rfl rfl ?_
                  refine tr_nil ?_
                  refine tr_thenN ?_
                  refine tr_ret ?_
                  exact tr_ret1 rfl rfl ⟨_, rfl, H⟩
                · replace H := H.2 g23
                  refine tr_s rfl rfl ?_
                  refine tr_s rfl rfl ?_
                  refine tr_p (y_pick_f rfl rfl) rfl rfl ?_
                  refine tr_p (y_assign rfl) rfl rfl ?_
                  refine tr_nil ?_
                  refine tr_thenN ?_
                  refine tr_ret ?_
                  exact tr_ret1 rfl rfl ⟨_, rfl, H⟩
              · replace H := H.2 g22
                refine tr_s rfl rfl ?_
                refine tr_p (y_pick_f rfl rfl) rfl rfl ?_
                refine tr_p (y_move rfl) rfl rfl ?_
                refine tr_s rfl rfl ?_
                refine tr_s rfl rfl ?_
                refine tr_p (y_pick_f rfl rfl) rfl rfl ?_
                refine tr_p (y_assign rfl) rfl rfl ?_
                refine tr_nil ?_
                refine tr_thenN ?_
                refine tr_ret ?_
                exact tr_ret1 rfl rfl ⟨_, rfl, H⟩
            · replace H := H.2 g21
              refine tr_s rfl rfl ?_
              refine tr_s rfl rfl ?_
              refine tr_p (y_pick_f rfl rfl) rfl rfl ?_
              refine tr_p (y_move rfl) rfl rfl ?_
              refine tr_s rfl rfl ?_
              refine tr_p (y_pick_f rfl rfl) rfl rfl ?_
              refine tr_p (y_move rfl) rfl rfl ?_
              refine tr_s rfl rfl ?_
              refine tr_s rfl rfl ?_
              refine tr_p (y_pick_f rfl rfl) rfl rfl ?_
              refine tr_p (y_assign rfl) rfl rfl ?_
              refine tr_nil ?_
              refine tr_thenN ?_
              refine tr_ret ?_
              exact tr_ret1 rfl rfl ⟨_, rfl, H⟩
          · replace H := H.2 g18
            refine tr_s rfl rfl ?_
            refine tr_s rfl rfl ?_
            refine tr_s rfl rfl ?_
            refine tr_p (y_pick_f rfl rfl) rfl rfl ?_
            refine tr_p (y_move rfl) rfl rfl ?_
            refine tr_s rfl rfl ?_
            refine tr_s rfl rfl ?_
            refine tr_p (y_pick_f rfl rfl) rfl rfl ?_
            refine tr_p (y_move rfl) rfl rfl ?_
            refine tr_s rfl rfl ?_
            refine tr_p (y_pick_f rfl rfl) rfl rfl ?_
            refine tr_p (y_move rfl) rfl rfl ?_
            refine tr_s rfl rfl ?_
            refine tr_s rfl rfl ?_
            refine tr_p (y_pick_f rfl rfl) rfl rfl ?_
            refine tr_p (y_assign rfl) rfl rfl ?_
            refine tr_nil ?_
            refine tr_thenN ?_
            refine tr_ret ?_
            exact tr_ret1 rfl rfl ⟨_, rfl, H⟩
        · refine tr_seq_j (fun L' h => ∃ (x1 : Option Addr) (x42 : Bool), L' = [(1, (.pointer x1)), (42, (.bool x42))] ∧ F.spatelaw6_known.j4 Q x1 x42 h) ?_ ?_
          · rintro L' h ⟨x1, x42, rfl, H⟩
            unfold F.spatelaw6_known.j4 at H
            refine tr_cond rfl (fun g24 => ?_) (fun g24 => ?_)
            · replace H := H.1 g24
              refine tr_seq ?_
              refine tr_region ?_
              refine tr_p (y_assign rfl) rfl rfl ?_
              refine tr_nil ?_
              refine tr_thenN ?_
              refine tr_ret ?_
              refine tr_thenR ?_
              exact tr_ret1 rfl rfl ⟨_, rfl, H⟩
            · replace H := H.2 g24
              refine tr_skip ?_
              refine tr_thenN ?_
              exact tr_join [(1, (.pointer x1))] ⟨rfl, trivial⟩ ⟨_, rfl, H⟩
          · refine tr_region ?_
            refine tr_p (y_move rfl) rfl rfl ?_
            refine tr_e (e_call Try.call23 rfl (F.table_Table_int_Len_ok H)) rfl rfl ?_
            rintro _ h25 ⟨r26, rfl, H⟩
            refine tr_p (y_neq rfl rfl) rfl rfl ?_
            refine tr_p (y_move rfl) rfl rfl ?_
            refine tr_split (t := 33) rfl (fun g27 => ?_) (fun g27 => ?_)
            · replace H := H.1 g27
              refine tr_s rfl rfl ?_
              refine tr_s rfl rfl ?_
              refine tr_s rfl rfl ?_
              refine tr_p (y_pick_t rfl rfl) rfl rfl ?_
              refine tr_p (y_move rfl) rfl rfl ?_
              refine tr_s rfl rfl ?_
              refine tr_s rfl rfl ?_
              refine tr_s rfl rfl ?_
              refine tr_p (y_pick_t rfl rfl) rfl rfl ?_
              refine tr_nil ?_
              refine tr_thenN ?_
              exact tr_join [(1, (.pointer x1)), (42, (.bool true))] ⟨rfl, rfl, trivial⟩ ⟨_, _, rfl, H⟩
            · replace H := H.2 g27
              refine tr_p (y_move rfl) rfl rfl ?_
              refine tr_e (e_call Try.call24 rfl (F.table_Table_int_Slots_ok H)) rfl rfl ?_
              rintro _ h28 ⟨r29, rfl, H⟩
              refine tr_p (y_neq rfl rfl) rfl rfl ?_
              refine tr_p (y_pick_f rfl rfl) rfl rfl ?_
              refine tr_p (y_move rfl) rfl rfl ?_
              refine tr_split (t := 38) rfl (fun g30 => ?_) (fun g30 => ?_)
              · replace H := H.1 g30
                refine tr_s rfl rfl ?_
                refine tr_s rfl rfl ?_
                refine tr_s rfl rfl ?_
                refine tr_p (y_pick_t rfl rfl) rfl rfl ?_
                refine tr_nil ?_
                refine tr_thenN ?_
                exact tr_join [(1, (.pointer x1)), (42, (.bool true))] ⟨rfl, rfl, trivial⟩ ⟨_, _, rfl, H⟩
              · replace H := H.2 g30
                refine tr_p (y_move rfl) rfl rfl ?_
                refine tr_e (e_call Try.call27 rfl (F.table_Table_int_Left_ok H)) rfl rfl ?_
                rintro _ h31 ⟨r32, rfl, H⟩
                refine tr_p (y_neq rfl rfl) rfl rfl ?_
                refine tr_p (y_pick_f rfl rfl) rfl rfl ?_
                refine tr_nil ?_
                refine tr_thenN ?_
                exact tr_join [(1, (.pointer x1)), (42, (.bool ((r32 != 0))))] ⟨rfl, rfl, trivial⟩ ⟨_, _, rfl, H⟩
  · refine tr_seq_j (fun L' h => ∃ (x1 : Option Addr) (x17 : Bool), L' = [(1, (.pointer x1)), (17, (.bool x17))] ∧ F.spatelaw6_known.j5 Q x1 x17 h) ?_ ?_
    · rintro L' h ⟨x1, x17, rfl, H⟩
      unfold F.spatelaw6_known.j5 at H
      refine tr_cond rfl (fun g34 => ?_) (fun g34 => ?_)
      · replace H := H.1 g34
        refine tr_seq ?_
        refine tr_region ?_
        refine tr_p (y_assign rfl) rfl rfl ?_
        refine tr_nil ?_
        refine tr_thenN ?_
        refine tr_ret ?_
        refine tr_thenR ?_
        exact tr_ret1 rfl rfl ⟨_, rfl, H⟩
      · replace H := H.2 g34
        refine tr_skip ?_
        refine tr_thenN ?_
        exact tr_join [(1, (.pointer x1))] ⟨rfl, trivial⟩ ⟨_, rfl, H⟩
    · refine tr_region ?_
      refine tr_p (y_move rfl) rfl rfl ?_
      refine tr_p (y_pnil_eql Try.runUnderlying30 rfl rfl) rfl rfl ?_
      refine tr_p (y_move rfl) rfl rfl ?_
      refine tr_split (t := 10) rfl (fun g35 => ?_) (fun g35 => ?_)
      · replace H := H.1 g35
        refine tr_s rfl rfl ?_
        refine tr_s rfl rfl ?_
        refine tr_p (y_pick_t rfl rfl) rfl rfl ?_
        refine tr_p (y_move rfl) rfl rfl ?_
        refine tr_s rfl rfl ?_
        refine tr_s rfl rfl ?_
        refine tr_p (y_pick_t rfl rfl) rfl rfl ?_
        refine tr_nil ?_
        refine tr_thenN ?_
        exact tr_join [(1, (.pointer r2)), (17, (.bool true))] ⟨rfl, rfl, trivial⟩ ⟨_, _, rfl, H⟩
      · replace H := H.2 g35
        refine tr_e (e_call Try.call16 rfl (F.table_Hash_ok H)) rfl rfl ?_
        rintro _ h36 ⟨r37, rfl, H⟩
        refine tr_p (y_neq rfl rfl) rfl rfl ?_
        refine tr_p (y_pick_f rfl rfl) rfl rfl ?_
        refine tr_p (y_move rfl) rfl rfl ?_
        refine tr_split (t := 14) rfl (fun g38 => ?_) (fun g38 => ?_)
        · replace H := H.1 g38
          refine tr_s rfl rfl ?_
          refine tr_s rfl rfl ?_
          refine tr_p (y_pick_t rfl rfl) rfl rfl ?_
          refine tr_nil ?_
          refine tr_thenN ?_
          exact tr_join [(1, (.pointer r2)), (17, (.bool true))] ⟨rfl, rfl, trivial⟩ ⟨_, _, rfl, H⟩
        · replace H := H.2 g38
          refine tr_e (e_call Try.call16 rfl (F.table_Hash_ok H)) rfl rfl ?_
          rintro _ h39 ⟨r40, rfl, H⟩
          refine tr_p (y_neq rfl rfl) rfl rfl ?_
          refine tr_p (y_pick_f rfl rfl) rfl rfl ?_
          refine tr_nil ?_
          refine tr_thenN ?_
          exact tr_join [(1, (.pointer r2)), (17, (.bool ((r40 != 14695981039346656037))))] ⟨rfl, rfl, trivial⟩ ⟨_, _, rfl, H⟩

def F.spateref6_Hash.l1 (Q : Int → H → Prop) : Nat → ByteArray → Int → Int → H → Prop
  | 0, _, _, _, _ => False
  | q1 + 1, x0, x3, x4, h =>
    ((decide (x4 < (x0.size : Int))) = true →
    idxS x0 x4 fun b2 =>
    (F.spateref6_Hash.l1 Q q1) x0 (IntKind.wrap .u64 ((bitsOf .xor .u64 x3 (IntKind.wrap .u64 b2)) * 1099511628211)) (IntKind.wrap .i64 (x4 + 1)) h) ∧
    ((decide (x4 < (x0.size : Int))) = false →
    Q x3 h)
/-- spate/spateref6.Hash -/
def F.spateref6_Hash (p0 : ByteArray) (h : H) (Q : Int → H → Prop) : Prop :=
  ∃ m, F.spateref6_Hash.l1 Q m p0 14695981039346656037 0 h
theorem F.spateref6_Hash_ok {p0 : ByteArray} {h : H} {Q : Int → H → Prop} (H : F.spateref6_Hash p0 h Q) : Fn PP 18 ([(.string p0)] : List Value).toArray h fun r h' => ∃ r0, r = (.int .u64 r0) ∧ Q r0 h' := by
  unfold F.spateref6_Hash at H
  refine fn_of Try.func18 Try.ntmps18 rfl rfl fun w0 => ?_
  refine tr_sub [(0, (.string p0))] ⟨rfl, trivial⟩ ?_
  refine tr_seq ?_
  refine tr_region ?_
  refine tr_p (y_assign rfl) rfl rfl ?_
  refine tr_nil ?_
  refine tr_thenN ?_
  refine tr_seq ?_
  refine tr_region ?_
  refine tr_p (y_assign rfl) rfl rfl ?_
  refine tr_nil ?_
  refine tr_thenN ?_
  refine tr_seq ?_
  refine tr_seq ?_
  refine tr_region ?_
  refine tr_p (y_assign rfl) rfl rfl ?_
  refine tr_nil ?_
  refine tr_thenN ?_
  refine tr_block ?_
  obtain ⟨m4, H⟩ := H
  refine tr_sub [(0, (.string p0)), (3, (.int .u64 14695981039346656037)), (4, (.int .i64 0))] ⟨rfl, rfl, rfl, trivial⟩ ?_
  refine tr_loop_j (fun m L' h => ∃ (x0 : ByteArray) (x3 : Int) (x4 : Int), L' = [(0, (.string x0)), (3, (.int .u64 x3)), (4, (.int .i64 x4))] ∧ F.spateref6_Hash.l1 Q m x0 x3 x4 h) ?_ ?_ m4 ⟨_, _, _, rfl, H⟩
  · rintro L' h ⟨_, _, _, _, H⟩; exact H
  · rintro q1 L' h ⟨x0, x3, x4, rfl, H⟩
    unfold F.spateref6_Hash.l1 at H
    refine tr_seq ?_
    refine tr_seq ?_
    refine tr_region ?_
    refine tr_p (y_move rfl) rfl rfl ?_
    refine tr_p (y_move rfl) rfl rfl ?_
    refine tr_p (y_lenS Try.runUnderlying9 rfl) rfl rfl ?_
    refine tr_p (y_lss rfl rfl) rfl rfl ?_
    refine tr_nil ?_
    refine tr_thenN ?_
    refine tr_cond rfl (fun g1 => ?_) (fun g1 => ?_)
    · replace H := H.1 g1
      refine tr_skip ?_
      refine tr_thenN ?_
      refine tr_seq ?_
      refine tr_block ?_
      refine tr_region ?_
      refine tr_p (y_move rfl) rfl rfl ?_
      refine tr_p (y_move rfl) rfl rfl ?_
      refine tr_p (y_move rfl) rfl rfl ?_
      obtain ⟨b2, e3, H⟩ := H
      refine tr_p (f_idxS Try.runUnderlying9 rfl rfl e3) rfl rfl ?_
      refine tr_p (y_cvt Try.runUnderlying5 Try.runUnderlying26 rfl) rfl rfl ?_
      refine tr_p (y_xor rfl rfl) rfl rfl ?_
      refine tr_p (y_mul rfl rfl) rfl rfl ?_
      refine tr_p (y_assign rfl) rfl rfl ?_
      refine tr_nil ?_
      refine tr_blockN ?_
      refine tr_thenN ?_
      refine tr_region ?_
      refine tr_p (y_move rfl) rfl rfl ?_
      refine tr_p (y_add rfl rfl) rfl rfl ?_
      refine tr_p (y_assign rfl) rfl rfl ?_
      refine tr_nil ?_
      refine tr_thenN ?_
      exact tr_join [(0, (.string x0)), (3, (.int .u64 (IntKind.wrap .u64 ((bitsOf .xor .u64 x3 (IntKind.wrap .u64 b2)) * 1099511628211)))), (4, (.int .i64 (IntKind.wrap .i64 (x4 + 1))))] ⟨rfl, rfl, rfl, trivial⟩ ⟨_, _, _, rfl, H⟩
    · replace H := H.2 g1
      refine tr_exit ?_
      refine tr_thenE ?_
      refine tr_thenE ?_
      refine tr_hit ?_
      refine tr_thenN ?_
      refine tr_seq ?_
      refine tr_region ?_
      refine tr_p (y_move rfl) rfl rfl ?_
      refine tr_p (y_assign rfl) rfl rfl ?_
      refine tr_nil ?_
      refine tr_thenN ?_
      refine tr_ret ?_
      exact tr_ret1 rfl rfl ⟨_, rfl, H⟩

/-- spate/spatelaw6.TableHash -/
def F.spatelaw6_TableHash (p0 : ByteArray) (h : H) (Q : Bool → H → Prop) : Prop :=
  F.spatelaw6_known  h fun r2 h1 =>
  ((!r2) = true →
  Q false h1) ∧
  ((!r2) = false →
  ((decide ((p0.size : Int) > 1048576)) = true →
  Q true h1) ∧
  ((decide ((p0.size : Int) > 1048576)) = false →
  F.table_Hash p0 h1 fun r6 h5 =>
  F.spateref6_Hash p0 h5 fun r8 h7 =>
  Q ((r6 == r8)) h7))
theorem F.spatelaw6_TableHash_ok {p0 : ByteArray} {h : H} {Q : Bool → H → Prop} (H : F.spatelaw6_TableHash p0 h Q) : Fn PP 4 ([(.string p0)] : List Value).toArray h fun r h' => ∃ r0, r = (.bool r0) ∧ Q r0 h' := by
  unfold F.spatelaw6_TableHash at H
  refine fn_of Try.func4 Try.ntmps4 rfl rfl fun w0 => ?_
  refine tr_sub [(0, (.string p0))] ⟨rfl, trivial⟩ ?_
  refine tr_seq ?_
  refine tr_region ?_
  refine tr_p (y_assign rfl) rfl rfl ?_
  refine tr_nil ?_
  refine tr_thenN ?_
  refine tr_seq ?_
  refine tr_seq ?_
  refine tr_region ?_
  refine tr_e (e_call Try.call17 rfl (F.spatelaw6_known_ok H)) rfl rfl ?_
  rintro _ h1 ⟨r2, rfl, H⟩
  refine tr_p (y_not rfl) rfl rfl ?_
  refine tr_nil ?_
  refine tr_thenN ?_
  refine tr_cond rfl (fun g3 => ?_) (fun g3 => ?_)
  · replace H := H.1 g3
    refine tr_seq ?_
    refine tr_region ?_
    refine tr_p (y_assign rfl) rfl rfl ?_
    refine tr_nil ?_
    refine tr_thenN ?_
    refine tr_ret ?_
    refine tr_thenR ?_
    exact tr_ret1 rfl rfl ⟨_, rfl, H⟩
  · replace H := H.2 g3
    refine tr_skip ?_
    refine tr_thenN ?_
    refine tr_seq ?_
    refine tr_region ?_
    refine tr_p (y_move rfl) rfl rfl ?_
    refine tr_p (y_lenS Try.runUnderlying9 rfl) rfl rfl ?_
    refine tr_p (y_gtr rfl rfl) rfl rfl ?_
    refine tr_p (y_move rfl) rfl rfl ?_
    refine tr_split (t := 8) rfl (fun g4 => ?_) (fun g4 => ?_)
    · replace H := H.1 g4
      refine tr_s rfl rfl ?_
      refine tr_s rfl rfl ?_
      refine tr_s rfl rfl ?_
      refine tr_s rfl rfl ?_
      refine tr_s rfl rfl ?_
      refine tr_p (y_pick_t rfl rfl) rfl rfl ?_
      refine tr_p (y_assign rfl) rfl rfl ?_
      refine tr_nil ?_
      refine tr_thenN ?_
      refine tr_ret ?_
      exact tr_ret1 rfl rfl ⟨_, rfl, H⟩
    · replace H := H.2 g4
      refine tr_p (y_move rfl) rfl rfl ?_
      refine tr_e (e_call Try.call16 rfl (F.table_Hash_ok H)) rfl rfl ?_
      rintro _ h5 ⟨r6, rfl, H⟩
      refine tr_p (y_move rfl) rfl rfl ?_
      refine tr_e (e_call Try.call18 rfl (F.spateref6_Hash_ok H)) rfl rfl ?_
      rintro _ h7 ⟨r8, rfl, H⟩
      refine tr_p (y_eql rfl rfl) rfl rfl ?_
      refine tr_p (y_pick_f rfl rfl) rfl rfl ?_
      refine tr_p (y_assign rfl) rfl rfl ?_
      refine tr_nil ?_
      refine tr_thenN ?_
      refine tr_ret ?_
      exact tr_ret1 rfl rfl ⟨_, rfl, H⟩

/-- spate/spateref6.New -/
def F.spateref6_New  (h : H) (Q : (Option Addr) → H → Prop) : Prop :=
  runL PP (Instr.makeSlice 102 (.int .i64 8) (.int .i64 8)) h fun s2 h1 =>
  new h1 ((⟨s2, (⟨none, 0, 0⟩ : Sl), 0, 0⟩ : S_spateref6_Table).cells.toArray) ty_104 fun a4 h3 =>
  Q (some a4) h3
theorem F.spateref6_New_ok  {h : H} {Q : (Option Addr) → H → Prop} (H : F.spateref6_New  h Q) : Fn PP 40 ([] : List Value).toArray h fun r h' => ∃ r0, r = (.pointer r0) ∧ Q r0 h' := by
  unfold F.spateref6_New at H
  refine fn_of Try.func40 Try.ntmps40 rfl rfl fun w0 => ?_
  refine tr_sub [] trivial ?_
  refine tr_seq ?_
  refine tr_region ?_
  refine tr_p (y_assign rfl) rfl rfl ?_
  refine tr_nil ?_
  refine tr_thenN ?_
  refine tr_seq ?_
  refine tr_region ?_
  refine tr_e (f_make rfl rfl H) rfl rfl ?_
  rintro _ h1 ⟨s2, rfl, H⟩
  refine tr_p (f_build rfl (bd_104_0 s2)) rfl rfl ?_
  refine tr_e (f_box (cs := (⟨s2, (⟨none, 0, 0⟩ : Sl), 0, 0⟩ : S_spateref6_Table).cells.toArray) rfl rfl H) rfl rfl ?_
  rintro _ h3 ⟨a4, rfl, H⟩
  refine tr_p (y_assign rfl) rfl rfl ?_
  refine tr_nil ?_
  refine tr_thenN ?_
  refine tr_ret ?_
  exact tr_ret1 rfl rfl ⟨_, rfl, H⟩

/-- (*spate/spateref6.Table).Left -/
def F.spateref6_Table_Left (p0 : Option Addr) (h : H) (Q : Int → H → Prop) : Prop :=
  nn p0 fun a1 =>
  ldL h (a1.add 1) fun y3 =>
  nn p0 fun a5 =>
  ldI .i64 h (a5.add 2) fun y7 =>
  Q (IntKind.wrap .i64 ((y3.len : Int) - y7)) h
theorem F.spateref6_Table_Left_ok {p0 : Option Addr} {h : H} {Q : Int → H → Prop} (H : F.spateref6_Table_Left p0 h Q) : Fn PP 72 ([(.pointer p0)] : List Value).toArray h fun r h' => ∃ r0, r = (.int .i64 r0) ∧ Q r0 h' := by
  unfold F.spateref6_Table_Left at H
  refine fn_of Try.func72 Try.ntmps72 rfl rfl fun w0 => ?_
  refine tr_sub [(0, (.pointer p0))] ⟨rfl, trivial⟩ ?_
  refine tr_seq ?_
  refine tr_region ?_
  refine tr_p (y_assign rfl) rfl rfl ?_
  refine tr_nil ?_
  refine tr_thenN ?_
  refine tr_seq ?_
  refine tr_draw mixed [0, 1, 3, 7, 15, 0, 32, 96, 224, 511, 1023] (by kernel_rfl) ?_
  refine g_p 0 1 rfl (by kernel_rfl) (y_move rfl) rfl rfl ?_
  obtain ⟨a1, e2, H⟩ := H
  refine g_p 1 3 rfl (by kernel_rfl) (f_nn rfl e2) rfl rfl ?_
  refine g_p 2 7 rfl (by kernel_rfl) (y_fa (off := 1) Try.runUnderlying104 fo_104_1 rfl) rfl rfl ?_
  obtain ⟨y3, k4, H⟩ := H
  refine g_h 3 15 rfl (by kernel_rfl) (y_ld Try.isAgg102 rfl) k4 rfl rfl ?_
  refine g_p 4 31 rfl (by kernel_rfl) (y_len (ts := #[]) Try.runUnderlying102 (o := y3.ptr) (n := y3.len) (cap := y3.cap) rfl) rfl rfl ?_
  refine g_p 5 63 rfl (by kernel_rfl) (y_move rfl) rfl rfl ?_
  obtain ⟨a5, e6, H⟩ := H
  refine g_p 6 127 rfl (by kernel_rfl) (f_nn rfl e6) rfl rfl ?_
  refine g_p 7 255 rfl (by kernel_rfl) (y_fa (off := 2) Try.runUnderlying104 fo_104_2 rfl) rfl rfl ?_
  obtain ⟨y7, k8, H⟩ := H
  refine g_h 8 511 rfl (by kernel_rfl) (y_ld Try.isAgg3 rfl) k8 rfl rfl ?_
  refine g_p 9 1023 rfl (by kernel_rfl) (y_sub rfl rfl) rfl rfl ?_
  refine g_p 10 2047 rfl (by kernel_rfl) (y_assign rfl) rfl rfl ?_
  refine g_d (by kernel_rfl) ?_
  refine tr_thenN ?_
  refine tr_ret ?_
  exact tr_ret1 rfl rfl ⟨_, rfl, H⟩

/-- spate/spatelaw6.sizes -/
def F.spatelaw6_sizes (p0 : Option Addr) (p1 : Option Addr) (h : H) (Q : Bool → H → Prop) : Prop :=
  nn p1 fun a1 =>
  ldI .i64 h (a1.add 3) fun y3 =>
  F.table_Table_int_Len p0 h fun r6 h5 =>
  cellH h5 (a1.add 3) = some (.int .i64 y3) ∧
  (((r6 == y3)) = true →
  nn p1 fun a9 =>
  ldL h5 (a9.add 0) fun y11 =>
  F.table_Table_int_Slots p0 h5 fun r14 h13 =>
  cellH h13 (a9.add 0) = some y11.enc ∧
  (((r14 == (y11.len : Int))) = true →
  F.table_Table_int_Left p0 h13 fun r18 h17 =>
  F.spateref6_Table_Left p1 h17 fun r20 h19 =>
  Q ((r18 == r20)) h19) ∧
  (((r14 == (y11.len : Int))) = false →
  Q false h13)) ∧
  (((r6 == y3)) = false →
  Q false h5)
theorem F.spatelaw6_sizes_ok {p0 : Option Addr} {p1 : Option Addr} {h : H} {Q : Bool → H → Prop} (H : F.spatelaw6_sizes p0 p1 h Q) : Fn PP 61 ([(.pointer p0), (.pointer p1)] : List Value).toArray h fun r h' => ∃ r0, r = (.bool r0) ∧ Q r0 h' := by
  unfold F.spatelaw6_sizes at H
  refine fn_of Try.func61 Try.ntmps61 rfl rfl fun w0 => ?_
  refine tr_sub [(0, (.pointer p0)), (1, (.pointer p1))] ⟨rfl, rfl, trivial⟩ ?_
  refine tr_seq ?_
  refine tr_region ?_
  refine tr_p (y_assign rfl) rfl rfl ?_
  refine tr_nil ?_
  refine tr_thenN ?_
  refine tr_seq ?_
  refine tr_draw mixed [0, 1, 0, 4, 12, 28, 63, 127, 255, 511, 255, 1279, 3327, 7423, 15615, 32767, 65535, 131071, 262143, 524287, 262143, 2097151, 4194303, 8388607, 16777215] (by kernel_rfl) ?_
  refine g_p 0 1 rfl (by kernel_rfl) (y_move rfl) rfl rfl ?_
  refine g_p 2 5 rfl (by kernel_rfl) (y_move rfl) rfl rfl ?_
  obtain ⟨a1, e2, H⟩ := H
  refine g_p 3 13 rfl (by kernel_rfl) (f_nn rfl e2) rfl rfl ?_
  refine g_p 4 29 rfl (by kernel_rfl) (y_fa (off := 3) Try.runUnderlying104 fo_104_3 rfl) rfl rfl ?_
  obtain ⟨y3, k4, H⟩ := H
  refine g_h 5 61 rfl (by kernel_rfl) (y_ld Try.isAgg3 rfl) k4 rfl rfl ?_
  refine g_e 1 63 [(5, fun h => cellH h (a1.add 3) = some (.int .i64 y3))] (by kernel_rfl) rfl (by kernel_rfl) (e_call Try.call23 rfl (F.table_Table_int_Len_ok H)) rfl rfl ?_
  rintro _ h5 ⟨r6, rfl, H⟩
  obtain ⟨k7, H⟩ := H
  refine ⟨And.intro k7 trivial, ?_⟩
  refine g_p 6 127 rfl (by kernel_rfl) (y_eql rfl rfl) rfl rfl ?_
  refine g_p 7 255 rfl (by kernel_rfl) (y_move rfl) rfl rfl ?_
  refine g_split (t := 12) rfl (fun g8 => ?_) (fun g8 => ?_)
  · replace H := H.1 g8
    refine g_p 8 511 rfl (by kernel_rfl) (y_move rfl) rfl rfl ?_
    refine g_p 10 1535 rfl (by kernel_rfl) (y_move rfl) rfl rfl ?_
    obtain ⟨a9, e10, H⟩ := H
    refine g_p 11 3583 rfl (by kernel_rfl) (f_nn rfl e10) rfl rfl ?_
    refine g_p 12 7679 rfl (by kernel_rfl) (y_fa (off := 0) Try.runUnderlying104 fo_104_0 rfl) rfl rfl ?_
    obtain ⟨y11, k12, H⟩ := H
    refine g_h 13 15871 rfl (by kernel_rfl) (y_ld Try.isAgg102 rfl) k12 rfl rfl ?_
    refine g_p 14 32255 rfl (by kernel_rfl) (y_len (ts := #[]) Try.runUnderlying102 (o := y11.ptr) (n := y11.len) (cap := y11.cap) rfl) rfl rfl ?_
    refine g_e 9 32767 [(13, fun h => cellH h (a9.add 0) = some y11.enc)] (by kernel_rfl) rfl (by kernel_rfl) (e_call Try.call24 rfl (F.table_Table_int_Slots_ok H)) rfl rfl ?_
    rintro _ h13 ⟨r14, rfl, H⟩
    obtain ⟨k15, H⟩ := H
    refine ⟨And.intro k15 trivial, ?_⟩
    refine g_p 15 65535 rfl (by kernel_rfl) (y_eql rfl rfl) rfl rfl ?_
    refine g_p 16 131071 rfl (by kernel_rfl) (y_pick_t rfl rfl) rfl rfl ?_
    refine g_p 17 262143 rfl (by kernel_rfl) (y_move rfl) rfl rfl ?_
    refine g_split (t := 22) rfl (fun g16 => ?_) (fun g16 => ?_)
    · replace H := H.1 g16
      refine g_p 18 524287 rfl (by kernel_rfl) (y_move rfl) rfl rfl ?_
      refine g_p 20 1572863 rfl (by kernel_rfl) (y_move rfl) rfl rfl ?_
      refine g_e 19 2097151 [] (by kernel_rfl) rfl (by kernel_rfl) (e_call Try.call27 rfl (F.table_Table_int_Left_ok H)) rfl rfl ?_
      rintro _ h17 ⟨r18, rfl, H⟩
      refine ⟨trivial, ?_⟩
      refine g_e 21 4194303 [] (by kernel_rfl) rfl (by kernel_rfl) (e_call Try.call72 rfl (F.spateref6_Table_Left_ok H)) rfl rfl ?_
      rintro _ h19 ⟨r20, rfl, H⟩
      refine ⟨trivial, ?_⟩
      refine g_p 22 8388607 rfl (by kernel_rfl) (y_eql rfl rfl) rfl rfl ?_
      refine g_p 23 16777215 rfl (by kernel_rfl) (y_pick_t rfl rfl) rfl rfl ?_
      refine g_p 24 33554431 rfl (by kernel_rfl) (y_assign rfl) rfl rfl ?_
      refine g_d (by kernel_rfl) ?_
      refine tr_thenN ?_
      refine tr_ret ?_
      exact tr_ret1 rfl rfl ⟨_, rfl, H⟩
    · replace H := H.2 g16
      refine g_s 18 524287 rfl (by kernel_rfl) rfl rfl ?_
      refine g_s 19 1048575 rfl (by kernel_rfl) rfl rfl ?_
      refine g_s 20 2097151 rfl (by kernel_rfl) rfl rfl ?_
      refine g_s 21 4194303 rfl (by kernel_rfl) rfl rfl ?_
      refine g_s 22 8388607 rfl (by kernel_rfl) rfl rfl ?_
      refine g_p 23 16777215 rfl (by kernel_rfl) (y_pick_f rfl rfl) rfl rfl ?_
      refine g_p 24 33554431 rfl (by kernel_rfl) (y_assign rfl) rfl rfl ?_
      refine g_d (by kernel_rfl) ?_
      refine tr_thenN ?_
      refine tr_ret ?_
      exact tr_ret1 rfl rfl ⟨_, rfl, H⟩
  · replace H := H.2 g8
    refine g_s 8 511 rfl (by kernel_rfl) rfl rfl ?_
    refine g_s 9 1023 rfl (by kernel_rfl) rfl rfl ?_
    refine g_s 10 2047 rfl (by kernel_rfl) rfl rfl ?_
    refine g_s 11 4095 rfl (by kernel_rfl) rfl rfl ?_
    refine g_s 12 8191 rfl (by kernel_rfl) rfl rfl ?_
    refine g_s 13 16383 rfl (by kernel_rfl) rfl rfl ?_
    refine g_s 14 32767 rfl (by kernel_rfl) rfl rfl ?_
    refine g_s 15 65535 rfl (by kernel_rfl) rfl rfl ?_
    refine g_p 16 131071 rfl (by kernel_rfl) (y_pick_f rfl rfl) rfl rfl ?_
    refine g_p 17 262143 rfl (by kernel_rfl) (y_move rfl) rfl rfl ?_
    refine g_s 18 524287 rfl (by kernel_rfl) rfl rfl ?_
    refine g_s 19 1048575 rfl (by kernel_rfl) rfl rfl ?_
    refine g_s 20 2097151 rfl (by kernel_rfl) rfl rfl ?_
    refine g_s 21 4194303 rfl (by kernel_rfl) rfl rfl ?_
    refine g_s 22 8388607 rfl (by kernel_rfl) rfl rfl ?_
    refine g_p 23 16777215 rfl (by kernel_rfl) (y_pick_f rfl rfl) rfl rfl ?_
    refine g_p 24 33554431 rfl (by kernel_rfl) (y_assign rfl) rfl rfl ?_
    refine g_d (by kernel_rfl) ?_
    refine tr_thenN ?_
    refine tr_ret ?_
    exact tr_ret1 rfl rfl ⟨_, rfl, H⟩

/-- spate/spateref6.home -/
def F.spateref6_home (p0 : Sl) (p1 : ByteArray) (h : H) (Q : Int → H → Prop) : Prop :=
  F.spateref6_Hash p1 h fun r2 h1 =>
  ((IntKind.wrap .u64 (p0.len : Int)) : Int) ≠ 0 ∧
  Q (IntKind.wrap .i64 (Int.tmod r2 (IntKind.wrap .u64 (p0.len : Int)))) h1
theorem F.spateref6_home_ok {p0 : Sl} {p1 : ByteArray} {h : H} {Q : Int → H → Prop} (H : F.spateref6_home p0 p1 h Q) : Fn PP 75 ([p0.enc, (.string p1)] : List Value).toArray h fun r h' => ∃ r0, r = (.int .i64 r0) ∧ Q r0 h' := by
  unfold F.spateref6_home at H
  refine fn_of Try.func75 Try.ntmps75 rfl rfl fun w0 => ?_
  refine tr_sub [(0, p0.enc), (1, (.string p1))] ⟨rfl, rfl, trivial⟩ ?_
  refine tr_seq ?_
  refine tr_region ?_
  refine tr_p (y_assign rfl) rfl rfl ?_
  refine tr_nil ?_
  refine tr_thenN ?_
  refine tr_seq ?_
  refine tr_region ?_
  refine tr_p (y_move rfl) rfl rfl ?_
  refine tr_e (e_call Try.call18 rfl (F.spateref6_Hash_ok H)) rfl rfl ?_
  rintro _ h1 ⟨r2, rfl, H⟩
  refine tr_p (y_move rfl) rfl rfl ?_
  refine tr_p (y_len (ts := #[]) Try.runUnderlying102 (o := p0.ptr) (n := p0.len) (cap := p0.cap) rfl) rfl rfl ?_
  refine tr_p (y_cvt Try.runUnderlying3 Try.runUnderlying26 rfl) rfl rfl ?_
  obtain ⟨e3, H⟩ := H
  refine tr_p (y_rem rfl rfl e3) rfl rfl ?_
  refine tr_p (y_cvt Try.runUnderlying26 Try.runUnderlying3 rfl) rfl rfl ?_
  refine tr_p (y_assign rfl) rfl rfl ?_
  refine tr_nil ?_
  refine tr_thenN ?_
  refine tr_ret ?_
  exact tr_ret1 rfl rfl ⟨_, rfl, H⟩

def F.spateref6_find.j3 (Q : Int → Bool → H → Prop) (C1 : Sl → ByteArray → Int → H → Prop) (x0 : Sl) (x1 : ByteArray) (x6 : Int) (h : H) : Prop :=
  ((x0.len : Int) : Int) ≠ 0 ∧
  C1 x0 x1 (Int.tmod (IntKind.wrap .i64 (x6 + 1)) (x0.len : Int)) h
def F.spateref6_find.j4 (Q : Int → Bool → H → Prop) (C1 : Sl → ByteArray → Int → H → Prop) (x0 : Sl) (x1 : ByteArray) (x6 : Int) (x35 : Bool) (h : H) : Prop :=
  (x35 = true →
  Q x6 true h) ∧
  (x35 = false →
  F.spateref6_find.j3 Q C1 x0 x1 x6 h)
def F.spateref6_find.j2 (Q : Int → Bool → H → Prop) (C1 : Sl → ByteArray → Int → H → Prop) (x0 : Sl) (x1 : ByteArray) (x6 : Int) (h : H) : Prop :=
  idxA x0 x6 4 fun a5 =>
  ldB h (a5.add 0) fun y7 =>
  (y7 = true →
  idxA x0 x6 4 fun a10 =>
  ldS h (a10.add 2) fun y12 =>
  F.spateref6_find.j4 Q C1 x0 x1 x6 (y12.toList == x1.toList) h) ∧
  (y7 = false →
  F.spateref6_find.j4 Q C1 x0 x1 x6 false h)
def F.spateref6_find.j5 (Q : Int → Bool → H → Prop) (C1 : Sl → ByteArray → Int → H → Prop) (x0 : Sl) (x1 : ByteArray) (x6 : Int) (x21 : Bool) (h : H) : Prop :=
  (x21 = true →
  F.spateref6_find.j2 Q C1 x0 x1 x6 h) ∧
  (x21 = false →
  Q x6 false h)
def F.spateref6_find.l1 (Q : Int → Bool → H → Prop) : Nat → Sl → ByteArray → Int → H → Prop
  | 0, _, _, _, _ => False
  | q1 + 1, x0, x1, x6, h =>
    idxA x0 x6 4 fun a15 =>
    ldB h (a15.add 0) fun y17 =>
    (y17 = true →
    F.spateref6_find.j5 Q (F.spateref6_find.l1 Q q1) x0 x1 x6 true h) ∧
    (y17 = false →
    idxA x0 x6 4 fun a20 =>
    ldB h (a20.add 1) fun y22 =>
    F.spateref6_find.j5 Q (F.spateref6_find.l1 Q q1) x0 x1 x6 y22 h)
/-- spate/spateref6.find -/
def F.spateref6_find (p0 : Sl) (p1 : ByteArray) (h : H) (Q : Int → Bool → H → Prop) : Prop :=
  F.spateref6_home p0 p1 h fun r2 h1 =>
  ∃ m, F.spateref6_find.l1 Q m p0 p1 r2 h1
theorem F.spateref6_find_ok {p0 : Sl} {p1 : ByteArray} {h : H} {Q : Int → Bool → H → Prop} (H : F.spateref6_find p0 p1 h Q) : Fn PP 73 ([p0.enc, (.string p1)] : List Value).toArray h fun r h' => ∃ r0 r1, r = .tuple #[(.int .i64 r0), (.bool r1)] ∧ Q r0 r1 h' := by
  unfold F.spateref6_find at H
  refine fn_of Try.func73 Try.ntmps73 rfl rfl fun w0 => ?_
  refine tr_sub [(0, p0.enc), (1, (.string p1))] ⟨rfl, rfl, trivial⟩ ?_
  refine tr_seq ?_
  refine tr_region ?_
  refine tr_p (y_assign rfl) rfl rfl ?_
  refine tr_p (y_assign rfl) rfl rfl ?_
  refine tr_nil ?_
  refine tr_thenN ?_
  refine tr_seq ?_
  refine tr_region ?_
  refine tr_p (y_move rfl) rfl rfl ?_
  refine tr_p (y_move rfl) rfl rfl ?_
  refine tr_e (e_call Try.call75 rfl (F.spateref6_home_ok H)) rfl rfl ?_
  rintro _ h1 ⟨r2, rfl, H⟩
  refine tr_p (y_assign rfl) rfl rfl ?_
  refine tr_nil ?_
  refine tr_thenN ?_
  refine tr_seq ?_
  refine tr_block ?_
  obtain ⟨m24, H⟩ := H
  refine tr_sub [(0, p0.enc), (1, (.string p1)), (6, (.int .i64 r2))] ⟨rfl, rfl, rfl, trivial⟩ ?_
  refine tr_loop_j (fun m L' h => ∃ (x0 : Sl) (x1 : ByteArray) (x6 : Int), L' = [(0, x0.enc), (1, (.string x1)), (6, (.int .i64 x6))] ∧ F.spateref6_find.l1 Q m x0 x1 x6 h) ?_ ?_ m24 ⟨_, _, _, rfl, H⟩
  · rintro L' h ⟨_, _, _, _, H⟩; exact H
  · rintro q1 L' h ⟨x0, x1, x6, rfl, H⟩
    unfold F.spateref6_find.l1 at H
    refine tr_seq_j (fun L' h => ∃ (x0 : Sl) (x1 : ByteArray) (x6 : Int), L' = [(0, x0.enc), (1, (.string x1)), (6, (.int .i64 x6))] ∧ F.spateref6_find.j2 Q (F.spateref6_find.l1 Q q1) x0 x1 x6 h) ?_ ?_
    · rintro L' h ⟨x0, x1, x6, rfl, H⟩
      unfold F.spateref6_find.j2 at H
      refine tr_block ?_
      refine tr_seq_j (fun L' h => ∃ (x0 : Sl) (x1 : ByteArray) (x6 : Int), L' = [(0, x0.enc), (1, (.string x1)), (6, (.int .i64 x6))] ∧ F.spateref6_find.j3 Q (F.spateref6_find.l1 Q q1) x0 x1 x6 h) ?_ ?_
      · rintro L' h ⟨x0, x1, x6, rfl, H⟩
        unfold F.spateref6_find.j3 at H
        refine tr_region ?_
        refine tr_p (y_move rfl) rfl rfl ?_
        refine tr_p (y_add rfl rfl) rfl rfl ?_
        refine tr_p (y_move rfl) rfl rfl ?_
        refine tr_p (y_len (ts := #[]) Try.runUnderlying102 (o := x0.ptr) (n := x0.len) (cap := x0.cap) rfl) rfl rfl ?_
        obtain ⟨e3, H⟩ := H
        refine tr_p (y_rem rfl rfl e3) rfl rfl ?_
        refine tr_p (y_assign rfl) rfl rfl ?_
        refine tr_nil ?_
        refine tr_blockN ?_
        refine tr_thenN ?_
        exact tr_join [(0, x0.enc), (1, (.string x1)), (6, (.int .i64 (Int.tmod (IntKind.wrap .i64 (x6 + 1)) (x0.len : Int))))] ⟨rfl, rfl, rfl, trivial⟩ ⟨_, _, _, rfl, H⟩
      · refine tr_seq_j (fun L' h => ∃ (x0 : Sl) (x1 : ByteArray) (x6 : Int) (x35 : Bool), L' = [(0, x0.enc), (1, (.string x1)), (6, (.int .i64 x6)), (35, (.bool x35))] ∧ F.spateref6_find.j4 Q (F.spateref6_find.l1 Q q1) x0 x1 x6 x35 h) ?_ ?_
        · rintro L' h ⟨x0, x1, x6, x35, rfl, H⟩
          unfold F.spateref6_find.j4 at H
          refine tr_cond rfl (fun g4 => ?_) (fun g4 => ?_)
          · replace H := H.1 g4
            refine tr_seq ?_
            refine tr_region ?_
            refine tr_p (y_move rfl) rfl rfl ?_
            refine tr_p (y_assign rfl) rfl rfl ?_
            refine tr_p (y_assign rfl) rfl rfl ?_
            refine tr_nil ?_
            refine tr_thenN ?_
            refine tr_ret ?_
            refine tr_thenR ?_
            refine tr_blockR ?_
            refine tr_thenR ?_
            refine tr_blockR ?_
            refine tr_thenR ?_
            exact tr_ret2 rfl rfl rfl ⟨_, _, rfl, H⟩
          · replace H := H.2 g4
            refine tr_skip ?_
            refine tr_thenN ?_
            exact tr_join [(0, x0.enc), (1, (.string x1)), (6, (.int .i64 x6))] ⟨rfl, rfl, rfl, trivial⟩ ⟨_, _, _, rfl, H⟩
        · refine tr_region ?_
          refine tr_p (y_move rfl) rfl rfl ?_
          refine tr_p (y_move rfl) rfl rfl ?_
          obtain ⟨a5, e6, H⟩ := H
          refine tr_p (f_idx (s := x0) Try.runUnderlying102 Try.sizeOf114 rfl rfl e6) rfl rfl ?_
          refine tr_p (y_fa (off := 0) Try.runUnderlying114 fo_114_0 rfl) rfl rfl ?_
          obtain ⟨y7, k8, H⟩ := H
          refine tr_h (y_ld Try.isAgg4 rfl) k8 rfl rfl ?_
          refine tr_p (y_move rfl) rfl rfl ?_
          refine tr_split (t := 27) rfl (fun g9 => ?_) (fun g9 => ?_)
          · replace H := H.1 g9
            refine tr_p (y_move rfl) rfl rfl ?_
            refine tr_p (y_move rfl) rfl rfl ?_
            obtain ⟨a10, e11, H⟩ := H
            refine tr_p (f_idx (s := x0) Try.runUnderlying102 Try.sizeOf114 rfl rfl e11) rfl rfl ?_
            refine tr_p (y_fa (off := 2) Try.runUnderlying114 fo_114_2 rfl) rfl rfl ?_
            obtain ⟨y12, k13, H⟩ := H
            refine tr_h (y_ld Try.isAgg9 rfl) k13 rfl rfl ?_
            refine tr_p (y_move rfl) rfl rfl ?_
            refine tr_p (y_seql rfl rfl) rfl rfl ?_
            refine tr_p (y_pick_t rfl rfl) rfl rfl ?_
            refine tr_nil ?_
            refine tr_thenN ?_
            exact tr_join [(0, x0.enc), (1, (.string x1)), (6, (.int .i64 x6)), (35, (.bool (y12.toList == x1.toList)))] ⟨rfl, rfl, rfl, rfl, trivial⟩ ⟨_, _, _, _, rfl, H⟩
          · replace H := H.2 g9
            refine tr_s rfl rfl ?_
            refine tr_s rfl rfl ?_
            refine tr_s rfl rfl ?_
            refine tr_s rfl rfl ?_
            refine tr_s rfl rfl ?_
            refine tr_s rfl rfl ?_
            refine tr_s rfl rfl ?_
            refine tr_p (y_pick_f rfl rfl) rfl rfl ?_
            refine tr_nil ?_
            refine tr_thenN ?_
            exact tr_join [(0, x0.enc), (1, (.string x1)), (6, (.int .i64 x6)), (35, (.bool false))] ⟨rfl, rfl, rfl, rfl, trivial⟩ ⟨_, _, _, _, rfl, H⟩
    · refine tr_seq_j (fun L' h => ∃ (x0 : Sl) (x1 : ByteArray) (x6 : Int) (x21 : Bool), L' = [(0, x0.enc), (1, (.string x1)), (6, (.int .i64 x6)), (21, (.bool x21))] ∧ F.spateref6_find.j5 Q (F.spateref6_find.l1 Q q1) x0 x1 x6 x21 h) ?_ ?_
      · rintro L' h ⟨x0, x1, x6, x21, rfl, H⟩
        unfold F.spateref6_find.j5 at H
        refine tr_cond rfl (fun g14 => ?_) (fun g14 => ?_)
        · replace H := H.1 g14
          refine tr_skip ?_
          refine tr_thenN ?_
          exact tr_join [(0, x0.enc), (1, (.string x1)), (6, (.int .i64 x6))] ⟨rfl, rfl, rfl, trivial⟩ ⟨_, _, _, rfl, H⟩
        · replace H := H.2 g14
          refine tr_exit ?_
          refine tr_thenE ?_
          refine tr_thenE ?_
          refine tr_hit ?_
          refine tr_thenN ?_
          refine tr_seq ?_
          refine tr_region ?_
          refine tr_p (y_move rfl) rfl rfl ?_
          refine tr_p (y_assign rfl) rfl rfl ?_
          refine tr_p (y_assign rfl) rfl rfl ?_
          refine tr_nil ?_
          refine tr_thenN ?_
          refine tr_ret ?_
          exact tr_ret2 rfl rfl rfl ⟨_, _, rfl, H⟩
      · refine tr_region ?_
        refine tr_p (y_move rfl) rfl rfl ?_
        refine tr_p (y_move rfl) rfl rfl ?_
        obtain ⟨a15, e16, H⟩ := H
        refine tr_p (f_idx (s := x0) Try.runUnderlying102 Try.sizeOf114 rfl rfl e16) rfl rfl ?_
        refine tr_p (y_fa (off := 0) Try.runUnderlying114 fo_114_0 rfl) rfl rfl ?_
        obtain ⟨y17, k18, H⟩ := H
        refine tr_h (y_ld Try.isAgg4 rfl) k18 rfl rfl ?_
        refine tr_p (y_move rfl) rfl rfl ?_
        refine tr_split (t := 15) rfl (fun g19 => ?_) (fun g19 => ?_)
        · replace H := H.1 g19
          refine tr_s rfl rfl ?_
          refine tr_s rfl rfl ?_
          refine tr_s rfl rfl ?_
          refine tr_s rfl rfl ?_
          refine tr_s rfl rfl ?_
          refine tr_p (y_pick_t rfl rfl) rfl rfl ?_
          refine tr_nil ?_
          refine tr_thenN ?_
          exact tr_join [(0, x0.enc), (1, (.string x1)), (6, (.int .i64 x6)), (21, (.bool true))] ⟨rfl, rfl, rfl, rfl, trivial⟩ ⟨_, _, _, _, rfl, H⟩
        · replace H := H.2 g19
          refine tr_p (y_move rfl) rfl rfl ?_
          refine tr_p (y_move rfl) rfl rfl ?_
          obtain ⟨a20, e21, H⟩ := H
          refine tr_p (f_idx (s := x0) Try.runUnderlying102 Try.sizeOf114 rfl rfl e21) rfl rfl ?_
          refine tr_p (y_fa (off := 1) Try.runUnderlying114 fo_114_1 rfl) rfl rfl ?_
          obtain ⟨y22, k23, H⟩ := H
          refine tr_h (y_ld Try.isAgg4 rfl) k23 rfl rfl ?_
          refine tr_p (y_pick_f rfl rfl) rfl rfl ?_
          refine tr_nil ?_
          refine tr_thenN ?_
          exact tr_join [(0, x0.enc), (1, (.string x1)), (6, (.int .i64 x6)), (21, (.bool y22))] ⟨rfl, rfl, rfl, rfl, trivial⟩ ⟨_, _, _, _, rfl, H⟩

def F.spateref6_Table_Place.j1 (Q : Int → Bool → Bool → H → Prop)  (h : H) : Prop :=
  Q 0 false false h
/-- (*spate/spateref6.Table).Place -/
def F.spateref6_Table_Place (p0 : Option Addr) (p1 : ByteArray) (h : H) (Q : Int → Bool → Bool → H → Prop) : Prop :=
  nn p0 fun a1 =>
  ldL h (a1.add 0) fun y3 =>
  F.spateref6_find y3 p1 h fun r6 r7 h5 =>
  (r7 = true →
  Q r6 false true h5) ∧
  (r7 = false →
  nn p0 fun a9 =>
  ldL h5 (a9.add 1) fun y11 =>
  ((decide ((y11.len : Int) > 0)) = true →
  nn p0 fun a14 =>
  ldL h5 (a14.add 1) fun y16 =>
  F.spateref6_find y16 p1 h5 fun r19 r20 h18 =>
  (r20 = true →
  Q r19 true true h18) ∧
  (r20 = false →
  F.spateref6_Table_Place.j1 Q  h18)) ∧
  ((decide ((y11.len : Int) > 0)) = false →
  F.spateref6_Table_Place.j1 Q  h5))
theorem F.spateref6_Table_Place_ok {p0 : Option Addr} {p1 : ByteArray} {h : H} {Q : Int → Bool → Bool → H → Prop} (H : F.spateref6_Table_Place p0 p1 h Q) : Fn PP 64 ([(.pointer p0), (.string p1)] : List Value).toArray h fun r h' => ∃ r0 r1 r2, r = .tuple #[(.int .i64 r0), (.bool r1), (.bool r2)] ∧ Q r0 r1 r2 h' := by
  unfold F.spateref6_Table_Place at H
  refine fn_of Try.func64 Try.ntmps64 rfl rfl fun w0 => ?_
  refine tr_sub [(0, (.pointer p0)), (1, (.string p1))] ⟨rfl, rfl, trivial⟩ ?_
  refine tr_seq ?_
  refine tr_region ?_
  refine tr_p (y_assign rfl) rfl rfl ?_
  refine tr_p (y_assign rfl) rfl rfl ?_
  refine tr_p (y_assign rfl) rfl rfl ?_
  refine tr_nil ?_
  refine tr_thenN ?_
  refine tr_seq ?_
  refine tr_region ?_
  refine tr_p (y_move rfl) rfl rfl ?_
  obtain ⟨a1, e2, H⟩ := H
  refine tr_p (f_nn rfl e2) rfl rfl ?_
  refine tr_p (y_fa (off := 0) Try.runUnderlying104 fo_104_0 rfl) rfl rfl ?_
  obtain ⟨y3, k4, H⟩ := H
  refine tr_h (y_ld Try.isAgg102 rfl) k4 rfl rfl ?_
  refine tr_p (y_move rfl) rfl rfl ?_
  refine tr_e (e_call Try.call73 rfl (F.spateref6_find_ok H)) rfl rfl ?_
  rintro _ h5 ⟨r6, r7, rfl, H⟩
  refine tr_p (y_move rfl) rfl rfl ?_
  refine tr_p (y_ext rfl rfl) rfl rfl ?_
  refine tr_p (y_ext rfl rfl) rfl rfl ?_
  refine tr_p (y_assign rfl) rfl rfl ?_
  refine tr_p (y_assign rfl) rfl rfl ?_
  refine tr_nil ?_
  refine tr_thenN ?_
  refine tr_seq ?_
  refine tr_seq ?_
  refine tr_region ?_
  refine tr_p (y_move rfl) rfl rfl ?_
  refine tr_nil ?_
  refine tr_thenN ?_
  refine tr_cond rfl (fun g8 => ?_) (fun g8 => ?_)
  · replace H := H.1 g8
    refine tr_seq ?_
    refine tr_region ?_
    refine tr_p (y_move rfl) rfl rfl ?_
    refine tr_p (y_assign rfl) rfl rfl ?_
    refine tr_p (y_assign rfl) rfl rfl ?_
    refine tr_p (y_assign rfl) rfl rfl ?_
    refine tr_nil ?_
    refine tr_thenN ?_
    refine tr_ret ?_
    refine tr_thenR ?_
    exact tr_ret3 rfl rfl rfl rfl ⟨_, _, _, rfl, H⟩
  · replace H := H.2 g8
    refine tr_skip ?_
    refine tr_thenN ?_
    refine tr_seq_j (fun L' h => L' = [] ∧ F.spateref6_Table_Place.j1 Q  h) ?_ ?_
    · rintro L' h ⟨rfl, H⟩
      unfold F.spateref6_Table_Place.j1 at H
      refine tr_seq ?_
      refine tr_region ?_
      refine tr_p (y_assign rfl) rfl rfl ?_
      refine tr_p (y_assign rfl) rfl rfl ?_
      refine tr_p (y_assign rfl) rfl rfl ?_
      refine tr_nil ?_
      refine tr_thenN ?_
      refine tr_ret ?_
      exact tr_ret3 rfl rfl rfl rfl ⟨_, _, _, rfl, H⟩
    · refine tr_seq ?_
      refine tr_region ?_
      refine tr_p (y_move rfl) rfl rfl ?_
      obtain ⟨a9, e10, H⟩ := H
      refine tr_p (f_nn rfl e10) rfl rfl ?_
      refine tr_p (y_fa (off := 1) Try.runUnderlying104 fo_104_1 rfl) rfl rfl ?_
      obtain ⟨y11, k12, H⟩ := H
      refine tr_h (y_ld Try.isAgg102 rfl) k12 rfl rfl ?_
      refine tr_p (y_len (ts := #[]) Try.runUnderlying102 (o := y11.ptr) (n := y11.len) (cap := y11.cap) rfl) rfl rfl ?_
      refine tr_p (y_gtr rfl rfl) rfl rfl ?_
      refine tr_nil ?_
      refine tr_thenN ?_
      refine tr_cond rfl (fun g13 => ?_) (fun g13 => ?_)
      · replace H := H.1 g13
        refine tr_seq ?_
        refine tr_region ?_
        refine tr_p (y_move rfl) rfl rfl ?_
        obtain ⟨a14, e15, H⟩ := H
        refine tr_p (f_nn rfl e15) rfl rfl ?_
        refine tr_p (y_fa (off := 1) Try.runUnderlying104 fo_104_1 rfl) rfl rfl ?_
        obtain ⟨y16, k17, H⟩ := H
        refine tr_h (y_ld Try.isAgg102 rfl) k17 rfl rfl ?_
        refine tr_p (y_move rfl) rfl rfl ?_
        refine tr_e (e_call Try.call73 rfl (F.spateref6_find_ok H)) rfl rfl ?_
        rintro _ h18 ⟨r19, r20, rfl, H⟩
        refine tr_p (y_move rfl) rfl rfl ?_
        refine tr_p (y_ext rfl rfl) rfl rfl ?_
        refine tr_p (y_ext rfl rfl) rfl rfl ?_
        refine tr_p (y_assign rfl) rfl rfl ?_
        refine tr_p (y_assign rfl) rfl rfl ?_
        refine tr_nil ?_
        refine tr_thenN ?_
        refine tr_seq ?_
        refine tr_region ?_
        refine tr_p (y_move rfl) rfl rfl ?_
        refine tr_nil ?_
        refine tr_thenN ?_
        refine tr_cond rfl (fun g21 => ?_) (fun g21 => ?_)
        · replace H := H.1 g21
          refine tr_seq ?_
          refine tr_region ?_
          refine tr_p (y_move rfl) rfl rfl ?_
          refine tr_p (y_assign rfl) rfl rfl ?_
          refine tr_p (y_assign rfl) rfl rfl ?_
          refine tr_p (y_assign rfl) rfl rfl ?_
          refine tr_nil ?_
          refine tr_thenN ?_
          refine tr_ret ?_
          refine tr_thenR ?_
          exact tr_ret3 rfl rfl rfl rfl ⟨_, _, _, rfl, H⟩
        · replace H := H.2 g21
          refine tr_skip ?_
          refine tr_thenN ?_
          exact tr_join [] trivial ⟨rfl, H⟩
      · replace H := H.2 g13
        refine tr_skip ?_
        refine tr_thenN ?_
        exact tr_join [] trivial ⟨rfl, H⟩

/-- (*spate/spateref6.Table).Get -/
def F.spateref6_Table_Get (p0 : Option Addr) (p1 : ByteArray) (h : H) (Q : Int → Bool → H → Prop) : Prop :=
  F.spateref6_Table_Place p0 p1 h fun r2 r3 r4 h1 =>
  ((!r4) = true →
  Q 0 false h1) ∧
  ((!r4) = false →
  (r3 = true →
  nn p0 fun a7 =>
  ldL h1 (a7.add 1) fun y9 =>
  idxA y9 r2 4 fun a11 =>
  ldI .i64 h1 (a11.add 3) fun y13 =>
  Q y13 true h1) ∧
  (r3 = false →
  nn p0 fun a15 =>
  ldL h1 (a15.add 0) fun y17 =>
  idxA y17 r2 4 fun a19 =>
  ldI .i64 h1 (a19.add 3) fun y21 =>
  Q y21 true h1))
theorem F.spateref6_Table_Get_ok {p0 : Option Addr} {p1 : ByteArray} {h : H} {Q : Int → Bool → H → Prop} (H : F.spateref6_Table_Get p0 p1 h Q) : Fn PP 62 ([(.pointer p0), (.string p1)] : List Value).toArray h fun r h' => ∃ r0 r1, r = .tuple #[(.int .i64 r0), (.bool r1)] ∧ Q r0 r1 h' := by
  unfold F.spateref6_Table_Get at H
  refine fn_of Try.func62 Try.ntmps62 rfl rfl fun w0 => ?_
  refine tr_sub [(0, (.pointer p0)), (1, (.string p1))] ⟨rfl, rfl, trivial⟩ ?_
  refine tr_seq ?_
  refine tr_region ?_
  refine tr_p (y_assign rfl) rfl rfl ?_
  refine tr_p (y_assign rfl) rfl rfl ?_
  refine tr_nil ?_
  refine tr_thenN ?_
  refine tr_seq ?_
  refine tr_region ?_
  refine tr_p (y_move rfl) rfl rfl ?_
  refine tr_p (y_move rfl) rfl rfl ?_
  refine tr_e (e_call Try.call64 rfl (F.spateref6_Table_Place_ok H)) rfl rfl ?_
  rintro _ h1 ⟨r2, r3, r4, rfl, H⟩
  refine tr_p (y_move rfl) rfl rfl ?_
  refine tr_p (y_ext rfl rfl) rfl rfl ?_
  refine tr_p (y_ext rfl rfl) rfl rfl ?_
  refine tr_p (y_ext rfl rfl) rfl rfl ?_
  refine tr_p (y_assign rfl) rfl rfl ?_
  refine tr_p (y_assign rfl) rfl rfl ?_
  refine tr_p (y_assign rfl) rfl rfl ?_
  refine tr_nil ?_
  refine tr_thenN ?_
  refine tr_seq ?_
  refine tr_block ?_
  refine tr_seq ?_
  refine tr_region ?_
  refine tr_p (y_move rfl) rfl rfl ?_
  refine tr_p (y_not rfl) rfl rfl ?_
  refine tr_p (y_assign rfl) rfl rfl ?_
  refine tr_nil ?_
  refine tr_thenN ?_
  refine tr_cond rfl (fun g5 => ?_) (fun g5 => ?_)
  · replace H := H.1 g5
    refine tr_seq ?_
    refine tr_region ?_
    refine tr_p (y_assign rfl) rfl rfl ?_
    refine tr_p (y_assign rfl) rfl rfl ?_
    refine tr_nil ?_
    refine tr_thenN ?_
    refine tr_ret ?_
    refine tr_blockR ?_
    refine tr_thenR ?_
    exact tr_ret2 rfl rfl rfl ⟨_, _, rfl, H⟩
  · replace H := H.2 g5
    refine tr_seq ?_
    refine tr_region ?_
    refine tr_p (y_move rfl) rfl rfl ?_
    refine tr_p (y_assign rfl) rfl rfl ?_
    refine tr_nil ?_
    refine tr_thenN ?_
    refine tr_cond rfl (fun g6 => ?_) (fun g6 => ?_)
    · replace H := H.1 g6
      refine tr_seq ?_
      refine tr_region ?_
      refine tr_p (y_move rfl) rfl rfl ?_
      obtain ⟨a7, e8, H⟩ := H
      refine tr_p (f_nn rfl e8) rfl rfl ?_
      refine tr_p (y_fa (off := 1) Try.runUnderlying104 fo_104_1 rfl) rfl rfl ?_
      obtain ⟨y9, k10, H⟩ := H
      refine tr_h (y_ld Try.isAgg102 rfl) k10 rfl rfl ?_
      refine tr_p (y_move rfl) rfl rfl ?_
      obtain ⟨a11, e12, H⟩ := H
      refine tr_p (f_idx (s := y9) Try.runUnderlying102 Try.sizeOf114 rfl rfl e12) rfl rfl ?_
      refine tr_p (y_fa (off := 3) Try.runUnderlying114 fo_114_3 rfl) rfl rfl ?_
      obtain ⟨y13, k14, H⟩ := H
      refine tr_h (y_ld Try.isAgg3 rfl) k14 rfl rfl ?_
      refine tr_p (y_assign rfl) rfl rfl ?_
      refine tr_p (y_assign rfl) rfl rfl ?_
      refine tr_nil ?_
      refine tr_thenN ?_
      refine tr_ret ?_
      refine tr_blockR ?_
      refine tr_thenR ?_
      exact tr_ret2 rfl rfl rfl ⟨_, _, rfl, H⟩
    · replace H := H.2 g6
      refine tr_skip ?_
      refine tr_blockN ?_
      refine tr_thenN ?_
      refine tr_seq ?_
      refine tr_region ?_
      refine tr_p (y_move rfl) rfl rfl ?_
      obtain ⟨a15, e16, H⟩ := H
      refine tr_p (f_nn rfl e16) rfl rfl ?_
      refine tr_p (y_fa (off := 0) Try.runUnderlying104 fo_104_0 rfl) rfl rfl ?_
      obtain ⟨y17, k18, H⟩ := H
      refine tr_h (y_ld Try.isAgg102 rfl) k18 rfl rfl ?_
      refine tr_p (y_move rfl) rfl rfl ?_
      obtain ⟨a19, e20, H⟩ := H
      refine tr_p (f_idx (s := y17) Try.runUnderlying102 Try.sizeOf114 rfl rfl e20) rfl rfl ?_
      refine tr_p (y_fa (off := 3) Try.runUnderlying114 fo_114_3 rfl) rfl rfl ?_
      obtain ⟨y21, k22, H⟩ := H
      refine tr_h (y_ld Try.isAgg3 rfl) k22 rfl rfl ?_
      refine tr_p (y_assign rfl) rfl rfl ?_
      refine tr_p (y_assign rfl) rfl rfl ?_
      refine tr_nil ?_
      refine tr_thenN ?_
      refine tr_ret ?_
      exact tr_ret2 rfl rfl rfl ⟨_, _, rfl, H⟩

/-- (*spate/table.Table[int]).Place -/
def F.table_Table_int_Place (p0 : Option Addr) (p1 : ByteArray) (h : H) (Q : Int → Bool → Bool → H → Prop) : Prop :=
  nn p0 fun a1 =>
  ldL h (a1.add 0) fun y3 =>
  F.table_find_int y3 p1 h fun r6 r7 h5 =>
  (r7 = true →
  Q r6 false true h5) ∧
  (r7 = false →
  nn p0 fun a9 =>
  ldL h5 (a9.add 1) fun y11 =>
  F.table_find_int y11 p1 h5 fun r14 r15 h13 =>
  (r15 = true →
  Q r14 true true h13) ∧
  (r15 = false →
  Q 0 false false h13))
theorem F.table_Table_int_Place_ok {p0 : Option Addr} {p1 : ByteArray} {h : H} {Q : Int → Bool → Bool → H → Prop} (H : F.table_Table_int_Place p0 p1 h Q) : Fn PP 63 ([(.pointer p0), (.string p1)] : List Value).toArray h fun r h' => ∃ r0 r1 r2, r = .tuple #[(.int .i64 r0), (.bool r1), (.bool r2)] ∧ Q r0 r1 r2 h' := by
  unfold F.table_Table_int_Place at H
  refine fn_of Try.func63 Try.ntmps63 rfl rfl fun w0 => ?_
  refine tr_sub [(0, (.pointer p0)), (1, (.string p1))] ⟨rfl, rfl, trivial⟩ ?_
  refine tr_seq ?_
  refine tr_region ?_
  refine tr_p (y_assign rfl) rfl rfl ?_
  refine tr_p (y_assign rfl) rfl rfl ?_
  refine tr_p (y_assign rfl) rfl rfl ?_
  refine tr_nil ?_
  refine tr_thenN ?_
  refine tr_seq ?_
  refine tr_seq ?_
  refine tr_region ?_
  refine tr_p (y_move rfl) rfl rfl ?_
  obtain ⟨a1, e2, H⟩ := H
  refine tr_p (f_nn rfl e2) rfl rfl ?_
  refine tr_p (y_fa (off := 0) Try.runUnderlying73 fo_73_0 rfl) rfl rfl ?_
  obtain ⟨y3, k4, H⟩ := H
  refine tr_h (y_ld Try.isAgg71 rfl) k4 rfl rfl ?_
  refine tr_p (y_move rfl) rfl rfl ?_
  refine tr_e (e_call Try.call47 rfl (F.table_find_int_ok H)) rfl rfl ?_
  rintro _ h5 ⟨r6, r7, rfl, H⟩
  refine tr_p (y_move rfl) rfl rfl ?_
  refine tr_p (y_ext rfl rfl) rfl rfl ?_
  refine tr_p (y_ext rfl rfl) rfl rfl ?_
  refine tr_p (y_assign rfl) rfl rfl ?_
  refine tr_p (y_assign rfl) rfl rfl ?_
  refine tr_nil ?_
  refine tr_thenN ?_
  refine tr_seq ?_
  refine tr_region ?_
  refine tr_p (y_move rfl) rfl rfl ?_
  refine tr_nil ?_
  refine tr_thenN ?_
  refine tr_cond rfl (fun g8 => ?_) (fun g8 => ?_)
  · replace H := H.1 g8
    refine tr_seq ?_
    refine tr_region ?_
    refine tr_p (y_move rfl) rfl rfl ?_
    refine tr_p (y_assign rfl) rfl rfl ?_
    refine tr_p (y_assign rfl) rfl rfl ?_
    refine tr_p (y_assign rfl) rfl rfl ?_
    refine tr_nil ?_
    refine tr_thenN ?_
    refine tr_ret ?_
    refine tr_thenR ?_
    exact tr_ret3 rfl rfl rfl rfl ⟨_, _, _, rfl, H⟩
  · replace H := H.2 g8
    refine tr_skip ?_
    refine tr_thenN ?_
    refine tr_seq ?_
    refine tr_seq ?_
    refine tr_region ?_
    refine tr_p (y_move rfl) rfl rfl ?_
    obtain ⟨a9, e10, H⟩ := H
    refine tr_p (f_nn rfl e10) rfl rfl ?_
    refine tr_p (y_fa (off := 1) Try.runUnderlying73 fo_73_1 rfl) rfl rfl ?_
    obtain ⟨y11, k12, H⟩ := H
    refine tr_h (y_ld Try.isAgg71 rfl) k12 rfl rfl ?_
    refine tr_p (y_move rfl) rfl rfl ?_
    refine tr_e (e_call Try.call47 rfl (F.table_find_int_ok H)) rfl rfl ?_
    rintro _ h13 ⟨r14, r15, rfl, H⟩
    refine tr_p (y_move rfl) rfl rfl ?_
    refine tr_p (y_ext rfl rfl) rfl rfl ?_
    refine tr_p (y_ext rfl rfl) rfl rfl ?_
    refine tr_p (y_assign rfl) rfl rfl ?_
    refine tr_p (y_assign rfl) rfl rfl ?_
    refine tr_nil ?_
    refine tr_thenN ?_
    refine tr_seq ?_
    refine tr_region ?_
    refine tr_p (y_move rfl) rfl rfl ?_
    refine tr_nil ?_
    refine tr_thenN ?_
    refine tr_cond rfl (fun g16 => ?_) (fun g16 => ?_)
    · replace H := H.1 g16
      refine tr_seq ?_
      refine tr_region ?_
      refine tr_p (y_move rfl) rfl rfl ?_
      refine tr_p (y_assign rfl) rfl rfl ?_
      refine tr_p (y_assign rfl) rfl rfl ?_
      refine tr_p (y_assign rfl) rfl rfl ?_
      refine tr_nil ?_
      refine tr_thenN ?_
      refine tr_ret ?_
      refine tr_thenR ?_
      exact tr_ret3 rfl rfl rfl rfl ⟨_, _, _, rfl, H⟩
    · replace H := H.2 g16
      refine tr_skip ?_
      refine tr_thenN ?_
      refine tr_seq ?_
      refine tr_region ?_
      refine tr_p (y_assign rfl) rfl rfl ?_
      refine tr_p (y_assign rfl) rfl rfl ?_
      refine tr_p (y_assign rfl) rfl rfl ?_
      refine tr_nil ?_
      refine tr_thenN ?_
      refine tr_ret ?_
      exact tr_ret3 rfl rfl rfl rfl ⟨_, _, _, rfl, H⟩

/-- spate/spatelaw6.like -/
def F.spatelaw6_like (p0 : Option Addr) (p1 : Option Addr) (p2 : ByteArray) (h : H) (Q : Bool → H → Prop) : Prop :=
  F.table_Table_int_Get p0 p2 h fun r2 r3 h1 =>
  F.spateref6_Table_Get p1 p2 h1 fun r5 r6 h4 =>
  F.table_Table_int_Place p0 p2 h4 fun r8 r9 r10 h7 =>
  F.spateref6_Table_Place p1 p2 h7 fun r12 r13 r14 h11 =>
  (((r2 == r5)) = true →
  ((r3 == r6) = true →
  (((r8 == r12)) = true →
  ((r9 == r13) = true →
  Q (r10 == r14) h11) ∧
  ((r9 == r13) = false →
  Q false h11)) ∧
  (((r8 == r12)) = false →
  Q false h11)) ∧
  ((r3 == r6) = false →
  Q false h11)) ∧
  (((r2 == r5)) = false →
  Q false h11)
theorem F.spatelaw6_like_ok {p0 : Option Addr} {p1 : Option Addr} {p2 : ByteArray} {h : H} {Q : Bool → H → Prop} (H : F.spatelaw6_like p0 p1 p2 h Q) : Fn PP 42 ([(.pointer p0), (.pointer p1), (.string p2)] : List Value).toArray h fun r h' => ∃ r0, r = (.bool r0) ∧ Q r0 h' := by
  unfold F.spatelaw6_like at H
  refine fn_of Try.func42 Try.ntmps42 rfl rfl fun w0 => ?_
  refine tr_sub [(0, (.pointer p0)), (1, (.pointer p1)), (2, (.string p2))] ⟨rfl, rfl, rfl, trivial⟩ ?_
  refine tr_seq ?_
  refine tr_region ?_
  refine tr_p (y_assign rfl) rfl rfl ?_
  refine tr_nil ?_
  refine tr_thenN ?_
  refine tr_seq ?_
  refine tr_region ?_
  refine tr_p (y_move rfl) rfl rfl ?_
  refine tr_p (y_move rfl) rfl rfl ?_
  refine tr_e (e_call Try.call25 rfl (F.table_Table_int_Get_ok H)) rfl rfl ?_
  rintro _ h1 ⟨r2, r3, rfl, H⟩
  refine tr_p (y_move rfl) rfl rfl ?_
  refine tr_p (y_ext rfl rfl) rfl rfl ?_
  refine tr_p (y_ext rfl rfl) rfl rfl ?_
  refine tr_p (y_assign rfl) rfl rfl ?_
  refine tr_p (y_assign rfl) rfl rfl ?_
  refine tr_nil ?_
  refine tr_thenN ?_
  refine tr_seq ?_
  refine tr_region ?_
  refine tr_p (y_move rfl) rfl rfl ?_
  refine tr_p (y_move rfl) rfl rfl ?_
  refine tr_e (e_call Try.call62 rfl (F.spateref6_Table_Get_ok H)) rfl rfl ?_
  rintro _ h4 ⟨r5, r6, rfl, H⟩
  refine tr_p (y_move rfl) rfl rfl ?_
  refine tr_p (y_ext rfl rfl) rfl rfl ?_
  refine tr_p (y_ext rfl rfl) rfl rfl ?_
  refine tr_p (y_assign rfl) rfl rfl ?_
  refine tr_p (y_assign rfl) rfl rfl ?_
  refine tr_nil ?_
  refine tr_thenN ?_
  refine tr_seq ?_
  refine tr_region ?_
  refine tr_p (y_move rfl) rfl rfl ?_
  refine tr_p (y_move rfl) rfl rfl ?_
  refine tr_e (e_call Try.call63 rfl (F.table_Table_int_Place_ok H)) rfl rfl ?_
  rintro _ h7 ⟨r8, r9, r10, rfl, H⟩
  refine tr_p (y_move rfl) rfl rfl ?_
  refine tr_p (y_ext rfl rfl) rfl rfl ?_
  refine tr_p (y_ext rfl rfl) rfl rfl ?_
  refine tr_p (y_ext rfl rfl) rfl rfl ?_
  refine tr_p (y_assign rfl) rfl rfl ?_
  refine tr_p (y_assign rfl) rfl rfl ?_
  refine tr_p (y_assign rfl) rfl rfl ?_
  refine tr_nil ?_
  refine tr_thenN ?_
  refine tr_seq ?_
  refine tr_region ?_
  refine tr_p (y_move rfl) rfl rfl ?_
  refine tr_p (y_move rfl) rfl rfl ?_
  refine tr_e (e_call Try.call64 rfl (F.spateref6_Table_Place_ok H)) rfl rfl ?_
  rintro _ h11 ⟨r12, r13, r14, rfl, H⟩
  refine tr_p (y_move rfl) rfl rfl ?_
  refine tr_p (y_ext rfl rfl) rfl rfl ?_
  refine tr_p (y_ext rfl rfl) rfl rfl ?_
  refine tr_p (y_ext rfl rfl) rfl rfl ?_
  refine tr_p (y_assign rfl) rfl rfl ?_
  refine tr_p (y_assign rfl) rfl rfl ?_
  refine tr_p (y_assign rfl) rfl rfl ?_
  refine tr_nil ?_
  refine tr_thenN ?_
  refine tr_seq ?_
  refine tr_region ?_
  refine tr_p (y_move rfl) rfl rfl ?_
  refine tr_p (y_move rfl) rfl rfl ?_
  refine tr_p (y_eql rfl rfl) rfl rfl ?_
  refine tr_p (y_move rfl) rfl rfl ?_
  refine tr_split (t := 46) rfl (fun g15 => ?_) (fun g15 => ?_)
  · replace H := H.1 g15
    refine tr_p (y_move rfl) rfl rfl ?_
    refine tr_p (y_move rfl) rfl rfl ?_
    refine tr_p (y_beql Try.underlying4 rfl rfl) rfl rfl ?_
    refine tr_p (y_pick_t rfl rfl) rfl rfl ?_
    refine tr_p (y_move rfl) rfl rfl ?_
    refine tr_split (t := 51) rfl (fun g16 => ?_) (fun g16 => ?_)
    · replace H := H.1 g16
      refine tr_p (y_move rfl) rfl rfl ?_
      refine tr_p (y_move rfl) rfl rfl ?_
      refine tr_p (y_eql rfl rfl) rfl rfl ?_
      refine tr_p (y_pick_t rfl rfl) rfl rfl ?_
      refine tr_p (y_move rfl) rfl rfl ?_
      refine tr_split (t := 56) rfl (fun g17 => ?_) (fun g17 => ?_)
      · replace H := H.1 g17
        refine tr_p (y_move rfl) rfl rfl ?_
        refine tr_p (y_move rfl) rfl rfl ?_
        refine tr_p (y_beql Try.underlying4 rfl rfl) rfl rfl ?_
        refine tr_p (y_pick_t rfl rfl) rfl rfl ?_
        refine tr_p (y_move rfl) rfl rfl ?_
        refine tr_split (t := 61) rfl (fun g18 => ?_) (fun g18 => ?_)
        · replace H := H.1 g18
          refine tr_p (y_move rfl) rfl rfl ?_
          refine tr_p (y_move rfl) rfl rfl ?_
          refine tr_p (y_beql Try.underlying4 rfl rfl) rfl rfl ?_
          refine tr_p (y_pick_t rfl rfl) rfl rfl ?_
          refine tr_p (y_assign rfl) rfl rfl ?_
          refine tr_nil ?_
          refine tr_thenN ?_
          refine tr_ret ?_
          exact tr_ret1 rfl rfl ⟨_, rfl, H⟩
        · replace H := H.2 g18
          refine tr_s rfl rfl ?_
          refine tr_s rfl rfl ?_
          refine tr_s rfl rfl ?_
          refine tr_p (y_pick_f rfl rfl) rfl rfl ?_
          refine tr_p (y_assign rfl) rfl rfl ?_
          refine tr_nil ?_
          refine tr_thenN ?_
          refine tr_ret ?_
          exact tr_ret1 rfl rfl ⟨_, rfl, H⟩
      · replace H := H.2 g17
        refine tr_s rfl rfl ?_
        refine tr_s rfl rfl ?_
        refine tr_s rfl rfl ?_
        refine tr_p (y_pick_f rfl rfl) rfl rfl ?_
        refine tr_p (y_move rfl) rfl rfl ?_
        refine tr_s rfl rfl ?_
        refine tr_s rfl rfl ?_
        refine tr_s rfl rfl ?_
        refine tr_p (y_pick_f rfl rfl) rfl rfl ?_
        refine tr_p (y_assign rfl) rfl rfl ?_
        refine tr_nil ?_
        refine tr_thenN ?_
        refine tr_ret ?_
        exact tr_ret1 rfl rfl ⟨_, rfl, H⟩
    · replace H := H.2 g16
      refine tr_s rfl rfl ?_
      refine tr_s rfl rfl ?_
      refine tr_s rfl rfl ?_
      refine tr_p (y_pick_f rfl rfl) rfl rfl ?_
      refine tr_p (y_move rfl) rfl rfl ?_
      refine tr_s rfl rfl ?_
      refine tr_s rfl rfl ?_
      refine tr_s rfl rfl ?_
      refine tr_p (y_pick_f rfl rfl) rfl rfl ?_
      refine tr_p (y_move rfl) rfl rfl ?_
      refine tr_s rfl rfl ?_
      refine tr_s rfl rfl ?_
      refine tr_s rfl rfl ?_
      refine tr_p (y_pick_f rfl rfl) rfl rfl ?_
      refine tr_p (y_assign rfl) rfl rfl ?_
      refine tr_nil ?_
      refine tr_thenN ?_
      refine tr_ret ?_
      exact tr_ret1 rfl rfl ⟨_, rfl, H⟩
  · replace H := H.2 g15
    refine tr_s rfl rfl ?_
    refine tr_s rfl rfl ?_
    refine tr_s rfl rfl ?_
    refine tr_p (y_pick_f rfl rfl) rfl rfl ?_
    refine tr_p (y_move rfl) rfl rfl ?_
    refine tr_s rfl rfl ?_
    refine tr_s rfl rfl ?_
    refine tr_s rfl rfl ?_
    refine tr_p (y_pick_f rfl rfl) rfl rfl ?_
    refine tr_p (y_move rfl) rfl rfl ?_
    refine tr_s rfl rfl ?_
    refine tr_s rfl rfl ?_
    refine tr_s rfl rfl ?_
    refine tr_p (y_pick_f rfl rfl) rfl rfl ?_
    refine tr_p (y_move rfl) rfl rfl ?_
    refine tr_s rfl rfl ?_
    refine tr_s rfl rfl ?_
    refine tr_s rfl rfl ?_
    refine tr_p (y_pick_f rfl rfl) rfl rfl ?_
    refine tr_p (y_assign rfl) rfl rfl ?_
    refine tr_nil ?_
    refine tr_thenN ?_
    refine tr_ret ?_
    exact tr_ret1 rfl rfl ⟨_, rfl, H⟩

def F.spateref6_Table_Move.j3 (Q : Int → H → Prop) (C1 : (Option Addr) → Int → Int → H → Prop) (x0 : Option Addr) (x1 : Int) (x5 : Int) (h : H) : Prop :=
  C1 x0 x1 (IntKind.wrap .i64 (x5 + 1)) h
def F.spateref6_Table_Move.j4 (Q : Int → H → Prop) (C1 : (Option Addr) → Int → Int → H → Prop) (x0 : Option Addr) (x1 : Int) (x5 : Int) (h : H) : Prop :=
  nn x0 fun a19 =>
  ldI .i64 h (a19.add 2) fun y21 =>
  nn x0 fun a23 =>
  stH h (a23.add 2) [(.int .i64 (IntKind.wrap .i64 (y21 + 1)))] fun h25 =>
  F.spateref6_Table_Move.j3 Q C1 x0 x1 x5 h25
def F.spateref6_Table_Move.j2 (Q : Int → H → Prop) (C1 : (Option Addr) → Int → Int → H → Prop) (x0 : Option Addr) (x1 : Int) (x5 : Int) (h : H) : Prop :=
  nn x0 fun a1 =>
  ldL h (a1.add 1) fun y3 =>
  nn x0 fun a5 =>
  ldI .i64 h (a5.add 2) fun y7 =>
  idxA y3 y7 4 fun a9 =>
  ld_S_spateref6_Place h a9 fun y11 =>
  new h (((⟨false, false, (⟨#[]⟩ : ByteArray), 0⟩ : S_spateref6_Place) : S_spateref6_Place).cells.toArray) ty_114 fun a14 h13 =>
  Cells h13 a9 y11.cells ∧
  cellH h13 (a5.add 2) = some (.int .i64 y7) ∧
  cellH h13 (a1.add 1) = some y3.enc ∧
  stH h13 a14 y11.cells fun h18 =>
  ldB h18 (a14.add 0) fun y26 =>
  (y26 = true →
  nn x0 fun a29 =>
  ldL h18 (a29.add 0) fun y31 =>
  ldS h18 (a14.add 2) fun y33 =>
  F.spateref6_find y31 y33 h18 fun r36 r37 h35 =>
  nn x0 fun a38 =>
  ldL h35 (a38.add 0) fun y40 =>
  ld_S_spateref6_Place h35 a14 fun y42 =>
  idxA y40 r36 4 fun a44 =>
  stH h35 a44 y42.cells fun h46 =>
  nn x0 fun a47 =>
  ldL h46 (a47.add 1) fun y49 =>
  nn x0 fun a51 =>
  ldI .i64 h46 (a51.add 2) fun y53 =>
  idxA y49 y53 4 fun a55 =>
  stH h46 a55 ((⟨false, true, (⟨#[]⟩ : ByteArray), 0⟩ : S_spateref6_Place).cells) fun h57 =>
  F.spateref6_Table_Move.j4 Q C1 x0 x1 x5 h57) ∧
  (y26 = false →
  F.spateref6_Table_Move.j4 Q C1 x0 x1 x5 h18)
def F.spateref6_Table_Move.j6 (Q : Int → H → Prop) (x0 : Option Addr) (h : H) : Prop :=
  F.spateref6_Table_Left x0 h fun r60 h59 =>
  Q r60 h59
def F.spateref6_Table_Move.j5 (Q : Int → H → Prop) (C1 : (Option Addr) → Int → Int → H → Prop) (x0 : Option Addr) (x1 : Int) (x5 : Int) (x23 : Bool) (h : H) : Prop :=
  (x23 = true →
  F.spateref6_Table_Move.j2 Q C1 x0 x1 x5 h) ∧
  (x23 = false →
  nn x0 fun a61 =>
  ldI .i64 h (a61.add 2) fun y63 =>
  nn x0 fun a65 =>
  ldL h (a65.add 1) fun y67 =>
  (((y63 == (y67.len : Int))) = true →
  nn x0 fun a70 =>
  stH h (a70.add 1) [(⟨none, 0, 0⟩ : Sl).enc] fun h72 =>
  nn x0 fun a73 =>
  stH h72 (a73.add 2) [(.int .i64 0)] fun h75 =>
  F.spateref6_Table_Move.j6 Q x0 h75) ∧
  (((y63 == (y67.len : Int))) = false →
  F.spateref6_Table_Move.j6 Q x0 h))
def F.spateref6_Table_Move.l1 (Q : Int → H → Prop) : Nat → (Option Addr) → Int → Int → H → Prop
  | 0, _, _, _, _ => False
  | q1 + 1, x0, x1, x5, h =>
    ((decide (x5 < x1)) = true →
    nn x0 fun a77 =>
    ldI .i64 h (a77.add 2) fun y79 =>
    nn x0 fun a81 =>
    ldL h (a81.add 1) fun y83 =>
    F.spateref6_Table_Move.j5 Q (F.spateref6_Table_Move.l1 Q q1) x0 x1 x5 (decide (y79 < (y83.len : Int))) h) ∧
    ((decide (x5 < x1)) = false →
    F.spateref6_Table_Move.j5 Q (F.spateref6_Table_Move.l1 Q q1) x0 x1 x5 false h)
/-- (*spate/spateref6.Table).Move -/
def F.spateref6_Table_Move (p0 : Option Addr) (p1 : Int) (h : H) (Q : Int → H → Prop) : Prop :=
  ∃ m, F.spateref6_Table_Move.l1 Q m p0 p1 0 h
theorem F.spateref6_Table_Move_ok {p0 : Option Addr} {p1 : Int} {h : H} {Q : Int → H → Prop} (H : F.spateref6_Table_Move p0 p1 h Q) : Fn PP 60 ([(.pointer p0), (.int .i64 p1)] : List Value).toArray h fun r h' => ∃ r0, r = (.int .i64 r0) ∧ Q r0 h' := by
  unfold F.spateref6_Table_Move at H
  refine fn_of Try.func60 Try.ntmps60 rfl rfl fun w0 => ?_
  refine tr_sub [(0, (.pointer p0)), (1, (.int .i64 p1))] ⟨rfl, rfl, trivial⟩ ?_
  refine tr_seq ?_
  refine tr_region ?_
  refine tr_p (y_assign rfl) rfl rfl ?_
  refine tr_nil ?_
  refine tr_thenN ?_
  refine tr_seq ?_
  refine tr_seq ?_
  refine tr_region ?_
  refine tr_p (y_assign rfl) rfl rfl ?_
  refine tr_nil ?_
  refine tr_thenN ?_
  refine tr_block ?_
  obtain ⟨m85, H⟩ := H
  refine tr_sub [(0, (.pointer p0)), (1, (.int .i64 p1)), (5, (.int .i64 0))] ⟨rfl, rfl, rfl, trivial⟩ ?_
  refine tr_loop_j (fun m L' h => ∃ (x0 : Option Addr) (x1 : Int) (x5 : Int), L' = [(0, (.pointer x0)), (1, (.int .i64 x1)), (5, (.int .i64 x5))] ∧ F.spateref6_Table_Move.l1 Q m x0 x1 x5 h) ?_ ?_ m85 ⟨_, _, _, rfl, H⟩
  · rintro L' h ⟨_, _, _, _, H⟩; exact H
  · rintro q1 L' h ⟨x0, x1, x5, rfl, H⟩
    unfold F.spateref6_Table_Move.l1 at H
    refine tr_seq_j (fun L' h => ∃ (x0 : Option Addr) (x1 : Int) (x5 : Int), L' = [(0, (.pointer x0)), (1, (.int .i64 x1)), (5, (.int .i64 x5))] ∧ F.spateref6_Table_Move.j2 Q (F.spateref6_Table_Move.l1 Q q1) x0 x1 x5 h) ?_ ?_
    · rintro L' h ⟨x0, x1, x5, rfl, H⟩
      unfold F.spateref6_Table_Move.j2 at H
      refine tr_seq_j (fun L' h => ∃ (x0 : Option Addr) (x1 : Int) (x5 : Int), L' = [(0, (.pointer x0)), (1, (.int .i64 x1)), (5, (.int .i64 x5))] ∧ F.spateref6_Table_Move.j3 Q (F.spateref6_Table_Move.l1 Q q1) x0 x1 x5 h) ?_ ?_
      · rintro L' h ⟨x0, x1, x5, rfl, H⟩
        unfold F.spateref6_Table_Move.j3 at H
        refine tr_region ?_
        refine tr_p (y_move rfl) rfl rfl ?_
        refine tr_p (y_add rfl rfl) rfl rfl ?_
        refine tr_p (y_assign rfl) rfl rfl ?_
        refine tr_nil ?_
        refine tr_thenN ?_
        exact tr_join [(0, (.pointer x0)), (1, (.int .i64 x1)), (5, (.int .i64 (IntKind.wrap .i64 (x5 + 1))))] ⟨rfl, rfl, rfl, trivial⟩ ⟨_, _, _, rfl, H⟩
      · refine tr_block ?_
        refine tr_seq ?_
        refine tr_draw mixed [0, 1, 3, 7, 0, 16, 48, 112, 255, 511, 0, 2047] (by kernel_rfl) ?_
        refine g_p 0 1 rfl (by kernel_rfl) (y_move rfl) rfl rfl ?_
        obtain ⟨a1, e2, H⟩ := H
        refine g_p 1 3 rfl (by kernel_rfl) (f_nn rfl e2) rfl rfl ?_
        refine g_p 2 7 rfl (by kernel_rfl) (y_fa (off := 1) Try.runUnderlying104 fo_104_1 rfl) rfl rfl ?_
        obtain ⟨y3, k4, H⟩ := H
        refine g_h 3 15 rfl (by kernel_rfl) (y_ld Try.isAgg102 rfl) k4 rfl rfl ?_
        refine g_p 4 31 rfl (by kernel_rfl) (y_move rfl) rfl rfl ?_
        obtain ⟨a5, e6, H⟩ := H
        refine g_p 5 63 rfl (by kernel_rfl) (f_nn rfl e6) rfl rfl ?_
        refine g_p 6 127 rfl (by kernel_rfl) (y_fa (off := 2) Try.runUnderlying104 fo_104_2 rfl) rfl rfl ?_
        obtain ⟨y7, k8, H⟩ := H
        refine g_h 7 255 rfl (by kernel_rfl) (y_ld Try.isAgg3 rfl) k8 rfl rfl ?_
        obtain ⟨a9, e10, H⟩ := H
        refine g_p 8 511 rfl (by kernel_rfl) (f_idx (s := y3) Try.runUnderlying102 Try.sizeOf114 rfl rfl e10) rfl rfl ?_
        obtain ⟨y11, k12, H⟩ := H
        refine g_h 9 1023 rfl (by kernel_rfl) (y_ldS Try.isAgg114 Try.sizeOf114 rfl rfl) k12 rfl rfl ?_
        refine g_e 10 2047 [(9, fun h => Cells h a9 y11.cells), (7, fun h => cellH h (a5.add 2) = some (.int .i64 y7)), (3, fun h => cellH h (a1.add 1) = some y3.enc)] (by kernel_rfl) rfl (by kernel_rfl) (f_alloc (cs := ((⟨false, false, (⟨#[]⟩ : ByteArray), 0⟩ : S_spateref6_Place) : S_spateref6_Place).cells.toArray) Try.zeroValue114 rfl H) rfl rfl ?_
        rintro _ h13 ⟨a14, rfl, H⟩
        obtain ⟨k15, k16, k17, H⟩ := H
        refine ⟨And.intro k15 (And.intro k16 (And.intro k17 trivial)), ?_⟩
        refine g_e 11 4095 [] (by kernel_rfl) rfl (by kernel_rfl) (f_store (vs := y11.cells) Try.sizeOf114 rfl rfl cellsOfStruct rfl (by intro v hv; exact ones_S_spateref6_Place _ v hv) H) rfl rfl ?_
        rintro _ h18 ⟨rfl, H⟩
        refine ⟨trivial, ?_⟩
        refine g_d (by kernel_rfl) ?_
        refine tr_thenN ?_
        refine tr_seq_j (fun L' h => ∃ (x0 : Option Addr) (x1 : Int) (x5 : Int), L' = [(0, (.pointer x0)), (1, (.int .i64 x1)), (5, (.int .i64 x5))] ∧ F.spateref6_Table_Move.j4 Q (F.spateref6_Table_Move.l1 Q q1) x0 x1 x5 h) ?_ ?_
        · rintro L' h ⟨x0, x1, x5, rfl, H⟩
          unfold F.spateref6_Table_Move.j4 at H
          refine tr_region ?_
          refine tr_p (y_move rfl) rfl rfl ?_
          obtain ⟨a19, e20, H⟩ := H
          refine tr_p (f_nn rfl e20) rfl rfl ?_
          refine tr_p (y_fa (off := 2) Try.runUnderlying104 fo_104_2 rfl) rfl rfl ?_
          obtain ⟨y21, k22, H⟩ := H
          refine tr_h (y_ld Try.isAgg3 rfl) k22 rfl rfl ?_
          refine tr_p (y_add rfl rfl) rfl rfl ?_
          obtain ⟨a23, e24, H⟩ := H
          refine tr_p (f_nn rfl e24) rfl rfl ?_
          refine tr_p (y_fa (off := 2) Try.runUnderlying104 fo_104_2 rfl) rfl rfl ?_
          refine tr_e (f_store (vs := [(.int .i64 (IntKind.wrap .i64 (y21 + 1)))]) Try.sizeOf3 rfl rfl rfl rfl (one1 rfl) H) rfl rfl ?_
          rintro _ h25 ⟨rfl, H⟩
          refine tr_nil ?_
          refine tr_blockN ?_
          refine tr_thenN ?_
          exact tr_join [(0, (.pointer x0)), (1, (.int .i64 x1)), (5, (.int .i64 x5))] ⟨rfl, rfl, rfl, trivial⟩ ⟨_, _, _, rfl, H⟩
        · refine tr_seq ?_
          refine tr_region ?_
          refine tr_p (y_fa (off := 0) Try.runUnderlying114 fo_114_0 rfl) rfl rfl ?_
          obtain ⟨y26, k27, H⟩ := H
          refine tr_h (y_ld Try.isAgg4 rfl) k27 rfl rfl ?_
          refine tr_nil ?_
          refine tr_thenN ?_
          refine tr_cond rfl (fun g28 => ?_) (fun g28 => ?_)
          · replace H := H.1 g28
            refine tr_seq ?_
            refine tr_draw mixed [0, 1, 3, 7, 0, 16, 63, 127, 255, 255, 511, 2047] (by kernel_rfl) ?_
            refine g_p 0 1 rfl (by kernel_rfl) (y_move rfl) rfl rfl ?_
            obtain ⟨a29, e30, H⟩ := H
            refine g_p 1 3 rfl (by kernel_rfl) (f_nn rfl e30) rfl rfl ?_
            refine g_p 2 7 rfl (by kernel_rfl) (y_fa (off := 0) Try.runUnderlying104 fo_104_0 rfl) rfl rfl ?_
            obtain ⟨y31, k32, H⟩ := H
            refine g_h 3 15 rfl (by kernel_rfl) (y_ld Try.isAgg102 rfl) k32 rfl rfl ?_
            refine g_p 4 31 rfl (by kernel_rfl) (y_fa (off := 2) Try.runUnderlying114 fo_114_2 rfl) rfl rfl ?_
            obtain ⟨y33, k34, H⟩ := H
            refine g_h 5 63 rfl (by kernel_rfl) (y_ld Try.isAgg9 rfl) k34 rfl rfl ?_
            refine g_e 6 127 [] (by kernel_rfl) rfl (by kernel_rfl) (e_call Try.call73 rfl (F.spateref6_find_ok H)) rfl rfl ?_
            rintro _ h35 ⟨r36, r37, rfl, H⟩
            refine ⟨trivial, ?_⟩
            refine g_p 7 255 rfl (by kernel_rfl) (y_move rfl) rfl rfl ?_
            refine g_p 8 511 rfl (by kernel_rfl) (y_ext rfl rfl) rfl rfl ?_
            refine g_p 9 1023 rfl (by kernel_rfl) (y_ext rfl rfl) rfl rfl ?_
            refine g_p 10 2047 rfl (by kernel_rfl) (y_assign rfl) rfl rfl ?_
            refine g_p 11 4095 rfl (by kernel_rfl) (y_assign rfl) rfl rfl ?_
            refine g_d (by kernel_rfl) ?_
            refine tr_thenN ?_
            refine tr_seq ?_
            refine tr_draw mixed [0, 1, 3, 7, 0, 0, 63, 127] (by kernel_rfl) ?_
            refine g_p 0 1 rfl (by kernel_rfl) (y_move rfl) rfl rfl ?_
            obtain ⟨a38, e39, H⟩ := H
            refine g_p 1 3 rfl (by kernel_rfl) (f_nn rfl e39) rfl rfl ?_
            refine g_p 2 7 rfl (by kernel_rfl) (y_fa (off := 0) Try.runUnderlying104 fo_104_0 rfl) rfl rfl ?_
            obtain ⟨y40, k41, H⟩ := H
            refine g_h 3 15 rfl (by kernel_rfl) (y_ld Try.isAgg102 rfl) k41 rfl rfl ?_
            refine g_p 4 31 rfl (by kernel_rfl) (y_move rfl) rfl rfl ?_
            obtain ⟨y42, k43, H⟩ := H
            refine g_h 5 63 rfl (by kernel_rfl) (y_ldS Try.isAgg114 Try.sizeOf114 rfl rfl) k43 rfl rfl ?_
            obtain ⟨a44, e45, H⟩ := H
            refine g_p 6 127 rfl (by kernel_rfl) (f_idx (s := y40) Try.runUnderlying102 Try.sizeOf114 rfl rfl e45) rfl rfl ?_
            refine g_e 7 255 [] (by kernel_rfl) rfl (by kernel_rfl) (f_store (vs := y42.cells) Try.sizeOf114 rfl rfl cellsOfStruct rfl (by intro v hv; exact ones_S_spateref6_Place _ v hv) H) rfl rfl ?_
            rintro _ h46 ⟨rfl, H⟩
            refine ⟨trivial, ?_⟩
            refine g_d (by kernel_rfl) ?_
            refine tr_thenN ?_
            refine tr_draw mixed [0, 1, 3, 7, 0, 16, 48, 112, 0, 511, 1023] (by kernel_rfl) ?_
            refine g_p 0 1 rfl (by kernel_rfl) (y_move rfl) rfl rfl ?_
            obtain ⟨a47, e48, H⟩ := H
            refine g_p 1 3 rfl (by kernel_rfl) (f_nn rfl e48) rfl rfl ?_
            refine g_p 2 7 rfl (by kernel_rfl) (y_fa (off := 1) Try.runUnderlying104 fo_104_1 rfl) rfl rfl ?_
            obtain ⟨y49, k50, H⟩ := H
            refine g_h 3 15 rfl (by kernel_rfl) (y_ld Try.isAgg102 rfl) k50 rfl rfl ?_
            refine g_p 4 31 rfl (by kernel_rfl) (y_move rfl) rfl rfl ?_
            obtain ⟨a51, e52, H⟩ := H
            refine g_p 5 63 rfl (by kernel_rfl) (f_nn rfl e52) rfl rfl ?_
            refine g_p 6 127 rfl (by kernel_rfl) (y_fa (off := 2) Try.runUnderlying104 fo_104_2 rfl) rfl rfl ?_
            obtain ⟨y53, k54, H⟩ := H
            refine g_h 7 255 rfl (by kernel_rfl) (y_ld Try.isAgg3 rfl) k54 rfl rfl ?_
            refine g_p 8 511 rfl (by kernel_rfl) (f_build rfl (bd_114_1 true)) rfl rfl ?_
            obtain ⟨a55, e56, H⟩ := H
            refine g_p 9 1023 rfl (by kernel_rfl) (f_idx (s := y49) Try.runUnderlying102 Try.sizeOf114 rfl rfl e56) rfl rfl ?_
            refine g_e 10 2047 [] (by kernel_rfl) rfl (by kernel_rfl) (f_store (vs := (⟨false, true, (⟨#[]⟩ : ByteArray), 0⟩ : S_spateref6_Place).cells) Try.sizeOf114 rfl rfl cellsOfStruct rfl (by intro v hv; exact ones_S_spateref6_Place _ v hv) H) rfl rfl ?_
            rintro _ h57 ⟨rfl, H⟩
            refine ⟨trivial, ?_⟩
            refine g_d (by kernel_rfl) ?_
            refine tr_thenN ?_
            exact tr_join [(0, (.pointer x0)), (1, (.int .i64 x1)), (5, (.int .i64 x5))] ⟨rfl, rfl, rfl, trivial⟩ ⟨_, _, _, rfl, H⟩
          · replace H := H.2 g28
            refine tr_skip ?_
            refine tr_thenN ?_
            exact tr_join [(0, (.pointer x0)), (1, (.int .i64 x1)), (5, (.int .i64 x5))] ⟨rfl, rfl, rfl, trivial⟩ ⟨_, _, _, rfl, H⟩
    · refine tr_seq_j (fun L' h => ∃ (x0 : Option Addr) (x1 : Int) (x5 : Int) (x23 : Bool), L' = [(0, (.pointer x0)), (1, (.int .i64 x1)), (5, (.int .i64 x5)), (23, (.bool x23))] ∧ F.spateref6_Table_Move.j5 Q (F.spateref6_Table_Move.l1 Q q1) x0 x1 x5 x23 h) ?_ ?_
      · rintro L' h ⟨x0, x1, x5, x23, rfl, H⟩
        unfold F.spateref6_Table_Move.j5 at H
        refine tr_cond rfl (fun g58 => ?_) (fun g58 => ?_)
        · replace H := H.1 g58
          refine tr_skip ?_
          refine tr_thenN ?_
          exact tr_join [(0, (.pointer x0)), (1, (.int .i64 x1)), (5, (.int .i64 x5))] ⟨rfl, rfl, rfl, trivial⟩ ⟨_, _, _, rfl, H⟩
        · replace H := H.2 g58
          refine tr_exit ?_
          refine tr_thenE ?_
          refine tr_thenE ?_
          refine tr_hit ?_
          refine tr_thenN ?_
          refine tr_seq_j (fun L' h => ∃ (x0 : Option Addr), L' = [(0, (.pointer x0))] ∧ F.spateref6_Table_Move.j6 Q x0 h) ?_ ?_
          · rintro L' h ⟨x0, rfl, H⟩
            unfold F.spateref6_Table_Move.j6 at H
            refine tr_seq ?_
            refine tr_region ?_
            refine tr_p (y_move rfl) rfl rfl ?_
            refine tr_e (e_call Try.call72 rfl (F.spateref6_Table_Left_ok H)) rfl rfl ?_
            rintro _ h59 ⟨r60, rfl, H⟩
            refine tr_p (y_assign rfl) rfl rfl ?_
            refine tr_nil ?_
            refine tr_thenN ?_
            refine tr_ret ?_
            exact tr_ret1 rfl rfl ⟨_, rfl, H⟩
          · refine tr_seq ?_
            refine tr_draw mixed [0, 1, 3, 7, 0, 16, 48, 112, 240, 511] (by kernel_rfl) ?_
            refine g_p 0 1 rfl (by kernel_rfl) (y_move rfl) rfl rfl ?_
            obtain ⟨a61, e62, H⟩ := H
            refine g_p 1 3 rfl (by kernel_rfl) (f_nn rfl e62) rfl rfl ?_
            refine g_p 2 7 rfl (by kernel_rfl) (y_fa (off := 2) Try.runUnderlying104 fo_104_2 rfl) rfl rfl ?_
            obtain ⟨y63, k64, H⟩ := H
            refine g_h 3 15 rfl (by kernel_rfl) (y_ld Try.isAgg3 rfl) k64 rfl rfl ?_
            refine g_p 4 31 rfl (by kernel_rfl) (y_move rfl) rfl rfl ?_
            obtain ⟨a65, e66, H⟩ := H
            refine g_p 5 63 rfl (by kernel_rfl) (f_nn rfl e66) rfl rfl ?_
            refine g_p 6 127 rfl (by kernel_rfl) (y_fa (off := 1) Try.runUnderlying104 fo_104_1 rfl) rfl rfl ?_
            obtain ⟨y67, k68, H⟩ := H
            refine g_h 7 255 rfl (by kernel_rfl) (y_ld Try.isAgg102 rfl) k68 rfl rfl ?_
            refine g_p 8 511 rfl (by kernel_rfl) (y_len (ts := #[]) Try.runUnderlying102 (o := y67.ptr) (n := y67.len) (cap := y67.cap) rfl) rfl rfl ?_
            refine g_p 9 1023 rfl (by kernel_rfl) (y_eql rfl rfl) rfl rfl ?_
            refine g_d (by kernel_rfl) ?_
            refine tr_thenN ?_
            refine tr_cond rfl (fun g69 => ?_) (fun g69 => ?_)
            · replace H := H.1 g69
              refine tr_seq ?_
              refine tr_region ?_
              refine tr_p (y_move rfl) rfl rfl ?_
              obtain ⟨a70, e71, H⟩ := H
              refine tr_p (f_nn rfl e71) rfl rfl ?_
              refine tr_p (y_fa (off := 1) Try.runUnderlying104 fo_104_1 rfl) rfl rfl ?_
              refine tr_e (f_store (vs := [(⟨none, 0, 0⟩ : Sl).enc]) Try.sizeOf102 rfl rfl rfl rfl (one1 rfl) H) rfl rfl ?_
              rintro _ h72 ⟨rfl, H⟩
              refine tr_nil ?_
              refine tr_thenN ?_
              refine tr_region ?_
              refine tr_p (y_move rfl) rfl rfl ?_
              obtain ⟨a73, e74, H⟩ := H
              refine tr_p (f_nn rfl e74) rfl rfl ?_
              refine tr_p (y_fa (off := 2) Try.runUnderlying104 fo_104_2 rfl) rfl rfl ?_
              refine tr_e (f_store (vs := [(.int .i64 0)]) Try.sizeOf3 rfl rfl rfl rfl (one1 rfl) H) rfl rfl ?_
              rintro _ h75 ⟨rfl, H⟩
              refine tr_nil ?_
              refine tr_thenN ?_
              exact tr_join [(0, (.pointer x0))] ⟨rfl, trivial⟩ ⟨_, rfl, H⟩
            · replace H := H.2 g69
              refine tr_skip ?_
              refine tr_thenN ?_
              exact tr_join [(0, (.pointer x0))] ⟨rfl, trivial⟩ ⟨_, rfl, H⟩
      · refine tr_draw mixed [0, 0, 3, 7, 15, 31, 63, 127, 15, 271, 783, 1807, 3855, 8191, 16383] (by kernel_rfl) ?_
        refine g_p 0 1 rfl (by kernel_rfl) (y_move rfl) rfl rfl ?_
        refine g_p 1 3 rfl (by kernel_rfl) (y_move rfl) rfl rfl ?_
        refine g_p 2 7 rfl (by kernel_rfl) (y_lss rfl rfl) rfl rfl ?_
        refine g_p 3 15 rfl (by kernel_rfl) (y_move rfl) rfl rfl ?_
        refine g_split (t := 12) rfl (fun g76 => ?_) (fun g76 => ?_)
        · replace H := H.1 g76
          refine g_p 4 31 rfl (by kernel_rfl) (y_move rfl) rfl rfl ?_
          obtain ⟨a77, e78, H⟩ := H
          refine g_p 5 63 rfl (by kernel_rfl) (f_nn rfl e78) rfl rfl ?_
          refine g_p 6 127 rfl (by kernel_rfl) (y_fa (off := 2) Try.runUnderlying104 fo_104_2 rfl) rfl rfl ?_
          obtain ⟨y79, k80, H⟩ := H
          refine g_h 7 255 rfl (by kernel_rfl) (y_ld Try.isAgg3 rfl) k80 rfl rfl ?_
          refine g_p 8 511 rfl (by kernel_rfl) (y_move rfl) rfl rfl ?_
          obtain ⟨a81, e82, H⟩ := H
          refine g_p 9 1023 rfl (by kernel_rfl) (f_nn rfl e82) rfl rfl ?_
          refine g_p 10 2047 rfl (by kernel_rfl) (y_fa (off := 1) Try.runUnderlying104 fo_104_1 rfl) rfl rfl ?_
          obtain ⟨y83, k84, H⟩ := H
          refine g_h 11 4095 rfl (by kernel_rfl) (y_ld Try.isAgg102 rfl) k84 rfl rfl ?_
          refine g_p 12 8191 rfl (by kernel_rfl) (y_len (ts := #[]) Try.runUnderlying102 (o := y83.ptr) (n := y83.len) (cap := y83.cap) rfl) rfl rfl ?_
          refine g_p 13 16383 rfl (by kernel_rfl) (y_lss rfl rfl) rfl rfl ?_
          refine g_p 14 32767 rfl (by kernel_rfl) (y_pick_t rfl rfl) rfl rfl ?_
          refine g_d (by kernel_rfl) ?_
          refine tr_thenN ?_
          exact tr_join [(0, (.pointer x0)), (1, (.int .i64 x1)), (5, (.int .i64 x5)), (23, (.bool (decide (y79 < (y83.len : Int)))))] ⟨rfl, rfl, rfl, rfl, trivial⟩ ⟨_, _, _, _, rfl, H⟩
        · replace H := H.2 g76
          refine g_s 4 31 rfl (by kernel_rfl) rfl rfl ?_
          refine g_s 5 63 rfl (by kernel_rfl) rfl rfl ?_
          refine g_s 6 127 rfl (by kernel_rfl) rfl rfl ?_
          refine g_s 7 255 rfl (by kernel_rfl) rfl rfl ?_
          refine g_s 8 511 rfl (by kernel_rfl) rfl rfl ?_
          refine g_s 9 1023 rfl (by kernel_rfl) rfl rfl ?_
          refine g_s 10 2047 rfl (by kernel_rfl) rfl rfl ?_
          refine g_s 11 4095 rfl (by kernel_rfl) rfl rfl ?_
          refine g_s 12 8191 rfl (by kernel_rfl) rfl rfl ?_
          refine g_s 13 16383 rfl (by kernel_rfl) rfl rfl ?_
          refine g_p 14 32767 rfl (by kernel_rfl) (y_pick_f rfl rfl) rfl rfl ?_
          refine g_d (by kernel_rfl) ?_
          refine tr_thenN ?_
          exact tr_join [(0, (.pointer x0)), (1, (.int .i64 x1)), (5, (.int .i64 x5)), (23, (.bool false))] ⟨rfl, rfl, rfl, rfl, trivial⟩ ⟨_, _, _, _, rfl, H⟩

def F.spateref6_Table_Put.j2 (Q : H → Prop) (x0 : Option Addr) (x1 : ByteArray) (x2 : Int) (h : H) : Prop :=
  nn x0 fun a7 =>
  ldL h (a7.add 0) fun y9 =>
  F.spateref6_find y9 x1 h fun r12 r13 h11 =>
  nn x0 fun a14 =>
  ldL h11 (a14.add 0) fun y16 =>
  idxA y16 r12 4 fun a18 =>
  stH h11 a18 ((⟨true, false, x1, x2⟩ : S_spateref6_Place).cells) fun h20 =>
  nn x0 fun a21 =>
  ldI .i64 h20 (a21.add 3) fun y23 =>
  nn x0 fun a25 =>
  stH h20 (a25.add 3) [(.int .i64 (IntKind.wrap .i64 (y23 + 1)))] fun h27 =>
  Q h27
def F.spateref6_Table_Put.j1 (Q : H → Prop) (x0 : Option Addr) (x1 : ByteArray) (x2 : Int) (h : H) : Prop :=
  nn x0 fun a28 =>
  ldI .i64 h (a28.add 3) fun y30 =>
  nn x0 fun a32 =>
  ldL h (a32.add 0) fun y34 =>
  ((decide ((IntKind.wrap .i64 (4 * (IntKind.wrap .i64 (y30 + 1)))) > (IntKind.wrap .i64 (3 * (y34.len : Int))))) = true →
  F.spateref6_Table_Left x0 h fun r38 h37 =>
  F.spateref6_Table_Move x0 r38 h37 fun r40 h39 =>
  nn x0 fun a41 =>
  ldL h39 (a41.add 0) fun y43 =>
  nn x0 fun a45 =>
  stH h39 (a45.add 1) [y43.enc] fun h47 =>
  nn x0 fun a48 =>
  stH h47 (a48.add 2) [(.int .i64 0)] fun h50 =>
  nn x0 fun a51 =>
  ldL h50 (a51.add 1) fun y53 =>
  runL PP (Instr.makeSlice 102 (.int .i64 (IntKind.wrap .i64 (2 * (y53.len : Int)))) (.int .i64 (IntKind.wrap .i64 (2 * (y53.len : Int))))) h50 fun s56 h55 =>
  nn x0 fun a57 =>
  stH h55 (a57.add 0) [s56.enc] fun h59 =>
  F.spateref6_Table_Put.j2 Q x0 x1 x2 h59) ∧
  ((decide ((IntKind.wrap .i64 (4 * (IntKind.wrap .i64 (y30 + 1)))) > (IntKind.wrap .i64 (3 * (y34.len : Int))))) = false →
  F.spateref6_Table_Put.j2 Q x0 x1 x2 h)
def F.spateref6_Table_Put.j3 (Q : H → Prop) (x0 : Option Addr) (x1 : ByteArray) (x2 : Int) (x6 : Int) (x8 : Bool) (x18 : Bool) (h : H) : Prop :=
  (x18 = true →
  nn x0 fun a61 =>
  ldL h (a61.add 1) fun y63 =>
  idxA y63 x6 4 fun a65 =>
  stH h (a65.add 3) [(.int .i64 x2)] fun h67 =>
  Q h67) ∧
  (x18 = false →
  (x8 = true →
  nn x0 fun a69 =>
  ldL h (a69.add 0) fun y71 =>
  idxA y71 x6 4 fun a73 =>
  stH h (a73.add 3) [(.int .i64 x2)] fun h75 =>
  Q h75) ∧
  (x8 = false →
  F.spateref6_Table_Put.j1 Q x0 x1 x2 h))
/-- (*spate/spateref6.Table).Put -/
def F.spateref6_Table_Put (p0 : Option Addr) (p1 : ByteArray) (p2 : Int) (h : H) (Q : H → Prop) : Prop :=
  F.spateref6_Table_Move p0 4 h fun r2 h1 =>
  F.spateref6_Table_Place p0 p1 h1 fun r4 r5 r6 h3 =>
  (r6 = true →
  F.spateref6_Table_Put.j3 Q p0 p1 p2 r4 r6 r5 h3) ∧
  (r6 = false →
  F.spateref6_Table_Put.j3 Q p0 p1 p2 r4 r6 false h3)
theorem F.spateref6_Table_Put_ok {p0 : Option Addr} {p1 : ByteArray} {p2 : Int} {h : H} {Q : H → Prop} (H : F.spateref6_Table_Put p0 p1 p2 h Q) : Fn PP 58 ([(.pointer p0), (.string p1), (.int .i64 p2)] : List Value).toArray h fun r h' => r = .tuple #[] ∧ Q  h' := by
  unfold F.spateref6_Table_Put at H
  refine fn_of Try.func58 Try.ntmps58 rfl rfl fun w0 => ?_
  refine tr_sub [(0, (.pointer p0)), (1, (.string p1)), (2, (.int .i64 p2))] ⟨rfl, rfl, rfl, trivial⟩ ?_
  refine tr_seq ?_
  refine tr_region ?_
  refine tr_p (y_move rfl) rfl rfl ?_
  refine tr_e (e_call Try.call60 rfl (F.spateref6_Table_Move_ok H)) rfl rfl ?_
  rintro _ h1 ⟨r2, rfl, H⟩
  refine tr_nil ?_
  refine tr_thenN ?_
  refine tr_seq ?_
  refine tr_region ?_
  refine tr_p (y_move rfl) rfl rfl ?_
  refine tr_p (y_move rfl) rfl rfl ?_
  refine tr_e (e_call Try.call64 rfl (F.spateref6_Table_Place_ok H)) rfl rfl ?_
  rintro _ h3 ⟨r4, r5, r6, rfl, H⟩
  refine tr_p (y_move rfl) rfl rfl ?_
  refine tr_p (y_ext rfl rfl) rfl rfl ?_
  refine tr_p (y_ext rfl rfl) rfl rfl ?_
  refine tr_p (y_ext rfl rfl) rfl rfl ?_
  refine tr_p (y_assign rfl) rfl rfl ?_
  refine tr_p (y_assign rfl) rfl rfl ?_
  refine tr_p (y_assign rfl) rfl rfl ?_
  refine tr_nil ?_
  refine tr_thenN ?_
  refine tr_seq_j (fun L' h => ∃ (x0 : Option Addr) (x1 : ByteArray) (x2 : Int), L' = [(0, (.pointer x0)), (1, (.string x1)), (2, (.int .i64 x2))] ∧ F.spateref6_Table_Put.j1 Q x0 x1 x2 h) ?_ ?_
  · rintro L' h ⟨x0, x1, x2, rfl, H⟩
    unfold F.spateref6_Table_Put.j1 at H
    refine tr_seq_j (fun L' h => ∃ (x0 : Option Addr) (x1 : ByteArray) (x2 : Int), L' = [(0, (.pointer x0)), (1, (.string x1)), (2, (.int .i64 x2))] ∧ F.spateref6_Table_Put.j2 Q x0 x1 x2 h) ?_ ?_
    · rintro L' h ⟨x0, x1, x2, rfl, H⟩
      unfold F.spateref6_Table_Put.j2 at H
      refine tr_seq ?_
      refine tr_region ?_
      refine tr_p (y_move rfl) rfl rfl ?_
      obtain ⟨a7, e8, H⟩ := H
      refine tr_p (f_nn rfl e8) rfl rfl ?_
      refine tr_p (y_fa (off := 0) Try.runUnderlying104 fo_104_0 rfl) rfl rfl ?_
      obtain ⟨y9, k10, H⟩ := H
      refine tr_h (y_ld Try.isAgg102 rfl) k10 rfl rfl ?_
      refine tr_p (y_move rfl) rfl rfl ?_
      refine tr_e (e_call Try.call73 rfl (F.spateref6_find_ok H)) rfl rfl ?_
      rintro _ h11 ⟨r12, r13, rfl, H⟩
      refine tr_p (y_move rfl) rfl rfl ?_
      refine tr_p (y_ext rfl rfl) rfl rfl ?_
      refine tr_p (y_ext rfl rfl) rfl rfl ?_
      refine tr_p (y_assign rfl) rfl rfl ?_
      refine tr_nil ?_
      refine tr_thenN ?_
      refine tr_seq ?_
      refine tr_region ?_
      refine tr_p (y_move rfl) rfl rfl ?_
      obtain ⟨a14, e15, H⟩ := H
      refine tr_p (f_nn rfl e15) rfl rfl ?_
      refine tr_p (y_fa (off := 0) Try.runUnderlying104 fo_104_0 rfl) rfl rfl ?_
      obtain ⟨y16, k17, H⟩ := H
      refine tr_h (y_ld Try.isAgg102 rfl) k17 rfl rfl ?_
      refine tr_p (y_move rfl) rfl rfl ?_
      refine tr_p (y_move rfl) rfl rfl ?_
      refine tr_p (y_move rfl) rfl rfl ?_
      refine tr_p (f_build rfl (bd_114_0_2_3 true x1 x2)) rfl rfl ?_
      obtain ⟨a18, e19, H⟩ := H
      refine tr_p (f_idx (s := y16) Try.runUnderlying102 Try.sizeOf114 rfl rfl e19) rfl rfl ?_
      refine tr_e (f_store (vs := (⟨true, false, x1, x2⟩ : S_spateref6_Place).cells) Try.sizeOf114 rfl rfl cellsOfStruct rfl (by intro v hv; exact ones_S_spateref6_Place _ v hv) H) rfl rfl ?_
      rintro _ h20 ⟨rfl, H⟩
      refine tr_nil ?_
      refine tr_thenN ?_
      refine tr_region ?_
      refine tr_p (y_move rfl) rfl rfl ?_
      obtain ⟨a21, e22, H⟩ := H
      refine tr_p (f_nn rfl e22) rfl rfl ?_
      refine tr_p (y_fa (off := 3) Try.runUnderlying104 fo_104_3 rfl) rfl rfl ?_
      obtain ⟨y23, k24, H⟩ := H
      refine tr_h (y_ld Try.isAgg3 rfl) k24 rfl rfl ?_
      refine tr_p (y_add rfl rfl) rfl rfl ?_
      obtain ⟨a25, e26, H⟩ := H
      refine tr_p (f_nn rfl e26) rfl rfl ?_
      refine tr_p (y_fa (off := 3) Try.runUnderlying104 fo_104_3 rfl) rfl rfl ?_
      refine tr_e (f_store (vs := [(.int .i64 (IntKind.wrap .i64 (y23 + 1)))]) Try.sizeOf3 rfl rfl rfl rfl (one1 rfl) H) rfl rfl ?_
      rintro _ h27 ⟨rfl, H⟩
      refine tr_nil ?_
      exact tr_end0 rfl ⟨rfl, H⟩
    · refine tr_seq ?_
      refine tr_draw mixed [0, 1, 3, 7, 15, 31, 0, 64, 192, 448, 960, 1984, 4095] (by kernel_rfl) ?_
      refine g_p 0 1 rfl (by kernel_rfl) (y_move rfl) rfl rfl ?_
      obtain ⟨a28, e29, H⟩ := H
      refine g_p 1 3 rfl (by kernel_rfl) (f_nn rfl e29) rfl rfl ?_
      refine g_p 2 7 rfl (by kernel_rfl) (y_fa (off := 3) Try.runUnderlying104 fo_104_3 rfl) rfl rfl ?_
      obtain ⟨y30, k31, H⟩ := H
      refine g_h 3 15 rfl (by kernel_rfl) (y_ld Try.isAgg3 rfl) k31 rfl rfl ?_
      refine g_p 4 31 rfl (by kernel_rfl) (y_add rfl rfl) rfl rfl ?_
      refine g_p 5 63 rfl (by kernel_rfl) (y_mul rfl rfl) rfl rfl ?_
      refine g_p 6 127 rfl (by kernel_rfl) (y_move rfl) rfl rfl ?_
      obtain ⟨a32, e33, H⟩ := H
      refine g_p 7 255 rfl (by kernel_rfl) (f_nn rfl e33) rfl rfl ?_
      refine g_p 8 511 rfl (by kernel_rfl) (y_fa (off := 0) Try.runUnderlying104 fo_104_0 rfl) rfl rfl ?_
      obtain ⟨y34, k35, H⟩ := H
      refine g_h 9 1023 rfl (by kernel_rfl) (y_ld Try.isAgg102 rfl) k35 rfl rfl ?_
      refine g_p 10 2047 rfl (by kernel_rfl) (y_len (ts := #[]) Try.runUnderlying102 (o := y34.ptr) (n := y34.len) (cap := y34.cap) rfl) rfl rfl ?_
      refine g_p 11 4095 rfl (by kernel_rfl) (y_mul rfl rfl) rfl rfl ?_
      refine g_p 12 8191 rfl (by kernel_rfl) (y_gtr rfl rfl) rfl rfl ?_
      refine g_d (by kernel_rfl) ?_
      refine tr_thenN ?_
      refine tr_cond rfl (fun g36 => ?_) (fun g36 => ?_)
      · replace H := H.1 g36
        refine tr_seq ?_
        refine tr_region ?_
        refine tr_p (y_move rfl) rfl rfl ?_
        refine tr_p (y_move rfl) rfl rfl ?_
        refine tr_e (e_call Try.call72 rfl (F.spateref6_Table_Left_ok H)) rfl rfl ?_
        rintro _ h37 ⟨r38, rfl, H⟩
        refine tr_e (e_call Try.call60 rfl (F.spateref6_Table_Move_ok H)) rfl rfl ?_
        rintro _ h39 ⟨r40, rfl, H⟩
        refine tr_nil ?_
        refine tr_thenN ?_
        refine tr_seq ?_
        refine tr_region ?_
        refine tr_p (y_move rfl) rfl rfl ?_
        refine tr_p (y_move rfl) rfl rfl ?_
        obtain ⟨a41, e42, H⟩ := H
        refine tr_p (f_nn rfl e42) rfl rfl ?_
        refine tr_p (y_fa (off := 0) Try.runUnderlying104 fo_104_0 rfl) rfl rfl ?_
        obtain ⟨y43, k44, H⟩ := H
        refine tr_h (y_ld Try.isAgg102 rfl) k44 rfl rfl ?_
        obtain ⟨a45, e46, H⟩ := H
        refine tr_p (f_nn rfl e46) rfl rfl ?_
        refine tr_p (y_fa (off := 1) Try.runUnderlying104 fo_104_1 rfl) rfl rfl ?_
        refine tr_e (f_store (vs := [y43.enc]) Try.sizeOf102 rfl rfl rfl rfl (one1 rfl) H) rfl rfl ?_
        rintro _ h47 ⟨rfl, H⟩
        refine tr_nil ?_
        refine tr_thenN ?_
        refine tr_seq ?_
        refine tr_region ?_
        refine tr_p (y_move rfl) rfl rfl ?_
        obtain ⟨a48, e49, H⟩ := H
        refine tr_p (f_nn rfl e49) rfl rfl ?_
        refine tr_p (y_fa (off := 2) Try.runUnderlying104 fo_104_2 rfl) rfl rfl ?_
        refine tr_e (f_store (vs := [(.int .i64 0)]) Try.sizeOf3 rfl rfl rfl rfl (one1 rfl) H) rfl rfl ?_
        rintro _ h50 ⟨rfl, H⟩
        refine tr_nil ?_
        refine tr_thenN ?_
        refine tr_region ?_
        refine tr_p (y_move rfl) rfl rfl ?_
        refine tr_p (y_move rfl) rfl rfl ?_
        obtain ⟨a51, e52, H⟩ := H
        refine tr_p (f_nn rfl e52) rfl rfl ?_
        refine tr_p (y_fa (off := 1) Try.runUnderlying104 fo_104_1 rfl) rfl rfl ?_
        obtain ⟨y53, k54, H⟩ := H
        refine tr_h (y_ld Try.isAgg102 rfl) k54 rfl rfl ?_
        refine tr_p (y_len (ts := #[]) Try.runUnderlying102 (o := y53.ptr) (n := y53.len) (cap := y53.cap) rfl) rfl rfl ?_
        refine tr_p (y_mul rfl rfl) rfl rfl ?_
        refine tr_e (f_make rfl rfl H) rfl rfl ?_
        rintro _ h55 ⟨s56, rfl, H⟩
        obtain ⟨a57, e58, H⟩ := H
        refine tr_p (f_nn rfl e58) rfl rfl ?_
        refine tr_p (y_fa (off := 0) Try.runUnderlying104 fo_104_0 rfl) rfl rfl ?_
        refine tr_e (f_store (vs := [s56.enc]) Try.sizeOf102 rfl rfl rfl rfl (one1 rfl) H) rfl rfl ?_
        rintro _ h59 ⟨rfl, H⟩
        refine tr_nil ?_
        refine tr_thenN ?_
        exact tr_join [(0, (.pointer x0)), (1, (.string x1)), (2, (.int .i64 x2))] ⟨rfl, rfl, rfl, trivial⟩ ⟨_, _, _, rfl, H⟩
      · replace H := H.2 g36
        refine tr_skip ?_
        refine tr_thenN ?_
        exact tr_join [(0, (.pointer x0)), (1, (.string x1)), (2, (.int .i64 x2))] ⟨rfl, rfl, rfl, trivial⟩ ⟨_, _, _, rfl, H⟩
  · refine tr_block ?_
    refine tr_seq_j (fun L' h => ∃ (x0 : Option Addr) (x1 : ByteArray) (x2 : Int) (x6 : Int) (x8 : Bool) (x18 : Bool), L' = [(0, (.pointer x0)), (1, (.string x1)), (2, (.int .i64 x2)), (6, (.int .i64 x6)), (8, (.bool x8)), (18, (.bool x18))] ∧ F.spateref6_Table_Put.j3 Q x0 x1 x2 x6 x8 x18 h) ?_ ?_
    · rintro L' h ⟨x0, x1, x2, x6, x8, x18, rfl, H⟩
      unfold F.spateref6_Table_Put.j3 at H
      refine tr_cond rfl (fun g60 => ?_) (fun g60 => ?_)
      · replace H := H.1 g60
        refine tr_seq ?_
        refine tr_region ?_
        refine tr_p (y_move rfl) rfl rfl ?_
        obtain ⟨a61, e62, H⟩ := H
        refine tr_p (f_nn rfl e62) rfl rfl ?_
        refine tr_p (y_fa (off := 1) Try.runUnderlying104 fo_104_1 rfl) rfl rfl ?_
        obtain ⟨y63, k64, H⟩ := H
        refine tr_h (y_ld Try.isAgg102 rfl) k64 rfl rfl ?_
        refine tr_p (y_move rfl) rfl rfl ?_
        refine tr_p (y_move rfl) rfl rfl ?_
        obtain ⟨a65, e66, H⟩ := H
        refine tr_p (f_idx (s := y63) Try.runUnderlying102 Try.sizeOf114 rfl rfl e66) rfl rfl ?_
        refine tr_p (y_fa (off := 3) Try.runUnderlying114 fo_114_3 rfl) rfl rfl ?_
        refine tr_e (f_store (vs := [(.int .i64 x2)]) Try.sizeOf3 rfl rfl rfl rfl (one1 rfl) H) rfl rfl ?_
        rintro _ h67 ⟨rfl, H⟩
        refine tr_nil ?_
        refine tr_thenN ?_
        refine tr_ret ?_
        refine tr_blockR ?_
        refine tr_thenR ?_
        exact tr_ret0 rfl ⟨rfl, H⟩
      · replace H := H.2 g60
        refine tr_seq ?_
        refine tr_region ?_
        refine tr_p (y_move rfl) rfl rfl ?_
        refine tr_p (y_assign rfl) rfl rfl ?_
        refine tr_nil ?_
        refine tr_thenN ?_
        refine tr_cond rfl (fun g68 => ?_) (fun g68 => ?_)
        · replace H := H.1 g68
          refine tr_seq ?_
          refine tr_region ?_
          refine tr_p (y_move rfl) rfl rfl ?_
          obtain ⟨a69, e70, H⟩ := H
          refine tr_p (f_nn rfl e70) rfl rfl ?_
          refine tr_p (y_fa (off := 0) Try.runUnderlying104 fo_104_0 rfl) rfl rfl ?_
          obtain ⟨y71, k72, H⟩ := H
          refine tr_h (y_ld Try.isAgg102 rfl) k72 rfl rfl ?_
          refine tr_p (y_move rfl) rfl rfl ?_
          refine tr_p (y_move rfl) rfl rfl ?_
          obtain ⟨a73, e74, H⟩ := H
          refine tr_p (f_idx (s := y71) Try.runUnderlying102 Try.sizeOf114 rfl rfl e74) rfl rfl ?_
          refine tr_p (y_fa (off := 3) Try.runUnderlying114 fo_114_3 rfl) rfl rfl ?_
          refine tr_e (f_store (vs := [(.int .i64 x2)]) Try.sizeOf3 rfl rfl rfl rfl (one1 rfl) H) rfl rfl ?_
          rintro _ h75 ⟨rfl, H⟩
          refine tr_nil ?_
          refine tr_thenN ?_
          refine tr_ret ?_
          refine tr_blockR ?_
          refine tr_thenR ?_
          exact tr_ret0 rfl ⟨rfl, H⟩
        · replace H := H.2 g68
          refine tr_skip ?_
          refine tr_blockN ?_
          refine tr_thenN ?_
          exact tr_join [(0, (.pointer x0)), (1, (.string x1)), (2, (.int .i64 x2))] ⟨rfl, rfl, rfl, trivial⟩ ⟨_, _, _, rfl, H⟩
    · refine tr_region ?_
      refine tr_p (y_move rfl) rfl rfl ?_
      refine tr_p (y_move rfl) rfl rfl ?_
      refine tr_split (t := 20) rfl (fun g76 => ?_) (fun g76 => ?_)
      · replace H := H.1 g76
        refine tr_p (y_move rfl) rfl rfl ?_
        refine tr_p (y_pick_t rfl rfl) rfl rfl ?_
        refine tr_p (y_assign rfl) rfl rfl ?_
        refine tr_nil ?_
        refine tr_thenN ?_
        exact tr_join [(0, (.pointer p0)), (1, (.string p1)), (2, (.int .i64 p2)), (6, (.int .i64 r4)), (8, (.bool r6)), (18, (.bool r5))] ⟨rfl, rfl, rfl, rfl, rfl, rfl, trivial⟩ ⟨_, _, _, _, _, _, rfl, H⟩
      · replace H := H.2 g76
        refine tr_s rfl rfl ?_
        refine tr_p (y_pick_f rfl rfl) rfl rfl ?_
        refine tr_p (y_assign rfl) rfl rfl ?_
        refine tr_nil ?_
        refine tr_thenN ?_
        exact tr_join [(0, (.pointer p0)), (1, (.string p1)), (2, (.int .i64 p2)), (6, (.int .i64 r4)), (8, (.bool r6)), (18, (.bool false))] ⟨rfl, rfl, rfl, rfl, rfl, rfl, trivial⟩ ⟨_, _, _, _, _, _, rfl, H⟩

def F.table_Table_int_Drop.j2 (Q : Int → Bool → H → Prop) (C1 : (Option Addr) → Int → Int → Int → Int → H → Prop) (x0 : Option Addr) (x4 : Int) (x8 : Int) (x10 : Int) (x11 : Int) (h : H) : Prop :=
  (x10 : Int) ≠ 0 ∧
  C1 x0 x4 x8 x10 (Int.tmod (IntKind.wrap .i64 (x11 + 1)) x10) h
def F.table_Table_int_Drop.l1 (Q : Int → Bool → H → Prop) : Nat → (Option Addr) → Int → Int → Int → Int → H → Prop
  | 0, _, _, _, _, _, _ => False
  | q1 + 1, x0, x4, x8, x10, x11, h =>
    nn x0 fun a61 =>
    ldL h (a61.add 0) fun y63 =>
    idxA y63 x11 3 fun a65 =>
    ldI .u8 h (a65.add 0) fun y67 =>
    (((y67 != 0)) = true →
    nn x0 fun a71 =>
    ldL h (a71.add 0) fun y73 =>
    nn x0 fun a75 =>
    ldL h (a75.add 0) fun y77 =>
    idxA y77 x11 3 fun a79 =>
    ldS h (a79.add 1) fun y81 =>
    F.table_home_int y73 y81 h fun r84 h83 =>
    (x10 : Int) ≠ 0 ∧
    (x10 : Int) ≠ 0 ∧
    ((decide ((Int.tmod (IntKind.wrap .i64 ((IntKind.wrap .i64 (x11 - r84)) + x10)) x10) ≥ (Int.tmod (IntKind.wrap .i64 ((IntKind.wrap .i64 (x11 - x8)) + x10)) x10))) = true →
    nn x0 fun a88 =>
    ldL h83 (a88.add 0) fun y90 =>
    nn x0 fun a92 =>
    ldL h83 (a92.add 0) fun y94 =>
    idxA y94 x11 3 fun a96 =>
    ld_S_table_place_int h83 a96 fun y98 =>
    idxA y90 x8 3 fun a100 =>
    stH h83 a100 y98.cells fun h102 =>
    F.table_Table_int_Drop.j2 Q (F.table_Table_int_Drop.l1 Q q1) x0 x4 x11 x10 x11 h102) ∧
    ((decide ((Int.tmod (IntKind.wrap .i64 ((IntKind.wrap .i64 (x11 - r84)) + x10)) x10) ≥ (Int.tmod (IntKind.wrap .i64 ((IntKind.wrap .i64 (x11 - x8)) + x10)) x10))) = false →
    F.table_Table_int_Drop.j2 Q (F.table_Table_int_Drop.l1 Q q1) x0 x4 x8 x10 x11 h83)) ∧
    (((y67 != 0)) = false →
    nn x0 fun a103 =>
    ldL h (a103.add 0) fun y105 =>
    idxA y105 x8 3 fun a107 =>
    stH h a107 ((⟨0, (⟨#[]⟩ : ByteArray), 0⟩ : S_table_place_int).cells) fun h109 =>
    Q x4 true h109)
/-- (*spate/table.Table[int]).Drop -/
def F.table_Table_int_Drop (p0 : Option Addr) (p1 : ByteArray) (h : H) (Q : Int → Bool → H → Prop) : Prop :=
  F.table_Table_int_Move p0 4 h fun r2 h1 =>
  nn p0 fun a3 =>
  ldL h1 (a3.add 1) fun y5 =>
  F.table_find_int y5 p1 h1 fun r8 r9 h7 =>
  (r9 = true →
  nn p0 fun a11 =>
  ldL h7 (a11.add 1) fun y13 =>
  idxA y13 r8 3 fun a15 =>
  ldI .i64 h7 (a15.add 2) fun y17 =>
  nn p0 fun a19 =>
  ldL h7 (a19.add 1) fun y21 =>
  idxA y21 r8 3 fun a23 =>
  stH h7 a23 ((⟨2, (⟨#[]⟩ : ByteArray), 0⟩ : S_table_place_int).cells) fun h25 =>
  nn p0 fun a26 =>
  ldI .i64 h25 (a26.add 3) fun y28 =>
  nn p0 fun a30 =>
  stH h25 (a30.add 3) [(.int .i64 (IntKind.wrap .i64 (y28 - 1)))] fun h32 =>
  Q y17 true h32) ∧
  (r9 = false →
  nn p0 fun a33 =>
  ldL h7 (a33.add 0) fun y35 =>
  F.table_find_int y35 p1 h7 fun r38 r39 h37 =>
  ((!r39) = true →
  Q 0 false h37) ∧
  ((!r39) = false →
  nn p0 fun a41 =>
  ldL h37 (a41.add 0) fun y43 =>
  idxA y43 r38 3 fun a45 =>
  ldI .i64 h37 (a45.add 2) fun y47 =>
  nn p0 fun a49 =>
  ldI .i64 h37 (a49.add 3) fun y51 =>
  nn p0 fun a53 =>
  stH h37 (a53.add 3) [(.int .i64 (IntKind.wrap .i64 (y51 - 1)))] fun h55 =>
  nn p0 fun a56 =>
  ldL h55 (a56.add 0) fun y58 =>
  ((y58.len : Int) : Int) ≠ 0 ∧
  ∃ m, F.table_Table_int_Drop.l1 Q m p0 y47 r38 (y58.len : Int) (Int.tmod (IntKind.wrap .i64 (r38 + 1)) (y58.len : Int)) h55))
theorem F.table_Table_int_Drop_ok {p0 : Option Addr} {p1 : ByteArray} {h : H} {Q : Int → Bool → H → Prop} (H : F.table_Table_int_Drop p0 p1 h Q) : Fn PP 22 ([(.pointer p0), (.string p1)] : List Value).toArray h fun r h' => ∃ r0 r1, r = .tuple #[(.int .i64 r0), (.bool r1)] ∧ Q r0 r1 h' := by
  unfold F.table_Table_int_Drop at H
  refine fn_of Try.func22 Try.ntmps22 rfl rfl fun w0 => ?_
  refine tr_sub [(0, (.pointer p0)), (1, (.string p1))] ⟨rfl, rfl, trivial⟩ ?_
  refine tr_seq ?_
  refine tr_region ?_
  refine tr_p (y_assign rfl) rfl rfl ?_
  refine tr_p (y_assign rfl) rfl rfl ?_
  refine tr_nil ?_
  refine tr_thenN ?_
  refine tr_seq ?_
  refine tr_region ?_
  refine tr_p (y_move rfl) rfl rfl ?_
  refine tr_e (e_call Try.call26 rfl (F.table_Table_int_Move_ok H)) rfl rfl ?_
  rintro _ h1 ⟨r2, rfl, H⟩
  refine tr_nil ?_
  refine tr_thenN ?_
  refine tr_seq ?_
  refine tr_seq ?_
  refine tr_region ?_
  refine tr_p (y_move rfl) rfl rfl ?_
  obtain ⟨a3, e4, H⟩ := H
  refine tr_p (f_nn rfl e4) rfl rfl ?_
  refine tr_p (y_fa (off := 1) Try.runUnderlying73 fo_73_1 rfl) rfl rfl ?_
  obtain ⟨y5, k6, H⟩ := H
  refine tr_h (y_ld Try.isAgg71 rfl) k6 rfl rfl ?_
  refine tr_p (y_move rfl) rfl rfl ?_
  refine tr_e (e_call Try.call47 rfl (F.table_find_int_ok H)) rfl rfl ?_
  rintro _ h7 ⟨r8, r9, rfl, H⟩
  refine tr_p (y_move rfl) rfl rfl ?_
  refine tr_p (y_ext rfl rfl) rfl rfl ?_
  refine tr_p (y_ext rfl rfl) rfl rfl ?_
  refine tr_p (y_assign rfl) rfl rfl ?_
  refine tr_p (y_assign rfl) rfl rfl ?_
  refine tr_nil ?_
  refine tr_thenN ?_
  refine tr_seq ?_
  refine tr_region ?_
  refine tr_p (y_move rfl) rfl rfl ?_
  refine tr_nil ?_
  refine tr_thenN ?_
  refine tr_cond rfl (fun g10 => ?_) (fun g10 => ?_)
  · replace H := H.1 g10
    refine tr_seq ?_
    refine tr_region ?_
    refine tr_p (y_move rfl) rfl rfl ?_
    obtain ⟨a11, e12, H⟩ := H
    refine tr_p (f_nn rfl e12) rfl rfl ?_
    refine tr_p (y_fa (off := 1) Try.runUnderlying73 fo_73_1 rfl) rfl rfl ?_
    obtain ⟨y13, k14, H⟩ := H
    refine tr_h (y_ld Try.isAgg71 rfl) k14 rfl rfl ?_
    refine tr_p (y_move rfl) rfl rfl ?_
    obtain ⟨a15, e16, H⟩ := H
    refine tr_p (f_idx (s := y13) Try.runUnderlying71 Try.sizeOf77 rfl rfl e16) rfl rfl ?_
    refine tr_p (y_fa (off := 2) Try.runUnderlying77 fo_77_2 rfl) rfl rfl ?_
    obtain ⟨y17, k18, H⟩ := H
    refine tr_h (y_ld Try.isAgg3 rfl) k18 rfl rfl ?_
    refine tr_p (y_assign rfl) rfl rfl ?_
    refine tr_nil ?_
    refine tr_thenN ?_
    refine tr_seq ?_
    refine tr_region ?_
    refine tr_p (y_move rfl) rfl rfl ?_
    obtain ⟨a19, e20, H⟩ := H
    refine tr_p (f_nn rfl e20) rfl rfl ?_
    refine tr_p (y_fa (off := 1) Try.runUnderlying73 fo_73_1 rfl) rfl rfl ?_
    obtain ⟨y21, k22, H⟩ := H
    refine tr_h (y_ld Try.isAgg71 rfl) k22 rfl rfl ?_
    refine tr_p (y_move rfl) rfl rfl ?_
    refine tr_p (f_build rfl (bd_77_0 2)) rfl rfl ?_
    obtain ⟨a23, e24, H⟩ := H
    refine tr_p (f_idx (s := y21) Try.runUnderlying71 Try.sizeOf77 rfl rfl e24) rfl rfl ?_
    refine tr_e (f_store (vs := (⟨2, (⟨#[]⟩ : ByteArray), 0⟩ : S_table_place_int).cells) Try.sizeOf77 rfl rfl cellsOfStruct rfl (by intro v hv; exact ones_S_table_place_int _ v hv) H) rfl rfl ?_
    rintro _ h25 ⟨rfl, H⟩
    refine tr_nil ?_
    refine tr_thenN ?_
    refine tr_seq ?_
    refine tr_region ?_
    refine tr_p (y_move rfl) rfl rfl ?_
    obtain ⟨a26, e27, H⟩ := H
    refine tr_p (f_nn rfl e27) rfl rfl ?_
    refine tr_p (y_fa (off := 3) Try.runUnderlying73 fo_73_3 rfl) rfl rfl ?_
    obtain ⟨y28, k29, H⟩ := H
    refine tr_h (y_ld Try.isAgg3 rfl) k29 rfl rfl ?_
    refine tr_p (y_sub rfl rfl) rfl rfl ?_
    obtain ⟨a30, e31, H⟩ := H
    refine tr_p (f_nn rfl e31) rfl rfl ?_
    refine tr_p (y_fa (off := 3) Try.runUnderlying73 fo_73_3 rfl) rfl rfl ?_
    refine tr_e (f_store (vs := [(.int .i64 (IntKind.wrap .i64 (y28 - 1)))]) Try.sizeOf3 rfl rfl rfl rfl (one1 rfl) H) rfl rfl ?_
    rintro _ h32 ⟨rfl, H⟩
    refine tr_nil ?_
    refine tr_thenN ?_
    refine tr_seq ?_
    refine tr_region ?_
    refine tr_p (y_move rfl) rfl rfl ?_
    refine tr_p (y_assign rfl) rfl rfl ?_
    refine tr_p (y_assign rfl) rfl rfl ?_
    refine tr_nil ?_
    refine tr_thenN ?_
    refine tr_ret ?_
    refine tr_thenR ?_
    exact tr_ret2 rfl rfl rfl ⟨_, _, rfl, H⟩
  · replace H := H.2 g10
    refine tr_skip ?_
    refine tr_thenN ?_
    refine tr_seq ?_
    refine tr_region ?_
    refine tr_p (y_move rfl) rfl rfl ?_
    obtain ⟨a33, e34, H⟩ := H
    refine tr_p (f_nn rfl e34) rfl rfl ?_
    refine tr_p (y_fa (off := 0) Try.runUnderlying73 fo_73_0 rfl) rfl rfl ?_
    obtain ⟨y35, k36, H⟩ := H
    refine tr_h (y_ld Try.isAgg71 rfl) k36 rfl rfl ?_
    refine tr_p (y_move rfl) rfl rfl ?_
    refine tr_e (e_call Try.call47 rfl (F.table_find_int_ok H)) rfl rfl ?_
    rintro _ h37 ⟨r38, r39, rfl, H⟩
    refine tr_p (y_move rfl) rfl rfl ?_
    refine tr_p (y_ext rfl rfl) rfl rfl ?_
    refine tr_p (y_ext rfl rfl) rfl rfl ?_
    refine tr_p (y_assign rfl) rfl rfl ?_
    refine tr_p (y_assign rfl) rfl rfl ?_
    refine tr_nil ?_
    refine tr_thenN ?_
    refine tr_seq ?_
    refine tr_seq ?_
    refine tr_region ?_
    refine tr_p (y_move rfl) rfl rfl ?_
    refine tr_p (y_not rfl) rfl rfl ?_
    refine tr_nil ?_
    refine tr_thenN ?_
    refine tr_cond rfl (fun g40 => ?_) (fun g40 => ?_)
    · replace H := H.1 g40
      refine tr_seq ?_
      refine tr_region ?_
      refine tr_p (y_move rfl) rfl rfl ?_
      refine tr_p (y_assign rfl) rfl rfl ?_
      refine tr_p (y_assign rfl) rfl rfl ?_
      refine tr_nil ?_
      refine tr_thenN ?_
      refine tr_ret ?_
      refine tr_thenR ?_
      exact tr_ret2 rfl rfl rfl ⟨_, _, rfl, H⟩
    · replace H := H.2 g40
      refine tr_skip ?_
      refine tr_thenN ?_
      refine tr_seq ?_
      refine tr_region ?_
      refine tr_p (y_move rfl) rfl rfl ?_
      obtain ⟨a41, e42, H⟩ := H
      refine tr_p (f_nn rfl e42) rfl rfl ?_
      refine tr_p (y_fa (off := 0) Try.runUnderlying73 fo_73_0 rfl) rfl rfl ?_
      obtain ⟨y43, k44, H⟩ := H
      refine tr_h (y_ld Try.isAgg71 rfl) k44 rfl rfl ?_
      refine tr_p (y_move rfl) rfl rfl ?_
      obtain ⟨a45, e46, H⟩ := H
      refine tr_p (f_idx (s := y43) Try.runUnderlying71 Try.sizeOf77 rfl rfl e46) rfl rfl ?_
      refine tr_p (y_fa (off := 2) Try.runUnderlying77 fo_77_2 rfl) rfl rfl ?_
      obtain ⟨y47, k48, H⟩ := H
      refine tr_h (y_ld Try.isAgg3 rfl) k48 rfl rfl ?_
      refine tr_p (y_assign rfl) rfl rfl ?_
      refine tr_nil ?_
      refine tr_thenN ?_
      refine tr_seq ?_
      refine tr_region ?_
      refine tr_p (y_move rfl) rfl rfl ?_
      obtain ⟨a49, e50, H⟩ := H
      refine tr_p (f_nn rfl e50) rfl rfl ?_
      refine tr_p (y_fa (off := 3) Try.runUnderlying73 fo_73_3 rfl) rfl rfl ?_
      obtain ⟨y51, k52, H⟩ := H
      refine tr_h (y_ld Try.isAgg3 rfl) k52 rfl rfl ?_
      refine tr_p (y_sub rfl rfl) rfl rfl ?_
      obtain ⟨a53, e54, H⟩ := H
      refine tr_p (f_nn rfl e54) rfl rfl ?_
      refine tr_p (y_fa (off := 3) Try.runUnderlying73 fo_73_3 rfl) rfl rfl ?_
      refine tr_e (f_store (vs := [(.int .i64 (IntKind.wrap .i64 (y51 - 1)))]) Try.sizeOf3 rfl rfl rfl rfl (one1 rfl) H) rfl rfl ?_
      rintro _ h55 ⟨rfl, H⟩
      refine tr_nil ?_
      refine tr_thenN ?_
      refine tr_seq ?_
      refine tr_region ?_
      refine tr_p (y_move rfl) rfl rfl ?_
      obtain ⟨a56, e57, H⟩ := H
      refine tr_p (f_nn rfl e57) rfl rfl ?_
      refine tr_p (y_fa (off := 0) Try.runUnderlying73 fo_73_0 rfl) rfl rfl ?_
      obtain ⟨y58, k59, H⟩ := H
      refine tr_h (y_ld Try.isAgg71 rfl) k59 rfl rfl ?_
      refine tr_p (y_len (ts := #[]) Try.runUnderlying71 (o := y58.ptr) (n := y58.len) (cap := y58.cap) rfl) rfl rfl ?_
      refine tr_p (y_assign rfl) rfl rfl ?_
      refine tr_nil ?_
      refine tr_thenN ?_
      refine tr_seq ?_
      refine tr_seq ?_
      refine tr_region ?_
      refine tr_p (y_move rfl) rfl rfl ?_
      refine tr_p (y_add rfl rfl) rfl rfl ?_
      refine tr_p (y_move rfl) rfl rfl ?_
      obtain ⟨e60, H⟩ := H
      refine tr_p (y_rem rfl rfl e60) rfl rfl ?_
      refine tr_p (y_assign rfl) rfl rfl ?_
      refine tr_nil ?_
      refine tr_thenN ?_
      refine tr_block ?_
      obtain ⟨m110, H⟩ := H
      refine tr_sub [(0, (.pointer p0)), (4, (.int .i64 y47)), (8, (.int .i64 r38)), (10, (.int .i64 (y58.len : Int))), (11, (.int .i64 (Int.tmod (IntKind.wrap .i64 (r38 + 1)) (y58.len : Int))))] ⟨rfl, rfl, rfl, rfl, rfl, trivial⟩ ?_
      refine tr_loop_j (fun m L' h => ∃ (x0 : Option Addr) (x4 : Int) (x8 : Int) (x10 : Int) (x11 : Int), L' = [(0, (.pointer x0)), (4, (.int .i64 x4)), (8, (.int .i64 x8)), (10, (.int .i64 x10)), (11, (.int .i64 x11))] ∧ F.table_Table_int_Drop.l1 Q m x0 x4 x8 x10 x11 h) ?_ ?_ m110 ⟨_, _, _, _, _, rfl, H⟩
      · rintro L' h ⟨_, _, _, _, _, _, H⟩; exact H
      · rintro q1 L' h ⟨x0, x4, x8, x10, x11, rfl, H⟩
        unfold F.table_Table_int_Drop.l1 at H
        refine tr_seq ?_
        refine tr_seq ?_
        refine tr_region ?_
        refine tr_p (y_move rfl) rfl rfl ?_
        obtain ⟨a61, e62, H⟩ := H
        refine tr_p (f_nn rfl e62) rfl rfl ?_
        refine tr_p (y_fa (off := 0) Try.runUnderlying73 fo_73_0 rfl) rfl rfl ?_
        obtain ⟨y63, k64, H⟩ := H
        refine tr_h (y_ld Try.isAgg71 rfl) k64 rfl rfl ?_
        refine tr_p (y_move rfl) rfl rfl ?_
        obtain ⟨a65, e66, H⟩ := H
        refine tr_p (f_idx (s := y63) Try.runUnderlying71 Try.sizeOf77 rfl rfl e66) rfl rfl ?_
        refine tr_p (y_fa (off := 0) Try.runUnderlying77 fo_77_0 rfl) rfl rfl ?_
        obtain ⟨y67, k68, H⟩ := H
        refine tr_h (y_ld Try.isAgg5 rfl) k68 rfl rfl ?_
        refine tr_p (y_neq rfl rfl) rfl rfl ?_
        refine tr_nil ?_
        refine tr_thenN ?_
        refine tr_cond rfl (fun g69 => ?_) (fun g69 => ?_)
        · replace H := H.1 g69
          refine tr_skip ?_
          refine tr_thenN ?_
          refine tr_seq_j (fun L' h => ∃ (x0 : Option Addr) (x4 : Int) (x8 : Int) (x10 : Int) (x11 : Int), L' = [(0, (.pointer x0)), (4, (.int .i64 x4)), (8, (.int .i64 x8)), (10, (.int .i64 x10)), (11, (.int .i64 x11))] ∧ F.table_Table_int_Drop.j2 Q (F.table_Table_int_Drop.l1 Q q1) x0 x4 x8 x10 x11 h) ?_ ?_
          · rintro L' h ⟨x0, x4, x8, x10, x11, rfl, H⟩
            unfold F.table_Table_int_Drop.j2 at H
            refine tr_region ?_
            refine tr_p (y_move rfl) rfl rfl ?_
            refine tr_p (y_add rfl rfl) rfl rfl ?_
            refine tr_p (y_move rfl) rfl rfl ?_
            obtain ⟨e70, H⟩ := H
            refine tr_p (y_rem rfl rfl e70) rfl rfl ?_
            refine tr_p (y_assign rfl) rfl rfl ?_
            refine tr_nil ?_
            refine tr_thenN ?_
            exact tr_join [(0, (.pointer x0)), (4, (.int .i64 x4)), (8, (.int .i64 x8)), (10, (.int .i64 x10)), (11, (.int .i64 (Int.tmod (IntKind.wrap .i64 (x11 + 1)) x10)))] ⟨rfl, rfl, rfl, rfl, rfl, trivial⟩ ⟨_, _, _, _, _, rfl, H⟩
          · refine tr_block ?_
            refine tr_seq ?_
            refine tr_draw mixed [0, 1, 3, 7, 0, 16, 48, 112, 0, 496, 1008, 2032, 4095, 8191] (by kernel_rfl) ?_
            refine g_p 0 1 rfl (by kernel_rfl) (y_move rfl) rfl rfl ?_
            obtain ⟨a71, e72, H⟩ := H
            refine g_p 1 3 rfl (by kernel_rfl) (f_nn rfl e72) rfl rfl ?_
            refine g_p 2 7 rfl (by kernel_rfl) (y_fa (off := 0) Try.runUnderlying73 fo_73_0 rfl) rfl rfl ?_
            obtain ⟨y73, k74, H⟩ := H
            refine g_h 3 15 rfl (by kernel_rfl) (y_ld Try.isAgg71 rfl) k74 rfl rfl ?_
            refine g_p 4 31 rfl (by kernel_rfl) (y_move rfl) rfl rfl ?_
            obtain ⟨a75, e76, H⟩ := H
            refine g_p 5 63 rfl (by kernel_rfl) (f_nn rfl e76) rfl rfl ?_
            refine g_p 6 127 rfl (by kernel_rfl) (y_fa (off := 0) Try.runUnderlying73 fo_73_0 rfl) rfl rfl ?_
            obtain ⟨y77, k78, H⟩ := H
            refine g_h 7 255 rfl (by kernel_rfl) (y_ld Try.isAgg71 rfl) k78 rfl rfl ?_
            refine g_p 8 511 rfl (by kernel_rfl) (y_move rfl) rfl rfl ?_
            obtain ⟨a79, e80, H⟩ := H
            refine g_p 9 1023 rfl (by kernel_rfl) (f_idx (s := y77) Try.runUnderlying71 Try.sizeOf77 rfl rfl e80) rfl rfl ?_
            refine g_p 10 2047 rfl (by kernel_rfl) (y_fa (off := 1) Try.runUnderlying77 fo_77_1 rfl) rfl rfl ?_
            obtain ⟨y81, k82, H⟩ := H
            refine g_h 11 4095 rfl (by kernel_rfl) (y_ld Try.isAgg9 rfl) k82 rfl rfl ?_
            refine g_e 12 8191 [] (by kernel_rfl) rfl (by kernel_rfl) (e_call Try.call48 rfl (F.table_home_int_ok H)) rfl rfl ?_
            rintro _ h83 ⟨r84, rfl, H⟩
            refine ⟨trivial, ?_⟩
            refine g_p 13 16383 rfl (by kernel_rfl) (y_assign rfl) rfl rfl ?_
            refine g_d (by kernel_rfl) ?_
            refine tr_thenN ?_
            refine tr_seq ?_
            refine tr_draw mixed [0, 0, 3, 0, 15, 0, 63, 0, 0, 384, 0, 1920, 0, 8064, 16383] (by kernel_rfl) ?_
            refine g_p 0 1 rfl (by kernel_rfl) (y_move rfl) rfl rfl ?_
            refine g_p 1 3 rfl (by kernel_rfl) (y_move rfl) rfl rfl ?_
            refine g_p 2 7 rfl (by kernel_rfl) (y_sub rfl rfl) rfl rfl ?_
            refine g_p 3 15 rfl (by kernel_rfl) (y_move rfl) rfl rfl ?_
            refine g_p 4 31 rfl (by kernel_rfl) (y_add rfl rfl) rfl rfl ?_
            refine g_p 5 63 rfl (by kernel_rfl) (y_move rfl) rfl rfl ?_
            obtain ⟨e85, H⟩ := H
            refine g_p 6 127 rfl (by kernel_rfl) (y_rem rfl rfl e85) rfl rfl ?_
            refine g_p 7 255 rfl (by kernel_rfl) (y_move rfl) rfl rfl ?_
            refine g_p 8 511 rfl (by kernel_rfl) (y_move rfl) rfl rfl ?_
            refine g_p 9 1023 rfl (by kernel_rfl) (y_sub rfl rfl) rfl rfl ?_
            refine g_p 10 2047 rfl (by kernel_rfl) (y_move rfl) rfl rfl ?_
            refine g_p 11 4095 rfl (by kernel_rfl) (y_add rfl rfl) rfl rfl ?_
            refine g_p 12 8191 rfl (by kernel_rfl) (y_move rfl) rfl rfl ?_
            obtain ⟨e86, H⟩ := H
            refine g_p 13 16383 rfl (by kernel_rfl) (y_rem rfl rfl e86) rfl rfl ?_
            refine g_p 14 32767 rfl (by kernel_rfl) (y_geq rfl rfl) rfl rfl ?_
            refine g_d (by kernel_rfl) ?_
            refine tr_thenN ?_
            refine tr_cond rfl (fun g87 => ?_) (fun g87 => ?_)
            · replace H := H.1 g87
              refine tr_draw mixed [0, 1, 3, 7, 0, 0, 32, 96, 224, 0, 992, 2016, 0, 4095, 12287, 32767] (by kernel_rfl) ?_
              refine g_p 0 1 rfl (by kernel_rfl) (y_move rfl) rfl rfl ?_
              obtain ⟨a88, e89, H⟩ := H
              refine g_p 1 3 rfl (by kernel_rfl) (f_nn rfl e89) rfl rfl ?_
              refine g_p 2 7 rfl (by kernel_rfl) (y_fa (off := 0) Try.runUnderlying73 fo_73_0 rfl) rfl rfl ?_
              obtain ⟨y90, k91, H⟩ := H
              refine g_h 3 15 rfl (by kernel_rfl) (y_ld Try.isAgg71 rfl) k91 rfl rfl ?_
              refine g_p 4 31 rfl (by kernel_rfl) (y_move rfl) rfl rfl ?_
              refine g_p 5 63 rfl (by kernel_rfl) (y_move rfl) rfl rfl ?_
              obtain ⟨a92, e93, H⟩ := H
              refine g_p 6 127 rfl (by kernel_rfl) (f_nn rfl e93) rfl rfl ?_
              refine g_p 7 255 rfl (by kernel_rfl) (y_fa (off := 0) Try.runUnderlying73 fo_73_0 rfl) rfl rfl ?_
              obtain ⟨y94, k95, H⟩ := H
              refine g_h 8 511 rfl (by kernel_rfl) (y_ld Try.isAgg71 rfl) k95 rfl rfl ?_
              refine g_p 9 1023 rfl (by kernel_rfl) (y_move rfl) rfl rfl ?_
              obtain ⟨a96, e97, H⟩ := H
              refine g_p 10 2047 rfl (by kernel_rfl) (f_idx (s := y94) Try.runUnderlying71 Try.sizeOf77 rfl rfl e97) rfl rfl ?_
              obtain ⟨y98, k99, H⟩ := H
              refine g_h 11 4095 rfl (by kernel_rfl) (y_ldS Try.isAgg77 Try.sizeOf77 rfl rfl) k99 rfl rfl ?_
              refine g_p 12 8191 rfl (by kernel_rfl) (y_move rfl) rfl rfl ?_
              obtain ⟨a100, e101, H⟩ := H
              refine g_p 13 16383 rfl (by kernel_rfl) (f_idx (s := y90) Try.runUnderlying71 Try.sizeOf77 rfl rfl e101) rfl rfl ?_
              refine g_e 14 32767 [] (by kernel_rfl) rfl (by kernel_rfl) (f_store (vs := y98.cells) Try.sizeOf77 rfl rfl cellsOfStruct rfl (by intro v hv; exact ones_S_table_place_int _ v hv) H) rfl rfl ?_
              rintro _ h102 ⟨rfl, H⟩
              refine ⟨trivial, ?_⟩
              refine g_e 15 65535 [] (by kernel_rfl) rfl (by kernel_rfl) (yp_ev (y_assign rfl)) rfl rfl ?_
              rintro _ _ ⟨rfl, rfl⟩
              refine ⟨trivial, ?_⟩
              refine g_d (by kernel_rfl) ?_
              refine tr_blockN ?_
              refine tr_thenN ?_
              exact tr_join [(0, (.pointer x0)), (4, (.int .i64 x4)), (8, (.int .i64 x11)), (10, (.int .i64 x10)), (11, (.int .i64 x11))] ⟨rfl, rfl, rfl, rfl, rfl, trivial⟩ ⟨_, _, _, _, _, rfl, H⟩
            · replace H := H.2 g87
              refine tr_skip ?_
              refine tr_blockN ?_
              refine tr_thenN ?_
              exact tr_join [(0, (.pointer x0)), (4, (.int .i64 x4)), (8, (.int .i64 x8)), (10, (.int .i64 x10)), (11, (.int .i64 x11))] ⟨rfl, rfl, rfl, rfl, rfl, trivial⟩ ⟨_, _, _, _, _, rfl, H⟩
        · replace H := H.2 g69
          refine tr_exit ?_
          refine tr_thenE ?_
          refine tr_thenE ?_
          refine tr_hit ?_
          refine tr_thenN ?_
          refine tr_seq ?_
          refine tr_region ?_
          refine tr_p (y_move rfl) rfl rfl ?_
          obtain ⟨a103, e104, H⟩ := H
          refine tr_p (f_nn rfl e104) rfl rfl ?_
          refine tr_p (y_fa (off := 0) Try.runUnderlying73 fo_73_0 rfl) rfl rfl ?_
          obtain ⟨y105, k106, H⟩ := H
          refine tr_h (y_ld Try.isAgg71 rfl) k106 rfl rfl ?_
          refine tr_p (y_move rfl) rfl rfl ?_
          refine tr_p (f_build rfl (bd_77_ )) rfl rfl ?_
          obtain ⟨a107, e108, H⟩ := H
          refine tr_p (f_idx (s := y105) Try.runUnderlying71 Try.sizeOf77 rfl rfl e108) rfl rfl ?_
          refine tr_e (f_store (vs := (⟨0, (⟨#[]⟩ : ByteArray), 0⟩ : S_table_place_int).cells) Try.sizeOf77 rfl rfl cellsOfStruct rfl (by intro v hv; exact ones_S_table_place_int _ v hv) H) rfl rfl ?_
          rintro _ h109 ⟨rfl, H⟩
          refine tr_nil ?_
          refine tr_thenN ?_
          refine tr_seq ?_
          refine tr_region ?_
          refine tr_p (y_move rfl) rfl rfl ?_
          refine tr_p (y_assign rfl) rfl rfl ?_
          refine tr_p (y_assign rfl) rfl rfl ?_
          refine tr_nil ?_
          refine tr_thenN ?_
          refine tr_ret ?_
          exact tr_ret2 rfl rfl rfl ⟨_, _, rfl, H⟩

/-- spate/spateref6.behind -/
def F.spateref6_behind (p0 : Int) (p1 : Int) (p2 : Int) (h : H) (Q : Bool → H → Prop) : Prop :=
  ((decide (p0 < p2)) = true →
  ((decide (p1 > p0)) = true →
  Q (decide (p1 ≤ p2)) h) ∧
  ((decide (p1 > p0)) = false →
  Q false h)) ∧
  ((decide (p0 < p2)) = false →
  ((decide (p1 > p0)) = true →
  Q true h) ∧
  ((decide (p1 > p0)) = false →
  Q (decide (p1 ≤ p2)) h))
theorem F.spateref6_behind_ok {p0 : Int} {p1 : Int} {p2 : Int} {h : H} {Q : Bool → H → Prop} (H : F.spateref6_behind p0 p1 p2 h Q) : Fn PP 74 ([(.int .i64 p0), (.int .i64 p1), (.int .i64 p2)] : List Value).toArray h fun r h' => ∃ r0, r = (.bool r0) ∧ Q r0 h' := by
  unfold F.spateref6_behind at H
  refine fn_of Try.func74 Try.ntmps74 rfl rfl fun w0 => ?_
  refine tr_sub [(0, (.int .i64 p0)), (1, (.int .i64 p1)), (2, (.int .i64 p2))] ⟨rfl, rfl, rfl, trivial⟩ ?_
  refine tr_seq ?_
  refine tr_region ?_
  refine tr_p (y_assign rfl) rfl rfl ?_
  refine tr_nil ?_
  refine tr_thenN ?_
  refine tr_seq ?_
  refine tr_seq ?_
  refine tr_region ?_
  refine tr_p (y_move rfl) rfl rfl ?_
  refine tr_p (y_move rfl) rfl rfl ?_
  refine tr_p (y_lss rfl rfl) rfl rfl ?_
  refine tr_nil ?_
  refine tr_thenN ?_
  refine tr_cond rfl (fun g1 => ?_) (fun g1 => ?_)
  · replace H := H.1 g1
    refine tr_seq ?_
    refine tr_region ?_
    refine tr_p (y_move rfl) rfl rfl ?_
    refine tr_p (y_move rfl) rfl rfl ?_
    refine tr_p (y_gtr rfl rfl) rfl rfl ?_
    refine tr_p (y_move rfl) rfl rfl ?_
    refine tr_split (t := 13) rfl (fun g2 => ?_) (fun g2 => ?_)
    · replace H := H.1 g2
      refine tr_p (y_move rfl) rfl rfl ?_
      refine tr_p (y_move rfl) rfl rfl ?_
      refine tr_p (y_leq rfl rfl) rfl rfl ?_
      refine tr_p (y_pick_t rfl rfl) rfl rfl ?_
      refine tr_p (y_assign rfl) rfl rfl ?_
      refine tr_nil ?_
      refine tr_thenN ?_
      refine tr_ret ?_
      refine tr_thenR ?_
      exact tr_ret1 rfl rfl ⟨_, rfl, H⟩
    · replace H := H.2 g2
      refine tr_s rfl rfl ?_
      refine tr_s rfl rfl ?_
      refine tr_s rfl rfl ?_
      refine tr_p (y_pick_f rfl rfl) rfl rfl ?_
      refine tr_p (y_assign rfl) rfl rfl ?_
      refine tr_nil ?_
      refine tr_thenN ?_
      refine tr_ret ?_
      refine tr_thenR ?_
      exact tr_ret1 rfl rfl ⟨_, rfl, H⟩
  · replace H := H.2 g1
    refine tr_skip ?_
    refine tr_thenN ?_
    refine tr_seq ?_
    refine tr_region ?_
    refine tr_p (y_move rfl) rfl rfl ?_
    refine tr_p (y_move rfl) rfl rfl ?_
    refine tr_p (y_gtr rfl rfl) rfl rfl ?_
    refine tr_p (y_move rfl) rfl rfl ?_
    refine tr_split (t := 21) rfl (fun g3 => ?_) (fun g3 => ?_)
    · replace H := H.1 g3
      refine tr_s rfl rfl ?_
      refine tr_s rfl rfl ?_
      refine tr_s rfl rfl ?_
      refine tr_p (y_pick_t rfl rfl) rfl rfl ?_
      refine tr_p (y_assign rfl) rfl rfl ?_
      refine tr_nil ?_
      refine tr_thenN ?_
      refine tr_ret ?_
      exact tr_ret1 rfl rfl ⟨_, rfl, H⟩
    · replace H := H.2 g3
      refine tr_p (y_move rfl) rfl rfl ?_
      refine tr_p (y_move rfl) rfl rfl ?_
      refine tr_p (y_leq rfl rfl) rfl rfl ?_
      refine tr_p (y_pick_f rfl rfl) rfl rfl ?_
      refine tr_p (y_assign rfl) rfl rfl ?_
      refine tr_nil ?_
      refine tr_thenN ?_
      refine tr_ret ?_
      exact tr_ret1 rfl rfl ⟨_, rfl, H⟩

end Go.Proofs.Ytkedkajdiclmjaa.V
