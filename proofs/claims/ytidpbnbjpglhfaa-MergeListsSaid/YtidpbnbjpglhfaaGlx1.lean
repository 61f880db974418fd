/- Printed by a program of this session (gen.py): Go functions as Lean functions over the heap, and that the Go code does what they say; no condition. -/
import Derived.Test.YtidpbnbjpglhfaaGlx0
namespace Go.Proofs.Ytidpbnbjpglhfaa.V
open Go
set_option linter.unusedVariables false
set_option maxRecDepth 100000
def F.spateref8_Cell.j3 (Q : S_api_Cell → Int → H → Prop) (x2 : Addr) (x8 : Addr) (h : H) : Prop :=
  ld_S_api_Cell h x8 fun y39 =>
  ld_S_api_Cell h x8 fun y41 =>
  F.spateref8_wrong y41 h fun r44 h43 =>
  Cells h43 x8 y39.cells ∧
  stH h43 x2 y39.cells fun h46 =>
  ld_S_api_Cell h46 x2 fun y47 =>
  Q y47 r44 h46
def F.spateref8_Cell.l2 (Q : S_api_Cell → Int → H → Prop) : Nat → ByteArray → Addr → Sl → Int → Int → Int → H → Prop
  | 0, _, _, _, _, _, _, _ => False
  | q2 + 1, x0, x2, x4, x5, x6, x7, h =>
    ((decide (x7 < 8)) = true →
    0 ≤ (8 : Int) ∧
    idxS x0 (IntKind.wrap .i64 (x5 + x7)) fun b37 =>
    (F.spateref8_Cell.l2 Q q2) x0 x2 x4 x5 (bitsOf .or .u64 (IntKind.wrap .u64 (x6 * (2 ^ (min (8 : Int).toNat (IntKind.bits .u64)) : Int))) (IntKind.wrap .u64 b37)) (IntKind.wrap .i64 (x7 + 1)) h) ∧
    ((decide (x7 < 8)) = false →
    idxS x0 0 fun b49 =>
    (runT PP (convert 47 9 x4.enc) h fun s52 h51 =>
    new h51 (((⟨0, (⟨#[]⟩ : ByteArray), 0⟩ : S_api_Cell) : S_api_Cell).cells.toArray) ty_34 fun a54 h53 =>
    stH h53 a54 ((⟨(IntKind.wrap .i64 b49), s52, (IntKind.wrap .i64 (IntKind.wrap .u64 (x6 - 9223372036854775808)))⟩ : S_api_Cell).cells) fun h55 =>
    F.spateref8_Cell.j3 Q x2 a54 h55) ∧
    (new h (((⟨0, (⟨#[]⟩ : ByteArray), 0⟩ : S_api_Cell) : S_api_Cell).cells.toArray) ty_34 fun a57 h56 =>
    runT PP (convert 47 9 x4.enc) h56 fun s59 h58 =>
    stH h58 a57 ((⟨(IntKind.wrap .i64 b49), s59, (IntKind.wrap .i64 (IntKind.wrap .u64 (x6 - 9223372036854775808)))⟩ : S_api_Cell).cells) fun h60 =>
    F.spateref8_Cell.j3 Q x2 a57 h60))
def F.spateref8_Cell.l1 (Q : S_api_Cell → Int → H → Prop) : Nat → ByteArray → Addr → Sl → Int → H → Prop
  | 0, _, _, _, _, _ => False
  | q1 + 1, x0, x2, x4, x5, h =>
    ((decide (x5 ≥ (x0.size : Int))) = true →
    stH h x2 ((⟨0, (⟨#[]⟩ : ByteArray), 0⟩ : S_api_Cell).cells) fun h8 =>
    ld_S_api_Cell h8 x2 fun y9 =>
    Q y9 11 h8) ∧
    ((decide (x5 ≥ (x0.size : Int))) = false →
    idxS x0 x5 fun b11 =>
    (((b11 != 0)) = true →
    idxS x0 x5 fun b14 =>
    newL h #[(.int .u8 b14)] ty_5 1 fun s17 h16 =>
    runL PP (Builtin.append_ #[47, 47] 47 #[x4.enc, s17.enc]) h16 fun s19 h18 =>
    (F.spateref8_Cell.l1 Q q1) x0 x2 s19 (IntKind.wrap .i64 (x5 + 1)) h18) ∧
    (((b11 != 0)) = false →
    ((decide ((IntKind.wrap .i64 (x5 + 1)) ≥ (x0.size : Int))) = true →
    stH h x2 ((⟨0, (⟨#[]⟩ : ByteArray), 0⟩ : S_api_Cell).cells) fun h21 =>
    ld_S_api_Cell h21 x2 fun y22 =>
    Q y22 11 h21) ∧
    ((decide ((IntKind.wrap .i64 (x5 + 1)) ≥ (x0.size : Int))) = false →
    idxS x0 (IntKind.wrap .i64 (x5 + 1)) fun b24 =>
    (((b24 == 1)) = true →
    ((decide ((IntKind.wrap .i64 ((x0.size : Int) - (IntKind.wrap .i64 (x5 + 2)))) < 8)) = true →
    stH h x2 ((⟨0, (⟨#[]⟩ : ByteArray), 0⟩ : S_api_Cell).cells) fun h28 =>
    ld_S_api_Cell h28 x2 fun y29 =>
    Q y29 11 h28) ∧
    ((decide ((IntKind.wrap .i64 ((x0.size : Int) - (IntKind.wrap .i64 (x5 + 2)))) < 8)) = false →
    ((decide ((IntKind.wrap .i64 ((x0.size : Int) - (IntKind.wrap .i64 (x5 + 2)))) > 8)) = true →
    stH h x2 ((⟨0, (⟨#[]⟩ : ByteArray), 0⟩ : S_api_Cell).cells) fun h32 =>
    ld_S_api_Cell h32 x2 fun y33 =>
    Q y33 13 h32) ∧
    ((decide ((IntKind.wrap .i64 ((x0.size : Int) - (IntKind.wrap .i64 (x5 + 2)))) > 8)) = false →
    ∃ m, F.spateref8_Cell.l2 Q m x0 x2 x4 (IntKind.wrap .i64 (x5 + 2)) 0 0 h))) ∧
    (((b24 == 1)) = false →
    idxS x0 (IntKind.wrap .i64 (x5 + 1)) fun b62 =>
    (((b62 != 255)) = true →
    stH h x2 ((⟨0, (⟨#[]⟩ : ByteArray), 0⟩ : S_api_Cell).cells) fun h65 =>
    ld_S_api_Cell h65 x2 fun y66 =>
    Q y66 12 h65) ∧
    (((b62 != 255)) = false →
    newL h #[(.int .u8 0)] ty_5 1 fun s69 h68 =>
    runL PP (Builtin.append_ #[47, 47] 47 #[x4.enc, s69.enc]) h68 fun s71 h70 =>
    (F.spateref8_Cell.l1 Q q1) x0 x2 s71 (IntKind.wrap .i64 (x5 + 2)) h70)))))
/-- spate/spateref8.Cell -/
def F.spateref8_Cell (p0 : ByteArray) (h : H) (Q : S_api_Cell → Int → H → Prop) : Prop :=
  new h (((⟨0, (⟨#[]⟩ : ByteArray), 0⟩ : S_api_Cell) : S_api_Cell).cells.toArray) ty_34 fun a2 h1 =>
  ((((p0.size : Int) == 0)) = true →
  stH h1 a2 ((⟨0, (⟨#[]⟩ : ByteArray), 0⟩ : S_api_Cell).cells) fun h4 =>
  ld_S_api_Cell h4 a2 fun y5 =>
  Q y5 11 h4) ∧
  ((((p0.size : Int) == 0)) = false →
  ∃ m, F.spateref8_Cell.l1 Q m p0 a2 (⟨none, 0, 0⟩ : Sl) 1 h1)
theorem F.spateref8_Cell_ok {p0 : ByteArray} {h : H} {Q : S_api_Cell → Int → H → Prop} (H : F.spateref8_Cell p0 h Q) : Fn PP 25 ([(.string p0)] : List Value).toArray h fun r h' => ∃ r0 r1, r = .tuple #[(.agg r0.cells.toArray), (.int .i64 r1)] ∧ Q r0 r1 h' := by
  unfold F.spateref8_Cell at H
  refine fn_of Try.func25 Try.ntmps25 rfl rfl fun w0 => ?_
  refine tr_sub [(0, (.string p0))] ⟨rfl, trivial⟩ ?_
  refine tr_seq ?_
  refine tr_region ?_
  refine tr_e (f_alloc (cs := ((⟨0, (⟨#[]⟩ : ByteArray), 0⟩ : S_api_Cell) : S_api_Cell).cells.toArray) Try.zeroValue34 rfl H) rfl rfl ?_
  rintro _ h1 ⟨a2, rfl, H⟩
  refine tr_p (y_assign rfl) rfl rfl ?_
  refine tr_nil ?_
  refine tr_thenN ?_
  refine tr_seq ?_
  refine tr_seq ?_
  refine tr_region ?_
  refine tr_p (y_move rfl) rfl rfl ?_
  refine tr_p (y_lenS Try.runUnderlying9 rfl) rfl rfl ?_
  refine tr_p (y_eql rfl rfl) rfl rfl ?_
  refine tr_nil ?_
  refine tr_thenN ?_
  refine tr_cond rfl (fun g3 => ?_) (fun g3 => ?_)
  · replace H := H.1 g3
    refine tr_seq ?_
    refine tr_region ?_
    refine tr_p (f_build rfl (bd_34_ )) rfl rfl ?_
    refine tr_e (f_store (vs := (⟨0, (⟨#[]⟩ : ByteArray), 0⟩ : S_api_Cell).cells) Try.sizeOf34 rfl rfl cellsOfStruct rfl (by intro v hv; exact ones_S_api_Cell _ v hv) H) rfl rfl ?_
    rintro _ h4 ⟨rfl, H⟩
    refine tr_p (y_assign rfl) rfl rfl ?_
    refine tr_nil ?_
    refine tr_thenN ?_
    refine tr_ret ?_
    refine tr_thenR ?_
    obtain ⟨y5, k6, H⟩ := H
    exact tr_rv2 rfl (rv_cellS Try.isAgg34 Try.sizeOf34 rfl rfl k6) (rv_tmp rfl) ⟨_, _, rfl, H⟩
  · replace H := H.2 g3
    refine tr_skip ?_
    refine tr_thenN ?_
    refine tr_seq ?_
    refine tr_region ?_
    refine tr_p (y_assign rfl) rfl rfl ?_
    refine tr_nil ?_
    refine tr_thenN ?_
    refine tr_seq ?_
    refine tr_region ?_
    refine tr_p (y_assign rfl) rfl rfl ?_
    refine tr_nil ?_
    refine tr_thenN ?_
    refine tr_seq ?_
    refine tr_block ?_
    obtain ⟨m72, H⟩ := H
    refine tr_sub [(0, (.string p0)), (2, (.pointer (some a2))), (4, (⟨none, 0, 0⟩ : Sl).enc), (5, (.int .i64 1))] ⟨rfl, rfl, rfl, rfl, trivial⟩ ?_
    refine tr_loop_j (fun m L' h => ∃ (x0 : ByteArray) (x2 : Addr) (x4 : Sl) (x5 : Int), L' = [(0, (.string x0)), (2, (.pointer (some x2))), (4, x4.enc), (5, (.int .i64 x5))] ∧ F.spateref8_Cell.l1 Q m x0 x2 x4 x5 h) ?_ ?_ m72 ⟨_, _, _, _, rfl, H⟩
    · rintro L' h ⟨_, _, _, _, _, H⟩; exact H
    · rintro q1 L' h ⟨x0, x2, x4, x5, rfl, H⟩
      unfold F.spateref8_Cell.l1 at H
      refine tr_block ?_
      refine tr_seq ?_
      refine tr_seq ?_
      refine tr_region ?_
      refine tr_p (y_move rfl) rfl rfl ?_
      refine tr_p (y_move rfl) rfl rfl ?_
      refine tr_p (y_lenS Try.runUnderlying9 rfl) rfl rfl ?_
      refine tr_p (y_geq rfl rfl) rfl rfl ?_
      refine tr_nil ?_
      refine tr_thenN ?_
      refine tr_cond rfl (fun g7 => ?_) (fun g7 => ?_)
      · replace H := H.1 g7
        refine tr_seq ?_
        refine tr_region ?_
        refine tr_p (f_build rfl (bd_34_ )) rfl rfl ?_
        refine tr_e (f_store (vs := (⟨0, (⟨#[]⟩ : ByteArray), 0⟩ : S_api_Cell).cells) Try.sizeOf34 rfl rfl cellsOfStruct rfl (by intro v hv; exact ones_S_api_Cell _ v hv) H) rfl rfl ?_
        rintro _ h8 ⟨rfl, H⟩
        refine tr_p (y_assign rfl) rfl rfl ?_
        refine tr_nil ?_
        refine tr_thenN ?_
        refine tr_ret ?_
        refine tr_thenR ?_
        refine tr_blockR ?_
        refine tr_thenR ?_
        refine tr_blockR ?_
        refine tr_thenR ?_
        obtain ⟨y9, k10, H⟩ := H
        exact tr_rv2 rfl (rv_cellS Try.isAgg34 Try.sizeOf34 rfl rfl k10) (rv_tmp rfl) ⟨_, _, rfl, H⟩
      · replace H := H.2 g7
        refine tr_skip ?_
        refine tr_thenN ?_
        refine tr_seq ?_
        refine tr_seq ?_
        refine tr_region ?_
        refine tr_p (y_move rfl) rfl rfl ?_
        refine tr_p (y_move rfl) rfl rfl ?_
        obtain ⟨b11, e12, H⟩ := H
        refine tr_p (f_idxS Try.runUnderlying9 rfl rfl e12) rfl rfl ?_
        refine tr_p (y_neq rfl rfl) rfl rfl ?_
        refine tr_nil ?_
        refine tr_thenN ?_
        refine tr_cond rfl (fun g13 => ?_) (fun g13 => ?_)
        · replace H := H.1 g13
          refine tr_seq ?_
          refine tr_region ?_
          refine tr_p (y_move rfl) rfl rfl ?_
          refine tr_p (y_move rfl) rfl rfl ?_
          refine tr_p (y_move rfl) rfl rfl ?_
          obtain ⟨b14, e15, H⟩ := H
          refine tr_p (f_idxS Try.runUnderlying9 rfl rfl e15) rfl rfl ?_
          refine tr_e (f_buildL (cs := #[(.int .u8 b14)]) rfl rfl (bl_47_1_0 b14) H) rfl rfl ?_
          rintro _ h16 ⟨s17, rfl, H⟩
          refine tr_e (f_app rfl H) rfl rfl ?_
          rintro _ h18 ⟨s19, rfl, H⟩
          refine tr_p (y_assign rfl) rfl rfl ?_
          refine tr_nil ?_
          refine tr_thenN ?_
          refine tr_seq ?_
          refine tr_region ?_
          refine tr_p (y_move rfl) rfl rfl ?_
          refine tr_p (y_add rfl rfl) rfl rfl ?_
          refine tr_p (y_assign rfl) rfl rfl ?_
          refine tr_nil ?_
          refine tr_thenN ?_
          refine tr_exit ?_
          refine tr_thenE ?_
          refine tr_hit ?_
          refine tr_thenN ?_
          exact tr_join [(0, (.string x0)), (2, (.pointer (some x2))), (4, s19.enc), (5, (.int .i64 (IntKind.wrap .i64 (x5 + 1))))] ⟨rfl, rfl, rfl, rfl, trivial⟩ ⟨_, _, _, _, rfl, H⟩
        · replace H := H.2 g13
          refine tr_skip ?_
          refine tr_thenN ?_
          refine tr_seq ?_
          refine tr_seq ?_
          refine tr_region ?_
          refine tr_p (y_move rfl) rfl rfl ?_
          refine tr_p (y_add rfl rfl) rfl rfl ?_
          refine tr_p (y_move rfl) rfl rfl ?_
          refine tr_p (y_lenS Try.runUnderlying9 rfl) rfl rfl ?_
          refine tr_p (y_geq rfl rfl) rfl rfl ?_
          refine tr_nil ?_
          refine tr_thenN ?_
          refine tr_cond rfl (fun g20 => ?_) (fun g20 => ?_)
          · replace H := H.1 g20
            refine tr_seq ?_
            refine tr_region ?_
            refine tr_p (f_build rfl (bd_34_ )) rfl rfl ?_
            refine tr_e (f_store (vs := (⟨0, (⟨#[]⟩ : ByteArray), 0⟩ : S_api_Cell).cells) Try.sizeOf34 rfl rfl cellsOfStruct rfl (by intro v hv; exact ones_S_api_Cell _ v hv) H) rfl rfl ?_
            rintro _ h21 ⟨rfl, H⟩
            refine tr_p (y_assign rfl) rfl rfl ?_
            refine tr_nil ?_
            refine tr_thenN ?_
            refine tr_ret ?_
            refine tr_thenR ?_
            refine tr_blockR ?_
            refine tr_thenR ?_
            refine tr_blockR ?_
            refine tr_thenR ?_
            obtain ⟨y22, k23, H⟩ := H
            exact tr_rv2 rfl (rv_cellS Try.isAgg34 Try.sizeOf34 rfl rfl k23) (rv_tmp rfl) ⟨_, _, rfl, H⟩
          · replace H := H.2 g20
            refine tr_skip ?_
            refine tr_thenN ?_
            refine tr_seq ?_
            refine tr_seq ?_
            refine tr_region ?_
            refine tr_p (y_move rfl) rfl rfl ?_
            refine tr_p (y_move rfl) rfl rfl ?_
            refine tr_p (y_add rfl rfl) rfl rfl ?_
            obtain ⟨b24, e25, H⟩ := H
            refine tr_p (f_idxS Try.runUnderlying9 rfl rfl e25) rfl rfl ?_
            refine tr_p (y_eql rfl rfl) rfl rfl ?_
            refine tr_nil ?_
            refine tr_thenN ?_
            refine tr_cond rfl (fun g26 => ?_) (fun g26 => ?_)
            · replace H := H.1 g26
              refine tr_seq ?_
              refine tr_region ?_
              refine tr_p (y_move rfl) rfl rfl ?_
              refine tr_p (y_add rfl rfl) rfl rfl ?_
              refine tr_p (y_assign rfl) rfl rfl ?_
              refine tr_nil ?_
              refine tr_thenN ?_
              refine tr_exit ?_
              refine tr_thenE ?_
              refine tr_miss rfl ?_
              refine tr_thenE ?_
              refine tr_hit ?_
              refine tr_thenN ?_
              refine tr_seq ?_
              refine tr_seq ?_
              refine tr_region ?_
              refine tr_p (y_move rfl) rfl rfl ?_
              refine tr_p (y_lenS Try.runUnderlying9 rfl) rfl rfl ?_
              refine tr_p (y_move rfl) rfl rfl ?_
              refine tr_p (y_sub rfl rfl) rfl rfl ?_
              refine tr_p (y_lss rfl rfl) rfl rfl ?_
              refine tr_nil ?_
              refine tr_thenN ?_
              refine tr_cond rfl (fun g27 => ?_) (fun g27 => ?_)
              · replace H := H.1 g27
                refine tr_seq ?_
                refine tr_region ?_
                refine tr_p (f_build rfl (bd_34_ )) rfl rfl ?_
                refine tr_e (f_store (vs := (⟨0, (⟨#[]⟩ : ByteArray), 0⟩ : S_api_Cell).cells) Try.sizeOf34 rfl rfl cellsOfStruct rfl (by intro v hv; exact ones_S_api_Cell _ v hv) H) rfl rfl ?_
                rintro _ h28 ⟨rfl, H⟩
                refine tr_p (y_assign rfl) rfl rfl ?_
                refine tr_nil ?_
                refine tr_thenN ?_
                refine tr_ret ?_
                refine tr_thenR ?_
                obtain ⟨y29, k30, H⟩ := H
                exact tr_rv2 rfl (rv_cellS Try.isAgg34 Try.sizeOf34 rfl rfl k30) (rv_tmp rfl) ⟨_, _, rfl, H⟩
              · replace H := H.2 g27
                refine tr_skip ?_
                refine tr_thenN ?_
                refine tr_seq ?_
                refine tr_seq ?_
                refine tr_region ?_
                refine tr_p (y_move rfl) rfl rfl ?_
                refine tr_p (y_lenS Try.runUnderlying9 rfl) rfl rfl ?_
                refine tr_p (y_move rfl) rfl rfl ?_
                refine tr_p (y_sub rfl rfl) rfl rfl ?_
                refine tr_p (y_gtr rfl rfl) rfl rfl ?_
                refine tr_nil ?_
                refine tr_thenN ?_
                refine tr_cond rfl (fun g31 => ?_) (fun g31 => ?_)
                · replace H := H.1 g31
                  refine tr_seq ?_
                  refine tr_region ?_
                  refine tr_p (f_build rfl (bd_34_ )) rfl rfl ?_
                  refine tr_e (f_store (vs := (⟨0, (⟨#[]⟩ : ByteArray), 0⟩ : S_api_Cell).cells) Try.sizeOf34 rfl rfl cellsOfStruct rfl (by intro v hv; exact ones_S_api_Cell _ v hv) H) rfl rfl ?_
                  rintro _ h32 ⟨rfl, H⟩
                  refine tr_p (y_assign rfl) rfl rfl ?_
                  refine tr_nil ?_
                  refine tr_thenN ?_
                  refine tr_ret ?_
                  refine tr_thenR ?_
                  obtain ⟨y33, k34, H⟩ := H
                  exact tr_rv2 rfl (rv_cellS Try.isAgg34 Try.sizeOf34 rfl rfl k34) (rv_tmp rfl) ⟨_, _, rfl, H⟩
                · replace H := H.2 g31
                  refine tr_skip ?_
                  refine tr_thenN ?_
                  refine tr_seq ?_
                  refine tr_region ?_
                  refine tr_p (y_assign rfl) rfl rfl ?_
                  refine tr_nil ?_
                  refine tr_thenN ?_
                  refine tr_seq ?_
                  refine tr_seq ?_
                  refine tr_region ?_
                  refine tr_p (y_assign rfl) rfl rfl ?_
                  refine tr_nil ?_
                  refine tr_thenN ?_
                  refine tr_block ?_
                  obtain ⟨m61, H⟩ := H
                  refine tr_sub [(0, (.string x0)), (2, (.pointer (some x2))), (4, x4.enc), (5, (.int .i64 (IntKind.wrap .i64 (x5 + 2)))), (6, (.int .u64 0)), (7, (.int .i64 0))] ⟨rfl, rfl, rfl, rfl, rfl, rfl, trivial⟩ ?_
                  refine tr_loop_j (fun m L' h => ∃ (x0 : ByteArray) (x2 : Addr) (x4 : Sl) (x5 : Int) (x6 : Int) (x7 : Int), L' = [(0, (.string x0)), (2, (.pointer (some x2))), (4, x4.enc), (5, (.int .i64 x5)), (6, (.int .u64 x6)), (7, (.int .i64 x7))] ∧ F.spateref8_Cell.l2 Q m x0 x2 x4 x5 x6 x7 h) ?_ ?_ m61 ⟨_, _, _, _, _, _, rfl, H⟩
                  · rintro L' h ⟨_, _, _, _, _, _, _, H⟩; exact H
                  · rintro q2 L' h ⟨x0, x2, x4, x5, x6, x7, rfl, H⟩
                    unfold F.spateref8_Cell.l2 at H
                    refine tr_seq ?_
                    refine tr_seq ?_
                    refine tr_region ?_
                    refine tr_p (y_move rfl) rfl rfl ?_
                    refine tr_p (y_lss rfl rfl) rfl rfl ?_
                    refine tr_nil ?_
                    refine tr_thenN ?_
                    refine tr_cond rfl (fun g35 => ?_) (fun g35 => ?_)
                    · replace H := H.1 g35
                      refine tr_skip ?_
                      refine tr_thenN ?_
                      refine tr_seq ?_
                      refine tr_block ?_
                      refine tr_region ?_
                      refine tr_p (y_move rfl) rfl rfl ?_
                      obtain ⟨e36, H⟩ := H
                      refine tr_p (y_shl rfl rfl e36) rfl rfl ?_
                      refine tr_p (y_move rfl) rfl rfl ?_
                      refine tr_p (y_move rfl) rfl rfl ?_
                      refine tr_p (y_move rfl) rfl rfl ?_
                      refine tr_p (y_add rfl rfl) rfl rfl ?_
                      obtain ⟨b37, e38, H⟩ := H
                      refine tr_p (f_idxS Try.runUnderlying9 rfl rfl e38) rfl rfl ?_
                      refine tr_p (y_cvt Try.runUnderlying5 Try.runUnderlying76 rfl) rfl rfl ?_
                      refine tr_p (y_or rfl rfl) rfl rfl ?_
                      refine tr_p (y_assign rfl) rfl rfl ?_
                      refine tr_nil ?_
                      refine tr_blockN ?_
                      refine tr_thenN ?_
                      refine tr_region ?_
                      refine tr_p (y_move rfl) rfl rfl ?_
                      refine tr_p (y_add rfl rfl) rfl rfl ?_
                      refine tr_p (y_assign rfl) rfl rfl ?_
                      refine tr_nil ?_
                      refine tr_thenN ?_
                      exact tr_join [(0, (.string x0)), (2, (.pointer (some x2))), (4, x4.enc), (5, (.int .i64 x5)), (6, (.int .u64 (bitsOf .or .u64 (IntKind.wrap .u64 (x6 * (2 ^ (min (8 : Int).toNat (IntKind.bits .u64)) : Int))) (IntKind.wrap .u64 b37)))), (7, (.int .i64 (IntKind.wrap .i64 (x7 + 1))))] ⟨rfl, rfl, rfl, rfl, rfl, rfl, trivial⟩ ⟨_, _, _, _, _, _, rfl, H⟩
                    · replace H := H.2 g35
                      refine tr_exit ?_
                      refine tr_thenE ?_
                      refine tr_thenE ?_
                      refine tr_hit ?_
                      refine tr_thenN ?_
                      refine tr_seq_j (fun L' h => ∃ (x2 : Addr) (x8 : Addr), L' = [(2, (.pointer (some x2))), (8, (.pointer (some x8)))] ∧ F.spateref8_Cell.j3 Q x2 x8 h) ?_ ?_
                      · rintro L' h ⟨x2, x8, rfl, H⟩
                        unfold F.spateref8_Cell.j3 at H
                        refine tr_seq ?_
                        refine tr_draw mixed [0, 0, 2, 7, 15] (by kernel_rfl) ?_
                        obtain ⟨y39, k40, H⟩ := H
                        refine g_h 0 1 rfl (by kernel_rfl) (y_ldS Try.isAgg34 Try.sizeOf34 rfl rfl) k40 rfl rfl ?_
                        obtain ⟨y41, k42, H⟩ := H
                        refine g_h 1 3 rfl (by kernel_rfl) (y_ldS Try.isAgg34 Try.sizeOf34 rfl rfl) k42 rfl rfl ?_
                        refine g_e 2 7 [(0, fun h => Cells h x8 y39.cells)] (by kernel_rfl) rfl (by kernel_rfl) (e_call Try.call41 rfl (F.spateref8_wrong_ok H)) rfl rfl ?_
                        rintro _ h43 ⟨r44, rfl, H⟩
                        obtain ⟨k45, H⟩ := H
                        refine ⟨And.intro k45 trivial, ?_⟩
                        refine g_e 3 15 [] (by kernel_rfl) rfl (by kernel_rfl) (f_store (vs := y39.cells) Try.sizeOf34 rfl rfl cellsOfStruct rfl (by intro v hv; exact ones_S_api_Cell _ v hv) H) rfl rfl ?_
                        rintro _ h46 ⟨rfl, H⟩
                        refine ⟨trivial, ?_⟩
                        refine g_p 4 31 rfl (by kernel_rfl) (y_assign rfl) rfl rfl ?_
                        refine g_d (by kernel_rfl) ?_
                        refine tr_thenN ?_
                        refine tr_ret ?_
                        obtain ⟨y47, k48, H⟩ := H
                        exact tr_rv2 rfl (rv_cellS Try.isAgg34 Try.sizeOf34 rfl rfl k48) (rv_tmp rfl) ⟨_, _, rfl, H⟩
                      · refine tr_draw mixed [0, 1, 3, 0, 8, 0, 32, 96, 255, 0, 1023] (by kernel_rfl) ?_
                        refine g_p 0 1 rfl (by kernel_rfl) (y_move rfl) rfl rfl ?_
                        obtain ⟨b49, e50, H⟩ := H
                        refine g_p 1 3 rfl (by kernel_rfl) (f_idxS Try.runUnderlying9 rfl rfl e50) rfl rfl ?_
                        refine g_p 2 7 rfl (by kernel_rfl) (y_cvt Try.runUnderlying5 Try.runUnderlying3 rfl) rfl rfl ?_
                        refine g_p 3 15 rfl (by kernel_rfl) (y_move rfl) rfl rfl ?_
                        refine g_p 5 47 rfl (by kernel_rfl) (y_move rfl) rfl rfl ?_
                        refine g_p 6 111 rfl (by kernel_rfl) (y_sub rfl rfl) rfl rfl ?_
                        refine g_p 7 239 rfl (by kernel_rfl) (y_cvt Try.runUnderlying76 Try.runUnderlying2 rfl) rfl rfl ?_
                        refine g_e2 4 255 9 751 [] [] (by kernel_rfl) (by kernel_rfl) (by kernel_rfl) (by kernel_rfl) (by kernel_rfl) rfl rfl rfl rfl rfl rfl ?_ ?_
                        · replace H := H.1
                          refine ⟨_, (f_cvtT rfl H), ?_⟩
                          rintro _ h51 ⟨s52, rfl, H⟩
                          refine ⟨trivial, ?_⟩
                          refine g_p 8 511 rfl (by kernel_rfl) (f_build rfl (bd_34_0_1_2 (IntKind.wrap .i64 b49) s52 (IntKind.wrap .i64 (IntKind.wrap .u64 (x6 - 9223372036854775808))))) rfl rfl ?_
                          refine g_e 9 1023 [] (by kernel_rfl) rfl (by kernel_rfl) (f_alloc (cs := ((⟨0, (⟨#[]⟩ : ByteArray), 0⟩ : S_api_Cell) : S_api_Cell).cells.toArray) Try.zeroValue34 rfl H) rfl rfl ?_
                          rintro _ h53 ⟨a54, rfl, H⟩
                          refine ⟨trivial, ?_⟩
                          refine g_e 10 2047 [] (by kernel_rfl) rfl (by kernel_rfl) (f_store (vs := (⟨(IntKind.wrap .i64 b49), s52, (IntKind.wrap .i64 (IntKind.wrap .u64 (x6 - 9223372036854775808)))⟩ : S_api_Cell).cells) Try.sizeOf34 rfl rfl cellsOfStruct rfl (by intro v hv; exact ones_S_api_Cell _ v hv) H) rfl rfl ?_
                          rintro _ h55 ⟨rfl, H⟩
                          refine ⟨trivial, ?_⟩
                          refine g_d (by kernel_rfl) ?_
                          refine tr_thenN ?_
                          exact tr_join [(2, (.pointer (some x2))), (8, (.pointer (some a54)))] ⟨rfl, rfl, trivial⟩ ⟨_, _, rfl, H⟩
                        · replace H := H.2
                          refine ⟨_, (f_alloc (cs := ((⟨0, (⟨#[]⟩ : ByteArray), 0⟩ : S_api_Cell) : S_api_Cell).cells.toArray) Try.zeroValue34 rfl H), ?_⟩
                          rintro _ h56 ⟨a57, rfl, H⟩
                          refine ⟨trivial, ?_⟩
                          refine g_e 4 767 [] (by kernel_rfl) rfl (by kernel_rfl) (f_cvtT rfl H) rfl rfl ?_
                          rintro _ h58 ⟨s59, rfl, H⟩
                          refine ⟨trivial, ?_⟩
                          refine g_p 8 1023 rfl (by kernel_rfl) (f_build rfl (bd_34_0_1_2 (IntKind.wrap .i64 b49) s59 (IntKind.wrap .i64 (IntKind.wrap .u64 (x6 - 9223372036854775808))))) rfl rfl ?_
                          refine g_e 10 2047 [] (by kernel_rfl) rfl (by kernel_rfl) (f_store (vs := (⟨(IntKind.wrap .i64 b49), s59, (IntKind.wrap .i64 (IntKind.wrap .u64 (x6 - 9223372036854775808)))⟩ : S_api_Cell).cells) Try.sizeOf34 rfl rfl cellsOfStruct rfl (by intro v hv; exact ones_S_api_Cell _ v hv) H) rfl rfl ?_
                          rintro _ h60 ⟨rfl, H⟩
                          refine ⟨trivial, ?_⟩
                          refine g_d (by kernel_rfl) ?_
                          refine tr_thenN ?_
                          exact tr_join [(2, (.pointer (some x2))), (8, (.pointer (some a57)))] ⟨rfl, rfl, trivial⟩ ⟨_, _, rfl, H⟩
            · replace H := H.2 g26
              refine tr_skip ?_
              refine tr_thenN ?_
              refine tr_seq ?_
              refine tr_seq ?_
              refine tr_region ?_
              refine tr_p (y_move rfl) rfl rfl ?_
              refine tr_p (y_move rfl) rfl rfl ?_
              refine tr_p (y_add rfl rfl) rfl rfl ?_
              obtain ⟨b62, e63, H⟩ := H
              refine tr_p (f_idxS Try.runUnderlying9 rfl rfl e63) rfl rfl ?_
              refine tr_p (y_neq rfl rfl) rfl rfl ?_
              refine tr_nil ?_
              refine tr_thenN ?_
              refine tr_cond rfl (fun g64 => ?_) (fun g64 => ?_)
              · replace H := H.1 g64
                refine tr_seq ?_
                refine tr_region ?_
                refine tr_p (f_build rfl (bd_34_ )) rfl rfl ?_
                refine tr_e (f_store (vs := (⟨0, (⟨#[]⟩ : ByteArray), 0⟩ : S_api_Cell).cells) Try.sizeOf34 rfl rfl cellsOfStruct rfl (by intro v hv; exact ones_S_api_Cell _ v hv) H) rfl rfl ?_
                rintro _ h65 ⟨rfl, H⟩
                refine tr_p (y_assign rfl) rfl rfl ?_
                refine tr_nil ?_
                refine tr_thenN ?_
                refine tr_ret ?_
                refine tr_thenR ?_
                refine tr_blockR ?_
                refine tr_thenR ?_
                refine tr_blockR ?_
                refine tr_thenR ?_
                obtain ⟨y66, k67, H⟩ := H
                exact tr_rv2 rfl (rv_cellS Try.isAgg34 Try.sizeOf34 rfl rfl k67) (rv_tmp rfl) ⟨_, _, rfl, H⟩
              · replace H := H.2 g64
                refine tr_skip ?_
                refine tr_thenN ?_
                refine tr_seq ?_
                refine tr_region ?_
                refine tr_p (y_move rfl) rfl rfl ?_
                refine tr_e (f_buildL (cs := #[(.int .u8 0)]) rfl rfl (bl_47_1_0 0) H) rfl rfl ?_
                rintro _ h68 ⟨s69, rfl, H⟩
                refine tr_e (f_app rfl H) rfl rfl ?_
                rintro _ h70 ⟨s71, rfl, H⟩
                refine tr_p (y_assign rfl) rfl rfl ?_
                refine tr_nil ?_
                refine tr_thenN ?_
                refine tr_region ?_
                refine tr_p (y_move rfl) rfl rfl ?_
                refine tr_p (y_add rfl rfl) rfl rfl ?_
                refine tr_p (y_assign rfl) rfl rfl ?_
                refine tr_nil ?_
                refine tr_blockN ?_
                refine tr_thenN ?_
                exact tr_join [(0, (.string x0)), (2, (.pointer (some x2))), (4, s71.enc), (5, (.int .i64 (IntKind.wrap .i64 (x5 + 2))))] ⟨rfl, rfl, rfl, rfl, trivial⟩ ⟨_, _, _, _, rfl, H⟩

/-- cmp.isNaN[int] -/
def F.cmp_isNaN_int (p0 : Int) (h : H) (Q : Bool → H → Prop) : Prop :=
  Q ((p0 != p0)) h
theorem F.cmp_isNaN_int_ok {p0 : Int} {h : H} {Q : Bool → H → Prop} (H : F.cmp_isNaN_int p0 h Q) : Fn PP 51 ([(.int .i64 p0)] : List Value).toArray h fun r h' => ∃ r0, r = (.bool r0) ∧ Q r0 h' := by
  unfold F.cmp_isNaN_int at H
  refine fn_of Try.func51 Try.ntmps51 rfl rfl fun w0 => ?_
  refine tr_sub [(0, (.int .i64 p0))] ⟨rfl, trivial⟩ ?_
  refine tr_seq ?_
  refine tr_region ?_
  refine tr_p (y_assign rfl) rfl rfl ?_
  refine tr_nil ?_
  refine tr_thenN ?_
  refine tr_seq ?_
  refine tr_region ?_
  refine tr_p (y_move rfl) rfl rfl ?_
  refine tr_p (y_move rfl) rfl rfl ?_
  refine tr_p (y_neq rfl rfl) rfl rfl ?_
  refine tr_p (y_assign rfl) rfl rfl ?_
  refine tr_nil ?_
  refine tr_thenN ?_
  refine tr_ret ?_
  exact tr_ret1 rfl rfl ⟨_, rfl, H⟩

/-- cmp.Compare[int] -/
def F.cmp_Compare_int (p0 : Int) (p1 : Int) (h : H) (Q : Int → H → Prop) : Prop :=
  F.cmp_isNaN_int p0 h fun r2 h1 =>
  F.cmp_isNaN_int p1 h1 fun r4 h3 =>
  (r2 = true →
  (r4 = true →
  Q 0 h3) ∧
  (r4 = false →
  Q (-1) h3)) ∧
  (r2 = false →
  (r4 = true →
  Q 1 h3) ∧
  (r4 = false →
  ((decide (p0 < p1)) = true →
  Q (-1) h3) ∧
  ((decide (p0 < p1)) = false →
  ((decide (p0 > p1)) = true →
  Q 1 h3) ∧
  ((decide (p0 > p1)) = false →
  Q 0 h3))))
theorem F.cmp_Compare_int_ok {p0 : Int} {p1 : Int} {h : H} {Q : Int → H → Prop} (H : F.cmp_Compare_int p0 p1 h Q) : Fn PP 43 ([(.int .i64 p0), (.int .i64 p1)] : List Value).toArray h fun r h' => ∃ r0, r = (.int .i64 r0) ∧ Q r0 h' := by
  unfold F.cmp_Compare_int at H
  refine fn_of Try.func43 Try.ntmps43 rfl rfl fun w0 => ?_
  refine tr_sub [(0, (.int .i64 p0)), (1, (.int .i64 p1))] ⟨rfl, rfl, trivial⟩ ?_
  refine tr_seq ?_
  refine tr_region ?_
  refine tr_p (y_assign rfl) rfl rfl ?_
  refine tr_nil ?_
  refine tr_thenN ?_
  refine tr_seq ?_
  refine tr_region ?_
  refine tr_p (y_move rfl) rfl rfl ?_
  refine tr_e (e_call Try.call51 rfl (F.cmp_isNaN_int_ok H)) rfl rfl ?_
  rintro _ h1 ⟨r2, rfl, H⟩
  refine tr_p (y_assign rfl) rfl rfl ?_
  refine tr_nil ?_
  refine tr_thenN ?_
  refine tr_seq ?_
  refine tr_region ?_
  refine tr_p (y_move rfl) rfl rfl ?_
  refine tr_e (e_call Try.call51 rfl (F.cmp_isNaN_int_ok H)) rfl rfl ?_
  rintro _ h3 ⟨r4, rfl, H⟩
  refine tr_p (y_assign rfl) rfl rfl ?_
  refine tr_nil ?_
  refine tr_thenN ?_
  refine tr_seq ?_
  refine tr_seq ?_
  refine tr_region ?_
  refine tr_p (y_move rfl) rfl rfl ?_
  refine tr_nil ?_
  refine tr_thenN ?_
  refine tr_cond rfl (fun g5 => ?_) (fun g5 => ?_)
  · replace H := H.1 g5
    refine tr_seq ?_
    refine tr_seq ?_
    refine tr_region ?_
    refine tr_p (y_move rfl) rfl rfl ?_
    refine tr_nil ?_
    refine tr_thenN ?_
    refine tr_cond rfl (fun g6 => ?_) (fun g6 => ?_)
    · replace H := H.1 g6
      refine tr_seq ?_
      refine tr_region ?_
      refine tr_p (y_assign rfl) rfl rfl ?_
      refine tr_nil ?_
      refine tr_thenN ?_
      refine tr_ret ?_
      refine tr_thenR ?_
      refine tr_thenR ?_
      exact tr_ret1 rfl rfl ⟨_, rfl, H⟩
    · replace H := H.2 g6
      refine tr_skip ?_
      refine tr_thenN ?_
      refine tr_seq ?_
      refine tr_region ?_
      refine tr_p (y_assign rfl) rfl rfl ?_
      refine tr_nil ?_
      refine tr_thenN ?_
      refine tr_ret ?_
      refine tr_thenR ?_
      exact tr_ret1 rfl rfl ⟨_, rfl, H⟩
  · replace H := H.2 g5
    refine tr_skip ?_
    refine tr_thenN ?_
    refine tr_seq ?_
    refine tr_seq ?_
    refine tr_region ?_
    refine tr_p (y_move rfl) rfl rfl ?_
    refine tr_nil ?_
    refine tr_thenN ?_
    refine tr_cond rfl (fun g7 => ?_) (fun g7 => ?_)
    · replace H := H.1 g7
      refine tr_seq ?_
      refine tr_region ?_
      refine tr_p (y_assign rfl) rfl rfl ?_
      refine tr_nil ?_
      refine tr_thenN ?_
      refine tr_ret ?_
      refine tr_thenR ?_
      exact tr_ret1 rfl rfl ⟨_, rfl, H⟩
    · replace H := H.2 g7
      refine tr_skip ?_
      refine tr_thenN ?_
      refine tr_seq ?_
      refine tr_seq ?_
      refine tr_region ?_
      refine tr_p (y_move rfl) rfl rfl ?_
      refine tr_p (y_move rfl) rfl rfl ?_
      refine tr_p (y_lss rfl rfl) rfl rfl ?_
      refine tr_nil ?_
      refine tr_thenN ?_
      refine tr_cond rfl (fun g8 => ?_) (fun g8 => ?_)
      · replace H := H.1 g8
        refine tr_seq ?_
        refine tr_region ?_
        refine tr_p (y_assign rfl) rfl rfl ?_
        refine tr_nil ?_
        refine tr_thenN ?_
        refine tr_ret ?_
        refine tr_thenR ?_
        exact tr_ret1 rfl rfl ⟨_, rfl, H⟩
      · replace H := H.2 g8
        refine tr_skip ?_
        refine tr_thenN ?_
        refine tr_seq ?_
        refine tr_seq ?_
        refine tr_region ?_
        refine tr_p (y_move rfl) rfl rfl ?_
        refine tr_p (y_move rfl) rfl rfl ?_
        refine tr_p (y_gtr rfl rfl) rfl rfl ?_
        refine tr_nil ?_
        refine tr_thenN ?_
        refine tr_cond rfl (fun g9 => ?_) (fun g9 => ?_)
        · replace H := H.1 g9
          refine tr_seq ?_
          refine tr_region ?_
          refine tr_p (y_assign rfl) rfl rfl ?_
          refine tr_nil ?_
          refine tr_thenN ?_
          refine tr_ret ?_
          refine tr_thenR ?_
          exact tr_ret1 rfl rfl ⟨_, rfl, H⟩
        · replace H := H.2 g9
          refine tr_skip ?_
          refine tr_thenN ?_
          refine tr_seq ?_
          refine tr_region ?_
          refine tr_p (y_assign rfl) rfl rfl ?_
          refine tr_nil ?_
          refine tr_thenN ?_
          refine tr_ret ?_
          exact tr_ret1 rfl rfl ⟨_, rfl, H⟩

def F.spatelaw8_within.j1 (Q : Int → H → Prop) (x5 : Int) (h : H) : Prop :=
  Q x5 h
/-- spate/spatelaw8.within -/
def F.spatelaw8_within (p0 : Int) (p1 : Int) (h : H) (Q : Int → H → Prop) : Prop :=
  (p1 : Int) ≠ 0 ∧
  ((decide ((Int.tmod p0 p1) < 0)) = true →
  F.spatelaw8_within.j1 Q (IntKind.wrap .i64 ((Int.tmod p0 p1) + p1)) h) ∧
  ((decide ((Int.tmod p0 p1) < 0)) = false →
  F.spatelaw8_within.j1 Q (Int.tmod p0 p1) h)
theorem F.spatelaw8_within_ok {p0 : Int} {p1 : Int} {h : H} {Q : Int → H → Prop} (H : F.spatelaw8_within p0 p1 h Q) : Fn PP 28 ([(.int .i64 p0), (.int .i64 p1)] : List Value).toArray h fun r h' => ∃ r0, r = (.int .i64 r0) ∧ Q r0 h' := by
  unfold F.spatelaw8_within at H
  refine fn_of Try.func28 Try.ntmps28 rfl rfl fun w0 => ?_
  refine tr_sub [(0, (.int .i64 p0)), (1, (.int .i64 p1))] ⟨rfl, rfl, trivial⟩ ?_
  refine tr_seq ?_
  refine tr_region ?_
  refine tr_p (y_assign rfl) rfl rfl ?_
  refine tr_nil ?_
  refine tr_thenN ?_
  refine tr_seq ?_
  refine tr_region ?_
  refine tr_p (y_move rfl) rfl rfl ?_
  refine tr_p (y_move rfl) rfl rfl ?_
  obtain ⟨e1, H⟩ := H
  refine tr_p (y_rem rfl rfl e1) rfl rfl ?_
  refine tr_p (y_assign rfl) rfl rfl ?_
  refine tr_nil ?_
  refine tr_thenN ?_
  refine tr_seq_j (fun L' h => ∃ (x5 : Int), L' = [(5, (.int .i64 x5))] ∧ F.spatelaw8_within.j1 Q x5 h) ?_ ?_
  · rintro L' h ⟨x5, rfl, H⟩
    unfold F.spatelaw8_within.j1 at H
    refine tr_seq ?_
    refine tr_region ?_
    refine tr_p (y_move rfl) rfl rfl ?_
    refine tr_p (y_assign rfl) rfl rfl ?_
    refine tr_nil ?_
    refine tr_thenN ?_
    refine tr_ret ?_
    exact tr_ret1 rfl rfl ⟨_, rfl, H⟩
  · refine tr_seq ?_
    refine tr_region ?_
    refine tr_p (y_move rfl) rfl rfl ?_
    refine tr_p (y_lss rfl rfl) rfl rfl ?_
    refine tr_nil ?_
    refine tr_thenN ?_
    refine tr_cond rfl (fun g2 => ?_) (fun g2 => ?_)
    · replace H := H.1 g2
      refine tr_region ?_
      refine tr_p (y_move rfl) rfl rfl ?_
      refine tr_p (y_move rfl) rfl rfl ?_
      refine tr_p (y_add rfl rfl) rfl rfl ?_
      refine tr_p (y_assign rfl) rfl rfl ?_
      refine tr_nil ?_
      refine tr_thenN ?_
      exact tr_join [(5, (.int .i64 (IntKind.wrap .i64 ((Int.tmod p0 p1) + p1))))] ⟨rfl, trivial⟩ ⟨_, rfl, H⟩
    · replace H := H.2 g2
      refine tr_skip ?_
      refine tr_thenN ?_
      exact tr_join [(5, (.int .i64 (Int.tmod p0 p1)))] ⟨rfl, trivial⟩ ⟨_, rfl, H⟩

/-- spate/spateref8.sign -/
def F.spateref8_sign (p0 : Bool) (h : H) (Q : Int → H → Prop) : Prop :=
  (p0 = true →
  Q (-1) h) ∧
  (p0 = false →
  Q 1 h)
theorem F.spateref8_sign_ok {p0 : Bool} {h : H} {Q : Int → H → Prop} (H : F.spateref8_sign p0 h Q) : Fn PP 46 ([(.bool p0)] : List Value).toArray h fun r h' => ∃ r0, r = (.int .i64 r0) ∧ Q r0 h' := by
  unfold F.spateref8_sign at H
  refine fn_of Try.func46 Try.ntmps46 rfl rfl fun w0 => ?_
  refine tr_sub [(0, (.bool p0))] ⟨rfl, trivial⟩ ?_
  refine tr_seq ?_
  refine tr_region ?_
  refine tr_p (y_assign rfl) rfl rfl ?_
  refine tr_nil ?_
  refine tr_thenN ?_
  refine tr_seq ?_
  refine tr_seq ?_
  refine tr_region ?_
  refine tr_p (y_move rfl) rfl rfl ?_
  refine tr_nil ?_
  refine tr_thenN ?_
  refine tr_cond rfl (fun g1 => ?_) (fun g1 => ?_)
  · replace H := H.1 g1
    refine tr_seq ?_
    refine tr_region ?_
    refine tr_p (y_assign rfl) rfl rfl ?_
    refine tr_nil ?_
    refine tr_thenN ?_
    refine tr_ret ?_
    refine tr_thenR ?_
    exact tr_ret1 rfl rfl ⟨_, rfl, H⟩
  · replace H := H.2 g1
    refine tr_skip ?_
    refine tr_thenN ?_
    refine tr_seq ?_
    refine tr_region ?_
    refine tr_p (y_assign rfl) rfl rfl ?_
    refine tr_nil ?_
    refine tr_thenN ?_
    refine tr_ret ?_
    exact tr_ret1 rfl rfl ⟨_, rfl, H⟩

/-- spate/spateref8.Compare -/
def F.spateref8_Compare (p0 : S_api_Cell) (p1 : S_api_Cell) (h : H) (Q : Int → H → Prop) : Prop :=
  new h p0.cells.toArray ty_34 fun a2 h1 =>
  new h1 p1.cells.toArray ty_34 fun a4 h3 =>
  ldI .i64 h3 (a2.add 0) fun y5 =>
  ldI .i64 h3 (a4.add 0) fun y7 =>
  (((y5 != y7)) = true →
  ldI .i64 h3 (a2.add 0) fun y10 =>
  ldI .i64 h3 (a4.add 0) fun y12 =>
  F.spateref8_sign (decide (y10 < y12)) h3 fun r15 h14 =>
  Q r15 h14) ∧
  (((y5 != y7)) = false →
  ldS h3 (a2.add 1) fun y16 =>
  ldS h3 (a4.add 1) fun y18 =>
  ((!(y16.toList == y18.toList)) = true →
  ldS h3 (a2.add 1) fun y21 =>
  ldS h3 (a4.add 1) fun y23 =>
  F.spateref8_sign (Op.bytesLess y21.toList y23.toList) h3 fun r26 h25 =>
  Q r26 h25) ∧
  ((!(y16.toList == y18.toList)) = false →
  ldI .i64 h3 (a2.add 2) fun y27 =>
  ldI .i64 h3 (a4.add 2) fun y29 =>
  (((y27 != y29)) = true →
  ldI .i64 h3 (a2.add 2) fun y32 =>
  ldI .i64 h3 (a4.add 2) fun y34 =>
  F.spateref8_sign (decide (y32 < y34)) h3 fun r37 h36 =>
  Q r37 h36) ∧
  (((y27 != y29)) = false →
  Q 0 h3)))
theorem F.spateref8_Compare_ok {p0 : S_api_Cell} {p1 : S_api_Cell} {h : H} {Q : Int → H → Prop} (H : F.spateref8_Compare p0 p1 h Q) : Fn PP 27 ([(.agg p0.cells.toArray), (.agg p1.cells.toArray)] : List Value).toArray h fun r h' => ∃ r0, r = (.int .i64 r0) ∧ Q r0 h' := by
  unfold F.spateref8_Compare at H
  refine fn_of Try.func27 Try.ntmps27 rfl rfl fun w0 => ?_
  refine tr_sub [(0, (.agg p0.cells.toArray)), (1, (.agg p1.cells.toArray))] ⟨rfl, rfl, trivial⟩ ?_
  refine tr_seq ?_
  refine tr_region ?_
  refine tr_e (f_box (cs := p0.cells.toArray) rfl rfl H) rfl rfl ?_
  rintro _ h1 ⟨a2, rfl, H⟩
  refine tr_e (f_box (cs := p1.cells.toArray) rfl rfl H) rfl rfl ?_
  rintro _ h3 ⟨a4, rfl, H⟩
  refine tr_p (y_assign rfl) rfl rfl ?_
  refine tr_nil ?_
  refine tr_thenN ?_
  refine tr_seq ?_
  refine tr_block ?_
  refine tr_seq ?_
  refine tr_region ?_
  refine tr_p (y_fa (off := 0) Try.runUnderlying34 fo_34_0 rfl) rfl rfl ?_
  obtain ⟨y5, k6, H⟩ := H
  refine tr_h (y_ld Try.isAgg3 rfl) k6 rfl rfl ?_
  refine tr_p (y_fa (off := 0) Try.runUnderlying34 fo_34_0 rfl) rfl rfl ?_
  obtain ⟨y7, k8, H⟩ := H
  refine tr_h (y_ld Try.isAgg3 rfl) k8 rfl rfl ?_
  refine tr_p (y_neq rfl rfl) rfl rfl ?_
  refine tr_p (y_assign rfl) rfl rfl ?_
  refine tr_nil ?_
  refine tr_thenN ?_
  refine tr_cond rfl (fun g9 => ?_) (fun g9 => ?_)
  · replace H := H.1 g9
    refine tr_seq ?_
    refine tr_region ?_
    refine tr_p (y_fa (off := 0) Try.runUnderlying34 fo_34_0 rfl) rfl rfl ?_
    obtain ⟨y10, k11, H⟩ := H
    refine tr_h (y_ld Try.isAgg3 rfl) k11 rfl rfl ?_
    refine tr_p (y_fa (off := 0) Try.runUnderlying34 fo_34_0 rfl) rfl rfl ?_
    obtain ⟨y12, k13, H⟩ := H
    refine tr_h (y_ld Try.isAgg3 rfl) k13 rfl rfl ?_
    refine tr_p (y_lss rfl rfl) rfl rfl ?_
    refine tr_e (e_call Try.call46 rfl (F.spateref8_sign_ok H)) rfl rfl ?_
    rintro _ h14 ⟨r15, rfl, H⟩
    refine tr_p (y_assign rfl) rfl rfl ?_
    refine tr_nil ?_
    refine tr_thenN ?_
    refine tr_ret ?_
    refine tr_blockR ?_
    refine tr_thenR ?_
    exact tr_ret1 rfl rfl ⟨_, rfl, H⟩
  · replace H := H.2 g9
    refine tr_seq ?_
    refine tr_region ?_
    refine tr_p (y_fa (off := 1) Try.runUnderlying34 fo_34_1 rfl) rfl rfl ?_
    obtain ⟨y16, k17, H⟩ := H
    refine tr_h (y_ld Try.isAgg9 rfl) k17 rfl rfl ?_
    refine tr_p (y_fa (off := 1) Try.runUnderlying34 fo_34_1 rfl) rfl rfl ?_
    obtain ⟨y18, k19, H⟩ := H
    refine tr_h (y_ld Try.isAgg9 rfl) k19 rfl rfl ?_
    refine tr_p (y_sneq rfl rfl) rfl rfl ?_
    refine tr_p (y_assign rfl) rfl rfl ?_
    refine tr_nil ?_
    refine tr_thenN ?_
    refine tr_cond rfl (fun g20 => ?_) (fun g20 => ?_)
    · replace H := H.1 g20
      refine tr_seq ?_
      refine tr_region ?_
      refine tr_p (y_fa (off := 1) Try.runUnderlying34 fo_34_1 rfl) rfl rfl ?_
      obtain ⟨y21, k22, H⟩ := H
      refine tr_h (y_ld Try.isAgg9 rfl) k22 rfl rfl ?_
      refine tr_p (y_fa (off := 1) Try.runUnderlying34 fo_34_1 rfl) rfl rfl ?_
      obtain ⟨y23, k24, H⟩ := H
      refine tr_h (y_ld Try.isAgg9 rfl) k24 rfl rfl ?_
      refine tr_p (y_slss rfl rfl) rfl rfl ?_
      refine tr_e (e_call Try.call46 rfl (F.spateref8_sign_ok H)) rfl rfl ?_
      rintro _ h25 ⟨r26, rfl, H⟩
      refine tr_p (y_assign rfl) rfl rfl ?_
      refine tr_nil ?_
      refine tr_thenN ?_
      refine tr_ret ?_
      refine tr_blockR ?_
      refine tr_thenR ?_
      exact tr_ret1 rfl rfl ⟨_, rfl, H⟩
    · replace H := H.2 g20
      refine tr_seq ?_
      refine tr_region ?_
      refine tr_p (y_fa (off := 2) Try.runUnderlying34 fo_34_2 rfl) rfl rfl ?_
      obtain ⟨y27, k28, H⟩ := H
      refine tr_h (y_ld Try.isAgg2 rfl) k28 rfl rfl ?_
      refine tr_p (y_fa (off := 2) Try.runUnderlying34 fo_34_2 rfl) rfl rfl ?_
      obtain ⟨y29, k30, H⟩ := H
      refine tr_h (y_ld Try.isAgg2 rfl) k30 rfl rfl ?_
      refine tr_p (y_neq rfl rfl) rfl rfl ?_
      refine tr_p (y_assign rfl) rfl rfl ?_
      refine tr_nil ?_
      refine tr_thenN ?_
      refine tr_cond rfl (fun g31 => ?_) (fun g31 => ?_)
      · replace H := H.1 g31
        refine tr_seq ?_
        refine tr_region ?_
        refine tr_p (y_fa (off := 2) Try.runUnderlying34 fo_34_2 rfl) rfl rfl ?_
        obtain ⟨y32, k33, H⟩ := H
        refine tr_h (y_ld Try.isAgg2 rfl) k33 rfl rfl ?_
        refine tr_p (y_fa (off := 2) Try.runUnderlying34 fo_34_2 rfl) rfl rfl ?_
        obtain ⟨y34, k35, H⟩ := H
        refine tr_h (y_ld Try.isAgg2 rfl) k35 rfl rfl ?_
        refine tr_p (y_lss rfl rfl) rfl rfl ?_
        refine tr_e (e_call Try.call46 rfl (F.spateref8_sign_ok H)) rfl rfl ?_
        rintro _ h36 ⟨r37, rfl, H⟩
        refine tr_p (y_assign rfl) rfl rfl ?_
        refine tr_nil ?_
        refine tr_thenN ?_
        refine tr_ret ?_
        refine tr_blockR ?_
        refine tr_thenR ?_
        exact tr_ret1 rfl rfl ⟨_, rfl, H⟩
      · replace H := H.2 g31
        refine tr_skip ?_
        refine tr_blockN ?_
        refine tr_thenN ?_
        refine tr_seq ?_
        refine tr_region ?_
        refine tr_p (y_assign rfl) rfl rfl ?_
        refine tr_nil ?_
        refine tr_thenN ?_
        refine tr_ret ?_
        exact tr_ret1 rfl rfl ⟨_, rfl, H⟩

def F.spatelaw8_ordered.j3 (Q : Sl → H → Prop) (C1 : Sl → Sl → Int → H → Prop) (x0 : Sl) (x3 : Sl) (x4 : Int) (h : H) : Prop :=
  C1 x0 x3 (IntKind.wrap .i64 (x4 + 1)) h
def F.spatelaw8_ordered.j5 (Q : Sl → H → Prop) (C1 : Sl → Sl → Int → H → Prop) (C2 : Sl → Sl → Int → Int → H → Prop) (x0 : Sl) (x3 : Sl) (x4 : Int) (x5 : Int) (h : H) : Prop :=
  C2 x0 x3 x4 (IntKind.wrap .i64 (x5 + 1)) h
def F.spatelaw8_ordered.j7 (Q : Sl → H → Prop) (C1 : Sl → Sl → Int → H → Prop) (x0 : Sl) (x3 : Sl) (x4 : Int) (x5 : Int) (h : H) : Prop :=
  cutL x3 0 x5 7 fun s3 =>
  runL PP (Builtin.append_ #[51, 51] 51 #[(⟨none, 0, 0⟩ : Sl).enc, s3.enc]) h fun s5 h4 =>
  idxA x0 x4 7 fun a6 =>
  ld_S_api_Row h4 a6 fun y8 =>
  newL h4 ((y8.cells).toArray) ty_66 1 fun s11 h10 =>
  runL PP (Builtin.append_ #[51, 51] 51 #[s5.enc, s11.enc]) h10 fun s13 h12 =>
  cutL x3 x5 (x3.len : Int) 7 fun s15 =>
  runL PP (Builtin.append_ #[51, 51] 51 #[s13.enc, s15.enc]) h12 fun s17 h16 =>
  F.spatelaw8_ordered.j3 Q C1 x0 s17 x4 h16
def F.spatelaw8_ordered.j8 (Q : Sl → H → Prop) (C1 : Sl → Sl → Int → H → Prop) (x0 : Sl) (x3 : Sl) (x4 : Int) (x5 : Int) (x53 : Bool) (h : H) : Prop :=
  (x53 = true →
  F.spatelaw8_ordered.j3 Q C1 x0 x3 x4 h) ∧
  (x53 = false →
  F.spatelaw8_ordered.j7 Q C1 x0 x3 x4 x5 h)
def F.spatelaw8_ordered.j6 (Q : Sl → H → Prop) (C1 : Sl → Sl → Int → H → Prop) (C2 : Sl → Sl → Int → Int → H → Prop) (x0 : Sl) (x3 : Sl) (x4 : Int) (x5 : Int) (x34 : Bool) (h : H) : Prop :=
  (x34 = true →
  F.spatelaw8_ordered.j5 Q C1 C2 x0 x3 x4 x5 h) ∧
  (x34 = false →
  ((decide (x5 < (x3.len : Int))) = true →
  idxA x3 x5 7 fun a20 =>
  ld_S_api_Cell h (a20.add 0) fun y22 =>
  idxA x0 x4 7 fun a24 =>
  ld_S_api_Cell h (a24.add 0) fun y26 =>
  F.spatelaw8_ordered.j8 Q C1 x0 x3 x4 x5 ((y22.View == y26.View) && ((y22.Key.toList == y26.Key.toList) && ((y22.Start == y26.Start) && true))) h) ∧
  ((decide (x5 < (x3.len : Int))) = false →
  F.spatelaw8_ordered.j8 Q C1 x0 x3 x4 x5 false h))
def F.spatelaw8_ordered.l4 (Q : Sl → H → Prop) (C1 : Sl → Sl → Int → H → Prop) : Nat → Sl → Sl → Int → Int → H → Prop
  | 0, _, _, _, _, _ => False
  | q4 + 1, x0, x3, x4, x5, h =>
    ((decide (x5 < (x3.len : Int))) = true →
    idxA x3 x5 7 fun a29 =>
    ld_S_api_Cell h (a29.add 0) fun y31 =>
    idxA x0 x4 7 fun a33 =>
    ld_S_api_Cell h (a33.add 0) fun y35 =>
    F.spateref8_Compare y31 y35 h fun r38 h37 =>
    F.spatelaw8_ordered.j6 Q C1 (F.spatelaw8_ordered.l4 Q C1 q4) x0 x3 x4 x5 (decide (r38 < 0)) h37) ∧
    ((decide (x5 < (x3.len : Int))) = false →
    F.spatelaw8_ordered.j6 Q C1 (F.spatelaw8_ordered.l4 Q C1 q4) x0 x3 x4 x5 false h)
def F.spatelaw8_ordered.j2 (Q : Sl → H → Prop) (C1 : Sl → Sl → Int → H → Prop) (x0 : Sl) (x3 : Sl) (x4 : Int) (h : H) : Prop :=
  ∃ m, F.spatelaw8_ordered.l4 Q C1 m x0 x3 x4 0 h
def F.spatelaw8_ordered.j9 (Q : Sl → H → Prop) (C1 : Sl → Sl → Int → H → Prop) (x0 : Sl) (x3 : Sl) (x4 : Int) (x14 : Bool) (h : H) : Prop :=
  (x14 = true →
  F.spatelaw8_ordered.j2 Q C1 x0 x3 x4 h) ∧
  (x14 = false →
  Q x3 h)
def F.spatelaw8_ordered.l1 (Q : Sl → H → Prop) : Nat → Sl → Sl → Int → H → Prop
  | 0, _, _, _, _ => False
  | q1 + 1, x0, x3, x4, h =>
    ((decide (x4 < (x0.len : Int))) = true →
    F.spatelaw8_ordered.j9 Q (F.spatelaw8_ordered.l1 Q q1) x0 x3 x4 (decide (x4 < 200)) h) ∧
    ((decide (x4 < (x0.len : Int))) = false →
    F.spatelaw8_ordered.j9 Q (F.spatelaw8_ordered.l1 Q q1) x0 x3 x4 false h)
/-- spate/spatelaw8.ordered -/
def F.spatelaw8_ordered (p0 : Sl) (h : H) (Q : Sl → H → Prop) : Prop :=
  ∃ m, F.spatelaw8_ordered.l1 Q m p0 (⟨none, 0, 0⟩ : Sl) 0 h
theorem F.spatelaw8_ordered_ok {p0 : Sl} {h : H} {Q : Sl → H → Prop} (H : F.spatelaw8_ordered p0 h Q) : Fn PP 29 ([p0.enc] : List Value).toArray h fun r h' => ∃ r0, r = r0.enc ∧ Q r0 h' := by
  unfold F.spatelaw8_ordered at H
  refine fn_of Try.func29 Try.ntmps29 rfl rfl fun w0 => ?_
  refine tr_sub [(0, p0.enc)] ⟨rfl, trivial⟩ ?_
  refine tr_seq ?_
  refine tr_region ?_
  refine tr_p (y_assign rfl) rfl rfl ?_
  refine tr_nil ?_
  refine tr_thenN ?_
  refine tr_seq ?_
  refine tr_region ?_
  refine tr_p (y_assign rfl) rfl rfl ?_
  refine tr_nil ?_
  refine tr_thenN ?_
  refine tr_seq ?_
  refine tr_seq ?_
  refine tr_region ?_
  refine tr_p (y_assign rfl) rfl rfl ?_
  refine tr_nil ?_
  refine tr_thenN ?_
  refine tr_block ?_
  obtain ⟨m42, H⟩ := H
  refine tr_sub [(0, p0.enc), (3, (⟨none, 0, 0⟩ : Sl).enc), (4, (.int .i64 0))] ⟨rfl, rfl, rfl, trivial⟩ ?_
  refine tr_loop_j (fun m L' h => ∃ (x0 : Sl) (x3 : Sl) (x4 : Int), L' = [(0, x0.enc), (3, x3.enc), (4, (.int .i64 x4))] ∧ F.spatelaw8_ordered.l1 Q m x0 x3 x4 h) ?_ ?_ m42 ⟨_, _, _, rfl, H⟩
  · rintro L' h ⟨_, _, _, _, H⟩; exact H
  · rintro q1 L' h ⟨x0, x3, x4, rfl, H⟩
    unfold F.spatelaw8_ordered.l1 at H
    refine tr_seq_j (fun L' h => ∃ (x0 : Sl) (x3 : Sl) (x4 : Int), L' = [(0, x0.enc), (3, x3.enc), (4, (.int .i64 x4))] ∧ F.spatelaw8_ordered.j2 Q (F.spatelaw8_ordered.l1 Q q1) x0 x3 x4 h) ?_ ?_
    · rintro L' h ⟨x0, x3, x4, rfl, H⟩
      unfold F.spatelaw8_ordered.j2 at H
      refine tr_seq_j (fun L' h => ∃ (x0 : Sl) (x3 : Sl) (x4 : Int), L' = [(0, x0.enc), (3, x3.enc), (4, (.int .i64 x4))] ∧ F.spatelaw8_ordered.j3 Q (F.spatelaw8_ordered.l1 Q q1) x0 x3 x4 h) ?_ ?_
      · rintro L' h ⟨x0, x3, x4, rfl, H⟩
        unfold F.spatelaw8_ordered.j3 at H
        refine tr_region ?_
        refine tr_p (y_move rfl) rfl rfl ?_
        refine tr_p (y_add rfl rfl) rfl rfl ?_
        refine tr_p (y_assign rfl) rfl rfl ?_
        refine tr_nil ?_
        refine tr_thenN ?_
        exact tr_join [(0, x0.enc), (3, x3.enc), (4, (.int .i64 (IntKind.wrap .i64 (x4 + 1))))] ⟨rfl, rfl, rfl, trivial⟩ ⟨_, _, _, rfl, H⟩
      · refine tr_block ?_
        refine tr_seq ?_
        refine tr_region ?_
        refine tr_p (y_assign rfl) rfl rfl ?_
        refine tr_nil ?_
        refine tr_thenN ?_
        refine tr_seq ?_
        refine tr_block ?_
        obtain ⟨m39, H⟩ := H
        refine tr_sub [(0, x0.enc), (3, x3.enc), (4, (.int .i64 x4)), (5, (.int .i64 0))] ⟨rfl, rfl, rfl, rfl, trivial⟩ ?_
        refine tr_loop_j (fun m L' h => ∃ (x0 : Sl) (x3 : Sl) (x4 : Int) (x5 : Int), L' = [(0, x0.enc), (3, x3.enc), (4, (.int .i64 x4)), (5, (.int .i64 x5))] ∧ F.spatelaw8_ordered.l4 Q (F.spatelaw8_ordered.l1 Q q1) m x0 x3 x4 x5 h) ?_ ?_ m39 ⟨_, _, _, _, rfl, H⟩
        · rintro L' h ⟨_, _, _, _, _, H⟩; exact H
        · rintro q4 L' h ⟨x0, x3, x4, x5, rfl, H⟩
          unfold F.spatelaw8_ordered.l4 at H
          refine tr_seq_j (fun L' h => ∃ (x0 : Sl) (x3 : Sl) (x4 : Int) (x5 : Int), L' = [(0, x0.enc), (3, x3.enc), (4, (.int .i64 x4)), (5, (.int .i64 x5))] ∧ F.spatelaw8_ordered.j5 Q (F.spatelaw8_ordered.l1 Q q1) (F.spatelaw8_ordered.l4 Q (F.spatelaw8_ordered.l1 Q q1) q4) x0 x3 x4 x5 h) ?_ ?_
          · rintro L' h ⟨x0, x3, x4, x5, rfl, H⟩
            unfold F.spatelaw8_ordered.j5 at H
            refine tr_block ?_
            refine tr_region ?_
            refine tr_p (y_move rfl) rfl rfl ?_
            refine tr_p (y_add rfl rfl) rfl rfl ?_
            refine tr_p (y_assign rfl) rfl rfl ?_
            refine tr_nil ?_
            refine tr_blockN ?_
            refine tr_thenN ?_
            exact tr_join [(0, x0.enc), (3, x3.enc), (4, (.int .i64 x4)), (5, (.int .i64 (IntKind.wrap .i64 (x5 + 1))))] ⟨rfl, rfl, rfl, rfl, trivial⟩ ⟨_, _, _, _, rfl, H⟩
          · refine tr_seq_j (fun L' h => ∃ (x0 : Sl) (x3 : Sl) (x4 : Int) (x5 : Int) (x34 : Bool), L' = [(0, x0.enc), (3, x3.enc), (4, (.int .i64 x4)), (5, (.int .i64 x5)), (34, (.bool x34))] ∧ F.spatelaw8_ordered.j6 Q (F.spatelaw8_ordered.l1 Q q1) (F.spatelaw8_ordered.l4 Q (F.spatelaw8_ordered.l1 Q q1) q4) x0 x3 x4 x5 x34 h) ?_ ?_
            · rintro L' h ⟨x0, x3, x4, x5, x34, rfl, H⟩
              unfold F.spatelaw8_ordered.j6 at H
              refine tr_cond rfl (fun g1 => ?_) (fun g1 => ?_)
              · replace H := H.1 g1
                refine tr_skip ?_
                refine tr_thenN ?_
                exact tr_join [(0, x0.enc), (3, x3.enc), (4, (.int .i64 x4)), (5, (.int .i64 x5))] ⟨rfl, rfl, rfl, rfl, trivial⟩ ⟨_, _, _, _, rfl, H⟩
              · replace H := H.2 g1
                refine tr_exit ?_
                refine tr_thenE ?_
                refine tr_thenE ?_
                refine tr_hit ?_
                refine tr_thenN ?_
                refine tr_seq_j (fun L' h => ∃ (x0 : Sl) (x3 : Sl) (x4 : Int) (x5 : Int), L' = [(0, x0.enc), (3, x3.enc), (4, (.int .i64 x4)), (5, (.int .i64 x5))] ∧ F.spatelaw8_ordered.j7 Q (F.spatelaw8_ordered.l1 Q q1) x0 x3 x4 x5 h) ?_ ?_
                · rintro L' h ⟨x0, x3, x4, x5, rfl, H⟩
                  unfold F.spatelaw8_ordered.j7 at H
                  refine tr_seq ?_
                  refine tr_region ?_
                  refine tr_p (y_assign rfl) rfl rfl ?_
                  refine tr_nil ?_
                  refine tr_thenN ?_
                  refine tr_seq ?_
                  refine tr_region ?_
                  refine tr_p (y_move rfl) rfl rfl ?_
                  refine tr_p (y_move rfl) rfl rfl ?_
                  refine tr_p (y_move rfl) rfl rfl ?_
                  obtain ⟨s3, e2, H⟩ := H
                  refine tr_p (f_cutL (s := x3) none (some (.i64, x5)) Try.runUnderlying51 Try.sizeOf66 rfl rfl rfl e2) rfl rfl ?_
                  refine tr_e (f_app rfl H) rfl rfl ?_
                  rintro _ h4 ⟨s5, rfl, H⟩
                  refine tr_p (y_assign rfl) rfl rfl ?_
                  refine tr_nil ?_
                  refine tr_thenN ?_
                  refine tr_seq ?_
                  refine tr_region ?_
                  refine tr_p (y_move rfl) rfl rfl ?_
                  refine tr_p (y_move rfl) rfl rfl ?_
                  refine tr_p (y_move rfl) rfl rfl ?_
                  obtain ⟨a6, e7, H⟩ := H
                  refine tr_p (f_idx (s := x0) Try.runUnderlying51 Try.sizeOf66 rfl rfl e7) rfl rfl ?_
                  obtain ⟨y8, k9, H⟩ := H
                  refine tr_h (y_ldS Try.isAgg66 Try.sizeOf66 rfl rfl) k9 rfl rfl ?_
                  refine tr_e (f_buildL (cs := (y8.cells).toArray) rfl rfl (bl_51_1_0 y8) H) rfl rfl ?_
                  rintro _ h10 ⟨s11, rfl, H⟩
                  refine tr_e (f_app rfl H) rfl rfl ?_
                  rintro _ h12 ⟨s13, rfl, H⟩
                  refine tr_p (y_assign rfl) rfl rfl ?_
                  refine tr_nil ?_
                  refine tr_thenN ?_
                  refine tr_region ?_
                  refine tr_p (y_move rfl) rfl rfl ?_
                  refine tr_p (y_move rfl) rfl rfl ?_
                  refine tr_p (y_move rfl) rfl rfl ?_
                  obtain ⟨s15, e14, H⟩ := H
                  refine tr_p (f_cutL (s := x3) (some (.i64, x5)) none Try.runUnderlying51 Try.sizeOf66 rfl rfl rfl e14) rfl rfl ?_
                  refine tr_e (f_app rfl H) rfl rfl ?_
                  rintro _ h16 ⟨s17, rfl, H⟩
                  refine tr_p (y_assign rfl) rfl rfl ?_
                  refine tr_nil ?_
                  refine tr_blockN ?_
                  refine tr_thenN ?_
                  exact tr_join [(0, x0.enc), (3, s17.enc), (4, (.int .i64 x4))] ⟨rfl, rfl, rfl, trivial⟩ ⟨_, _, _, rfl, H⟩
                · refine tr_seq_j (fun L' h => ∃ (x0 : Sl) (x3 : Sl) (x4 : Int) (x5 : Int) (x53 : Bool), L' = [(0, x0.enc), (3, x3.enc), (4, (.int .i64 x4)), (5, (.int .i64 x5)), (53, (.bool x53))] ∧ F.spatelaw8_ordered.j8 Q (F.spatelaw8_ordered.l1 Q q1) x0 x3 x4 x5 x53 h) ?_ ?_
                  · rintro L' h ⟨x0, x3, x4, x5, x53, rfl, H⟩
                    unfold F.spatelaw8_ordered.j8 at H
                    refine tr_cond rfl (fun g18 => ?_) (fun g18 => ?_)
                    · replace H := H.1 g18
                      refine tr_exit ?_
                      refine tr_thenE ?_
                      refine tr_hit ?_
                      refine tr_thenN ?_
                      exact tr_join [(0, x0.enc), (3, x3.enc), (4, (.int .i64 x4))] ⟨rfl, rfl, rfl, trivial⟩ ⟨_, _, _, rfl, H⟩
                    · replace H := H.2 g18
                      refine tr_skip ?_
                      refine tr_thenN ?_
                      exact tr_join [(0, x0.enc), (3, x3.enc), (4, (.int .i64 x4)), (5, (.int .i64 x5))] ⟨rfl, rfl, rfl, rfl, trivial⟩ ⟨_, _, _, _, rfl, H⟩
                  · refine tr_draw mixed [0, 0, 2, 7, 15, 31, 31, 127, 255, 511, 31, 31, 3103, 7199, 15391, 32767, 65535] (by kernel_rfl) ?_
                    refine g_p 0 1 rfl (by kernel_rfl) (y_move rfl) rfl rfl ?_
                    refine g_p 1 3 rfl (by kernel_rfl) (y_move rfl) rfl rfl ?_
                    refine g_p 2 7 rfl (by kernel_rfl) (y_len (ts := #[]) Try.runUnderlying51 (o := x3.ptr) (n := x3.len) (cap := x3.cap) rfl) rfl rfl ?_
                    refine g_p 3 15 rfl (by kernel_rfl) (y_lss rfl rfl) rfl rfl ?_
                    refine g_p 4 31 rfl (by kernel_rfl) (y_move rfl) rfl rfl ?_
                    refine g_split (t := 41) rfl (fun g19 => ?_) (fun g19 => ?_)
                    · replace H := H.1 g19
                      refine g_p 5 63 rfl (by kernel_rfl) (y_move rfl) rfl rfl ?_
                      refine g_p 6 127 rfl (by kernel_rfl) (y_move rfl) rfl rfl ?_
                      obtain ⟨a20, e21, H⟩ := H
                      refine g_p 7 255 rfl (by kernel_rfl) (f_idx (s := x3) Try.runUnderlying51 Try.sizeOf66 rfl rfl e21) rfl rfl ?_
                      refine g_p 8 511 rfl (by kernel_rfl) (y_fa (off := 0) Try.runUnderlying66 fo_66_0 rfl) rfl rfl ?_
                      obtain ⟨y22, k23, H⟩ := H
                      refine g_h 9 1023 rfl (by kernel_rfl) (y_ldS Try.isAgg34 Try.sizeOf34 rfl rfl) k23 rfl rfl ?_
                      refine g_p 10 2047 rfl (by kernel_rfl) (y_move rfl) rfl rfl ?_
                      refine g_p 11 4095 rfl (by kernel_rfl) (y_move rfl) rfl rfl ?_
                      obtain ⟨a24, e25, H⟩ := H
                      refine g_p 12 8191 rfl (by kernel_rfl) (f_idx (s := x0) Try.runUnderlying51 Try.sizeOf66 rfl rfl e25) rfl rfl ?_
                      refine g_p 13 16383 rfl (by kernel_rfl) (y_fa (off := 0) Try.runUnderlying66 fo_66_0 rfl) rfl rfl ?_
                      obtain ⟨y26, k27, H⟩ := H
                      refine g_h 14 32767 rfl (by kernel_rfl) (y_ldS Try.isAgg34 Try.sizeOf34 rfl rfl) k27 rfl rfl ?_
                      refine g_p 15 65535 rfl (by kernel_rfl) (st_eql (b := ((y22.View == y26.View) && ((y22.Key.toList == y26.Key.toList) && ((y22.Start == y26.Start) && true)))) eqg_34 (fun w => eqst_34 y22 y26 9998 w) rfl rfl) rfl rfl ?_
                      refine g_p 16 131071 rfl (by kernel_rfl) (y_pick_t rfl rfl) rfl rfl ?_
                      refine g_d (by kernel_rfl) ?_
                      refine tr_thenN ?_
                      exact tr_join [(0, x0.enc), (3, x3.enc), (4, (.int .i64 x4)), (5, (.int .i64 x5)), (53, (.bool ((y22.View == y26.View) && ((y22.Key.toList == y26.Key.toList) && ((y22.Start == y26.Start) && true)))))] ⟨rfl, rfl, rfl, rfl, rfl, trivial⟩ ⟨_, _, _, _, _, rfl, H⟩
                    · replace H := H.2 g19
                      refine g_s 5 63 rfl (by kernel_rfl) rfl rfl ?_
                      refine g_s 6 127 rfl (by kernel_rfl) rfl rfl ?_
                      refine g_s 7 255 rfl (by kernel_rfl) rfl rfl ?_
                      refine g_s 8 511 rfl (by kernel_rfl) rfl rfl ?_
                      refine g_s 9 1023 rfl (by kernel_rfl) rfl rfl ?_
                      refine g_s 10 2047 rfl (by kernel_rfl) rfl rfl ?_
                      refine g_s 11 4095 rfl (by kernel_rfl) rfl rfl ?_
                      refine g_s 12 8191 rfl (by kernel_rfl) rfl rfl ?_
                      refine g_s 13 16383 rfl (by kernel_rfl) rfl rfl ?_
                      refine g_s 14 32767 rfl (by kernel_rfl) rfl rfl ?_
                      refine g_s 15 65535 rfl (by kernel_rfl) rfl rfl ?_
                      refine g_p 16 131071 rfl (by kernel_rfl) (y_pick_f rfl rfl) rfl rfl ?_
                      refine g_d (by kernel_rfl) ?_
                      refine tr_thenN ?_
                      exact tr_join [(0, x0.enc), (3, x3.enc), (4, (.int .i64 x4)), (5, (.int .i64 x5)), (53, (.bool false))] ⟨rfl, rfl, rfl, rfl, rfl, trivial⟩ ⟨_, _, _, _, _, rfl, H⟩
            · refine tr_draw mixed [0, 0, 2, 7, 15, 31, 31, 127, 255, 511, 31, 31, 3103, 7199, 15391, 32767, 65535, 131071] (by kernel_rfl) ?_
              refine g_p 0 1 rfl (by kernel_rfl) (y_move rfl) rfl rfl ?_
              refine g_p 1 3 rfl (by kernel_rfl) (y_move rfl) rfl rfl ?_
              refine g_p 2 7 rfl (by kernel_rfl) (y_len (ts := #[]) Try.runUnderlying51 (o := x3.ptr) (n := x3.len) (cap := x3.cap) rfl) rfl rfl ?_
              refine g_p 3 15 rfl (by kernel_rfl) (y_lss rfl rfl) rfl rfl ?_
              refine g_p 4 31 rfl (by kernel_rfl) (y_move rfl) rfl rfl ?_
              refine g_split (t := 21) rfl (fun g28 => ?_) (fun g28 => ?_)
              · replace H := H.1 g28
                refine g_p 5 63 rfl (by kernel_rfl) (y_move rfl) rfl rfl ?_
                refine g_p 6 127 rfl (by kernel_rfl) (y_move rfl) rfl rfl ?_
                obtain ⟨a29, e30, H⟩ := H
                refine g_p 7 255 rfl (by kernel_rfl) (f_idx (s := x3) Try.runUnderlying51 Try.sizeOf66 rfl rfl e30) rfl rfl ?_
                refine g_p 8 511 rfl (by kernel_rfl) (y_fa (off := 0) Try.runUnderlying66 fo_66_0 rfl) rfl rfl ?_
                obtain ⟨y31, k32, H⟩ := H
                refine g_h 9 1023 rfl (by kernel_rfl) (y_ldS Try.isAgg34 Try.sizeOf34 rfl rfl) k32 rfl rfl ?_
                refine g_p 10 2047 rfl (by kernel_rfl) (y_move rfl) rfl rfl ?_
                refine g_p 11 4095 rfl (by kernel_rfl) (y_move rfl) rfl rfl ?_
                obtain ⟨a33, e34, H⟩ := H
                refine g_p 12 8191 rfl (by kernel_rfl) (f_idx (s := x0) Try.runUnderlying51 Try.sizeOf66 rfl rfl e34) rfl rfl ?_
                refine g_p 13 16383 rfl (by kernel_rfl) (y_fa (off := 0) Try.runUnderlying66 fo_66_0 rfl) rfl rfl ?_
                obtain ⟨y35, k36, H⟩ := H
                refine g_h 14 32767 rfl (by kernel_rfl) (y_ldS Try.isAgg34 Try.sizeOf34 rfl rfl) k36 rfl rfl ?_
                refine g_e 15 65535 [] (by kernel_rfl) rfl (by kernel_rfl) (e_call Try.call27 rfl (F.spateref8_Compare_ok H)) rfl rfl ?_
                rintro _ h37 ⟨r38, rfl, H⟩
                refine ⟨trivial, ?_⟩
                refine g_p 16 131071 rfl (by kernel_rfl) (y_lss rfl rfl) rfl rfl ?_
                refine g_p 17 262143 rfl (by kernel_rfl) (y_pick_t rfl rfl) rfl rfl ?_
                refine g_d (by kernel_rfl) ?_
                refine tr_thenN ?_
                exact tr_join [(0, x0.enc), (3, x3.enc), (4, (.int .i64 x4)), (5, (.int .i64 x5)), (34, (.bool (decide (r38 < 0))))] ⟨rfl, rfl, rfl, rfl, rfl, trivial⟩ ⟨_, _, _, _, _, rfl, H⟩
              · replace H := H.2 g28
                refine g_s 5 63 rfl (by kernel_rfl) rfl rfl ?_
                refine g_s 6 127 rfl (by kernel_rfl) rfl rfl ?_
                refine g_s 7 255 rfl (by kernel_rfl) rfl rfl ?_
                refine g_s 8 511 rfl (by kernel_rfl) rfl rfl ?_
                refine g_s 9 1023 rfl (by kernel_rfl) rfl rfl ?_
                refine g_s 10 2047 rfl (by kernel_rfl) rfl rfl ?_
                refine g_s 11 4095 rfl (by kernel_rfl) rfl rfl ?_
                refine g_s 12 8191 rfl (by kernel_rfl) rfl rfl ?_
                refine g_s 13 16383 rfl (by kernel_rfl) rfl rfl ?_
                refine g_s 14 32767 rfl (by kernel_rfl) rfl rfl ?_
                refine g_s 15 65535 rfl (by kernel_rfl) rfl rfl ?_
                refine g_s 16 131071 rfl (by kernel_rfl) rfl rfl ?_
                refine g_p 17 262143 rfl (by kernel_rfl) (y_pick_f rfl rfl) rfl rfl ?_
                refine g_d (by kernel_rfl) ?_
                refine tr_thenN ?_
                exact tr_join [(0, x0.enc), (3, x3.enc), (4, (.int .i64 x4)), (5, (.int .i64 x5)), (34, (.bool false))] ⟨rfl, rfl, rfl, rfl, rfl, trivial⟩ ⟨_, _, _, _, _, rfl, H⟩
    · refine tr_seq_j (fun L' h => ∃ (x0 : Sl) (x3 : Sl) (x4 : Int) (x14 : Bool), L' = [(0, x0.enc), (3, x3.enc), (4, (.int .i64 x4)), (14, (.bool x14))] ∧ F.spatelaw8_ordered.j9 Q (F.spatelaw8_ordered.l1 Q q1) x0 x3 x4 x14 h) ?_ ?_
      · rintro L' h ⟨x0, x3, x4, x14, rfl, H⟩
        unfold F.spatelaw8_ordered.j9 at H
        refine tr_cond rfl (fun g40 => ?_) (fun g40 => ?_)
        · replace H := H.1 g40
          refine tr_skip ?_
          refine tr_thenN ?_
          exact tr_join [(0, x0.enc), (3, x3.enc), (4, (.int .i64 x4))] ⟨rfl, rfl, rfl, trivial⟩ ⟨_, _, _, rfl, H⟩
        · replace H := H.2 g40
          refine tr_exit ?_
          refine tr_thenE ?_
          refine tr_thenE ?_
          refine tr_hit ?_
          refine tr_thenN ?_
          refine tr_seq ?_
          refine tr_region ?_
          refine tr_p (y_move rfl) rfl rfl ?_
          refine tr_p (y_assign rfl) rfl rfl ?_
          refine tr_nil ?_
          refine tr_thenN ?_
          refine tr_ret ?_
          exact tr_ret1 rfl rfl ⟨_, rfl, H⟩
      · refine tr_region ?_
        refine tr_p (y_move rfl) rfl rfl ?_
        refine tr_p (y_move rfl) rfl rfl ?_
        refine tr_p (y_len (ts := #[]) Try.runUnderlying51 (o := x0.ptr) (n := x0.len) (cap := x0.cap) rfl) rfl rfl ?_
        refine tr_p (y_lss rfl rfl) rfl rfl ?_
        refine tr_p (y_move rfl) rfl rfl ?_
        refine tr_split (t := 11) rfl (fun g41 => ?_) (fun g41 => ?_)
        · replace H := H.1 g41
          refine tr_p (y_move rfl) rfl rfl ?_
          refine tr_p (y_lss rfl rfl) rfl rfl ?_
          refine tr_p (y_pick_t rfl rfl) rfl rfl ?_
          refine tr_nil ?_
          refine tr_thenN ?_
          exact tr_join [(0, x0.enc), (3, x3.enc), (4, (.int .i64 x4)), (14, (.bool (decide (x4 < 200))))] ⟨rfl, rfl, rfl, rfl, trivial⟩ ⟨_, _, _, _, rfl, H⟩
        · replace H := H.2 g41
          refine tr_s rfl rfl ?_
          refine tr_s rfl rfl ?_
          refine tr_p (y_pick_f rfl rfl) rfl rfl ?_
          refine tr_nil ?_
          refine tr_thenN ?_
          exact tr_join [(0, x0.enc), (3, x3.enc), (4, (.int .i64 x4)), (14, (.bool false))] ⟨rfl, rfl, rfl, rfl, trivial⟩ ⟨_, _, _, _, rfl, H⟩

/-- spate/spatelaw2.mark -/
def F.spatelaw2_mark  (h : H) (Q : S_api_Cell → H → Prop) : Prop :=
  new h (((⟨0, (⟨#[]⟩ : ByteArray), 0⟩ : S_api_Cell) : S_api_Cell).cells.toArray) ty_34 fun a2 h1 =>
  stH h1 a2 ((⟨(-9), (⟨#[109, 97, 114, 107]⟩ : ByteArray), 9⟩ : S_api_Cell).cells) fun h3 =>
  ld_S_api_Cell h3 a2 fun y4 =>
  Q y4 h3
theorem F.spatelaw2_mark_ok  {h : H} {Q : S_api_Cell → H → Prop} (H : F.spatelaw2_mark  h Q) : Fn PP 47 ([] : List Value).toArray h fun r h' => ∃ r0, r = (.agg r0.cells.toArray) ∧ Q r0 h' := by
  unfold F.spatelaw2_mark at H
  refine fn_of Try.func47 Try.ntmps47 rfl rfl fun w0 => ?_
  refine tr_sub [] trivial ?_
  refine tr_seq ?_
  refine tr_region ?_
  refine tr_e (f_alloc (cs := ((⟨0, (⟨#[]⟩ : ByteArray), 0⟩ : S_api_Cell) : S_api_Cell).cells.toArray) Try.zeroValue34 rfl H) rfl rfl ?_
  rintro _ h1 ⟨a2, rfl, H⟩
  refine tr_nil ?_
  refine tr_thenN ?_
  refine tr_seq ?_
  refine tr_region ?_
  refine tr_p (f_build rfl (bd_34_0_1_2 (-9) (⟨#[109, 97, 114, 107]⟩ : ByteArray) 9)) rfl rfl ?_
  refine tr_e (f_store (vs := (⟨(-9), (⟨#[109, 97, 114, 107]⟩ : ByteArray), 9⟩ : S_api_Cell).cells) Try.sizeOf34 rfl rfl cellsOfStruct rfl (by intro v hv; exact ones_S_api_Cell _ v hv) H) rfl rfl ?_
  rintro _ h3 ⟨rfl, H⟩
  refine tr_nil ?_
  refine tr_thenN ?_
  refine tr_ret ?_
  obtain ⟨y4, k5, H⟩ := H
  exact tr_rv1 rfl (rv_cellS Try.isAgg34 Try.sizeOf34 rfl rfl k5) ⟨_, rfl, H⟩

def F.spatelaw2_LendResponse.l1 (Q : S_api_Response → H → Prop) : Nat → Addr → Addr → Sl → Int → H → Prop
  | 0, _, _, _, _, _ => False
  | q1 + 1, x1, x2, x3, x4, h =>
    ((decide (x4 < (x3.len : Int))) = true →
    F.spatelaw2_mark  h fun r17 h16 =>
    idxA x3 x4 7 fun a18 =>
    stH h16 (a18.add 0) r17.cells fun h20 =>
    (F.spatelaw2_LendResponse.l1 Q q1) x1 x2 x3 (IntKind.wrap .i64 (x4 + 1)) h20) ∧
    ((decide (x4 < (x3.len : Int))) = false →
    ldL h (x1.add 4) fun y21 =>
    cutL x3 0 (y21.len : Int) 7 fun s24 =>
    stH h (x1.add 4) [s24.enc] fun h25 =>
    ld_S_api_Response h25 x1 fun y26 =>
    stH h25 x2 y26.cells fun h28 =>
    ld_S_api_Response h28 x2 fun y29 =>
    Q y29 h28)
/-- spate/spatelaw2.LendResponse -/
def F.spatelaw2_LendResponse (p0 : S_api_Response) (h : H) (Q : S_api_Response → H → Prop) : Prop :=
  new h p0.cells.toArray ty_57 fun a2 h1 =>
  new h1 (((⟨0, 0, 0, 0, (⟨none, 0, 0⟩ : Sl), (⟨0, 0, 0, 0, 0, 0⟩ : S_api_Stats)⟩ : S_api_Response) : S_api_Response).cells.toArray) ty_57 fun a4 h3 =>
  ldL h3 (a2.add 4) fun y5 =>
  runL PP (Instr.makeSlice 51 (.int .i64 (IntKind.wrap .i64 ((y5.len : Int) + 3))) (.int .i64 (IntKind.wrap .i64 ((y5.len : Int) + 3)))) h3 fun s8 h7 =>
  ldL h7 (a2.add 4) fun y9 =>
  runI PP (Builtin.copy_ #[51, 51] 3 #[s8.enc, y9.enc]) h7 .i64 fun s12 h11 =>
  ldL h11 (a2.add 4) fun y13 =>
  ∃ m, F.spatelaw2_LendResponse.l1 Q m a2 a4 s8 (y13.len : Int) h11
theorem F.spatelaw2_LendResponse_ok {p0 : S_api_Response} {h : H} {Q : S_api_Response → H → Prop} (H : F.spatelaw2_LendResponse p0 h Q) : Fn PP 30 ([(.agg p0.cells.toArray)] : List Value).toArray h fun r h' => ∃ r0, r = (.agg r0.cells.toArray) ∧ Q r0 h' := by
  unfold F.spatelaw2_LendResponse at H
  refine fn_of Try.func30 Try.ntmps30 rfl rfl fun w0 => ?_
  refine tr_sub [(0, (.agg p0.cells.toArray))] ⟨rfl, trivial⟩ ?_
  refine tr_seq ?_
  refine tr_region ?_
  refine tr_e (f_box (cs := p0.cells.toArray) rfl rfl H) rfl rfl ?_
  rintro _ h1 ⟨a2, rfl, H⟩
  refine tr_e (f_alloc (cs := ((⟨0, 0, 0, 0, (⟨none, 0, 0⟩ : Sl), (⟨0, 0, 0, 0, 0, 0⟩ : S_api_Stats)⟩ : S_api_Response) : S_api_Response).cells.toArray) Try.zeroValue57 rfl H) rfl rfl ?_
  rintro _ h3 ⟨a4, rfl, H⟩
  refine tr_nil ?_
  refine tr_thenN ?_
  refine tr_seq ?_
  refine tr_region ?_
  refine tr_p (y_fa (off := 4) Try.runUnderlying57 fo_57_4 rfl) rfl rfl ?_
  obtain ⟨y5, k6, H⟩ := H
  refine tr_h (y_ld Try.isAgg51 rfl) k6 rfl rfl ?_
  refine tr_p (y_len (ts := #[]) Try.runUnderlying51 (o := y5.ptr) (n := y5.len) (cap := y5.cap) rfl) rfl rfl ?_
  refine tr_p (y_add rfl rfl) rfl rfl ?_
  refine tr_e (f_make rfl rfl H) rfl rfl ?_
  rintro _ h7 ⟨s8, rfl, H⟩
  refine tr_p (y_assign rfl) rfl rfl ?_
  refine tr_nil ?_
  refine tr_thenN ?_
  refine tr_seq ?_
  refine tr_region ?_
  refine tr_p (y_move rfl) rfl rfl ?_
  refine tr_p (y_fa (off := 4) Try.runUnderlying57 fo_57_4 rfl) rfl rfl ?_
  obtain ⟨y9, k10, H⟩ := H
  refine tr_h (y_ld Try.isAgg51 rfl) k10 rfl rfl ?_
  refine tr_e (f_copy rfl H) rfl rfl ?_
  rintro _ h11 ⟨s12, rfl, H⟩
  refine tr_nil ?_
  refine tr_thenN ?_
  refine tr_seq ?_
  refine tr_seq ?_
  refine tr_region ?_
  refine tr_p (y_fa (off := 4) Try.runUnderlying57 fo_57_4 rfl) rfl rfl ?_
  obtain ⟨y13, k14, H⟩ := H
  refine tr_h (y_ld Try.isAgg51 rfl) k14 rfl rfl ?_
  refine tr_p (y_len (ts := #[]) Try.runUnderlying51 (o := y13.ptr) (n := y13.len) (cap := y13.cap) rfl) rfl rfl ?_
  refine tr_p (y_assign rfl) rfl rfl ?_
  refine tr_nil ?_
  refine tr_thenN ?_
  refine tr_block ?_
  obtain ⟨m31, H⟩ := H
  refine tr_sub [(1, (.pointer (some a2))), (2, (.pointer (some a4))), (3, s8.enc), (4, (.int .i64 (y13.len : Int)))] ⟨rfl, rfl, rfl, rfl, trivial⟩ ?_
  refine tr_loop_j (fun m L' h => ∃ (x1 : Addr) (x2 : Addr) (x3 : Sl) (x4 : Int), L' = [(1, (.pointer (some x1))), (2, (.pointer (some x2))), (3, x3.enc), (4, (.int .i64 x4))] ∧ F.spatelaw2_LendResponse.l1 Q m x1 x2 x3 x4 h) ?_ ?_ m31 ⟨_, _, _, _, rfl, H⟩
  · rintro L' h ⟨_, _, _, _, _, H⟩; exact H
  · rintro q1 L' h ⟨x1, x2, x3, x4, rfl, H⟩
    unfold F.spatelaw2_LendResponse.l1 at H
    refine tr_seq ?_
    refine tr_seq ?_
    refine tr_region ?_
    refine tr_p (y_move rfl) rfl rfl ?_
    refine tr_p (y_move rfl) rfl rfl ?_
    refine tr_p (y_len (ts := #[]) Try.runUnderlying51 (o := x3.ptr) (n := x3.len) (cap := x3.cap) rfl) rfl rfl ?_
    refine tr_p (y_lss rfl rfl) rfl rfl ?_
    refine tr_nil ?_
    refine tr_thenN ?_
    refine tr_cond rfl (fun g15 => ?_) (fun g15 => ?_)
    · replace H := H.1 g15
      refine tr_skip ?_
      refine tr_thenN ?_
      refine tr_seq ?_
      refine tr_block ?_
      refine tr_region ?_
      refine tr_p (y_move rfl) rfl rfl ?_
      refine tr_p (y_move rfl) rfl rfl ?_
      refine tr_e (e_call Try.call47 rfl (F.spatelaw2_mark_ok H)) rfl rfl ?_
      rintro _ h16 ⟨r17, rfl, H⟩
      obtain ⟨a18, e19, H⟩ := H
      refine tr_p (f_idx (s := x3) Try.runUnderlying51 Try.sizeOf66 rfl rfl e19) rfl rfl ?_
      refine tr_p (y_fa (off := 0) Try.runUnderlying66 fo_66_0 rfl) rfl rfl ?_
      refine tr_e (f_store (vs := r17.cells) Try.sizeOf34 rfl rfl cellsOfStruct rfl (by intro v hv; exact ones_S_api_Cell _ v hv) H) rfl rfl ?_
      rintro _ h20 ⟨rfl, H⟩
      refine tr_nil ?_
      refine tr_blockN ?_
      refine tr_thenN ?_
      refine tr_region ?_
      refine tr_p (y_move rfl) rfl rfl ?_
      refine tr_p (y_add rfl rfl) rfl rfl ?_
      refine tr_p (y_assign rfl) rfl rfl ?_
      refine tr_nil ?_
      refine tr_thenN ?_
      exact tr_join [(1, (.pointer (some x1))), (2, (.pointer (some x2))), (3, x3.enc), (4, (.int .i64 (IntKind.wrap .i64 (x4 + 1))))] ⟨rfl, rfl, rfl, rfl, trivial⟩ ⟨_, _, _, _, rfl, H⟩
    · replace H := H.2 g15
      refine tr_exit ?_
      refine tr_thenE ?_
      refine tr_thenE ?_
      refine tr_hit ?_
      refine tr_thenN ?_
      refine tr_seq ?_
      refine tr_region ?_
      refine tr_p (y_move rfl) rfl rfl ?_
      refine tr_p (y_fa (off := 4) Try.runUnderlying57 fo_57_4 rfl) rfl rfl ?_
      obtain ⟨y21, k22, H⟩ := H
      refine tr_h (y_ld Try.isAgg51 rfl) k22 rfl rfl ?_
      refine tr_p (y_len (ts := #[]) Try.runUnderlying51 (o := y21.ptr) (n := y21.len) (cap := y21.cap) rfl) rfl rfl ?_
      obtain ⟨s24, e23, H⟩ := H
      refine tr_p (f_cutL (s := x3) none (some (.i64, (y21.len : Int))) Try.runUnderlying51 Try.sizeOf66 rfl rfl rfl e23) rfl rfl ?_
      refine tr_p (y_fa (off := 4) Try.runUnderlying57 fo_57_4 rfl) rfl rfl ?_
      refine tr_e (f_store (vs := [s24.enc]) Try.sizeOf51 rfl rfl rfl rfl (one1 rfl) H) rfl rfl ?_
      rintro _ h25 ⟨rfl, H⟩
      refine tr_nil ?_
      refine tr_thenN ?_
      refine tr_seq ?_
      refine tr_region ?_
      obtain ⟨y26, k27, H⟩ := H
      refine tr_h (y_ldS Try.isAgg57 Try.sizeOf57 rfl rfl) k27 rfl rfl ?_
      refine tr_e (f_store (vs := y26.cells) Try.sizeOf57 rfl rfl cellsOfStruct rfl (by intro v hv; exact ones_S_api_Response _ v hv) H) rfl rfl ?_
      rintro _ h28 ⟨rfl, H⟩
      refine tr_nil ?_
      refine tr_thenN ?_
      refine tr_ret ?_
      obtain ⟨y29, k30, H⟩ := H
      exact tr_rv1 rfl (rv_cellS Try.isAgg57 Try.sizeOf57 rfl rfl k30) ⟨_, rfl, H⟩

def F.spateref8_Rows.j1 (Q : Sl → H → Prop) (x5 : Sl) (h : H) : Prop :=
  Q x5 h
def F.spateref8_Rows.j4 (Q : Sl → H → Prop) (C1 : Int → Sl → Sl → Sl → H → Prop) (C2 : Int → Sl → Sl → Sl → Int → Int → H → Prop) (x0 : Int) (x1 : Sl) (x5 : Sl) (x6 : Sl) (x7 : Int) (x8 : Int) (h : H) : Prop :=
  C2 x0 x1 x5 x6 x7 (IntKind.wrap .i64 (x8 + 1)) h
def F.spateref8_Rows.j5 (Q : Sl → H → Prop) (C1 : Int → Sl → Sl → Sl → H → Prop) (C2 : Int → Sl → Sl → Sl → Int → Int → H → Prop) (x0 : Int) (x1 : Sl) (x5 : Sl) (x6 : Sl) (x7 : Int) (x8 : Int) (x61 : Bool) (h : H) : Prop :=
  (x61 = true →
  F.spateref8_Rows.j4 Q C1 C2 x0 x1 x5 x6 x8 x8 h) ∧
  (x61 = false →
  F.spateref8_Rows.j4 Q C1 C2 x0 x1 x5 x6 x7 x8 h)
def F.spateref8_Rows.l3 (Q : Sl → H → Prop) (C1 : Int → Sl → Sl → Sl → H → Prop) : Nat → Int → Sl → Sl → Sl → Int → Int → H → Prop
  | 0, _, _, _, _, _, _, _ => False
  | q3 + 1, x0, x1, x5, x6, x7, x8, h =>
    ((decide (x8 < (x1.len : Int))) = true →
    idxA x6 x8 1 fun a6 =>
    ldI .i64 h a6 fun y8 =>
    idxA x1 x8 1 fun a10 =>
    ldL h a10 fun y12 =>
    ((decide (y8 < (y12.len : Int))) = true →
    ((decide (x7 < 0)) = true →
    F.spateref8_Rows.j5 Q C1 (F.spateref8_Rows.l3 Q C1 q3) x0 x1 x5 x6 x7 x8 true h) ∧
    ((decide (x7 < 0)) = false →
    idxA x1 x8 1 fun a16 =>
    ldL h a16 fun y18 =>
    idxA x6 x8 1 fun a20 =>
    ldI .i64 h a20 fun y22 =>
    idxA y18 y22 7 fun a24 =>
    ld_S_api_Cell h (a24.add 0) fun y26 =>
    idxA x1 x7 1 fun a28 =>
    ldL h a28 fun y30 =>
    idxA x6 x7 1 fun a32 =>
    ldI .i64 h a32 fun y34 =>
    idxA y30 y34 7 fun a36 =>
    ld_S_api_Cell h (a36.add 0) fun y38 =>
    F.spateref8_Compare y26 y38 h fun r41 h40 =>
    F.spateref8_Rows.j5 Q C1 (F.spateref8_Rows.l3 Q C1 q3) x0 x1 x5 x6 x7 x8 (decide (r41 < 0)) h40)) ∧
    ((decide (y8 < (y12.len : Int))) = false →
    F.spateref8_Rows.j5 Q C1 (F.spateref8_Rows.l3 Q C1 q3) x0 x1 x5 x6 x7 x8 false h)) ∧
    ((decide (x8 < (x1.len : Int))) = false →
    ((decide (x7 < 0)) = true →
    F.spateref8_Rows.j1 Q x5 h) ∧
    ((decide (x7 < 0)) = false →
    idxA x1 x7 1 fun a43 =>
    ldL h a43 fun y45 =>
    idxA x6 x7 1 fun a47 =>
    ldI .i64 h a47 fun y49 =>
    idxA y45 y49 7 fun a51 =>
    ld_S_api_Row h a51 fun y53 =>
    newL h ((y53.cells).toArray) ty_66 1 fun s56 h55 =>
    runL PP (Builtin.append_ #[51, 51] 51 #[x5.enc, s56.enc]) h55 fun s58 h57 =>
    idxA x6 x7 1 fun a59 =>
    ldI .i64 h57 a59 fun y61 =>
    idxA x6 x7 1 fun a63 =>
    stH h57 a63 [(.int .i64 (IntKind.wrap .i64 (y61 + 1)))] fun h65 =>
    C1 x0 x1 s58 x6 h65))
def F.spateref8_Rows.l2 (Q : Sl → H → Prop) : Nat → Int → Sl → Sl → Sl → H → Prop
  | 0, _, _, _, _, _ => False
  | q2 + 1, x0, x1, x5, x6, h =>
    ((decide ((x5.len : Int) < x0)) = true →
    ∃ m, F.spateref8_Rows.l3 Q (F.spateref8_Rows.l2 Q q2) m x0 x1 x5 x6 (-1) 0 h) ∧
    ((decide ((x5.len : Int) < x0)) = false →
    F.spateref8_Rows.j1 Q x5 h)
/-- spate/spateref8.Rows -/
def F.spateref8_Rows (p0 : Int) (p1 : Sl) (h : H) (Q : Sl → H → Prop) : Prop :=
  runL PP (Instr.makeSlice 23 (.int .i64 (p1.len : Int)) (.int .i64 (p1.len : Int))) h fun s2 h1 =>
  ∃ m, F.spateref8_Rows.l2 Q m p0 p1 (⟨none, 0, 0⟩ : Sl) s2 h1
theorem F.spateref8_Rows_ok {p0 : Int} {p1 : Sl} {h : H} {Q : Sl → H → Prop} (H : F.spateref8_Rows p0 p1 h Q) : Fn PP 33 ([(.int .i64 p0), p1.enc] : List Value).toArray h fun r h' => ∃ r0, r = r0.enc ∧ Q r0 h' := by
  unfold F.spateref8_Rows at H
  refine fn_of Try.func33 Try.ntmps33 rfl rfl fun w0 => ?_
  refine tr_sub [(0, (.int .i64 p0)), (1, p1.enc)] ⟨rfl, rfl, trivial⟩ ?_
  refine tr_seq ?_
  refine tr_region ?_
  refine tr_p (y_assign rfl) rfl rfl ?_
  refine tr_nil ?_
  refine tr_thenN ?_
  refine tr_seq ?_
  refine tr_region ?_
  refine tr_p (y_assign rfl) rfl rfl ?_
  refine tr_nil ?_
  refine tr_thenN ?_
  refine tr_seq ?_
  refine tr_region ?_
  refine tr_p (y_move rfl) rfl rfl ?_
  refine tr_p (y_len (ts := #[]) Try.runUnderlying53 (o := p1.ptr) (n := p1.len) (cap := p1.cap) rfl) rfl rfl ?_
  refine tr_e (f_make rfl rfl H) rfl rfl ?_
  rintro _ h1 ⟨s2, rfl, H⟩
  refine tr_p (y_assign rfl) rfl rfl ?_
  refine tr_nil ?_
  refine tr_thenN ?_
  refine tr_seq_j (fun L' h => ∃ (x5 : Sl), L' = [(5, x5.enc)] ∧ F.spateref8_Rows.j1 Q x5 h) ?_ ?_
  · rintro L' h ⟨x5, rfl, H⟩
    unfold F.spateref8_Rows.j1 at H
    refine tr_seq ?_
    refine tr_region ?_
    refine tr_p (y_move rfl) rfl rfl ?_
    refine tr_p (y_assign rfl) rfl rfl ?_
    refine tr_nil ?_
    refine tr_thenN ?_
    refine tr_ret ?_
    exact tr_ret1 rfl rfl ⟨_, rfl, H⟩
  · refine tr_block ?_
    obtain ⟨m67, H⟩ := H
    refine tr_sub [(0, (.int .i64 p0)), (1, p1.enc), (5, (⟨none, 0, 0⟩ : Sl).enc), (6, s2.enc)] ⟨rfl, rfl, rfl, rfl, trivial⟩ ?_
    refine tr_loop_j (fun m L' h => ∃ (x0 : Int) (x1 : Sl) (x5 : Sl) (x6 : Sl), L' = [(0, (.int .i64 x0)), (1, x1.enc), (5, x5.enc), (6, x6.enc)] ∧ F.spateref8_Rows.l2 Q m x0 x1 x5 x6 h) ?_ ?_ m67 ⟨_, _, _, _, rfl, H⟩
    · rintro L' h ⟨_, _, _, _, _, H⟩; exact H
    · rintro q2 L' h ⟨x0, x1, x5, x6, rfl, H⟩
      unfold F.spateref8_Rows.l2 at H
      refine tr_seq ?_
      refine tr_seq ?_
      refine tr_region ?_
      refine tr_p (y_move rfl) rfl rfl ?_
      refine tr_p (y_len (ts := #[]) Try.runUnderlying51 (o := x5.ptr) (n := x5.len) (cap := x5.cap) rfl) rfl rfl ?_
      refine tr_p (y_move rfl) rfl rfl ?_
      refine tr_p (y_lss rfl rfl) rfl rfl ?_
      refine tr_nil ?_
      refine tr_thenN ?_
      refine tr_cond rfl (fun g3 => ?_) (fun g3 => ?_)
      · replace H := H.1 g3
        refine tr_skip ?_
        refine tr_thenN ?_
        refine tr_block ?_
        refine tr_seq ?_
        refine tr_region ?_
        refine tr_p (y_assign rfl) rfl rfl ?_
        refine tr_nil ?_
        refine tr_thenN ?_
        refine tr_seq ?_
        refine tr_seq ?_
        refine tr_region ?_
        refine tr_p (y_assign rfl) rfl rfl ?_
        refine tr_nil ?_
        refine tr_thenN ?_
        refine tr_block ?_
        obtain ⟨m66, H⟩ := H
        refine tr_sub [(0, (.int .i64 x0)), (1, x1.enc), (5, x5.enc), (6, x6.enc), (7, (.int .i64 (-1))), (8, (.int .i64 0))] ⟨rfl, rfl, rfl, rfl, rfl, rfl, trivial⟩ ?_
        refine tr_loop_j (fun m L' h => ∃ (x0 : Int) (x1 : Sl) (x5 : Sl) (x6 : Sl) (x7 : Int) (x8 : Int), L' = [(0, (.int .i64 x0)), (1, x1.enc), (5, x5.enc), (6, x6.enc), (7, (.int .i64 x7)), (8, (.int .i64 x8))] ∧ F.spateref8_Rows.l3 Q (F.spateref8_Rows.l2 Q q2) m x0 x1 x5 x6 x7 x8 h) ?_ ?_ m66 ⟨_, _, _, _, _, _, rfl, H⟩
        · rintro L' h ⟨_, _, _, _, _, _, _, H⟩; exact H
        · rintro q3 L' h ⟨x0, x1, x5, x6, x7, x8, rfl, H⟩
          unfold F.spateref8_Rows.l3 at H
          refine tr_seq ?_
          refine tr_seq ?_
          refine tr_region ?_
          refine tr_p (y_move rfl) rfl rfl ?_
          refine tr_p (y_move rfl) rfl rfl ?_
          refine tr_p (y_len (ts := #[]) Try.runUnderlying53 (o := x1.ptr) (n := x1.len) (cap := x1.cap) rfl) rfl rfl ?_
          refine tr_p (y_lss rfl rfl) rfl rfl ?_
          refine tr_nil ?_
          refine tr_thenN ?_
          refine tr_cond rfl (fun g4 => ?_) (fun g4 => ?_)
          · replace H := H.1 g4
            refine tr_skip ?_
            refine tr_thenN ?_
            refine tr_seq_j (fun L' h => ∃ (x0 : Int) (x1 : Sl) (x5 : Sl) (x6 : Sl) (x7 : Int) (x8 : Int), L' = [(0, (.int .i64 x0)), (1, x1.enc), (5, x5.enc), (6, x6.enc), (7, (.int .i64 x7)), (8, (.int .i64 x8))] ∧ F.spateref8_Rows.j4 Q (F.spateref8_Rows.l2 Q q2) (F.spateref8_Rows.l3 Q (F.spateref8_Rows.l2 Q q2) q3) x0 x1 x5 x6 x7 x8 h) ?_ ?_
            · rintro L' h ⟨x0, x1, x5, x6, x7, x8, rfl, H⟩
              unfold F.spateref8_Rows.j4 at H
              refine tr_region ?_
              refine tr_p (y_move rfl) rfl rfl ?_
              refine tr_p (y_add rfl rfl) rfl rfl ?_
              refine tr_p (y_assign rfl) rfl rfl ?_
              refine tr_nil ?_
              refine tr_thenN ?_
              exact tr_join [(0, (.int .i64 x0)), (1, x1.enc), (5, x5.enc), (6, x6.enc), (7, (.int .i64 x7)), (8, (.int .i64 (IntKind.wrap .i64 (x8 + 1))))] ⟨rfl, rfl, rfl, rfl, rfl, rfl, trivial⟩ ⟨_, _, _, _, _, _, rfl, H⟩
            · refine tr_block ?_
              refine tr_seq_j (fun L' h => ∃ (x0 : Int) (x1 : Sl) (x5 : Sl) (x6 : Sl) (x7 : Int) (x8 : Int) (x61 : Bool), L' = [(0, (.int .i64 x0)), (1, x1.enc), (5, x5.enc), (6, x6.enc), (7, (.int .i64 x7)), (8, (.int .i64 x8)), (61, (.bool x61))] ∧ F.spateref8_Rows.j5 Q (F.spateref8_Rows.l2 Q q2) (F.spateref8_Rows.l3 Q (F.spateref8_Rows.l2 Q q2) q3) x0 x1 x5 x6 x7 x8 x61 h) ?_ ?_
              · rintro L' h ⟨x0, x1, x5, x6, x7, x8, x61, rfl, H⟩
                unfold F.spateref8_Rows.j5 at H
                refine tr_cond rfl (fun g5 => ?_) (fun g5 => ?_)
                · replace H := H.1 g5
                  refine tr_region ?_
                  refine tr_p (y_move rfl) rfl rfl ?_
                  refine tr_p (y_assign rfl) rfl rfl ?_
                  refine tr_nil ?_
                  refine tr_blockN ?_
                  refine tr_thenN ?_
                  exact tr_join [(0, (.int .i64 x0)), (1, x1.enc), (5, x5.enc), (6, x6.enc), (7, (.int .i64 x8)), (8, (.int .i64 x8))] ⟨rfl, rfl, rfl, rfl, rfl, rfl, trivial⟩ ⟨_, _, _, _, _, _, rfl, H⟩
                · replace H := H.2 g5
                  refine tr_skip ?_
                  refine tr_blockN ?_
                  refine tr_thenN ?_
                  exact tr_join [(0, (.int .i64 x0)), (1, x1.enc), (5, x5.enc), (6, x6.enc), (7, (.int .i64 x7)), (8, (.int .i64 x8))] ⟨rfl, rfl, rfl, rfl, rfl, rfl, trivial⟩ ⟨_, _, _, _, _, _, rfl, H⟩
              · refine tr_draw mixed [0, 0, 3, 7, 0, 0, 48, 112, 240, 511, 1023, 2047, 4095, 8191, 16383, 16383, 65535, 131071, 16383, 16383, 802815, 1851391, 4194303, 8388607, 16777215, 16383, 16383, 100679679, 234897407, 16383, 16383, 1610629119, 3758112767, 8556396543, 17146331135, 34326200319, 68719476735, 137438953471, 274877906943, 549755813887] (by kernel_rfl) ?_
                refine g_p 0 1 rfl (by kernel_rfl) (y_move rfl) rfl rfl ?_
                refine g_p 1 3 rfl (by kernel_rfl) (y_move rfl) rfl rfl ?_
                obtain ⟨a6, e7, H⟩ := H
                refine g_p 2 7 rfl (by kernel_rfl) (f_idx (s := x6) Try.runUnderlying23 Try.sizeOf3 rfl rfl e7) rfl rfl ?_
                obtain ⟨y8, k9, H⟩ := H
                refine g_h 3 15 rfl (by kernel_rfl) (y_ld Try.isAgg3 rfl) k9 rfl rfl ?_
                refine g_p 4 31 rfl (by kernel_rfl) (y_move rfl) rfl rfl ?_
                refine g_p 5 63 rfl (by kernel_rfl) (y_move rfl) rfl rfl ?_
                obtain ⟨a10, e11, H⟩ := H
                refine g_p 6 127 rfl (by kernel_rfl) (f_idx (s := x1) Try.runUnderlying53 Try.sizeOf51 rfl rfl e11) rfl rfl ?_
                obtain ⟨y12, k13, H⟩ := H
                refine g_h 7 255 rfl (by kernel_rfl) (y_ld Try.isAgg51 rfl) k13 rfl rfl ?_
                refine g_p 8 511 rfl (by kernel_rfl) (y_len (ts := #[]) Try.runUnderlying51 (o := y12.ptr) (n := y12.len) (cap := y12.cap) rfl) rfl rfl ?_
                refine g_p 9 1023 rfl (by kernel_rfl) (y_lss rfl rfl) rfl rfl ?_
                refine g_p 10 2047 rfl (by kernel_rfl) (y_move rfl) rfl rfl ?_
                refine g_split (t := 32) rfl (fun g14 => ?_) (fun g14 => ?_)
                · replace H := H.1 g14
                  refine g_p 11 4095 rfl (by kernel_rfl) (y_move rfl) rfl rfl ?_
                  refine g_p 12 8191 rfl (by kernel_rfl) (y_lss rfl rfl) rfl rfl ?_
                  refine g_p 13 16383 rfl (by kernel_rfl) (y_move rfl) rfl rfl ?_
                  refine g_split (t := 35) rfl (fun g15 => ?_) (fun g15 => ?_)
                  · replace H := H.1 g15
                    refine g_s 14 32767 rfl (by kernel_rfl) rfl rfl ?_
                    refine g_s 15 65535 rfl (by kernel_rfl) rfl rfl ?_
                    refine g_s 16 131071 rfl (by kernel_rfl) rfl rfl ?_
                    refine g_s 17 262143 rfl (by kernel_rfl) rfl rfl ?_
                    refine g_s 18 524287 rfl (by kernel_rfl) rfl rfl ?_
                    refine g_s 19 1048575 rfl (by kernel_rfl) rfl rfl ?_
                    refine g_s 20 2097151 rfl (by kernel_rfl) rfl rfl ?_
                    refine g_s 21 4194303 rfl (by kernel_rfl) rfl rfl ?_
                    refine g_s 22 8388607 rfl (by kernel_rfl) rfl rfl ?_
                    refine g_s 23 16777215 rfl (by kernel_rfl) rfl rfl ?_
                    refine g_s 24 33554431 rfl (by kernel_rfl) rfl rfl ?_
                    refine g_s 25 67108863 rfl (by kernel_rfl) rfl rfl ?_
                    refine g_s 26 134217727 rfl (by kernel_rfl) rfl rfl ?_
                    refine g_s 27 268435455 rfl (by kernel_rfl) rfl rfl ?_
                    refine g_s 28 536870911 rfl (by kernel_rfl) rfl rfl ?_
                    refine g_s 29 1073741823 rfl (by kernel_rfl) rfl rfl ?_
                    refine g_s 30 2147483647 rfl (by kernel_rfl) rfl rfl ?_
                    refine g_s 31 4294967295 rfl (by kernel_rfl) rfl rfl ?_
                    refine g_s 32 8589934591 rfl (by kernel_rfl) rfl rfl ?_
                    refine g_s 33 17179869183 rfl (by kernel_rfl) rfl rfl ?_
                    refine g_s 34 34359738367 rfl (by kernel_rfl) rfl rfl ?_
                    refine g_s 35 68719476735 rfl (by kernel_rfl) rfl rfl ?_
                    refine g_s 36 137438953471 rfl (by kernel_rfl) rfl rfl ?_
                    refine g_s 37 274877906943 rfl (by kernel_rfl) rfl rfl ?_
                    refine g_p 38 549755813887 rfl (by kernel_rfl) (y_pick_t rfl rfl) rfl rfl ?_
                    refine g_p 39 1099511627775 rfl (by kernel_rfl) (y_pick_t rfl rfl) rfl rfl ?_
                    refine g_d (by kernel_rfl) ?_
                    refine tr_thenN ?_
                    exact tr_join [(0, (.int .i64 x0)), (1, x1.enc), (5, x5.enc), (6, x6.enc), (7, (.int .i64 x7)), (8, (.int .i64 x8)), (61, (.bool true))] ⟨rfl, rfl, rfl, rfl, rfl, rfl, rfl, trivial⟩ ⟨_, _, _, _, _, _, _, rfl, H⟩
                  · replace H := H.2 g15
                    refine g_p 14 32767 rfl (by kernel_rfl) (y_move rfl) rfl rfl ?_
                    refine g_p 15 65535 rfl (by kernel_rfl) (y_move rfl) rfl rfl ?_
                    obtain ⟨a16, e17, H⟩ := H
                    refine g_p 16 131071 rfl (by kernel_rfl) (f_idx (s := x1) Try.runUnderlying53 Try.sizeOf51 rfl rfl e17) rfl rfl ?_
                    obtain ⟨y18, k19, H⟩ := H
                    refine g_h 17 262143 rfl (by kernel_rfl) (y_ld Try.isAgg51 rfl) k19 rfl rfl ?_
                    refine g_p 18 524287 rfl (by kernel_rfl) (y_move rfl) rfl rfl ?_
                    refine g_p 19 1048575 rfl (by kernel_rfl) (y_move rfl) rfl rfl ?_
                    obtain ⟨a20, e21, H⟩ := H
                    refine g_p 20 2097151 rfl (by kernel_rfl) (f_idx (s := x6) Try.runUnderlying23 Try.sizeOf3 rfl rfl e21) rfl rfl ?_
                    obtain ⟨y22, k23, H⟩ := H
                    refine g_h 21 4194303 rfl (by kernel_rfl) (y_ld Try.isAgg3 rfl) k23 rfl rfl ?_
                    obtain ⟨a24, e25, H⟩ := H
                    refine g_p 22 8388607 rfl (by kernel_rfl) (f_idx (s := y18) Try.runUnderlying51 Try.sizeOf66 rfl rfl e25) rfl rfl ?_
                    refine g_p 23 16777215 rfl (by kernel_rfl) (y_fa (off := 0) Try.runUnderlying66 fo_66_0 rfl) rfl rfl ?_
                    obtain ⟨y26, k27, H⟩ := H
                    refine g_h 24 33554431 rfl (by kernel_rfl) (y_ldS Try.isAgg34 Try.sizeOf34 rfl rfl) k27 rfl rfl ?_
                    refine g_p 25 67108863 rfl (by kernel_rfl) (y_move rfl) rfl rfl ?_
                    refine g_p 26 134217727 rfl (by kernel_rfl) (y_move rfl) rfl rfl ?_
                    obtain ⟨a28, e29, H⟩ := H
                    refine g_p 27 268435455 rfl (by kernel_rfl) (f_idx (s := x1) Try.runUnderlying53 Try.sizeOf51 rfl rfl e29) rfl rfl ?_
                    obtain ⟨y30, k31, H⟩ := H
                    refine g_h 28 536870911 rfl (by kernel_rfl) (y_ld Try.isAgg51 rfl) k31 rfl rfl ?_
                    refine g_p 29 1073741823 rfl (by kernel_rfl) (y_move rfl) rfl rfl ?_
                    refine g_p 30 2147483647 rfl (by kernel_rfl) (y_move rfl) rfl rfl ?_
                    obtain ⟨a32, e33, H⟩ := H
                    refine g_p 31 4294967295 rfl (by kernel_rfl) (f_idx (s := x6) Try.runUnderlying23 Try.sizeOf3 rfl rfl e33) rfl rfl ?_
                    obtain ⟨y34, k35, H⟩ := H
                    refine g_h 32 8589934591 rfl (by kernel_rfl) (y_ld Try.isAgg3 rfl) k35 rfl rfl ?_
                    obtain ⟨a36, e37, H⟩ := H
                    refine g_p 33 17179869183 rfl (by kernel_rfl) (f_idx (s := y30) Try.runUnderlying51 Try.sizeOf66 rfl rfl e37) rfl rfl ?_
                    refine g_p 34 34359738367 rfl (by kernel_rfl) (y_fa (off := 0) Try.runUnderlying66 fo_66_0 rfl) rfl rfl ?_
                    obtain ⟨y38, k39, H⟩ := H
                    refine g_h 35 68719476735 rfl (by kernel_rfl) (y_ldS Try.isAgg34 Try.sizeOf34 rfl rfl) k39 rfl rfl ?_
                    refine g_e 36 137438953471 [] (by kernel_rfl) rfl (by kernel_rfl) (e_call Try.call27 rfl (F.spateref8_Compare_ok H)) rfl rfl ?_
                    rintro _ h40 ⟨r41, rfl, H⟩
                    refine ⟨trivial, ?_⟩
                    refine g_p 37 274877906943 rfl (by kernel_rfl) (y_lss rfl rfl) rfl rfl ?_
                    refine g_p 38 549755813887 rfl (by kernel_rfl) (y_pick_f rfl rfl) rfl rfl ?_
                    refine g_p 39 1099511627775 rfl (by kernel_rfl) (y_pick_t rfl rfl) rfl rfl ?_
                    refine g_d (by kernel_rfl) ?_
                    refine tr_thenN ?_
                    exact tr_join [(0, (.int .i64 x0)), (1, x1.enc), (5, x5.enc), (6, x6.enc), (7, (.int .i64 x7)), (8, (.int .i64 x8)), (61, (.bool (decide (r41 < 0))))] ⟨rfl, rfl, rfl, rfl, rfl, rfl, rfl, trivial⟩ ⟨_, _, _, _, _, _, _, rfl, H⟩
                · replace H := H.2 g14
                  refine g_s 11 4095 rfl (by kernel_rfl) rfl rfl ?_
                  refine g_s 12 8191 rfl (by kernel_rfl) rfl rfl ?_
                  refine g_s 13 16383 rfl (by kernel_rfl) rfl rfl ?_
                  refine g_s 14 32767 rfl (by kernel_rfl) rfl rfl ?_
                  refine g_s 15 65535 rfl (by kernel_rfl) rfl rfl ?_
                  refine g_s 16 131071 rfl (by kernel_rfl) rfl rfl ?_
                  refine g_s 17 262143 rfl (by kernel_rfl) rfl rfl ?_
                  refine g_s 18 524287 rfl (by kernel_rfl) rfl rfl ?_
                  refine g_s 19 1048575 rfl (by kernel_rfl) rfl rfl ?_
                  refine g_s 20 2097151 rfl (by kernel_rfl) rfl rfl ?_
                  refine g_s 21 4194303 rfl (by kernel_rfl) rfl rfl ?_
                  refine g_s 22 8388607 rfl (by kernel_rfl) rfl rfl ?_
                  refine g_s 23 16777215 rfl (by kernel_rfl) rfl rfl ?_
                  refine g_s 24 33554431 rfl (by kernel_rfl) rfl rfl ?_
                  refine g_s 25 67108863 rfl (by kernel_rfl) rfl rfl ?_
                  refine g_s 26 134217727 rfl (by kernel_rfl) rfl rfl ?_
                  refine g_s 27 268435455 rfl (by kernel_rfl) rfl rfl ?_
                  refine g_s 28 536870911 rfl (by kernel_rfl) rfl rfl ?_
                  refine g_s 29 1073741823 rfl (by kernel_rfl) rfl rfl ?_
                  refine g_s 30 2147483647 rfl (by kernel_rfl) rfl rfl ?_
                  refine g_s 31 4294967295 rfl (by kernel_rfl) rfl rfl ?_
                  refine g_s 32 8589934591 rfl (by kernel_rfl) rfl rfl ?_
                  refine g_s 33 17179869183 rfl (by kernel_rfl) rfl rfl ?_
                  refine g_s 34 34359738367 rfl (by kernel_rfl) rfl rfl ?_
                  refine g_s 35 68719476735 rfl (by kernel_rfl) rfl rfl ?_
                  refine g_s 36 137438953471 rfl (by kernel_rfl) rfl rfl ?_
                  refine g_s 37 274877906943 rfl (by kernel_rfl) rfl rfl ?_
                  refine g_s 38 549755813887 rfl (by kernel_rfl) rfl rfl ?_
                  refine g_p 39 1099511627775 rfl (by kernel_rfl) (y_pick_f rfl rfl) rfl rfl ?_
                  refine g_d (by kernel_rfl) ?_
                  refine tr_thenN ?_
                  exact tr_join [(0, (.int .i64 x0)), (1, x1.enc), (5, x5.enc), (6, x6.enc), (7, (.int .i64 x7)), (8, (.int .i64 x8)), (61, (.bool false))] ⟨rfl, rfl, rfl, rfl, rfl, rfl, rfl, trivial⟩ ⟨_, _, _, _, _, _, _, rfl, H⟩
          · replace H := H.2 g4
            refine tr_exit ?_
            refine tr_thenE ?_
            refine tr_thenE ?_
            refine tr_hit ?_
            refine tr_thenN ?_
            refine tr_seq ?_
            refine tr_seq ?_
            refine tr_region ?_
            refine tr_p (y_move rfl) rfl rfl ?_
            refine tr_p (y_lss rfl rfl) rfl rfl ?_
            refine tr_nil ?_
            refine tr_thenN ?_
            refine tr_cond rfl (fun g42 => ?_) (fun g42 => ?_)
            · replace H := H.1 g42
              refine tr_exit ?_
              refine tr_thenE ?_
              refine tr_miss rfl ?_
              refine tr_thenE ?_
              refine tr_hit ?_
              refine tr_thenN ?_
              exact tr_join [(5, x5.enc)] ⟨rfl, trivial⟩ ⟨_, rfl, H⟩
            · replace H := H.2 g42
              refine tr_skip ?_
              refine tr_thenN ?_
              refine tr_seq ?_
              refine tr_draw mixed [0, 0, 0, 6, 14, 0, 0, 96, 224, 510, 1022, 2046, 4095, 8191] (by kernel_rfl) ?_
              refine g_p 0 1 rfl (by kernel_rfl) (y_move rfl) rfl rfl ?_
              refine g_p 1 3 rfl (by kernel_rfl) (y_move rfl) rfl rfl ?_
              refine g_p 2 7 rfl (by kernel_rfl) (y_move rfl) rfl rfl ?_
              obtain ⟨a43, e44, H⟩ := H
              refine g_p 3 15 rfl (by kernel_rfl) (f_idx (s := x1) Try.runUnderlying53 Try.sizeOf51 rfl rfl e44) rfl rfl ?_
              obtain ⟨y45, k46, H⟩ := H
              refine g_h 4 31 rfl (by kernel_rfl) (y_ld Try.isAgg51 rfl) k46 rfl rfl ?_
              refine g_p 5 63 rfl (by kernel_rfl) (y_move rfl) rfl rfl ?_
              refine g_p 6 127 rfl (by kernel_rfl) (y_move rfl) rfl rfl ?_
              obtain ⟨a47, e48, H⟩ := H
              refine g_p 7 255 rfl (by kernel_rfl) (f_idx (s := x6) Try.runUnderlying23 Try.sizeOf3 rfl rfl e48) rfl rfl ?_
              obtain ⟨y49, k50, H⟩ := H
              refine g_h 8 511 rfl (by kernel_rfl) (y_ld Try.isAgg3 rfl) k50 rfl rfl ?_
              obtain ⟨a51, e52, H⟩ := H
              refine g_p 9 1023 rfl (by kernel_rfl) (f_idx (s := y45) Try.runUnderlying51 Try.sizeOf66 rfl rfl e52) rfl rfl ?_
              obtain ⟨y53, k54, H⟩ := H
              refine g_h 10 2047 rfl (by kernel_rfl) (y_ldS Try.isAgg66 Try.sizeOf66 rfl rfl) k54 rfl rfl ?_
              refine g_e 11 4095 [] (by kernel_rfl) rfl (by kernel_rfl) (f_buildL (cs := (y53.cells).toArray) rfl rfl (bl_51_1_0 y53) H) rfl rfl ?_
              rintro _ h55 ⟨s56, rfl, H⟩
              refine ⟨trivial, ?_⟩
              refine g_e 12 8191 [] (by kernel_rfl) rfl (by kernel_rfl) (f_app rfl H) rfl rfl ?_
              rintro _ h57 ⟨s58, rfl, H⟩
              refine ⟨trivial, ?_⟩
              refine g_e 13 16383 [] (by kernel_rfl) rfl (by kernel_rfl) (yp_ev (y_assign rfl)) rfl rfl ?_
              rintro _ _ ⟨rfl, rfl⟩
              refine ⟨trivial, ?_⟩
              refine g_d (by kernel_rfl) ?_
              refine tr_thenN ?_
              refine tr_region ?_
              refine tr_p (y_move rfl) rfl rfl ?_
              refine tr_p (y_move rfl) rfl rfl ?_
              obtain ⟨a59, e60, H⟩ := H
              refine tr_p (f_idx (s := x6) Try.runUnderlying23 Try.sizeOf3 rfl rfl e60) rfl rfl ?_
              obtain ⟨y61, k62, H⟩ := H
              refine tr_h (y_ld Try.isAgg3 rfl) k62 rfl rfl ?_
              refine tr_p (y_add rfl rfl) rfl rfl ?_
              obtain ⟨a63, e64, H⟩ := H
              refine tr_p (f_idx (s := x6) Try.runUnderlying23 Try.sizeOf3 rfl rfl e64) rfl rfl ?_
              refine tr_e (f_store (vs := [(.int .i64 (IntKind.wrap .i64 (y61 + 1)))]) Try.sizeOf3 rfl rfl rfl rfl (one1 rfl) H) rfl rfl ?_
              rintro _ h65 ⟨rfl, H⟩
              refine tr_nil ?_
              refine tr_blockN ?_
              refine tr_thenN ?_
              exact tr_join [(0, (.int .i64 x0)), (1, x1.enc), (5, s58.enc), (6, x6.enc)] ⟨rfl, rfl, rfl, rfl, trivial⟩ ⟨_, _, _, _, rfl, H⟩
      · replace H := H.2 g3
        refine tr_exit ?_
        refine tr_thenE ?_
        refine tr_thenE ?_
        refine tr_hit ?_
        refine tr_thenN ?_
        exact tr_join [(5, x5.enc)] ⟨rfl, trivial⟩ ⟨_, rfl, H⟩

def F.spatelaw8_once.j2 (Q : Sl → H → Prop) (C1 : Sl → Sl → Int → H → Prop) (x0 : Sl) (x3 : Sl) (x4 : Int) (h : H) : Prop :=
  C1 x0 x3 (IntKind.wrap .i64 (x4 + 1)) h
def F.spatelaw8_once.j3 (Q : Sl → H → Prop) (C1 : Sl → Sl → Int → H → Prop) (x0 : Sl) (x3 : Sl) (x4 : Int) (x24 : Bool) (h : H) : Prop :=
  (x24 = true →
  idxA x0 x4 1 fun a3 =>
  ldI .i64 h a3 fun y5 =>
  newL h #[(.int .i64 y5)] ty_3 1 fun s8 h7 =>
  runL PP (Builtin.append_ #[23, 23] 23 #[x3.enc, s8.enc]) h7 fun s10 h9 =>
  F.spatelaw8_once.j2 Q C1 x0 s10 x4 h9) ∧
  (x24 = false →
  F.spatelaw8_once.j2 Q C1 x0 x3 x4 h)
def F.spatelaw8_once.l1 (Q : Sl → H → Prop) : Nat → Sl → Sl → Int → H → Prop
  | 0, _, _, _, _ => False
  | q1 + 1, x0, x3, x4, h =>
    ((decide (x4 < (x0.len : Int))) = true →
    (((x4 == 0)) = true →
    F.spatelaw8_once.j3 Q (F.spatelaw8_once.l1 Q q1) x0 x3 x4 true h) ∧
    (((x4 == 0)) = false →
    idxA x0 x4 1 fun a12 =>
    ldI .i64 h a12 fun y14 =>
    idxA x0 (IntKind.wrap .i64 (x4 - 1)) 1 fun a16 =>
    ldI .i64 h a16 fun y18 =>
    F.spatelaw8_once.j3 Q (F.spatelaw8_once.l1 Q q1) x0 x3 x4 ((y14 != y18)) h)) ∧
    ((decide (x4 < (x0.len : Int))) = false →
    Q x3 h)
/-- spate/spatelaw8.once -/
def F.spatelaw8_once (p0 : Sl) (h : H) (Q : Sl → H → Prop) : Prop :=
  ∃ m, F.spatelaw8_once.l1 Q m p0 (⟨none, 0, 0⟩ : Sl) 0 h
theorem F.spatelaw8_once_ok {p0 : Sl} {h : H} {Q : Sl → H → Prop} (H : F.spatelaw8_once p0 h Q) : Fn PP 35 ([p0.enc] : List Value).toArray h fun r h' => ∃ r0, r = r0.enc ∧ Q r0 h' := by
  unfold F.spatelaw8_once at H
  refine fn_of Try.func35 Try.ntmps35 rfl rfl fun w0 => ?_
  refine tr_sub [(0, p0.enc)] ⟨rfl, trivial⟩ ?_
  refine tr_seq ?_
  refine tr_region ?_
  refine tr_p (y_assign rfl) rfl rfl ?_
  refine tr_nil ?_
  refine tr_thenN ?_
  refine tr_seq ?_
  refine tr_region ?_
  refine tr_p (y_assign rfl) rfl rfl ?_
  refine tr_nil ?_
  refine tr_thenN ?_
  refine tr_seq ?_
  refine tr_seq ?_
  refine tr_region ?_
  refine tr_p (y_assign rfl) rfl rfl ?_
  refine tr_nil ?_
  refine tr_thenN ?_
  refine tr_block ?_
  obtain ⟨m20, H⟩ := H
  refine tr_sub [(0, p0.enc), (3, (⟨none, 0, 0⟩ : Sl).enc), (4, (.int .i64 0))] ⟨rfl, rfl, rfl, trivial⟩ ?_
  refine tr_loop_j (fun m L' h => ∃ (x0 : Sl) (x3 : Sl) (x4 : Int), L' = [(0, x0.enc), (3, x3.enc), (4, (.int .i64 x4))] ∧ F.spatelaw8_once.l1 Q m x0 x3 x4 h) ?_ ?_ m20 ⟨_, _, _, rfl, H⟩
  · rintro L' h ⟨_, _, _, _, H⟩; exact H
  · rintro q1 L' h ⟨x0, x3, x4, rfl, H⟩
    unfold F.spatelaw8_once.l1 at H
    refine tr_seq ?_
    refine tr_seq ?_
    refine tr_region ?_
    refine tr_p (y_move rfl) rfl rfl ?_
    refine tr_p (y_move rfl) rfl rfl ?_
    refine tr_p (y_len (ts := #[]) Try.runUnderlying23 (o := x0.ptr) (n := x0.len) (cap := x0.cap) rfl) rfl rfl ?_
    refine tr_p (y_lss rfl rfl) rfl rfl ?_
    refine tr_nil ?_
    refine tr_thenN ?_
    refine tr_cond rfl (fun g1 => ?_) (fun g1 => ?_)
    · replace H := H.1 g1
      refine tr_skip ?_
      refine tr_thenN ?_
      refine tr_seq_j (fun L' h => ∃ (x0 : Sl) (x3 : Sl) (x4 : Int), L' = [(0, x0.enc), (3, x3.enc), (4, (.int .i64 x4))] ∧ F.spatelaw8_once.j2 Q (F.spatelaw8_once.l1 Q q1) x0 x3 x4 h) ?_ ?_
      · rintro L' h ⟨x0, x3, x4, rfl, H⟩
        unfold F.spatelaw8_once.j2 at H
        refine tr_region ?_
        refine tr_p (y_move rfl) rfl rfl ?_
        refine tr_p (y_add rfl rfl) rfl rfl ?_
        refine tr_p (y_assign rfl) rfl rfl ?_
        refine tr_nil ?_
        refine tr_thenN ?_
        exact tr_join [(0, x0.enc), (3, x3.enc), (4, (.int .i64 (IntKind.wrap .i64 (x4 + 1))))] ⟨rfl, rfl, rfl, trivial⟩ ⟨_, _, _, rfl, H⟩
      · refine tr_block ?_
        refine tr_seq_j (fun L' h => ∃ (x0 : Sl) (x3 : Sl) (x4 : Int) (x24 : Bool), L' = [(0, x0.enc), (3, x3.enc), (4, (.int .i64 x4)), (24, (.bool x24))] ∧ F.spatelaw8_once.j3 Q (F.spatelaw8_once.l1 Q q1) x0 x3 x4 x24 h) ?_ ?_
        · rintro L' h ⟨x0, x3, x4, x24, rfl, H⟩
          unfold F.spatelaw8_once.j3 at H
          refine tr_cond rfl (fun g2 => ?_) (fun g2 => ?_)
          · replace H := H.1 g2
            refine tr_region ?_
            refine tr_p (y_move rfl) rfl rfl ?_
            refine tr_p (y_move rfl) rfl rfl ?_
            refine tr_p (y_move rfl) rfl rfl ?_
            obtain ⟨a3, e4, H⟩ := H
            refine tr_p (f_idx (s := x0) Try.runUnderlying23 Try.sizeOf3 rfl rfl e4) rfl rfl ?_
            obtain ⟨y5, k6, H⟩ := H
            refine tr_h (y_ld Try.isAgg3 rfl) k6 rfl rfl ?_
            refine tr_e (f_buildL (cs := #[(.int .i64 y5)]) rfl rfl (bl_23_1_0 y5) H) rfl rfl ?_
            rintro _ h7 ⟨s8, rfl, H⟩
            refine tr_e (f_app rfl H) rfl rfl ?_
            rintro _ h9 ⟨s10, rfl, H⟩
            refine tr_p (y_assign rfl) rfl rfl ?_
            refine tr_nil ?_
            refine tr_blockN ?_
            refine tr_thenN ?_
            exact tr_join [(0, x0.enc), (3, s10.enc), (4, (.int .i64 x4))] ⟨rfl, rfl, rfl, trivial⟩ ⟨_, _, _, rfl, H⟩
          · replace H := H.2 g2
            refine tr_skip ?_
            refine tr_blockN ?_
            refine tr_thenN ?_
            exact tr_join [(0, x0.enc), (3, x3.enc), (4, (.int .i64 x4))] ⟨rfl, rfl, rfl, trivial⟩ ⟨_, _, _, rfl, H⟩
        · refine tr_draw mixed [0, 1, 3, 7, 7, 31, 63, 7, 7, 263, 903, 1927, 4095, 8191] (by kernel_rfl) ?_
          refine g_p 0 1 rfl (by kernel_rfl) (y_move rfl) rfl rfl ?_
          refine g_p 1 3 rfl (by kernel_rfl) (y_eql rfl rfl) rfl rfl ?_
          refine g_p 2 7 rfl (by kernel_rfl) (y_move rfl) rfl rfl ?_
          refine g_split (t := 13) rfl (fun g11 => ?_) (fun g11 => ?_)
          · replace H := H.1 g11
            refine g_s 3 15 rfl (by kernel_rfl) rfl rfl ?_
            refine g_s 4 31 rfl (by kernel_rfl) rfl rfl ?_
            refine g_s 5 63 rfl (by kernel_rfl) rfl rfl ?_
            refine g_s 6 127 rfl (by kernel_rfl) rfl rfl ?_
            refine g_s 7 255 rfl (by kernel_rfl) rfl rfl ?_
            refine g_s 8 511 rfl (by kernel_rfl) rfl rfl ?_
            refine g_s 9 1023 rfl (by kernel_rfl) rfl rfl ?_
            refine g_s 10 2047 rfl (by kernel_rfl) rfl rfl ?_
            refine g_s 11 4095 rfl (by kernel_rfl) rfl rfl ?_
            refine g_s 12 8191 rfl (by kernel_rfl) rfl rfl ?_
            refine g_p 13 16383 rfl (by kernel_rfl) (y_pick_t rfl rfl) rfl rfl ?_
            refine g_d (by kernel_rfl) ?_
            refine tr_thenN ?_
            exact tr_join [(0, x0.enc), (3, x3.enc), (4, (.int .i64 x4)), (24, (.bool true))] ⟨rfl, rfl, rfl, rfl, trivial⟩ ⟨_, _, _, _, rfl, H⟩
          · replace H := H.2 g11
            refine g_p 3 15 rfl (by kernel_rfl) (y_move rfl) rfl rfl ?_
            refine g_p 4 31 rfl (by kernel_rfl) (y_move rfl) rfl rfl ?_
            obtain ⟨a12, e13, H⟩ := H
            refine g_p 5 63 rfl (by kernel_rfl) (f_idx (s := x0) Try.runUnderlying23 Try.sizeOf3 rfl rfl e13) rfl rfl ?_
            obtain ⟨y14, k15, H⟩ := H
            refine g_h 6 127 rfl (by kernel_rfl) (y_ld Try.isAgg3 rfl) k15 rfl rfl ?_
            refine g_p 7 255 rfl (by kernel_rfl) (y_move rfl) rfl rfl ?_
            refine g_p 8 511 rfl (by kernel_rfl) (y_move rfl) rfl rfl ?_
            refine g_p 9 1023 rfl (by kernel_rfl) (y_sub rfl rfl) rfl rfl ?_
            obtain ⟨a16, e17, H⟩ := H
            refine g_p 10 2047 rfl (by kernel_rfl) (f_idx (s := x0) Try.runUnderlying23 Try.sizeOf3 rfl rfl e17) rfl rfl ?_
            obtain ⟨y18, k19, H⟩ := H
            refine g_h 11 4095 rfl (by kernel_rfl) (y_ld Try.isAgg3 rfl) k19 rfl rfl ?_
            refine g_p 12 8191 rfl (by kernel_rfl) (y_neq rfl rfl) rfl rfl ?_
            refine g_p 13 16383 rfl (by kernel_rfl) (y_pick_f rfl rfl) rfl rfl ?_
            refine g_d (by kernel_rfl) ?_
            refine tr_thenN ?_
            exact tr_join [(0, x0.enc), (3, x3.enc), (4, (.int .i64 x4)), (24, (.bool ((y14 != y18))))] ⟨rfl, rfl, rfl, rfl, trivial⟩ ⟨_, _, _, _, rfl, H⟩
    · replace H := H.2 g1
      refine tr_exit ?_
      refine tr_thenE ?_
      refine tr_thenE ?_
      refine tr_hit ?_
      refine tr_thenN ?_
      refine tr_seq ?_
      refine tr_region ?_
      refine tr_p (y_move rfl) rfl rfl ?_
      refine tr_p (y_assign rfl) rfl rfl ?_
      refine tr_nil ?_
      refine tr_thenN ?_
      refine tr_ret ?_
      exact tr_ret1 rfl rfl ⟨_, rfl, H⟩

end Go.Proofs.Ytidpbnbjpglhfaa.V
