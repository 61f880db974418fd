/- Printed by a program of this session (gen.py): Go functions as Lean functions over the heap, and that the Go code does what they say; no condition. -/
import Derived.Test.YtidpbnbjpglhfaaGlx0
namespace Go.Proofs.Ytidpbnbjpglhfaa.V
open Go
set_option linter.unusedVariables false
set_option maxRecDepth 100000
def F.spateref8_Cell.j3 (Q : S_api_Cell → Int → H → Prop) (x2 : Addr) (x8 : Addr) (h : H) : Prop :=
  ld_S_api_Cell h x8 fun y39 =>
  ld_S_api_Cell h x8 fun y41 =>
  F.spateref8_wrong y41 h fun r44 h43 =>
  Cells h43 x8 y39.cells ∧
  stH h43 x2 y39.cells fun h46 =>
  ld_S_api_Cell h46 x2 fun y47 =>
  Q y47 r44 h46
def F.spateref8_Cell.l2 (Q : S_api_Cell → Int → H → Prop) : Nat → ByteArray → Addr → Sl → Int → Int → Int → H → Prop
  | 0, _, _, _, _, _, _, _ => False
  | q2 + 1, x0, x2, x4, x5, x6, x7, h =>
    ((decide (x7 < 8)) = true →
    0 ≤ (8 : Int) ∧
    idxS x0 (IntKind.wrap .i64 (x5 + x7)) fun b37 =>
    (F.spateref8_Cell.l2 Q q2) x0 x2 x4 x5 (bitsOf .or .u64 (IntKind.wrap .u64 (x6 * (2 ^ (min (8 : Int).toNat (IntKind.bits .u64)) : Int))) (IntKind.wrap .u64 b37)) (IntKind.wrap .i64 (x7 + 1)) h) ∧
    ((decide (x7 < 8)) = false →
    idxS x0 0 fun b49 =>
    (runT PP (convert 47 9 x4.enc) h fun s52 h51 =>
    new h51 (((⟨0, (⟨#[]⟩ : ByteArray), 0⟩ : S_api_Cell) : S_api_Cell).cells.toArray) ty_34 fun a54 h53 =>
    stH h53 a54 ((⟨(IntKind.wrap .i64 b49), s52, (IntKind.wrap .i64 (IntKind.wrap .u64 (x6 - 9223372036854775808)))⟩ : S_api_Cell).cells) fun h55 =>
    F.spateref8_Cell.j3 Q x2 a54 h55) ∧
    (new h (((⟨0, (⟨#[]⟩ : ByteArray), 0⟩ : S_api_Cell) : S_api_Cell).cells.toArray) ty_34 fun a57 h56 =>
    runT PP (convert 47 9 x4.enc) h56 fun s59 h58 =>
    stH h58 a57 ((⟨(IntKind.wrap .i64 b49), s59, (IntKind.wrap .i64 (IntKind.wrap .u64 (x6 - 9223372036854775808)))⟩ : S_api_Cell).cells) fun h60 =>
    F.spateref8_Cell.j3 Q x2 a57 h60))
def F.spateref8_Cell.l1 (Q : S_api_Cell → Int → H → Prop) : Nat → ByteArray → Addr → Sl → Int → H → Prop
  | 0, _, _, _, _, _ => False
  | q1 + 1, x0, x2, x4, x5, h =>
    ((decide (x5 ≥ (x0.size : Int))) = true →
    stH h x2 ((⟨0, (⟨#[]⟩ : ByteArray), 0⟩ : S_api_Cell).cells) fun h8 =>
    ld_S_api_Cell h8 x2 fun y9 =>
    Q y9 11 h8) ∧
    ((decide (x5 ≥ (x0.size : Int))) = false →
    idxS x0 x5 fun b11 =>
    (((b11 != 0)) = true →
    idxS x0 x5 fun b14 =>
    newL h #[(.int .u8 b14)] ty_5 1 fun s17 h16 =>
    runL PP (Builtin.append_ #[47, 47] 47 #[x4.enc, s17.enc]) h16 fun s19 h18 =>
    (F.spateref8_Cell.l1 Q q1) x0 x2 s19 (IntKind.wrap .i64 (x5 + 1)) h18) ∧
    (((b11 != 0)) = false →
    ((decide ((IntKind.wrap .i64 (x5 + 1)) ≥ (x0.size : Int))) = true →
    stH h x2 ((⟨0, (⟨#[]⟩ : ByteArray), 0⟩ : S_api_Cell).cells) fun h21 =>
    ld_S_api_Cell h21 x2 fun y22 =>
    Q y22 11 h21) ∧
    ((decide ((IntKind.wrap .i64 (x5 + 1)) ≥ (x0.size : Int))) = false →
    idxS x0 (IntKind.wrap .i64 (x5 + 1)) fun b24 =>
    (((b24 == 1)) = true →
    ((decide ((IntKind.wrap .i64 ((x0.size : Int) - (IntKind.wrap .i64 (x5 + 2)))) < 8)) = true →
    stH h x2 ((⟨0, (⟨#[]⟩ : ByteArray), 0⟩ : S_api_Cell).cells) fun h28 =>
    ld_S_api_Cell h28 x2 fun y29 =>
    Q y29 11 h28) ∧
    ((decide ((IntKind.wrap .i64 ((x0.size : Int) - (IntKind.wrap .i64 (x5 + 2)))) < 8)) = false →
    ((decide ((IntKind.wrap .i64 ((x0.size : Int) - (IntKind.wrap .i64 (x5 + 2)))) > 8)) = true →
    stH h x2 ((⟨0, (⟨#[]⟩ : ByteArray), 0⟩ : S_api_Cell).cells) fun h32 =>
    ld_S_api_Cell h32 x2 fun y33 =>
    Q y33 13 h32) ∧
    ((decide ((IntKind.wrap .i64 ((x0.size : Int) - (IntKind.wrap .i64 (x5 + 2)))) > 8)) = false →
    ∃ m, F.spateref8_Cell.l2 Q m x0 x2 x4 (IntKind.wrap .i64 (x5 + 2)) 0 0 h))) ∧
    (((b24 == 1)) = false →
    idxS x0 (IntKind.wrap .i64 (x5 + 1)) fun b62 =>
    (((b62 != 255)) = true →
    stH h x2 ((⟨0, (⟨#[]⟩ : ByteArray), 0⟩ : S_api_Cell).cells) fun h65 =>
    ld_S_api_Cell h65 x2 fun y66 =>
    Q y66 12 h65) ∧
    (((b62 != 255)) = false →
    newL h #[(.int .u8 0)] ty_5 1 fun s69 h68 =>
    runL PP (Builtin.append_ #[47, 47] 47 #[x4.enc, s69.enc]) h68 fun s71 h70 =>
    (F.spateref8_Cell.l1 Q q1) x0 x2 s71 (IntKind.wrap .i64 (x5 + 2)) h70)))))
/-- spate/spateref8.Cell -/
def F.spateref8_Cell (p0 : ByteArray) (h : H) (Q : S_api_Cell → Int → H → Prop) : Prop :=
  new h (((⟨0, (⟨#[]⟩ : ByteArray), 0⟩ : S_api_Cell) : S_api_Cell).cells.toArray) ty_34 fun a2 h1 =>
  ((((p0.size : Int) == 0)) = true →
  stH h1 a2 ((⟨0, (⟨#[]⟩ : ByteArray), 0⟩ : S_api_Cell).cells) fun h4 =>
  ld_S_api_Cell h4 a2 fun y5 =>
  Q y5 11 h4) ∧
  ((((p0.size : Int) == 0)) = false →
  ∃ m, F.spateref8_Cell.l1 Q m p0 a2 (⟨none, 0, 0⟩ : Sl) 1 h1)
theorem F.spateref8_Cell_ok {p0 : ByteArray} {h : H} {Q : S_api_Cell → Int → H → Prop} (H : F.spateref8_Cell p0 h Q) : Fn PP 25 ([(.string p0)] : List Value).toArray h fun r h' => ∃ r0 r1, r = .tuple #[(.agg r0.cells.toArray), (.int .i64 r1)] ∧ Q r0 r1 h' := by
  unfold F.spateref8_Cell at H
  refine fn_of Try.func25 Try.ntmps25 rfl rfl fun w0 => ?_
  refine tr_sub [(0, (.string p0))] ⟨rfl, trivial⟩ ?_
  refine tr_seq ?_
  refine tr_region ?_
  refine tr_e (f_alloc (cs := ((⟨0, (⟨#[]⟩ : ByteArray), 0⟩ : S_api_Cell) : S_api_Cell).cells.toArray) Try.zeroValue34 rfl H) rfl rfl ?_
  rintro _ h1 ⟨a2, rfl, H⟩
  refine tr_p (y_assign rfl) rfl rfl ?_
  refine tr_nil ?_
  refine tr_thenN ?_
  refine tr_seq ?_
  refine tr_seq ?_
  refine tr_region ?_
  refine tr_p (y_move rfl) rfl rfl ?_
  refine tr_p (y_lenS Try.runUnderlying9 rfl) rfl rfl ?_
  refine tr_p (y_eql rfl rfl) rfl rfl ?_
  refine tr_nil ?_
  refine tr_thenN ?_
  refine tr_cond rfl (fun g3 => ?_) (fun g3 => ?_)
  · replace H := H.1 g3
    refine tr_seq ?_
    refine tr_region ?_
    refine tr_p (f_build rfl (bd_34_ )) rfl rfl ?_
    refine tr_e (f_store (vs := (⟨0, (⟨#[]⟩ : ByteArray), 0⟩ : S_api_Cell).cells) Try.sizeOf34 rfl rfl cellsOfStruct rfl (by intro v hv; exact ones_S_api_Cell _ v hv) H) rfl rfl ?_
    rintro _ h4 ⟨rfl, H⟩
    refine tr_p (y_assign rfl) rfl rfl ?_
    refine tr_nil ?_
    refine tr_thenN ?_
    refine tr_ret ?_
    refine tr_thenR ?_
    obtain ⟨y5, k6, H⟩ := H
    exact tr_rv2 rfl (rv_cellS Try.isAgg34 Try.sizeOf34 rfl rfl k6) (rv_tmp rfl) ⟨_, _, rfl, H⟩
  · replace H := H.2 g3
    refine tr_skip ?_
    refine tr_thenN ?_
    refine tr_seq ?_
    refine tr_region ?_
    refine tr_p (y_assign rfl) rfl rfl ?_
    refine tr_nil ?_
    refine tr_thenN ?_
    refine tr_seq ?_
    refine tr_region ?_
    refine tr_p (y_assign rfl) rfl rfl ?_
    refine tr_nil ?_
    refine tr_thenN ?_
    refine tr_seq ?_
    refine tr_block ?_
    obtain ⟨m72, H⟩ := H
    refine tr_sub [(0, (.string p0)), (2, (.pointer (some a2))), (4, (⟨none, 0, 0⟩ : Sl).enc), (5, (.int .i64 1))] ⟨rfl, rfl, rfl, rfl, trivial⟩ ?_
    refine tr_loop_j (fun m L' h => ∃ (x0 : ByteArray) (x2 : Addr) (x4 : Sl) (x5 : Int), L' = [(0, (.string x0)), (2, (.pointer (some x2))), (4, x4.enc), (5, (.int .i64 x5))] ∧ F.spateref8_Cell.l1 Q m x0 x2 x4 x5 h) ?_ ?_ m72 ⟨_, _, _, _, rfl, H⟩
    · rintro L' h ⟨_, _, _, _, _, H⟩; exact H
    · rintro q1 L' h ⟨x0, x2, x4, x5, rfl, H⟩
      unfold F.spateref8_Cell.l1 at H
      refine tr_block ?_
      refine tr_seq ?_
      refine tr_seq ?_
      refine tr_region ?_
      refine tr_p (y_move rfl) rfl rfl ?_
      refine tr_p (y_move rfl) rfl rfl ?_
      refine tr_p (y_lenS Try.runUnderlying9 rfl) rfl rfl ?_
      refine tr_p (y_geq rfl rfl) rfl rfl ?_
      refine tr_nil ?_
      refine tr_thenN ?_
      refine tr_cond rfl (fun g7 => ?_) (fun g7 => ?_)
      · replace H := H.1 g7
        refine tr_seq ?_
        refine tr_region ?_
        refine tr_p (f_build rfl (bd_34_ )) rfl rfl ?_
        refine tr_e (f_store (vs := (⟨0, (⟨#[]⟩ : ByteArray), 0⟩ : S_api_Cell).cells) Try.sizeOf34 rfl rfl cellsOfStruct rfl (by intro v hv; exact ones_S_api_Cell _ v hv) H) rfl rfl ?_
        rintro _ h8 ⟨rfl, H⟩
        refine tr_p (y_assign rfl) rfl rfl ?_
        refine tr_nil ?_
        refine tr_thenN ?_
        refine tr_ret ?_
        refine tr_thenR ?_
        refine tr_blockR ?_
        refine tr_thenR ?_
        refine tr_blockR ?_
        refine tr_thenR ?_
        obtain ⟨y9, k10, H⟩ := H
        exact tr_rv2 rfl (rv_cellS Try.isAgg34 Try.sizeOf34 rfl rfl k10) (rv_tmp rfl) ⟨_, _, rfl, H⟩
      · replace H := H.2 g7
        refine tr_skip ?_
        refine tr_thenN ?_
        refine tr_seq ?_
        refine tr_seq ?_
        refine tr_region ?_
        refine tr_p (y_move rfl) rfl rfl ?_
        refine tr_p (y_move rfl) rfl rfl ?_
        obtain ⟨b11, e12, H⟩ := H
        refine tr_p (f_idxS Try.runUnderlying9 rfl rfl e12) rfl rfl ?_
        refine tr_p (y_neq rfl rfl) rfl rfl ?_
        refine tr_nil ?_
        refine tr_thenN ?_
        refine tr_cond rfl (fun g13 => ?_) (fun g13 => ?_)
        · replace H := H.1 g13
          refine tr_seq ?_
          refine tr_region ?_
          refine tr_p (y_move rfl) rfl rfl ?_
          refine tr_p (y_move rfl) rfl rfl ?_
          refine tr_p (y_move rfl) rfl rfl ?_
          obtain ⟨b14, e15, H⟩ := H
          refine tr_p (f_idxS Try.runUnderlying9 rfl rfl e15) rfl rfl ?_
          refine tr_e (f_buildL (cs := #[(.int .u8 b14)]) rfl rfl (bl_47_1_0 b14) H) rfl rfl ?_
          rintro _ h16 ⟨s17, rfl, H⟩
          refine tr_e (f_app rfl H) rfl rfl ?_
          rintro _ h18 ⟨s19, rfl, H⟩
          refine tr_p (y_assign rfl) rfl rfl ?_
          refine tr_nil ?_
          refine tr_thenN ?_
          refine tr_seq ?_
          refine tr_region ?_
          refine tr_p (y_move rfl) rfl rfl ?_
          refine tr_p (y_add rfl rfl) rfl rfl ?_
          refine tr_p (y_assign rfl) rfl rfl ?_
          refine tr_nil ?_
          refine tr_thenN ?_
          refine tr_exit ?_
          refine tr_thenE ?_
          refine tr_hit ?_
          refine tr_thenN ?_
          exact tr_join [(0, (.string x0)), (2, (.pointer (some x2))), (4, s19.enc), (5, (.int .i64 (IntKind.wrap .i64 (x5 + 1))))] ⟨rfl, rfl, rfl, rfl, trivial⟩ ⟨_, _, _, _, rfl, H⟩
        · replace H := H.2 g13
          refine tr_skip ?_
          refine tr_thenN ?_
          refine tr_seq ?_
          refine tr_seq ?_
          refine tr_region ?_
          refine tr_p (y_move rfl) rfl rfl ?_
          refine tr_p (y_add rfl rfl) rfl rfl ?_
          refine tr_p (y_move rfl) rfl rfl ?_
          refine tr_p (y_lenS Try.runUnderlying9 rfl) rfl rfl ?_
          refine tr_p (y_geq rfl rfl) rfl rfl ?_
          refine tr_nil ?_
          refine tr_thenN ?_
          refine tr_cond rfl (fun g20 => ?_) (fun g20 => ?_)
          · replace H := H.1 g20
            refine tr_seq ?_
            refine tr_region ?_
            refine tr_p (f_build rfl (bd_34_ )) rfl rfl ?_
            refine tr_e (f_store (vs := (⟨0, (⟨#[]⟩ : ByteArray), 0⟩ : S_api_Cell).cells) Try.sizeOf34 rfl rfl cellsOfStruct rfl (by intro v hv; exact ones_S_api_Cell _ v hv) H) rfl rfl ?_
            rintro _ h21 ⟨rfl, H⟩
            refine tr_p (y_assign rfl) rfl rfl ?_
            refine tr_nil ?_
            refine tr_thenN ?_
            refine tr_ret ?_
            refine tr_thenR ?_
            refine tr_blockR ?_
            refine tr_thenR ?_
            refine tr_blockR ?_
            refine tr_thenR ?_
            obtain ⟨y22, k23, H⟩ := H
            exact tr_rv2 rfl (rv_cellS Try.isAgg34 Try.sizeOf34 rfl rfl k23) (rv_tmp rfl) ⟨_, _, rfl, H⟩
          · replace H := H.2 g20
            refine tr_skip ?_
            refine tr_thenN ?_
            refine tr_seq ?_
            refine tr_seq ?_
            refine tr_region ?_
            refine tr_p (y_move rfl) rfl rfl ?_
            refine tr_p (y_move rfl) rfl rfl ?_
            refine tr_p (y_add rfl rfl) rfl rfl ?_
            obtain ⟨b24, e25, H⟩ := H
            refine tr_p (f_idxS Try.runUnderlying9 rfl rfl e25) rfl rfl ?_
            refine tr_p (y_eql rfl rfl) rfl rfl ?_
            refine tr_nil ?_
            refine tr_thenN ?_
            refine tr_cond rfl (fun g26 => ?_) (fun g26 => ?_)
            · replace H := H.1 g26
              refine tr_seq ?_
              refine tr_region ?_
              refine tr_p (y_move rfl) rfl rfl ?_
              refine tr_p (y_add rfl rfl) rfl rfl ?_
              refine tr_p (y_assign rfl) rfl rfl ?_
              refine tr_nil ?_
              refine tr_thenN ?_
              refine tr_exit ?_
              refine tr_thenE ?_
              refine tr_miss rfl ?_
              refine tr_thenE ?_
              refine tr_hit ?_
              refine tr_thenN ?_
              refine tr_seq ?_
              refine tr_seq ?_
              refine tr_region ?_
              refine tr_p (y_move rfl) rfl rfl ?_
              refine tr_p (y_lenS Try.runUnderlying9 rfl) rfl rfl ?_
              refine tr_p (y_move rfl) rfl rfl ?_
              refine tr_p (y_sub rfl rfl) rfl rfl ?_
              refine tr_p (y_lss rfl rfl) rfl rfl ?_
              refine tr_nil ?_
              refine tr_thenN ?_
              refine tr_cond rfl (fun g27 => ?_) (fun g27 => ?_)
              · replace H := H.1 g27
                refine tr_seq ?_
                refine tr_region ?_
                refine tr_p (f_build rfl (bd_34_ )) rfl rfl ?_
                refine tr_e (f_store (vs := (⟨0, (⟨#[]⟩ : ByteArray), 0⟩ : S_api_Cell).cells) Try.sizeOf34 rfl rfl cellsOfStruct rfl (by intro v hv; exact ones_S_api_Cell _ v hv) H) rfl rfl ?_
                rintro _ h28 ⟨rfl, H⟩
                refine tr_p (y_assign rfl) rfl rfl ?_
                refine tr_nil ?_
                refine tr_thenN ?_
                refine tr_ret ?_
                refine tr_thenR ?_
                obtain ⟨y29, k30, H⟩ := H
                exact tr_rv2 rfl (rv_cellS Try.isAgg34 Try.sizeOf34 rfl rfl k30) (rv_tmp rfl) ⟨_, _, rfl, H⟩
              · replace H := H.2 g27
                refine tr_skip ?_
                refine tr_thenN ?_
                refine tr_seq ?_
                refine tr_seq ?_
                refine tr_region ?_
                refine tr_p (y_move rfl) rfl rfl ?_
                refine tr_p (y_lenS Try.runUnderlying9 rfl) rfl rfl ?_
                refine tr_p (y_move rfl) rfl rfl ?_
                refine tr_p (y_sub rfl rfl) rfl rfl ?_
                refine tr_p (y_gtr rfl rfl) rfl rfl ?_
                refine tr_nil ?_
                refine tr_thenN ?_
                refine tr_cond rfl (fun g31 => ?_) (fun g31 => ?_)
                · replace H := H.1 g31
                  refine tr_seq ?_
                  refine tr_region ?_
                  refine tr_p (f_build rfl (bd_34_ )) rfl rfl ?_
                  refine tr_e (f_store (vs := (⟨0, (⟨#[]⟩ : ByteArray), 0⟩ : S_api_Cell).cells) Try.sizeOf34 rfl rfl cellsOfStruct rfl (by intro v hv; exact ones_S_api_Cell _ v hv) H) rfl rfl ?_
                  rintro _ h32 ⟨rfl, H⟩
                  refine tr_p (y_assign rfl) rfl rfl ?_
                  refine tr_nil ?_
                  refine tr_thenN ?_
                  refine tr_ret ?_
                  refine tr_thenR ?_
                  obtain ⟨y33, k34, H⟩ := H
                  exact tr_rv2 rfl (rv_cellS Try.isAgg34 Try.sizeOf34 rfl rfl k34) (rv_tmp rfl) ⟨_, _, rfl, H⟩
                · replace H := H.2 g31
                  refine tr_skip ?_
                  refine tr_thenN ?_
                  refine tr_seq ?_
                  refine tr_region ?_
                  refine tr_p (y_assign rfl) rfl rfl ?_
                  refine tr_nil ?_
                  refine tr_thenN ?_
                  refine tr_seq ?_
                  refine tr_seq ?_
                  refine tr_region ?_
                  refine tr_p (y_assign rfl) rfl rfl ?_
                  refine tr_nil ?_
                  refine tr_thenN ?_
                  refine tr_block ?_
                  obtain ⟨m61, H⟩ := H
                  refine tr_sub [(0, (.string x0)), (2, (.pointer (some x2))), (4, x4.enc), (5, (.int .i64 (IntKind.wrap .i64 (x5 + 2)))), (6, (.int .u64 0)), (7, (.int .i64 0))] ⟨rfl, rfl, rfl, rfl, rfl, rfl, trivial⟩ ?_
                  refine tr_loop_j (fun m L' h => ∃ (x0 : ByteArray) (x2 : Addr) (x4 : Sl) (x5 : Int) (x6 : Int) (x7 : Int), L' = [(0, (.string x0)), (2, (.pointer (some x2))), (4, x4.enc), (5, (.int .i64 x5)), (6, (.int .u64 x6)), (7, (.int .i64 x7))] ∧ F.spateref8_Cell.l2 Q m x0 x2 x4 x5 x6 x7 h) ?_ ?_ m61 ⟨_, _, _, _, _, _, rfl, H⟩
                  · rintro L' h ⟨_, _, _, _, _, _, _, H⟩; exact H
                  · rintro q2 L' h ⟨x0, x2, x4, x5, x6, x7, rfl, H⟩
                    unfold F.spateref8_Cell.l2 at H
                    refine tr_seq ?_
                    refine tr_seq ?_
                    refine tr_region ?_
                    refine tr_p (y_move rfl) rfl rfl ?_
                    refine tr_p (y_lss rfl rfl) rfl rfl ?_
                    refine tr_nil ?_
                    refine tr_thenN ?_
                    refine tr_cond rfl (fun g35 => ?_) (fun g35 => ?_)
                    · replace H := H.1 g35
                      refine tr_skip ?_
                      refine tr_thenN ?_
                      refine tr_seq ?_
                      refine tr_block ?_
                      refine tr_region ?_
                      refine tr_p (y_move rfl) rfl rfl ?_
                      obtain ⟨e36, H⟩ := H
                      refine tr_p (y_shl rfl rfl e36) rfl rfl ?_
                      refine tr_p (y_move rfl) rfl rfl ?_
                      refine tr_p (y_move rfl) rfl rfl ?_
                      refine tr_p (y_move rfl) rfl rfl ?_
                      refine tr_p (y_add rfl rfl) rfl rfl ?_
                      obtain ⟨b37, e38, H⟩ := H
                      refine tr_p (f_idxS Try.runUnderlying9 rfl rfl e38) rfl rfl ?_
                      refine tr_p (y_cvt Try.runUnderlying5 Try.runUnderlying76 rfl) rfl rfl ?_
                      refine tr_p (y_or rfl rfl) rfl rfl ?_
                      refine tr_p (y_assign rfl) rfl rfl ?_
                      refine tr_nil ?_
                      refine tr_blockN ?_
                      refine tr_thenN ?_
                      refine tr_region ?_
                      refine tr_p (y_move rfl) rfl rfl ?_
                      refine tr_p (y_add rfl rfl) rfl rfl ?_
                      refine tr_p (y_assign rfl) rfl rfl ?_
                      refine tr_nil ?_
                      refine tr_thenN ?_
                      exact tr_join [(0, (.string x0)), (2, (.pointer (some x2))), (4, x4.enc), (5, (.int .i64 x5)), (6, (.int .u64 (bitsOf .or .u64 (IntKind.wrap .u64 (x6 * (2 ^ (min (8 : Int).toNat (IntKind.bits .u64)) : Int))) (IntKind.wrap .u64 b37)))), (7, (.int .i64 (IntKind.wrap .i64 (x7 + 1))))] ⟨rfl, rfl, rfl, rfl, rfl, rfl, trivial⟩ ⟨_, _, _, _, _, _, rfl, H⟩
                    · replace H := H.2 g35
                      refine tr_exit ?_
                      refine tr_thenE ?_
                      refine tr_thenE ?_
                      refine tr_hit ?_
                      refine tr_thenN ?_
                      refine tr_seq_j (fun L' h => ∃ (x2 : Addr) (x8 : Addr), L' = [(2, (.pointer (some x2))), (8, (.pointer (some x8)))] ∧ F.spateref8_Cell.j3 Q x2 x8 h) ?_ ?_
                      · rintro L' h ⟨x2, x8, rfl, H⟩
                        unfold F.spateref8_Cell.j3 at H
                        refine tr_seq ?_
                        refine tr_draw mixed [0, 0, 2, 7, 15] (by kernel_rfl) ?_
                        obtain ⟨y39, k40, H⟩ := H
                        refine g_h 0 1 rfl (by kernel_rfl) (y_ldS Try.isAgg34 Try.sizeOf34 rfl rfl) k40 rfl rfl ?_
                        obtain ⟨y41, k42, H⟩ := H
                        refine g_h 1 3 rfl (by kernel_rfl) (y_ldS Try.isAgg34 Try.sizeOf34 rfl rfl) k42 rfl rfl ?_
                        refine g_e 2 7 [(0, fun h => Cells h x8 y39.cells)] (by kernel_rfl) rfl (by kernel_rfl) (e_call Try.call41 rfl (F.spateref8_wrong_ok H)) rfl rfl ?_
                        rintro _ h43 ⟨r44, rfl, H⟩
                        obtain ⟨k45, H⟩ := H
                        refine ⟨And.intro k45 trivial, ?_⟩
                        refine g_e 3 15 [] (by kernel_rfl) rfl (by kernel_rfl) (f_store (vs := y39.cells) Try.sizeOf34 rfl rfl cellsOfStruct rfl (by intro v hv; exact ones_S_api_Cell _ v hv) H) rfl rfl ?_
                        rintro _ h46 ⟨rfl, H⟩
                        refine ⟨trivial, ?_⟩
                        refine g_p 4 31 rfl (by kernel_rfl) (y_assign rfl) rfl rfl ?_
                        refine g_d (by kernel_rfl) ?_
                        refine tr_thenN ?_
                        refine tr_ret ?_
                        obtain ⟨y47, k48, H⟩ := H
                        exact tr_rv2 rfl (rv_cellS Try.isAgg34 Try.sizeOf34 rfl rfl k48) (rv_tmp rfl) ⟨_, _, rfl, H⟩
                      · refine tr_draw mixed [0, 1, 3, 0, 8, 0, 32, 96, 255, 0, 1023] (by kernel_rfl) ?_
                        refine g_p 0 1 rfl (by kernel_rfl) (y_move rfl) rfl rfl ?_
                        obtain ⟨b49, e50, H⟩ := H
                        refine g_p 1 3 rfl (by kernel_rfl) (f_idxS Try.runUnderlying9 rfl rfl e50) rfl rfl ?_
                        refine g_p 2 7 rfl (by kernel_rfl) (y_cvt Try.runUnderlying5 Try.runUnderlying3 rfl) rfl rfl ?_
                        refine g_p 3 15 rfl (by kernel_rfl) (y_move rfl) rfl rfl ?_
                        refine g_p 5 47 rfl (by kernel_rfl) (y_move rfl) rfl rfl ?_
                        refine g_p 6 111 rfl (by kernel_rfl) (y_sub rfl rfl) rfl rfl ?_
                        refine g_p 7 239 rfl (by kernel_rfl) (y_cvt Try.runUnderlying76 Try.runUnderlying2 rfl) rfl rfl ?_
                        refine g_e2 4 255 9 751 [] [] (by kernel_rfl) (by kernel_rfl) (by kernel_rfl) (by kernel_rfl) (by kernel_rfl) rfl rfl rfl rfl rfl rfl ?_ ?_
                        · replace H := H.1
                          refine ⟨_, (f_cvtT rfl H), ?_⟩
                          rintro _ h51 ⟨s52, rfl, H⟩
                          refine ⟨trivial, ?_⟩
                          refine g_p 8 511 rfl (by kernel_rfl) (f_build rfl (bd_34_0_1_2 (IntKind.wrap .i64 b49) s52 (IntKind.wrap .i64 (IntKind.wrap .u64 (x6 - 9223372036854775808))))) rfl rfl ?_
                          refine g_e 9 1023 [] (by kernel_rfl) rfl (by kernel_rfl) (f_alloc (cs := ((⟨0, (⟨#[]⟩ : ByteArray), 0⟩ : S_api_Cell) : S_api_Cell).cells.toArray) Try.zeroValue34 rfl H) rfl rfl ?_
                          rintro _ h53 ⟨a54, rfl, H⟩
                          refine ⟨trivial, ?_⟩
                          refine g_e 10 2047 [] (by kernel_rfl) rfl (by kernel_rfl) (f_store (vs := (⟨(IntKind.wrap .i64 b49), s52, (IntKind.wrap .i64 (IntKind.wrap .u64 (x6 - 9223372036854775808)))⟩ : S_api_Cell).cells) Try.sizeOf34 rfl rfl cellsOfStruct rfl (by intro v hv; exact ones_S_api_Cell _ v hv) H) rfl rfl ?_
                          rintro _ h55 ⟨rfl, H⟩
                          refine ⟨trivial, ?_⟩
                          refine g_d (by kernel_rfl) ?_
                          refine tr_thenN ?_
                          exact tr_join [(2, (.pointer (some x2))), (8, (.pointer (some a54)))] ⟨rfl, rfl, trivial⟩ ⟨_, _, rfl, H⟩
                        · replace H := H.2
                          refine ⟨_, (f_alloc (cs := ((⟨0, (⟨#[]⟩ : ByteArray), 0⟩ : S_api_Cell) : S_api_Cell).cells.toArray) Try.zeroValue34 rfl H), ?_⟩
                          rintro _ h56 ⟨a57, rfl, H⟩
                          refine ⟨trivial, ?_⟩
                          refine g_e 4 767 [] (by kernel_rfl) rfl (by kernel_rfl) (f_cvtT rfl H) rfl rfl ?_
                          rintro _ h58 ⟨s59, rfl, H⟩
                          refine ⟨trivial, ?_⟩
                          refine g_p 8 1023 rfl (by kernel_rfl) (f_build rfl (bd_34_0_1_2 (IntKind.wrap .i64 b49) s59 (IntKind.wrap .i64 (IntKind.wrap .u64 (x6 - 9223372036854775808))))) rfl rfl ?_
                          refine g_e 10 2047 [] (by kernel_rfl) rfl (by kernel_rfl) (f_store (vs := (⟨(IntKind.wrap .i64 b49), s59, (IntKind.wrap .i64 (IntKind.wrap .u64 (x6 - 9223372036854775808)))⟩ : S_api_Cell).cells) Try.sizeOf34 rfl rfl cellsOfStruct rfl (by intro v hv; exact ones_S_api_Cell _ v hv) H) rfl rfl ?_
                          rintro _ h60 ⟨rfl, H⟩
                          refine ⟨trivial, ?_⟩
                          refine g_d (by kernel_rfl) ?_
                          refine tr_thenN ?_
                          exact tr_join [(2, (.pointer (some x2))), (8, (.pointer (some a57)))] ⟨rfl, rfl, trivial⟩ ⟨_, _, rfl, H⟩
            · replace H := H.2 g26
              refine tr_skip ?_
              refine tr_thenN ?_
              refine tr_seq ?_
              refine tr_seq ?_
              refine tr_region ?_
              refine tr_p (y_move rfl) rfl rfl ?_
              refine tr_p (y_move rfl) rfl rfl ?_
              refine tr_p (y_add rfl rfl) rfl rfl ?_
              obtain ⟨b62, e63, H⟩ := H
              refine tr_p (f_idxS Try.runUnderlying9 rfl rfl e63) rfl rfl ?_
              refine tr_p (y_neq rfl rfl) rfl rfl ?_
              refine tr_nil ?_
              refine tr_thenN ?_
              refine tr_cond rfl (fun g64 => ?_) (fun g64 => ?_)
              · replace H := H.1 g64
                refine tr_seq ?_
                refine tr_region ?_
                refine tr_p (f_build rfl (bd_34_ )) rfl rfl ?_
                refine tr_e (f_store (vs := (⟨0, (⟨#[]⟩ : ByteArray), 0⟩ : S_api_Cell).cells) Try.sizeOf34 rfl rfl cellsOfStruct rfl (by intro v hv; exact ones_S_api_Cell _ v hv) H) rfl rfl ?_
                rintro _ h65 ⟨rfl, H⟩
                refine tr_p (y_assign rfl) rfl rfl ?_
                refine tr_nil ?_
                refine tr_thenN ?_
                refine tr_ret ?_
                refine tr_thenR ?_
                refine tr_blockR ?_
                refine tr_thenR ?_
                refine tr_blockR ?_
                refine tr_thenR ?_
                obtain ⟨y66, k67, H⟩ := H
                exact tr_rv2 rfl (rv_cellS Try.isAgg34 Try.sizeOf34 rfl rfl k67) (rv_tmp rfl) ⟨_, _, rfl, H⟩
              · replace H := H.2 g64
                refine tr_skip ?_
                refine tr_thenN ?_
                refine tr_seq ?_
                refine tr_region ?_
                refine tr_p (y_move rfl) rfl rfl ?_
                refine tr_e (f_buildL (cs := #[(.int .u8 0)]) rfl rfl (bl_47_1_0 0) H) rfl rfl ?_
                rintro _ h68 ⟨s69, rfl, H⟩
                refine tr_e (f_app rfl H) rfl rfl ?_
                rintro _ h70 ⟨s71, rfl, H⟩
                refine tr_p (y_assign rfl) rfl rfl ?_
                refine tr_nil ?_
                refine tr_thenN ?_
                refine tr_region ?_
                refine tr_p (y_move rfl) rfl rfl ?_
                refine tr_p (y_add rfl rfl) rfl rfl ?_
                refine tr_p (y_assign rfl) rfl rfl ?_
                refine tr_nil ?_
                refine tr_blockN ?_
                refine tr_thenN ?_
                exact tr_join [(0, (.string x0)), (2, (.pointer (some x2))), (4, s71.enc), (5, (.int .i64 (IntKind.wrap .i64 (x5 + 2))))] ⟨rfl, rfl, rfl, rfl, trivial⟩ ⟨_, _, _, _, rfl, H⟩

/-- cmp.isNaN[int] -/
def F.cmp_isNaN_int (p0 : Int) (h : H) (Q : Bool → H → Prop) : Prop :=
  Q ((p0 != p0)) h
theorem F.cmp_isNaN_int_ok {p0 : Int} {h : H} {Q : Bool → H → Prop} (H : F.cmp_isNaN_int p0 h Q) : Fn PP 51 ([(.int .i64 p0)] : List Value).toArray h fun r h' => ∃ r0, r = (.bool r0) ∧ Q r0 h' := by
  unfold F.cmp_isNaN_int at H
  refine fn_of Try.func51 Try.ntmps51 rfl rfl fun w0 => ?_
  refine tr_sub [(0, (.int .i64 p0))] ⟨rfl, trivial⟩ ?_
  refine tr_seq ?_
  refine tr_region ?_
  refine tr_p (y_assign rfl) rfl rfl ?_
  refine tr_nil ?_
  refine tr_thenN ?_
  refine tr_seq ?_
  refine tr_region ?_
  refine tr_p (y_move rfl) rfl rfl ?_
  refine tr_p (y_move rfl) rfl rfl ?_
  refine tr_p (y_neq rfl rfl) rfl rfl ?_
  refine tr_p (y_assign rfl) rfl rfl ?_
  refine tr_nil ?_
  refine tr_thenN ?_
  refine tr_ret ?_
  exact tr_ret1 rfl rfl ⟨_, rfl, H⟩

/-- cmp.Compare[int] -/
def F.cmp_Compare_int (p0 : Int) (p1 : Int) (h : H) (Q : Int → H → Prop) : Prop :=
  F.cmp_isNaN_int p0 h fun r2 h1 =>
  F.cmp_isNaN_int p1 h1 fun r4 h3 =>
  (r2 = true →
  (r4 = true →
  Q 0 h3) ∧
  (r4 = false →
  Q (-1) h3)) ∧
  (r2 = false →
  (r4 = true →
  Q 1 h3) ∧
  (r4 = false →
  ((decide (p0 < p1)) = true →
  Q (-1) h3) ∧
  ((decide (p0 < p1)) = false →
  ((decide (p0 > p1)) = true →
  Q 1 h3) ∧
  ((decide (p0 > p1)) = false →
  Q 0 h3))))
theorem F.cmp_Compare_int_ok {p0 : Int} {p1 : Int} {h : H} {Q : Int → H → Prop} (H : F.cmp_Compare_int p0 p1 h Q) : Fn PP 43 ([(.int .i64 p0), (.int .i64 p1)] : List Value).toArray h fun r h' => ∃ r0, r = (.int .i64 r0) ∧ Q r0 h' := by
  unfold F.cmp_Compare_int at H
  refine fn_of Try.func43 Try.ntmps43 rfl rfl fun w0 => ?_
  refine tr_sub [(0, (.int .i64 p0)), (1, (.int .i64 p1))] ⟨rfl, rfl, trivial⟩ ?_
  refine tr_seq ?_
  refine tr_region ?_
  refine tr_p (y_assign rfl) rfl rfl ?_
  refine tr_nil ?_
  refine tr_thenN ?_
  refine tr_seq ?_
  refine tr_region ?_
  refine tr_p (y_move rfl) rfl rfl ?_
  refine tr_e (e_call Try.call51 rfl (F.cmp_isNaN_int_ok H)) rfl rfl ?_
  rintro _ h1 ⟨r2, rfl, H⟩
  refine tr_p (y_assign rfl) rfl rfl ?_
  refine tr_nil ?_
  refine tr_thenN ?_
  refine tr_seq ?_
  refine tr_region ?_
  refine tr_p (y_move rfl) rfl rfl ?_
  refine tr_e (e_call Try.call51 rfl (F.cmp_isNaN_int_ok H)) rfl rfl ?_
  rintro _ h3 ⟨r4, rfl, H⟩
  refine tr_p (y_assign rfl) rfl rfl ?_
  refine tr_nil ?_
  refine tr_thenN ?_
  refine tr_seq ?_
  refine tr_seq ?_
  refine tr_region ?_
  refine tr_p (y_move rfl) rfl rfl ?_
  refine tr_nil ?_
  refine tr_thenN ?_
  refine tr_cond rfl (fun g5 => ?_) (fun g5 => ?_)
  · replace H := H.1 g5
    refine tr_seq ?_
    refine tr_seq ?_
    refine tr_region ?_
    refine tr_p (y_move rfl) rfl rfl ?_
    refine tr_nil ?_
    refine tr_thenN ?_
    refine tr_cond rfl (fun g6 => ?_) (fun g6 => ?_)
    · replace H := H.1 g6
      refine tr_seq ?_
      refine tr_region ?_
      refine tr_p (y_assign rfl) rfl rfl ?_
      refine tr_nil ?_
      refine tr_thenN ?_
      refine tr_ret ?_
      refine tr_thenR ?_
      refine tr_thenR ?_
      exact tr_ret1 rfl rfl ⟨_, rfl, H⟩
    · replace H := H.2 g6
      refine tr_skip ?_
      refine tr_thenN ?_
      refine tr_seq ?_
      refine tr_region ?_
      refine tr_p (y_assign rfl) rfl rfl ?_
      refine tr_nil ?_
      refine tr_thenN ?_
      refine tr_ret ?_
      refine tr_thenR ?_
      exact tr_ret1 rfl rfl ⟨_, rfl, H⟩
  · replace H := H.2 g5
    refine tr_skip ?_
    refine tr_thenN ?_
    refine tr_seq ?_
    refine tr_seq ?_
    refine tr_region ?_
    refine tr_p (y_move rfl) rfl rfl ?_
    refine tr_nil ?_
    refine tr_thenN ?_
    refine tr_cond rfl (fun g7 => ?_) (fun g7 => ?_)
    · replace H := H.1 g7
      refine tr_seq ?_
      refine tr_region ?_
      refine tr_p (y_assign rfl) rfl rfl ?_
      refine tr_nil ?_
      refine tr_thenN ?_
      refine tr_ret ?_
      refine tr_thenR ?_
      exact tr_ret1 rfl rfl ⟨_, rfl, H⟩
    · replace H := H.2 g7
      refine tr_skip ?_
      refine tr_thenN ?_
      refine tr_seq ?_
      refine tr_seq ?_
      refine tr_region ?_
      refine tr_p (y_move rfl) rfl rfl ?_
      refine tr_p (y_move rfl) rfl rfl ?_
      refine tr_p (y_lss rfl rfl) rfl rfl ?_
      refine tr_nil ?_
      refine tr_thenN ?_
      refine tr_cond rfl (fun g8 => ?_) (fun g8 => ?_)
      · replace H := H.1 g8
        refine tr_seq ?_
        refine tr_region ?_
        refine tr_p (y_assign rfl) rfl rfl ?_
        refine tr_nil ?_
        refine tr_thenN ?_
        refine tr_ret ?_
        refine tr_thenR ?_
        exact tr_ret1 rfl rfl ⟨_, rfl, H⟩
      · replace H := H.2 g8
        refine tr_skip ?_
        refine tr_thenN ?_
        refine tr_seq ?_
        refine tr_seq ?_
        refine tr_region ?_
        refine tr_p (y_move rfl) rfl rfl ?_
        refine tr_p (y_move rfl) rfl rfl ?_
        refine tr_p (y_gtr rfl rfl) rfl rfl ?_
        refine tr_nil ?_
        refine tr_thenN ?_
        refine tr_cond rfl (fun g9 => ?_) (fun g9 => ?_)
        · replace H := H.1 g9
          refine tr_seq ?_
          refine tr_region ?_
          refine tr_p (y_assign rfl) rfl rfl ?_
          refine tr_nil ?_
          refine tr_thenN ?_
          refine tr_ret ?_
          refine tr_thenR ?_
          exact tr_ret1 rfl rfl ⟨_, rfl, H⟩
        · replace H := H.2 g9
          refine tr_skip ?_
          refine tr_thenN ?_
          refine tr_seq ?_
          refine tr_region ?_
          refine tr_p (y_assign rfl) rfl rfl ?_
          refine tr_nil ?_
          refine tr_thenN ?_
          refine tr_ret ?_
          exact tr_ret1 rfl rfl ⟨_, rfl, H⟩

/-- internal/bytealg.CompareString -/
def F.internal_bytealg_CompareString (p0 : ByteArray) (p1 : ByteArray) (h : H) (Q : Int → H → Prop) : Prop :=
  Q (cmpM p0 p1) h
theorem F.internal_bytealg_CompareString_ok {p0 : ByteArray} {p1 : ByteArray} {h : H} {Q : Int → H → Prop} (H : F.internal_bytealg_CompareString p0 p1 h Q) : Fn PP 52 ([(.string p0), (.string p1)] : List Value).toArray h fun r h' => ∃ r0, r = (.int .i64 r0) ∧ Q r0 h' := by
  unfold F.internal_bytealg_CompareString at H
  refine fn_of Try.func52 Try.ntmps52 rfl rfl fun w0 => ?_
  refine tr_sub [(0, (.string p0)), (1, (.string p1))] ⟨rfl, rfl, trivial⟩ ?_
  refine tr_seq ?_
  refine tr_region ?_
  refine tr_p (y_assign rfl) rfl rfl ?_
  refine tr_nil ?_
  refine tr_thenN ?_
  refine tr_seq ?_
  refine tr_region ?_
  refine tr_p (y_move rfl) rfl rfl ?_
  refine tr_p (y_move rfl) rfl rfl ?_
  refine tr_p (y_cmpS cmpS_56 rfl) rfl rfl ?_
  refine tr_p (y_assign rfl) rfl rfl ?_
  refine tr_nil ?_
  refine tr_thenN ?_
  refine tr_ret ?_
  exact tr_ret1 rfl rfl ⟨_, rfl, H⟩

/-- strings.Compare -/
def F.strings_Compare (p0 : ByteArray) (p1 : ByteArray) (h : H) (Q : Int → H → Prop) : Prop :=
  F.internal_bytealg_CompareString p0 p1 h fun r2 h1 =>
  Q r2 h1
theorem F.strings_Compare_ok {p0 : ByteArray} {p1 : ByteArray} {h : H} {Q : Int → H → Prop} (H : F.strings_Compare p0 p1 h Q) : Fn PP 44 ([(.string p0), (.string p1)] : List Value).toArray h fun r h' => ∃ r0, r = (.int .i64 r0) ∧ Q r0 h' := by
  unfold F.strings_Compare at H
  refine fn_of Try.func44 Try.ntmps44 rfl rfl fun w0 => ?_
  refine tr_sub [(0, (.string p0)), (1, (.string p1))] ⟨rfl, rfl, trivial⟩ ?_
  refine tr_seq ?_
  refine tr_region ?_
  refine tr_p (y_assign rfl) rfl rfl ?_
  refine tr_nil ?_
  refine tr_thenN ?_
  refine tr_seq ?_
  refine tr_region ?_
  refine tr_p (y_move rfl) rfl rfl ?_
  refine tr_p (y_move rfl) rfl rfl ?_
  refine tr_e (e_call Try.call52 rfl (F.internal_bytealg_CompareString_ok H)) rfl rfl ?_
  rintro _ h1 ⟨r2, rfl, H⟩
  refine tr_p (y_assign rfl) rfl rfl ?_
  refine tr_nil ?_
  refine tr_thenN ?_
  refine tr_ret ?_
  exact tr_ret1 rfl rfl ⟨_, rfl, H⟩

/-- cmp.isNaN[int64] -/
def F.cmp_isNaN_int64 (p0 : Int) (h : H) (Q : Bool → H → Prop) : Prop :=
  Q ((p0 != p0)) h
theorem F.cmp_isNaN_int64_ok {p0 : Int} {h : H} {Q : Bool → H → Prop} (H : F.cmp_isNaN_int64 p0 h Q) : Fn PP 53 ([(.int .i64 p0)] : List Value).toArray h fun r h' => ∃ r0, r = (.bool r0) ∧ Q r0 h' := by
  unfold F.cmp_isNaN_int64 at H
  refine fn_of Try.func53 Try.ntmps53 rfl rfl fun w0 => ?_
  refine tr_sub [(0, (.int .i64 p0))] ⟨rfl, trivial⟩ ?_
  refine tr_seq ?_
  refine tr_region ?_
  refine tr_p (y_assign rfl) rfl rfl ?_
  refine tr_nil ?_
  refine tr_thenN ?_
  refine tr_seq ?_
  refine tr_region ?_
  refine tr_p (y_move rfl) rfl rfl ?_
  refine tr_p (y_move rfl) rfl rfl ?_
  refine tr_p (y_neq rfl rfl) rfl rfl ?_
  refine tr_p (y_assign rfl) rfl rfl ?_
  refine tr_nil ?_
  refine tr_thenN ?_
  refine tr_ret ?_
  exact tr_ret1 rfl rfl ⟨_, rfl, H⟩

/-- cmp.Compare[int64] -/
def F.cmp_Compare_int64 (p0 : Int) (p1 : Int) (h : H) (Q : Int → H → Prop) : Prop :=
  F.cmp_isNaN_int64 p0 h fun r2 h1 =>
  F.cmp_isNaN_int64 p1 h1 fun r4 h3 =>
  (r2 = true →
  (r4 = true →
  Q 0 h3) ∧
  (r4 = false →
  Q (-1) h3)) ∧
  (r2 = false →
  (r4 = true →
  Q 1 h3) ∧
  (r4 = false →
  ((decide (p0 < p1)) = true →
  Q (-1) h3) ∧
  ((decide (p0 < p1)) = false →
  ((decide (p0 > p1)) = true →
  Q 1 h3) ∧
  ((decide (p0 > p1)) = false →
  Q 0 h3))))
theorem F.cmp_Compare_int64_ok {p0 : Int} {p1 : Int} {h : H} {Q : Int → H → Prop} (H : F.cmp_Compare_int64 p0 p1 h Q) : Fn PP 45 ([(.int .i64 p0), (.int .i64 p1)] : List Value).toArray h fun r h' => ∃ r0, r = (.int .i64 r0) ∧ Q r0 h' := by
  unfold F.cmp_Compare_int64 at H
  refine fn_of Try.func45 Try.ntmps45 rfl rfl fun w0 => ?_
  refine tr_sub [(0, (.int .i64 p0)), (1, (.int .i64 p1))] ⟨rfl, rfl, trivial⟩ ?_
  refine tr_seq ?_
  refine tr_region ?_
  refine tr_p (y_assign rfl) rfl rfl ?_
  refine tr_nil ?_
  refine tr_thenN ?_
  refine tr_seq ?_
  refine tr_region ?_
  refine tr_p (y_move rfl) rfl rfl ?_
  refine tr_e (e_call Try.call53 rfl (F.cmp_isNaN_int64_ok H)) rfl rfl ?_
  rintro _ h1 ⟨r2, rfl, H⟩
  refine tr_p (y_assign rfl) rfl rfl ?_
  refine tr_nil ?_
  refine tr_thenN ?_
  refine tr_seq ?_
  refine tr_region ?_
  refine tr_p (y_move rfl) rfl rfl ?_
  refine tr_e (e_call Try.call53 rfl (F.cmp_isNaN_int64_ok H)) rfl rfl ?_
  rintro _ h3 ⟨r4, rfl, H⟩
  refine tr_p (y_assign rfl) rfl rfl ?_
  refine tr_nil ?_
  refine tr_thenN ?_
  refine tr_seq ?_
  refine tr_seq ?_
  refine tr_region ?_
  refine tr_p (y_move rfl) rfl rfl ?_
  refine tr_nil ?_
  refine tr_thenN ?_
  refine tr_cond rfl (fun g5 => ?_) (fun g5 => ?_)
  · replace H := H.1 g5
    refine tr_seq ?_
    refine tr_seq ?_
    refine tr_region ?_
    refine tr_p (y_move rfl) rfl rfl ?_
    refine tr_nil ?_
    refine tr_thenN ?_
    refine tr_cond rfl (fun g6 => ?_) (fun g6 => ?_)
    · replace H := H.1 g6
      refine tr_seq ?_
      refine tr_region ?_
      refine tr_p (y_assign rfl) rfl rfl ?_
      refine tr_nil ?_
      refine tr_thenN ?_
      refine tr_ret ?_
      refine tr_thenR ?_
      refine tr_thenR ?_
      exact tr_ret1 rfl rfl ⟨_, rfl, H⟩
    · replace H := H.2 g6
      refine tr_skip ?_
      refine tr_thenN ?_
      refine tr_seq ?_
      refine tr_region ?_
      refine tr_p (y_assign rfl) rfl rfl ?_
      refine tr_nil ?_
      refine tr_thenN ?_
      refine tr_ret ?_
      refine tr_thenR ?_
      exact tr_ret1 rfl rfl ⟨_, rfl, H⟩
  · replace H := H.2 g5
    refine tr_skip ?_
    refine tr_thenN ?_
    refine tr_seq ?_
    refine tr_seq ?_
    refine tr_region ?_
    refine tr_p (y_move rfl) rfl rfl ?_
    refine tr_nil ?_
    refine tr_thenN ?_
    refine tr_cond rfl (fun g7 => ?_) (fun g7 => ?_)
    · replace H := H.1 g7
      refine tr_seq ?_
      refine tr_region ?_
      refine tr_p (y_assign rfl) rfl rfl ?_
      refine tr_nil ?_
      refine tr_thenN ?_
      refine tr_ret ?_
      refine tr_thenR ?_
      exact tr_ret1 rfl rfl ⟨_, rfl, H⟩
    · replace H := H.2 g7
      refine tr_skip ?_
      refine tr_thenN ?_
      refine tr_seq ?_
      refine tr_seq ?_
      refine tr_region ?_
      refine tr_p (y_move rfl) rfl rfl ?_
      refine tr_p (y_move rfl) rfl rfl ?_
      refine tr_p (y_lss rfl rfl) rfl rfl ?_
      refine tr_nil ?_
      refine tr_thenN ?_
      refine tr_cond rfl (fun g8 => ?_) (fun g8 => ?_)
      · replace H := H.1 g8
        refine tr_seq ?_
        refine tr_region ?_
        refine tr_p (y_assign rfl) rfl rfl ?_
        refine tr_nil ?_
        refine tr_thenN ?_
        refine tr_ret ?_
        refine tr_thenR ?_
        exact tr_ret1 rfl rfl ⟨_, rfl, H⟩
      · replace H := H.2 g8
        refine tr_skip ?_
        refine tr_thenN ?_
        refine tr_seq ?_
        refine tr_seq ?_
        refine tr_region ?_
        refine tr_p (y_move rfl) rfl rfl ?_
        refine tr_p (y_move rfl) rfl rfl ?_
        refine tr_p (y_gtr rfl rfl) rfl rfl ?_
        refine tr_nil ?_
        refine tr_thenN ?_
        refine tr_cond rfl (fun g9 => ?_) (fun g9 => ?_)
        · replace H := H.1 g9
          refine tr_seq ?_
          refine tr_region ?_
          refine tr_p (y_assign rfl) rfl rfl ?_
          refine tr_nil ?_
          refine tr_thenN ?_
          refine tr_ret ?_
          refine tr_thenR ?_
          exact tr_ret1 rfl rfl ⟨_, rfl, H⟩
        · replace H := H.2 g9
          refine tr_skip ?_
          refine tr_thenN ?_
          refine tr_seq ?_
          refine tr_region ?_
          refine tr_p (y_assign rfl) rfl rfl ?_
          refine tr_nil ?_
          refine tr_thenN ?_
          refine tr_ret ?_
          exact tr_ret1 rfl rfl ⟨_, rfl, H⟩

def F.cmp_Or_int.l1 (Q : Int → H → Prop) : Nat → Int → Sl → Int → Int → H → Prop
  | 0, _, _, _, _, _ => False
  | q1 + 1, x3, x6, x7, x8, h =>
    ((decide (x8 < x7)) = true →
    idxA x6 x8 1 fun a2 =>
    ldI .i64 h a2 fun y4 =>
    (((y4 != x3)) = true →
    Q y4 h) ∧
    (((y4 != x3)) = false →
    (F.cmp_Or_int.l1 Q q1) x3 x6 x7 (IntKind.wrap .i64 (x8 + 1)) h)) ∧
    ((decide (x8 < x7)) = false →
    Q x3 h)
/-- cmp.Or[int] -/
def F.cmp_Or_int (p0 : Sl) (h : H) (Q : Int → H → Prop) : Prop :=
  ∃ m, F.cmp_Or_int.l1 Q m 0 p0 (p0.len : Int) 0 h
theorem F.cmp_Or_int_ok {p0 : Sl} {h : H} {Q : Int → H → Prop} (H : F.cmp_Or_int p0 h Q) : Fn PP 42 ([p0.enc] : List Value).toArray h fun r h' => ∃ r0, r = (.int .i64 r0) ∧ Q r0 h' := by
  unfold F.cmp_Or_int at H
  refine fn_of Try.func42 Try.ntmps42 rfl rfl fun w0 => ?_
  refine tr_sub [(0, p0.enc)] ⟨rfl, trivial⟩ ?_
  refine tr_seq ?_
  refine tr_region ?_
  refine tr_p (y_assign rfl) rfl rfl ?_
  refine tr_nil ?_
  refine tr_thenN ?_
  refine tr_seq ?_
  refine tr_region ?_
  refine tr_p (y_assign rfl) rfl rfl ?_
  refine tr_nil ?_
  refine tr_thenN ?_
  refine tr_seq ?_
  refine tr_seq ?_
  refine tr_region ?_
  refine tr_p (y_move rfl) rfl rfl ?_
  refine tr_p (y_len (ts := #[]) Try.runUnderlying23 (o := p0.ptr) (n := p0.len) (cap := p0.cap) rfl) rfl rfl ?_
  refine tr_p (y_move rfl) rfl rfl ?_
  refine tr_nil ?_
  refine tr_thenN ?_
  refine tr_block ?_
  obtain ⟨m7, H⟩ := H
  refine tr_sub [(3, (.int .i64 0)), (6, p0.enc), (7, (.int .i64 (p0.len : Int))), (8, (.int .i64 0))] ⟨rfl, rfl, rfl, rfl, trivial⟩ ?_
  refine tr_loop_j (fun m L' h => ∃ (x3 : Int) (x6 : Sl) (x7 : Int) (x8 : Int), L' = [(3, (.int .i64 x3)), (6, x6.enc), (7, (.int .i64 x7)), (8, (.int .i64 x8))] ∧ F.cmp_Or_int.l1 Q m x3 x6 x7 x8 h) ?_ ?_ m7 ⟨_, _, _, _, rfl, H⟩
  · rintro L' h ⟨_, _, _, _, _, H⟩; exact H
  · rintro q1 L' h ⟨x3, x6, x7, x8, rfl, H⟩
    unfold F.cmp_Or_int.l1 at H
    refine tr_seq ?_
    refine tr_region ?_
    refine tr_p (y_lss rfl rfl) rfl rfl ?_
    refine tr_nil ?_
    refine tr_thenN ?_
    refine tr_seq ?_
    refine tr_cond rfl (fun g1 => ?_) (fun g1 => ?_)
    · replace H := H.1 g1
      refine tr_skip ?_
      refine tr_thenN ?_
      refine tr_seq ?_
      refine tr_block ?_
      refine tr_seq ?_
      refine tr_region ?_
      obtain ⟨a2, e3, H⟩ := H
      refine tr_p (f_idx (s := x6) Try.runUnderlying23 Try.sizeOf3 rfl rfl e3) rfl rfl ?_
      obtain ⟨y4, k5, H⟩ := H
      refine tr_h (y_ld Try.isAgg3 rfl) k5 rfl rfl ?_
      refine tr_p (y_assign rfl) rfl rfl ?_
      refine tr_nil ?_
      refine tr_thenN ?_
      refine tr_seq ?_
      refine tr_region ?_
      refine tr_p (y_move rfl) rfl rfl ?_
      refine tr_p (y_move rfl) rfl rfl ?_
      refine tr_p (y_neq rfl rfl) rfl rfl ?_
      refine tr_nil ?_
      refine tr_thenN ?_
      refine tr_cond rfl (fun g6 => ?_) (fun g6 => ?_)
      · replace H := H.1 g6
        refine tr_seq ?_
        refine tr_region ?_
        refine tr_p (y_move rfl) rfl rfl ?_
        refine tr_p (y_assign rfl) rfl rfl ?_
        refine tr_nil ?_
        refine tr_thenN ?_
        refine tr_ret ?_
        refine tr_blockR ?_
        refine tr_thenR ?_
        refine tr_thenR ?_
        refine tr_blockR ?_
        refine tr_thenR ?_
        exact tr_ret1 rfl rfl ⟨_, rfl, H⟩
      · replace H := H.2 g6
        refine tr_skip ?_
        refine tr_blockN ?_
        refine tr_thenN ?_
        refine tr_region ?_
        refine tr_p (y_add rfl rfl) rfl rfl ?_
        refine tr_p (y_move rfl) rfl rfl ?_
        refine tr_nil ?_
        refine tr_thenN ?_
        exact tr_join [(3, (.int .i64 x3)), (6, x6.enc), (7, (.int .i64 x7)), (8, (.int .i64 (IntKind.wrap .i64 (x8 + 1))))] ⟨rfl, rfl, rfl, rfl, trivial⟩ ⟨_, _, _, _, rfl, H⟩
    · replace H := H.2 g1
      refine tr_exit ?_
      refine tr_thenE ?_
      refine tr_thenE ?_
      refine tr_hit ?_
      refine tr_thenN ?_
      refine tr_seq ?_
      refine tr_region ?_
      refine tr_p (y_move rfl) rfl rfl ?_
      refine tr_p (y_assign rfl) rfl rfl ?_
      refine tr_nil ?_
      refine tr_thenN ?_
      refine tr_ret ?_
      exact tr_ret1 rfl rfl ⟨_, rfl, H⟩

/-- spate/merge.Compare -/
def F.merge_Compare (p0 : S_api_Cell) (p1 : S_api_Cell) (h : H) (Q : Int → H → Prop) : Prop :=
  new h p0.cells.toArray ty_34 fun a2 h1 =>
  new h1 p1.cells.toArray ty_34 fun a4 h3 =>
  ldI .i64 h3 (a2.add 0) fun y5 =>
  ldI .i64 h3 (a4.add 0) fun y7 =>
  ldS h3 (a2.add 1) fun y9 =>
  ldS h3 (a4.add 1) fun y11 =>
  ldI .i64 h3 (a2.add 2) fun y13 =>
  ldI .i64 h3 (a4.add 2) fun y15 =>
  F.cmp_Compare_int y5 y7 h3 fun r18 h17 =>
  cellH h17 (a4.add 2) = some (.int .i64 y15) ∧
  cellH h17 (a2.add 2) = some (.int .i64 y13) ∧
  cellH h17 (a4.add 1) = some (.string y11) ∧
  cellH h17 (a2.add 1) = some (.string y9) ∧
  F.strings_Compare y9 y11 h17 fun r24 h23 =>
  cellH h23 (a4.add 2) = some (.int .i64 y15) ∧
  cellH h23 (a2.add 2) = some (.int .i64 y13) ∧
  F.cmp_Compare_int64 y13 y15 h23 fun r28 h27 =>
  newL h27 #[(.int .i64 r18), (.int .i64 r24), (.int .i64 r28)] ty_3 3 fun s30 h29 =>
  F.cmp_Or_int s30 h29 fun r32 h31 =>
  Q r32 h31
theorem F.merge_Compare_ok {p0 : S_api_Cell} {p1 : S_api_Cell} {h : H} {Q : Int → H → Prop} (H : F.merge_Compare p0 p1 h Q) : Fn PP 26 ([(.agg p0.cells.toArray), (.agg p1.cells.toArray)] : List Value).toArray h fun r h' => ∃ r0, r = (.int .i64 r0) ∧ Q r0 h' := by
  unfold F.merge_Compare at H
  refine fn_of Try.func26 Try.ntmps26 rfl rfl fun w0 => ?_
  refine tr_sub [(0, (.agg p0.cells.toArray)), (1, (.agg p1.cells.toArray))] ⟨rfl, rfl, trivial⟩ ?_
  refine tr_seq ?_
  refine tr_region ?_
  refine tr_e (f_box (cs := p0.cells.toArray) rfl rfl H) rfl rfl ?_
  rintro _ h1 ⟨a2, rfl, H⟩
  refine tr_e (f_box (cs := p1.cells.toArray) rfl rfl H) rfl rfl ?_
  rintro _ h3 ⟨a4, rfl, H⟩
  refine tr_p (y_assign rfl) rfl rfl ?_
  refine tr_nil ?_
  refine tr_thenN ?_
  refine tr_seq ?_
  refine tr_draw mixed [0, 1, 0, 4, 15, 0, 32, 0, 128, 511, 0, 1024, 0, 4096, 16383, 32767, 65535, 131071] (by kernel_rfl) ?_
  refine g_p 0 1 rfl (by kernel_rfl) (y_fa (off := 0) Try.runUnderlying34 fo_34_0 rfl) rfl rfl ?_
  obtain ⟨y5, k6, H⟩ := H
  refine g_h 1 3 rfl (by kernel_rfl) (y_ld Try.isAgg3 rfl) k6 rfl rfl ?_
  refine g_p 2 7 rfl (by kernel_rfl) (y_fa (off := 0) Try.runUnderlying34 fo_34_0 rfl) rfl rfl ?_
  obtain ⟨y7, k8, H⟩ := H
  refine g_h 3 15 rfl (by kernel_rfl) (y_ld Try.isAgg3 rfl) k8 rfl rfl ?_
  refine g_p 5 47 rfl (by kernel_rfl) (y_fa (off := 1) Try.runUnderlying34 fo_34_1 rfl) rfl rfl ?_
  obtain ⟨y9, k10, H⟩ := H
  refine g_h 6 111 rfl (by kernel_rfl) (y_ld Try.isAgg9 rfl) k10 rfl rfl ?_
  refine g_p 7 239 rfl (by kernel_rfl) (y_fa (off := 1) Try.runUnderlying34 fo_34_1 rfl) rfl rfl ?_
  obtain ⟨y11, k12, H⟩ := H
  refine g_h 8 495 rfl (by kernel_rfl) (y_ld Try.isAgg9 rfl) k12 rfl rfl ?_
  refine g_p 10 1519 rfl (by kernel_rfl) (y_fa (off := 2) Try.runUnderlying34 fo_34_2 rfl) rfl rfl ?_
  obtain ⟨y13, k14, H⟩ := H
  refine g_h 11 3567 rfl (by kernel_rfl) (y_ld Try.isAgg2 rfl) k14 rfl rfl ?_
  refine g_p 12 7663 rfl (by kernel_rfl) (y_fa (off := 2) Try.runUnderlying34 fo_34_2 rfl) rfl rfl ?_
  obtain ⟨y15, k16, H⟩ := H
  refine g_h 13 15855 rfl (by kernel_rfl) (y_ld Try.isAgg2 rfl) k16 rfl rfl ?_
  refine g_e 4 15871 [(13, fun h => cellH h (a4.add 2) = some (.int .i64 y15)), (11, fun h => cellH h (a2.add 2) = some (.int .i64 y13)), (8, fun h => cellH h (a4.add 1) = some (.string y11)), (6, fun h => cellH h (a2.add 1) = some (.string y9))] (by kernel_rfl) rfl (by kernel_rfl) (e_call Try.call43 rfl (F.cmp_Compare_int_ok H)) rfl rfl ?_
  rintro _ h17 ⟨r18, rfl, H⟩
  obtain ⟨k19, k20, k21, k22, H⟩ := H
  refine ⟨And.intro k19 (And.intro k20 (And.intro k21 (And.intro k22 trivial))), ?_⟩
  refine g_e 9 16383 [(13, fun h => cellH h (a4.add 2) = some (.int .i64 y15)), (11, fun h => cellH h (a2.add 2) = some (.int .i64 y13))] (by kernel_rfl) rfl (by kernel_rfl) (e_call Try.call44 rfl (F.strings_Compare_ok H)) rfl rfl ?_
  rintro _ h23 ⟨r24, rfl, H⟩
  obtain ⟨k25, k26, H⟩ := H
  refine ⟨And.intro k25 (And.intro k26 trivial), ?_⟩
  refine g_e 14 32767 [] (by kernel_rfl) rfl (by kernel_rfl) (e_call Try.call45 rfl (F.cmp_Compare_int64_ok H)) rfl rfl ?_
  rintro _ h27 ⟨r28, rfl, H⟩
  refine ⟨trivial, ?_⟩
  refine g_e 15 65535 [] (by kernel_rfl) rfl (by kernel_rfl) (f_buildL (cs := #[(.int .i64 r18), (.int .i64 r24), (.int .i64 r28)]) rfl rfl (bl_23_3_0_1_2 r18 r24 r28) H) rfl rfl ?_
  rintro _ h29 ⟨s30, rfl, H⟩
  refine ⟨trivial, ?_⟩
  refine g_e 16 131071 [] (by kernel_rfl) rfl (by kernel_rfl) (e_call Try.call42 rfl (F.cmp_Or_int_ok H)) rfl rfl ?_
  rintro _ h31 ⟨r32, rfl, H⟩
  refine ⟨trivial, ?_⟩
  refine g_p 17 262143 rfl (by kernel_rfl) (y_assign rfl) rfl rfl ?_
  refine g_d (by kernel_rfl) ?_
  refine tr_thenN ?_
  refine tr_ret ?_
  exact tr_ret1 rfl rfl ⟨_, rfl, H⟩

/-- spate/spateref8.sign -/
def F.spateref8_sign (p0 : Bool) (h : H) (Q : Int → H → Prop) : Prop :=
  (p0 = true →
  Q (-1) h) ∧
  (p0 = false →
  Q 1 h)
theorem F.spateref8_sign_ok {p0 : Bool} {h : H} {Q : Int → H → Prop} (H : F.spateref8_sign p0 h Q) : Fn PP 46 ([(.bool p0)] : List Value).toArray h fun r h' => ∃ r0, r = (.int .i64 r0) ∧ Q r0 h' := by
  unfold F.spateref8_sign at H
  refine fn_of Try.func46 Try.ntmps46 rfl rfl fun w0 => ?_
  refine tr_sub [(0, (.bool p0))] ⟨rfl, trivial⟩ ?_
  refine tr_seq ?_
  refine tr_region ?_
  refine tr_p (y_assign rfl) rfl rfl ?_
  refine tr_nil ?_
  refine tr_thenN ?_
  refine tr_seq ?_
  refine tr_seq ?_
  refine tr_region ?_
  refine tr_p (y_move rfl) rfl rfl ?_
  refine tr_nil ?_
  refine tr_thenN ?_
  refine tr_cond rfl (fun g1 => ?_) (fun g1 => ?_)
  · replace H := H.1 g1
    refine tr_seq ?_
    refine tr_region ?_
    refine tr_p (y_assign rfl) rfl rfl ?_
    refine tr_nil ?_
    refine tr_thenN ?_
    refine tr_ret ?_
    refine tr_thenR ?_
    exact tr_ret1 rfl rfl ⟨_, rfl, H⟩
  · replace H := H.2 g1
    refine tr_skip ?_
    refine tr_thenN ?_
    refine tr_seq ?_
    refine tr_region ?_
    refine tr_p (y_assign rfl) rfl rfl ?_
    refine tr_nil ?_
    refine tr_thenN ?_
    refine tr_ret ?_
    exact tr_ret1 rfl rfl ⟨_, rfl, H⟩

/-- spate/spateref8.Compare -/
def F.spateref8_Compare (p0 : S_api_Cell) (p1 : S_api_Cell) (h : H) (Q : Int → H → Prop) : Prop :=
  new h p0.cells.toArray ty_34 fun a2 h1 =>
  new h1 p1.cells.toArray ty_34 fun a4 h3 =>
  ldI .i64 h3 (a2.add 0) fun y5 =>
  ldI .i64 h3 (a4.add 0) fun y7 =>
  (((y5 != y7)) = true →
  ldI .i64 h3 (a2.add 0) fun y10 =>
  ldI .i64 h3 (a4.add 0) fun y12 =>
  F.spateref8_sign (decide (y10 < y12)) h3 fun r15 h14 =>
  Q r15 h14) ∧
  (((y5 != y7)) = false →
  ldS h3 (a2.add 1) fun y16 =>
  ldS h3 (a4.add 1) fun y18 =>
  ((!(y16.toList == y18.toList)) = true →
  ldS h3 (a2.add 1) fun y21 =>
  ldS h3 (a4.add 1) fun y23 =>
  F.spateref8_sign (Op.bytesLess y21.toList y23.toList) h3 fun r26 h25 =>
  Q r26 h25) ∧
  ((!(y16.toList == y18.toList)) = false →
  ldI .i64 h3 (a2.add 2) fun y27 =>
  ldI .i64 h3 (a4.add 2) fun y29 =>
  (((y27 != y29)) = true →
  ldI .i64 h3 (a2.add 2) fun y32 =>
  ldI .i64 h3 (a4.add 2) fun y34 =>
  F.spateref8_sign (decide (y32 < y34)) h3 fun r37 h36 =>
  Q r37 h36) ∧
  (((y27 != y29)) = false →
  Q 0 h3)))
theorem F.spateref8_Compare_ok {p0 : S_api_Cell} {p1 : S_api_Cell} {h : H} {Q : Int → H → Prop} (H : F.spateref8_Compare p0 p1 h Q) : Fn PP 27 ([(.agg p0.cells.toArray), (.agg p1.cells.toArray)] : List Value).toArray h fun r h' => ∃ r0, r = (.int .i64 r0) ∧ Q r0 h' := by
  unfold F.spateref8_Compare at H
  refine fn_of Try.func27 Try.ntmps27 rfl rfl fun w0 => ?_
  refine tr_sub [(0, (.agg p0.cells.toArray)), (1, (.agg p1.cells.toArray))] ⟨rfl, rfl, trivial⟩ ?_
  refine tr_seq ?_
  refine tr_region ?_
  refine tr_e (f_box (cs := p0.cells.toArray) rfl rfl H) rfl rfl ?_
  rintro _ h1 ⟨a2, rfl, H⟩
  refine tr_e (f_box (cs := p1.cells.toArray) rfl rfl H) rfl rfl ?_
  rintro _ h3 ⟨a4, rfl, H⟩
  refine tr_p (y_assign rfl) rfl rfl ?_
  refine tr_nil ?_
  refine tr_thenN ?_
  refine tr_seq ?_
  refine tr_block ?_
  refine tr_seq ?_
  refine tr_region ?_
  refine tr_p (y_fa (off := 0) Try.runUnderlying34 fo_34_0 rfl) rfl rfl ?_
  obtain ⟨y5, k6, H⟩ := H
  refine tr_h (y_ld Try.isAgg3 rfl) k6 rfl rfl ?_
  refine tr_p (y_fa (off := 0) Try.runUnderlying34 fo_34_0 rfl) rfl rfl ?_
  obtain ⟨y7, k8, H⟩ := H
  refine tr_h (y_ld Try.isAgg3 rfl) k8 rfl rfl ?_
  refine tr_p (y_neq rfl rfl) rfl rfl ?_
  refine tr_p (y_assign rfl) rfl rfl ?_
  refine tr_nil ?_
  refine tr_thenN ?_
  refine tr_cond rfl (fun g9 => ?_) (fun g9 => ?_)
  · replace H := H.1 g9
    refine tr_seq ?_
    refine tr_region ?_
    refine tr_p (y_fa (off := 0) Try.runUnderlying34 fo_34_0 rfl) rfl rfl ?_
    obtain ⟨y10, k11, H⟩ := H
    refine tr_h (y_ld Try.isAgg3 rfl) k11 rfl rfl ?_
    refine tr_p (y_fa (off := 0) Try.runUnderlying34 fo_34_0 rfl) rfl rfl ?_
    obtain ⟨y12, k13, H⟩ := H
    refine tr_h (y_ld Try.isAgg3 rfl) k13 rfl rfl ?_
    refine tr_p (y_lss rfl rfl) rfl rfl ?_
    refine tr_e (e_call Try.call46 rfl (F.spateref8_sign_ok H)) rfl rfl ?_
    rintro _ h14 ⟨r15, rfl, H⟩
    refine tr_p (y_assign rfl) rfl rfl ?_
    refine tr_nil ?_
    refine tr_thenN ?_
    refine tr_ret ?_
    refine tr_blockR ?_
    refine tr_thenR ?_
    exact tr_ret1 rfl rfl ⟨_, rfl, H⟩
  · replace H := H.2 g9
    refine tr_seq ?_
    refine tr_region ?_
    refine tr_p (y_fa (off := 1) Try.runUnderlying34 fo_34_1 rfl) rfl rfl ?_
    obtain ⟨y16, k17, H⟩ := H
    refine tr_h (y_ld Try.isAgg9 rfl) k17 rfl rfl ?_
    refine tr_p (y_fa (off := 1) Try.runUnderlying34 fo_34_1 rfl) rfl rfl ?_
    obtain ⟨y18, k19, H⟩ := H
    refine tr_h (y_ld Try.isAgg9 rfl) k19 rfl rfl ?_
    refine tr_p (y_sneq rfl rfl) rfl rfl ?_
    refine tr_p (y_assign rfl) rfl rfl ?_
    refine tr_nil ?_
    refine tr_thenN ?_
    refine tr_cond rfl (fun g20 => ?_) (fun g20 => ?_)
    · replace H := H.1 g20
      refine tr_seq ?_
      refine tr_region ?_
      refine tr_p (y_fa (off := 1) Try.runUnderlying34 fo_34_1 rfl) rfl rfl ?_
      obtain ⟨y21, k22, H⟩ := H
      refine tr_h (y_ld Try.isAgg9 rfl) k22 rfl rfl ?_
      refine tr_p (y_fa (off := 1) Try.runUnderlying34 fo_34_1 rfl) rfl rfl ?_
      obtain ⟨y23, k24, H⟩ := H
      refine tr_h (y_ld Try.isAgg9 rfl) k24 rfl rfl ?_
      refine tr_p (y_slss rfl rfl) rfl rfl ?_
      refine tr_e (e_call Try.call46 rfl (F.spateref8_sign_ok H)) rfl rfl ?_
      rintro _ h25 ⟨r26, rfl, H⟩
      refine tr_p (y_assign rfl) rfl rfl ?_
      refine tr_nil ?_
      refine tr_thenN ?_
      refine tr_ret ?_
      refine tr_blockR ?_
      refine tr_thenR ?_
      exact tr_ret1 rfl rfl ⟨_, rfl, H⟩
    · replace H := H.2 g20
      refine tr_seq ?_
      refine tr_region ?_
      refine tr_p (y_fa (off := 2) Try.runUnderlying34 fo_34_2 rfl) rfl rfl ?_
      obtain ⟨y27, k28, H⟩ := H
      refine tr_h (y_ld Try.isAgg2 rfl) k28 rfl rfl ?_
      refine tr_p (y_fa (off := 2) Try.runUnderlying34 fo_34_2 rfl) rfl rfl ?_
      obtain ⟨y29, k30, H⟩ := H
      refine tr_h (y_ld Try.isAgg2 rfl) k30 rfl rfl ?_
      refine tr_p (y_neq rfl rfl) rfl rfl ?_
      refine tr_p (y_assign rfl) rfl rfl ?_
      refine tr_nil ?_
      refine tr_thenN ?_
      refine tr_cond rfl (fun g31 => ?_) (fun g31 => ?_)
      · replace H := H.1 g31
        refine tr_seq ?_
        refine tr_region ?_
        refine tr_p (y_fa (off := 2) Try.runUnderlying34 fo_34_2 rfl) rfl rfl ?_
        obtain ⟨y32, k33, H⟩ := H
        refine tr_h (y_ld Try.isAgg2 rfl) k33 rfl rfl ?_
        refine tr_p (y_fa (off := 2) Try.runUnderlying34 fo_34_2 rfl) rfl rfl ?_
        obtain ⟨y34, k35, H⟩ := H
        refine tr_h (y_ld Try.isAgg2 rfl) k35 rfl rfl ?_
        refine tr_p (y_lss rfl rfl) rfl rfl ?_
        refine tr_e (e_call Try.call46 rfl (F.spateref8_sign_ok H)) rfl rfl ?_
        rintro _ h36 ⟨r37, rfl, H⟩
        refine tr_p (y_assign rfl) rfl rfl ?_
        refine tr_nil ?_
        refine tr_thenN ?_
        refine tr_ret ?_
        refine tr_blockR ?_
        refine tr_thenR ?_
        exact tr_ret1 rfl rfl ⟨_, rfl, H⟩
      · replace H := H.2 g31
        refine tr_skip ?_
        refine tr_blockN ?_
        refine tr_thenN ?_
        refine tr_seq ?_
        refine tr_region ?_
        refine tr_p (y_assign rfl) rfl rfl ?_
        refine tr_nil ?_
        refine tr_thenN ?_
        refine tr_ret ?_
        exact tr_ret1 rfl rfl ⟨_, rfl, H⟩

def F.spatelaw8_MergeKeys.j1 (Q : Bool → H → Prop) (x3 : Addr) (x4 : Addr) (x7 : ByteArray) (x8 : Int) (x9 : ByteArray) (x10 : Int) (x11 : Addr) (x12 : Int) (x13 : Addr) (x14 : Int) (h : H) : Prop :=
  ((x7.toList == x9.toList) = true →
  (((x8 == x10)) = true →
  ld_S_api_Cell h x11 fun y32 =>
  ld_S_api_Cell h x13 fun y34 =>
  (((y32.View == y34.View) && ((y32.Key.toList == y34.Key.toList) && ((y32.Start == y34.Start) && true))) = true →
  (((x12 == x14)) = true →
  ld_S_api_Cell h x3 fun y38 =>
  ld_S_api_Cell h x4 fun y40 =>
  ld_S_api_Cell h x3 fun y42 =>
  ld_S_api_Cell h x4 fun y44 =>
  F.merge_Compare y38 y40 h fun r47 h46 =>
  Cells h46 x4 y44.cells ∧
  Cells h46 x3 y42.cells ∧
  F.spateref8_Compare y42 y44 h46 fun r51 h50 =>
  (((r47 == r51)) = true →
  ld_S_api_Cell h50 x4 fun y53 =>
  ld_S_api_Cell h50 x3 fun y55 =>
  ld_S_api_Cell h50 x4 fun y57 =>
  ld_S_api_Cell h50 x3 fun y59 =>
  F.merge_Compare y53 y55 h50 fun r62 h61 =>
  Cells h61 x3 y59.cells ∧
  Cells h61 x4 y57.cells ∧
  F.spateref8_Compare y57 y59 h61 fun r66 h65 =>
  (((r62 == r66)) = true →
  ld_S_api_Cell h65 x3 fun y68 =>
  ld_S_api_Cell h65 x3 fun y70 =>
  F.merge_Compare y68 y70 h65 fun r73 h72 =>
  Q ((r73 == 0)) h72) ∧
  (((r62 == r66)) = false →
  Q false h65)) ∧
  (((r47 == r51)) = false →
  Q false h50)) ∧
  (((x12 == x14)) = false →
  Q false h)) ∧
  (((y32.View == y34.View) && ((y32.Key.toList == y34.Key.toList) && ((y32.Start == y34.Start) && true))) = false →
  Q false h)) ∧
  (((x8 == x10)) = false →
  Q false h)) ∧
  ((x7.toList == x9.toList) = false →
  Q false h)
/-- spate/spatelaw8.MergeKeys -/
def F.spatelaw8_MergeKeys (p0 : S_api_Cell) (p1 : S_api_Cell) (p2 : ByteArray) (h : H) (Q : Bool → H → Prop) : Prop :=
  new h p0.cells.toArray ty_34 fun a2 h1 =>
  new h1 p1.cells.toArray ty_34 fun a4 h3 =>
  F.spatelaw8_known  h3 fun r6 h5 =>
  ((!r6) = true →
  Q false h5) ∧
  ((!r6) = false →
  ld_S_api_Cell h5 a2 fun y8 =>
  F.merge_Key y8 h5 fun r11 r12 h10 =>
  ld_S_api_Cell h10 a2 fun y13 =>
  F.spateref8_Key y13 h10 fun r16 r17 h15 =>
  F.merge_Cell p2 h15 fun r19 r20 h18 =>
  new h18 (((⟨0, (⟨#[]⟩ : ByteArray), 0⟩ : S_api_Cell) : S_api_Cell).cells.toArray) ty_34 fun a22 h21 =>
  stH h21 a22 r19.cells fun h23 =>
  F.spateref8_Cell p2 h23 fun r25 r26 h24 =>
  new h24 (((⟨0, (⟨#[]⟩ : ByteArray), 0⟩ : S_api_Cell) : S_api_Cell).cells.toArray) ty_34 fun a28 h27 =>
  stH h27 a28 r25.cells fun h29 =>
  (((r26 != 0)) = true →
  stH h29 a28 ((⟨0, (⟨#[]⟩ : ByteArray), 0⟩ : S_api_Cell).cells) fun h75 =>
  F.spatelaw8_MergeKeys.j1 Q a2 a4 r11 r12 r16 r17 a22 r20 a28 r26 h75) ∧
  (((r26 != 0)) = false →
  F.spatelaw8_MergeKeys.j1 Q a2 a4 r11 r12 r16 r17 a22 r20 a28 r26 h29))
theorem F.spatelaw8_MergeKeys_ok {p0 : S_api_Cell} {p1 : S_api_Cell} {p2 : ByteArray} {h : H} {Q : Bool → H → Prop} (H : F.spatelaw8_MergeKeys p0 p1 p2 h Q) : Fn PP 6 ([(.agg p0.cells.toArray), (.agg p1.cells.toArray), (.string p2)] : List Value).toArray h fun r h' => ∃ r0, r = (.bool r0) ∧ Q r0 h' := by
  unfold F.spatelaw8_MergeKeys at H
  refine fn_of Try.func6 Try.ntmps6 rfl rfl fun w0 => ?_
  refine tr_sub [(0, (.agg p0.cells.toArray)), (1, (.agg p1.cells.toArray)), (2, (.string p2))] ⟨rfl, rfl, rfl, trivial⟩ ?_
  refine tr_seq ?_
  refine tr_region ?_
  refine tr_e (f_box (cs := p0.cells.toArray) rfl rfl H) rfl rfl ?_
  rintro _ h1 ⟨a2, rfl, H⟩
  refine tr_e (f_box (cs := p1.cells.toArray) rfl rfl H) rfl rfl ?_
  rintro _ h3 ⟨a4, rfl, H⟩
  refine tr_p (y_assign rfl) rfl rfl ?_
  refine tr_nil ?_
  refine tr_thenN ?_
  refine tr_seq ?_
  refine tr_seq ?_
  refine tr_region ?_
  refine tr_e (e_call Try.call15 rfl (F.spatelaw8_known_ok H)) rfl rfl ?_
  rintro _ h5 ⟨r6, rfl, H⟩
  refine tr_p (y_not rfl) rfl rfl ?_
  refine tr_nil ?_
  refine tr_thenN ?_
  refine tr_cond rfl (fun g7 => ?_) (fun g7 => ?_)
  · replace H := H.1 g7
    refine tr_seq ?_
    refine tr_region ?_
    refine tr_p (y_assign rfl) rfl rfl ?_
    refine tr_nil ?_
    refine tr_thenN ?_
    refine tr_ret ?_
    refine tr_thenR ?_
    exact tr_ret1 rfl rfl ⟨_, rfl, H⟩
  · replace H := H.2 g7
    refine tr_skip ?_
    refine tr_thenN ?_
    refine tr_seq ?_
    refine tr_region ?_
    obtain ⟨y8, k9, H⟩ := H
    refine tr_h (y_ldS Try.isAgg34 Try.sizeOf34 rfl rfl) k9 rfl rfl ?_
    refine tr_e (e_call Try.call23 rfl (F.merge_Key_ok H)) rfl rfl ?_
    rintro _ h10 ⟨r11, r12, rfl, H⟩
    refine tr_p (y_move rfl) rfl rfl ?_
    refine tr_p (y_ext rfl rfl) rfl rfl ?_
    refine tr_p (y_ext rfl rfl) rfl rfl ?_
    refine tr_p (y_assign rfl) rfl rfl ?_
    refine tr_p (y_assign rfl) rfl rfl ?_
    refine tr_nil ?_
    refine tr_thenN ?_
    refine tr_seq ?_
    refine tr_region ?_
    obtain ⟨y13, k14, H⟩ := H
    refine tr_h (y_ldS Try.isAgg34 Try.sizeOf34 rfl rfl) k14 rfl rfl ?_
    refine tr_e (e_call Try.call24 rfl (F.spateref8_Key_ok H)) rfl rfl ?_
    rintro _ h15 ⟨r16, r17, rfl, H⟩
    refine tr_p (y_move rfl) rfl rfl ?_
    refine tr_p (y_ext rfl rfl) rfl rfl ?_
    refine tr_p (y_ext rfl rfl) rfl rfl ?_
    refine tr_p (y_assign rfl) rfl rfl ?_
    refine tr_p (y_assign rfl) rfl rfl ?_
    refine tr_nil ?_
    refine tr_thenN ?_
    refine tr_seq ?_
    refine tr_region ?_
    refine tr_p (y_move rfl) rfl rfl ?_
    refine tr_e (e_call Try.call22 rfl (F.merge_Cell_ok H)) rfl rfl ?_
    rintro _ h18 ⟨r19, r20, rfl, H⟩
    refine tr_p (y_move rfl) rfl rfl ?_
    refine tr_p (y_ext rfl rfl) rfl rfl ?_
    refine tr_p (y_ext rfl rfl) rfl rfl ?_
    refine tr_e (f_alloc (cs := ((⟨0, (⟨#[]⟩ : ByteArray), 0⟩ : S_api_Cell) : S_api_Cell).cells.toArray) Try.zeroValue34 rfl H) rfl rfl ?_
    rintro _ h21 ⟨a22, rfl, H⟩
    refine tr_e (f_store (vs := r19.cells) Try.sizeOf34 rfl rfl cellsOfStruct rfl (by intro v hv; exact ones_S_api_Cell _ v hv) H) rfl rfl ?_
    rintro _ h23 ⟨rfl, H⟩
    refine tr_p (y_assign rfl) rfl rfl ?_
    refine tr_nil ?_
    refine tr_thenN ?_
    refine tr_seq ?_
    refine tr_region ?_
    refine tr_p (y_move rfl) rfl rfl ?_
    refine tr_e (e_call Try.call25 rfl (F.spateref8_Cell_ok H)) rfl rfl ?_
    rintro _ h24 ⟨r25, r26, rfl, H⟩
    refine tr_p (y_move rfl) rfl rfl ?_
    refine tr_p (y_ext rfl rfl) rfl rfl ?_
    refine tr_p (y_ext rfl rfl) rfl rfl ?_
    refine tr_e (f_alloc (cs := ((⟨0, (⟨#[]⟩ : ByteArray), 0⟩ : S_api_Cell) : S_api_Cell).cells.toArray) Try.zeroValue34 rfl H) rfl rfl ?_
    rintro _ h27 ⟨a28, rfl, H⟩
    refine tr_e (f_store (vs := r25.cells) Try.sizeOf34 rfl rfl cellsOfStruct rfl (by intro v hv; exact ones_S_api_Cell _ v hv) H) rfl rfl ?_
    rintro _ h29 ⟨rfl, H⟩
    refine tr_p (y_assign rfl) rfl rfl ?_
    refine tr_nil ?_
    refine tr_thenN ?_
    refine tr_seq_j (fun L' h => ∃ (x3 : Addr) (x4 : Addr) (x7 : ByteArray) (x8 : Int) (x9 : ByteArray) (x10 : Int) (x11 : Addr) (x12 : Int) (x13 : Addr) (x14 : Int), L' = [(3, (.pointer (some x3))), (4, (.pointer (some x4))), (7, (.string x7)), (8, (.int .i64 x8)), (9, (.string x9)), (10, (.int .i64 x10)), (11, (.pointer (some x11))), (12, (.int .i64 x12)), (13, (.pointer (some x13))), (14, (.int .i64 x14))] ∧ F.spatelaw8_MergeKeys.j1 Q x3 x4 x7 x8 x9 x10 x11 x12 x13 x14 h) ?_ ?_
    · rintro L' h ⟨x3, x4, x7, x8, x9, x10, x11, x12, x13, x14, rfl, H⟩
      unfold F.spatelaw8_MergeKeys.j1 at H
      refine tr_seq ?_
      refine tr_draw mixed [0, 0, 3, 7, 15, 15, 63, 127, 255, 511, 511, 2047, 4095, 8191, 16383, 16383, 65535, 131071, 262143, 524287, 524287, 2097151, 524287, 524287, 16777215, 33554431, 67108863, 134217727, 268435455, 268435455, 1073741823, 268435455, 268435455, 8589934591, 17179869183, 34359738367, 68719476735, 137438953471, 137438953471, 549755813887, 1099511627775, 2199023255551, 4398046511103] (by kernel_rfl) ?_
      refine g_p 0 1 rfl (by kernel_rfl) (y_move rfl) rfl rfl ?_
      refine g_p 1 3 rfl (by kernel_rfl) (y_move rfl) rfl rfl ?_
      refine g_p 2 7 rfl (by kernel_rfl) (y_seql rfl rfl) rfl rfl ?_
      refine g_p 3 15 rfl (by kernel_rfl) (y_move rfl) rfl rfl ?_
      refine g_split (t := 43) rfl (fun g30 => ?_) (fun g30 => ?_)
      · replace H := H.1 g30
        refine g_p 4 31 rfl (by kernel_rfl) (y_move rfl) rfl rfl ?_
        refine g_p 5 63 rfl (by kernel_rfl) (y_move rfl) rfl rfl ?_
        refine g_p 6 127 rfl (by kernel_rfl) (y_eql rfl rfl) rfl rfl ?_
        refine g_p 7 255 rfl (by kernel_rfl) (y_pick_t rfl rfl) rfl rfl ?_
        refine g_p 8 511 rfl (by kernel_rfl) (y_move rfl) rfl rfl ?_
        refine g_split (t := 48) rfl (fun g31 => ?_) (fun g31 => ?_)
        · replace H := H.1 g31
          obtain ⟨y32, k33, H⟩ := H
          refine g_h 9 1023 rfl (by kernel_rfl) (y_ldS Try.isAgg34 Try.sizeOf34 rfl rfl) k33 rfl rfl ?_
          obtain ⟨y34, k35, H⟩ := H
          refine g_h 10 2047 rfl (by kernel_rfl) (y_ldS Try.isAgg34 Try.sizeOf34 rfl rfl) k35 rfl rfl ?_
          refine g_p 11 4095 rfl (by kernel_rfl) (st_eql (b := ((y32.View == y34.View) && ((y32.Key.toList == y34.Key.toList) && ((y32.Start == y34.Start) && true)))) eqg_34 (fun w => eqst_34 y32 y34 9998 w) rfl rfl) rfl rfl ?_
          refine g_p 12 8191 rfl (by kernel_rfl) (y_pick_t rfl rfl) rfl rfl ?_
          refine g_p 13 16383 rfl (by kernel_rfl) (y_move rfl) rfl rfl ?_
          refine g_split (t := 53) rfl (fun g36 => ?_) (fun g36 => ?_)
          · replace H := H.1 g36
            refine g_p 14 32767 rfl (by kernel_rfl) (y_move rfl) rfl rfl ?_
            refine g_p 15 65535 rfl (by kernel_rfl) (y_move rfl) rfl rfl ?_
            refine g_p 16 131071 rfl (by kernel_rfl) (y_eql rfl rfl) rfl rfl ?_
            refine g_p 17 262143 rfl (by kernel_rfl) (y_pick_t rfl rfl) rfl rfl ?_
            refine g_p 18 524287 rfl (by kernel_rfl) (y_move rfl) rfl rfl ?_
            refine g_split (t := 58) rfl (fun g37 => ?_) (fun g37 => ?_)
            · replace H := H.1 g37
              obtain ⟨y38, k39, H⟩ := H
              refine g_h 19 1048575 rfl (by kernel_rfl) (y_ldS Try.isAgg34 Try.sizeOf34 rfl rfl) k39 rfl rfl ?_
              obtain ⟨y40, k41, H⟩ := H
              refine g_h 20 2097151 rfl (by kernel_rfl) (y_ldS Try.isAgg34 Try.sizeOf34 rfl rfl) k41 rfl rfl ?_
              obtain ⟨y42, k43, H⟩ := H
              refine g_h 22 6291455 rfl (by kernel_rfl) (y_ldS Try.isAgg34 Try.sizeOf34 rfl rfl) k43 rfl rfl ?_
              obtain ⟨y44, k45, H⟩ := H
              refine g_h 23 14680063 rfl (by kernel_rfl) (y_ldS Try.isAgg34 Try.sizeOf34 rfl rfl) k45 rfl rfl ?_
              refine g_e 21 16777215 [(23, fun h => Cells h x4 y44.cells), (22, fun h => Cells h x3 y42.cells)] (by kernel_rfl) rfl (by kernel_rfl) (e_call Try.call26 rfl (F.merge_Compare_ok H)) rfl rfl ?_
              rintro _ h46 ⟨r47, rfl, H⟩
              obtain ⟨k48, k49, H⟩ := H
              refine ⟨And.intro k48 (And.intro k49 trivial), ?_⟩
              refine g_e 24 33554431 [] (by kernel_rfl) rfl (by kernel_rfl) (e_call Try.call27 rfl (F.spateref8_Compare_ok H)) rfl rfl ?_
              rintro _ h50 ⟨r51, rfl, H⟩
              refine ⟨trivial, ?_⟩
              refine g_p 25 67108863 rfl (by kernel_rfl) (y_eql rfl rfl) rfl rfl ?_
              refine g_p 26 134217727 rfl (by kernel_rfl) (y_pick_t rfl rfl) rfl rfl ?_
              refine g_p 27 268435455 rfl (by kernel_rfl) (y_move rfl) rfl rfl ?_
              refine g_split (t := 67) rfl (fun g52 => ?_) (fun g52 => ?_)
              · replace H := H.1 g52
                obtain ⟨y53, k54, H⟩ := H
                refine g_h 28 536870911 rfl (by kernel_rfl) (y_ldS Try.isAgg34 Try.sizeOf34 rfl rfl) k54 rfl rfl ?_
                obtain ⟨y55, k56, H⟩ := H
                refine g_h 29 1073741823 rfl (by kernel_rfl) (y_ldS Try.isAgg34 Try.sizeOf34 rfl rfl) k56 rfl rfl ?_
                obtain ⟨y57, k58, H⟩ := H
                refine g_h 31 3221225471 rfl (by kernel_rfl) (y_ldS Try.isAgg34 Try.sizeOf34 rfl rfl) k58 rfl rfl ?_
                obtain ⟨y59, k60, H⟩ := H
                refine g_h 32 7516192767 rfl (by kernel_rfl) (y_ldS Try.isAgg34 Try.sizeOf34 rfl rfl) k60 rfl rfl ?_
                refine g_e 30 8589934591 [(32, fun h => Cells h x3 y59.cells), (31, fun h => Cells h x4 y57.cells)] (by kernel_rfl) rfl (by kernel_rfl) (e_call Try.call26 rfl (F.merge_Compare_ok H)) rfl rfl ?_
                rintro _ h61 ⟨r62, rfl, H⟩
                obtain ⟨k63, k64, H⟩ := H
                refine ⟨And.intro k63 (And.intro k64 trivial), ?_⟩
                refine g_e 33 17179869183 [] (by kernel_rfl) rfl (by kernel_rfl) (e_call Try.call27 rfl (F.spateref8_Compare_ok H)) rfl rfl ?_
                rintro _ h65 ⟨r66, rfl, H⟩
                refine ⟨trivial, ?_⟩
                refine g_p 34 34359738367 rfl (by kernel_rfl) (y_eql rfl rfl) rfl rfl ?_
                refine g_p 35 68719476735 rfl (by kernel_rfl) (y_pick_t rfl rfl) rfl rfl ?_
                refine g_p 36 137438953471 rfl (by kernel_rfl) (y_move rfl) rfl rfl ?_
                refine g_split (t := 76) rfl (fun g67 => ?_) (fun g67 => ?_)
                · replace H := H.1 g67
                  obtain ⟨y68, k69, H⟩ := H
                  refine g_h 37 274877906943 rfl (by kernel_rfl) (y_ldS Try.isAgg34 Try.sizeOf34 rfl rfl) k69 rfl rfl ?_
                  obtain ⟨y70, k71, H⟩ := H
                  refine g_h 38 549755813887 rfl (by kernel_rfl) (y_ldS Try.isAgg34 Try.sizeOf34 rfl rfl) k71 rfl rfl ?_
                  refine g_e 39 1099511627775 [] (by kernel_rfl) rfl (by kernel_rfl) (e_call Try.call26 rfl (F.merge_Compare_ok H)) rfl rfl ?_
                  rintro _ h72 ⟨r73, rfl, H⟩
                  refine ⟨trivial, ?_⟩
                  refine g_p 40 2199023255551 rfl (by kernel_rfl) (y_eql rfl rfl) rfl rfl ?_
                  refine g_p 41 4398046511103 rfl (by kernel_rfl) (y_pick_t rfl rfl) rfl rfl ?_
                  refine g_p 42 8796093022207 rfl (by kernel_rfl) (y_assign rfl) rfl rfl ?_
                  refine g_d (by kernel_rfl) ?_
                  refine tr_thenN ?_
                  refine tr_ret ?_
                  exact tr_ret1 rfl rfl ⟨_, rfl, H⟩
                · replace H := H.2 g67
                  refine g_s 37 274877906943 rfl (by kernel_rfl) rfl rfl ?_
                  refine g_s 38 549755813887 rfl (by kernel_rfl) rfl rfl ?_
                  refine g_s 39 1099511627775 rfl (by kernel_rfl) rfl rfl ?_
                  refine g_s 40 2199023255551 rfl (by kernel_rfl) rfl rfl ?_
                  refine g_p 41 4398046511103 rfl (by kernel_rfl) (y_pick_f rfl rfl) rfl rfl ?_
                  refine g_p 42 8796093022207 rfl (by kernel_rfl) (y_assign rfl) rfl rfl ?_
                  refine g_d (by kernel_rfl) ?_
                  refine tr_thenN ?_
                  refine tr_ret ?_
                  exact tr_ret1 rfl rfl ⟨_, rfl, H⟩
              · replace H := H.2 g52
                refine g_s 28 536870911 rfl (by kernel_rfl) rfl rfl ?_
                refine g_s 29 1073741823 rfl (by kernel_rfl) rfl rfl ?_
                refine g_s 30 2147483647 rfl (by kernel_rfl) rfl rfl ?_
                refine g_s 31 4294967295 rfl (by kernel_rfl) rfl rfl ?_
                refine g_s 32 8589934591 rfl (by kernel_rfl) rfl rfl ?_
                refine g_s 33 17179869183 rfl (by kernel_rfl) rfl rfl ?_
                refine g_s 34 34359738367 rfl (by kernel_rfl) rfl rfl ?_
                refine g_p 35 68719476735 rfl (by kernel_rfl) (y_pick_f rfl rfl) rfl rfl ?_
                refine g_p 36 137438953471 rfl (by kernel_rfl) (y_move rfl) rfl rfl ?_
                refine g_s 37 274877906943 rfl (by kernel_rfl) rfl rfl ?_
                refine g_s 38 549755813887 rfl (by kernel_rfl) rfl rfl ?_
                refine g_s 39 1099511627775 rfl (by kernel_rfl) rfl rfl ?_
                refine g_s 40 2199023255551 rfl (by kernel_rfl) rfl rfl ?_
                refine g_p 41 4398046511103 rfl (by kernel_rfl) (y_pick_f rfl rfl) rfl rfl ?_
                refine g_p 42 8796093022207 rfl (by kernel_rfl) (y_assign rfl) rfl rfl ?_
                refine g_d (by kernel_rfl) ?_
                refine tr_thenN ?_
                refine tr_ret ?_
                exact tr_ret1 rfl rfl ⟨_, rfl, H⟩
            · replace H := H.2 g37
              refine g_s 19 1048575 rfl (by kernel_rfl) rfl rfl ?_
              refine g_s 20 2097151 rfl (by kernel_rfl) rfl rfl ?_
              refine g_s 21 4194303 rfl (by kernel_rfl) rfl rfl ?_
              refine g_s 22 8388607 rfl (by kernel_rfl) rfl rfl ?_
              refine g_s 23 16777215 rfl (by kernel_rfl) rfl rfl ?_
              refine g_s 24 33554431 rfl (by kernel_rfl) rfl rfl ?_
              refine g_s 25 67108863 rfl (by kernel_rfl) rfl rfl ?_
              refine g_p 26 134217727 rfl (by kernel_rfl) (y_pick_f rfl rfl) rfl rfl ?_
              refine g_p 27 268435455 rfl (by kernel_rfl) (y_move rfl) rfl rfl ?_
              refine g_s 28 536870911 rfl (by kernel_rfl) rfl rfl ?_
              refine g_s 29 1073741823 rfl (by kernel_rfl) rfl rfl ?_
              refine g_s 30 2147483647 rfl (by kernel_rfl) rfl rfl ?_
              refine g_s 31 4294967295 rfl (by kernel_rfl) rfl rfl ?_
              refine g_s 32 8589934591 rfl (by kernel_rfl) rfl rfl ?_
              refine g_s 33 17179869183 rfl (by kernel_rfl) rfl rfl ?_
              refine g_s 34 34359738367 rfl (by kernel_rfl) rfl rfl ?_
              refine g_p 35 68719476735 rfl (by kernel_rfl) (y_pick_f rfl rfl) rfl rfl ?_
              refine g_p 36 137438953471 rfl (by kernel_rfl) (y_move rfl) rfl rfl ?_
              refine g_s 37 274877906943 rfl (by kernel_rfl) rfl rfl ?_
              refine g_s 38 549755813887 rfl (by kernel_rfl) rfl rfl ?_
              refine g_s 39 1099511627775 rfl (by kernel_rfl) rfl rfl ?_
              refine g_s 40 2199023255551 rfl (by kernel_rfl) rfl rfl ?_
              refine g_p 41 4398046511103 rfl (by kernel_rfl) (y_pick_f rfl rfl) rfl rfl ?_
              refine g_p 42 8796093022207 rfl (by kernel_rfl) (y_assign rfl) rfl rfl ?_
              refine g_d (by kernel_rfl) ?_
              refine tr_thenN ?_
              refine tr_ret ?_
              exact tr_ret1 rfl rfl ⟨_, rfl, H⟩
          · replace H := H.2 g36
            refine g_s 14 32767 rfl (by kernel_rfl) rfl rfl ?_
            refine g_s 15 65535 rfl (by kernel_rfl) rfl rfl ?_
            refine g_s 16 131071 rfl (by kernel_rfl) rfl rfl ?_
            refine g_p 17 262143 rfl (by kernel_rfl) (y_pick_f rfl rfl) rfl rfl ?_
            refine g_p 18 524287 rfl (by kernel_rfl) (y_move rfl) rfl rfl ?_
            refine g_s 19 1048575 rfl (by kernel_rfl) rfl rfl ?_
            refine g_s 20 2097151 rfl (by kernel_rfl) rfl rfl ?_
            refine g_s 21 4194303 rfl (by kernel_rfl) rfl rfl ?_
            refine g_s 22 8388607 rfl (by kernel_rfl) rfl rfl ?_
            refine g_s 23 16777215 rfl (by kernel_rfl) rfl rfl ?_
            refine g_s 24 33554431 rfl (by kernel_rfl) rfl rfl ?_
            refine g_s 25 67108863 rfl (by kernel_rfl) rfl rfl ?_
            refine g_p 26 134217727 rfl (by kernel_rfl) (y_pick_f rfl rfl) rfl rfl ?_
            refine g_p 27 268435455 rfl (by kernel_rfl) (y_move rfl) rfl rfl ?_
            refine g_s 28 536870911 rfl (by kernel_rfl) rfl rfl ?_
            refine g_s 29 1073741823 rfl (by kernel_rfl) rfl rfl ?_
            refine g_s 30 2147483647 rfl (by kernel_rfl) rfl rfl ?_
            refine g_s 31 4294967295 rfl (by kernel_rfl) rfl rfl ?_
            refine g_s 32 8589934591 rfl (by kernel_rfl) rfl rfl ?_
            refine g_s 33 17179869183 rfl (by kernel_rfl) rfl rfl ?_
            refine g_s 34 34359738367 rfl (by kernel_rfl) rfl rfl ?_
            refine g_p 35 68719476735 rfl (by kernel_rfl) (y_pick_f rfl rfl) rfl rfl ?_
            refine g_p 36 137438953471 rfl (by kernel_rfl) (y_move rfl) rfl rfl ?_
            refine g_s 37 274877906943 rfl (by kernel_rfl) rfl rfl ?_
            refine g_s 38 549755813887 rfl (by kernel_rfl) rfl rfl ?_
            refine g_s 39 1099511627775 rfl (by kernel_rfl) rfl rfl ?_
            refine g_s 40 2199023255551 rfl (by kernel_rfl) rfl rfl ?_
            refine g_p 41 4398046511103 rfl (by kernel_rfl) (y_pick_f rfl rfl) rfl rfl ?_
            refine g_p 42 8796093022207 rfl (by kernel_rfl) (y_assign rfl) rfl rfl ?_
            refine g_d (by kernel_rfl) ?_
            refine tr_thenN ?_
            refine tr_ret ?_
            exact tr_ret1 rfl rfl ⟨_, rfl, H⟩
        · replace H := H.2 g31
          refine g_s 9 1023 rfl (by kernel_rfl) rfl rfl ?_
          refine g_s 10 2047 rfl (by kernel_rfl) rfl rfl ?_
          refine g_s 11 4095 rfl (by kernel_rfl) rfl rfl ?_
          refine g_p 12 8191 rfl (by kernel_rfl) (y_pick_f rfl rfl) rfl rfl ?_
          refine g_p 13 16383 rfl (by kernel_rfl) (y_move rfl) rfl rfl ?_
          refine g_s 14 32767 rfl (by kernel_rfl) rfl rfl ?_
          refine g_s 15 65535 rfl (by kernel_rfl) rfl rfl ?_
          refine g_s 16 131071 rfl (by kernel_rfl) rfl rfl ?_
          refine g_p 17 262143 rfl (by kernel_rfl) (y_pick_f rfl rfl) rfl rfl ?_
          refine g_p 18 524287 rfl (by kernel_rfl) (y_move rfl) rfl rfl ?_
          refine g_s 19 1048575 rfl (by kernel_rfl) rfl rfl ?_
          refine g_s 20 2097151 rfl (by kernel_rfl) rfl rfl ?_
          refine g_s 21 4194303 rfl (by kernel_rfl) rfl rfl ?_
          refine g_s 22 8388607 rfl (by kernel_rfl) rfl rfl ?_
          refine g_s 23 16777215 rfl (by kernel_rfl) rfl rfl ?_
          refine g_s 24 33554431 rfl (by kernel_rfl) rfl rfl ?_
          refine g_s 25 67108863 rfl (by kernel_rfl) rfl rfl ?_
          refine g_p 26 134217727 rfl (by kernel_rfl) (y_pick_f rfl rfl) rfl rfl ?_
          refine g_p 27 268435455 rfl (by kernel_rfl) (y_move rfl) rfl rfl ?_
          refine g_s 28 536870911 rfl (by kernel_rfl) rfl rfl ?_
          refine g_s 29 1073741823 rfl (by kernel_rfl) rfl rfl ?_
          refine g_s 30 2147483647 rfl (by kernel_rfl) rfl rfl ?_
          refine g_s 31 4294967295 rfl (by kernel_rfl) rfl rfl ?_
          refine g_s 32 8589934591 rfl (by kernel_rfl) rfl rfl ?_
          refine g_s 33 17179869183 rfl (by kernel_rfl) rfl rfl ?_
          refine g_s 34 34359738367 rfl (by kernel_rfl) rfl rfl ?_
          refine g_p 35 68719476735 rfl (by kernel_rfl) (y_pick_f rfl rfl) rfl rfl ?_
          refine g_p 36 137438953471 rfl (by kernel_rfl) (y_move rfl) rfl rfl ?_
          refine g_s 37 274877906943 rfl (by kernel_rfl) rfl rfl ?_
          refine g_s 38 549755813887 rfl (by kernel_rfl) rfl rfl ?_
          refine g_s 39 1099511627775 rfl (by kernel_rfl) rfl rfl ?_
          refine g_s 40 2199023255551 rfl (by kernel_rfl) rfl rfl ?_
          refine g_p 41 4398046511103 rfl (by kernel_rfl) (y_pick_f rfl rfl) rfl rfl ?_
          refine g_p 42 8796093022207 rfl (by kernel_rfl) (y_assign rfl) rfl rfl ?_
          refine g_d (by kernel_rfl) ?_
          refine tr_thenN ?_
          refine tr_ret ?_
          exact tr_ret1 rfl rfl ⟨_, rfl, H⟩
      · replace H := H.2 g30
        refine g_s 4 31 rfl (by kernel_rfl) rfl rfl ?_
        refine g_s 5 63 rfl (by kernel_rfl) rfl rfl ?_
        refine g_s 6 127 rfl (by kernel_rfl) rfl rfl ?_
        refine g_p 7 255 rfl (by kernel_rfl) (y_pick_f rfl rfl) rfl rfl ?_
        refine g_p 8 511 rfl (by kernel_rfl) (y_move rfl) rfl rfl ?_
        refine g_s 9 1023 rfl (by kernel_rfl) rfl rfl ?_
        refine g_s 10 2047 rfl (by kernel_rfl) rfl rfl ?_
        refine g_s 11 4095 rfl (by kernel_rfl) rfl rfl ?_
        refine g_p 12 8191 rfl (by kernel_rfl) (y_pick_f rfl rfl) rfl rfl ?_
        refine g_p 13 16383 rfl (by kernel_rfl) (y_move rfl) rfl rfl ?_
        refine g_s 14 32767 rfl (by kernel_rfl) rfl rfl ?_
        refine g_s 15 65535 rfl (by kernel_rfl) rfl rfl ?_
        refine g_s 16 131071 rfl (by kernel_rfl) rfl rfl ?_
        refine g_p 17 262143 rfl (by kernel_rfl) (y_pick_f rfl rfl) rfl rfl ?_
        refine g_p 18 524287 rfl (by kernel_rfl) (y_move rfl) rfl rfl ?_
        refine g_s 19 1048575 rfl (by kernel_rfl) rfl rfl ?_
        refine g_s 20 2097151 rfl (by kernel_rfl) rfl rfl ?_
        refine g_s 21 4194303 rfl (by kernel_rfl) rfl rfl ?_
        refine g_s 22 8388607 rfl (by kernel_rfl) rfl rfl ?_
        refine g_s 23 16777215 rfl (by kernel_rfl) rfl rfl ?_
        refine g_s 24 33554431 rfl (by kernel_rfl) rfl rfl ?_
        refine g_s 25 67108863 rfl (by kernel_rfl) rfl rfl ?_
        refine g_p 26 134217727 rfl (by kernel_rfl) (y_pick_f rfl rfl) rfl rfl ?_
        refine g_p 27 268435455 rfl (by kernel_rfl) (y_move rfl) rfl rfl ?_
        refine g_s 28 536870911 rfl (by kernel_rfl) rfl rfl ?_
        refine g_s 29 1073741823 rfl (by kernel_rfl) rfl rfl ?_
        refine g_s 30 2147483647 rfl (by kernel_rfl) rfl rfl ?_
        refine g_s 31 4294967295 rfl (by kernel_rfl) rfl rfl ?_
        refine g_s 32 8589934591 rfl (by kernel_rfl) rfl rfl ?_
        refine g_s 33 17179869183 rfl (by kernel_rfl) rfl rfl ?_
        refine g_s 34 34359738367 rfl (by kernel_rfl) rfl rfl ?_
        refine g_p 35 68719476735 rfl (by kernel_rfl) (y_pick_f rfl rfl) rfl rfl ?_
        refine g_p 36 137438953471 rfl (by kernel_rfl) (y_move rfl) rfl rfl ?_
        refine g_s 37 274877906943 rfl (by kernel_rfl) rfl rfl ?_
        refine g_s 38 549755813887 rfl (by kernel_rfl) rfl rfl ?_
        refine g_s 39 1099511627775 rfl (by kernel_rfl) rfl rfl ?_
        refine g_s 40 2199023255551 rfl (by kernel_rfl) rfl rfl ?_
        refine g_p 41 4398046511103 rfl (by kernel_rfl) (y_pick_f rfl rfl) rfl rfl ?_
        refine g_p 42 8796093022207 rfl (by kernel_rfl) (y_assign rfl) rfl rfl ?_
        refine g_d (by kernel_rfl) ?_
        refine tr_thenN ?_
        refine tr_ret ?_
        exact tr_ret1 rfl rfl ⟨_, rfl, H⟩
    · refine tr_seq ?_
      refine tr_region ?_
      refine tr_p (y_move rfl) rfl rfl ?_
      refine tr_p (y_neq rfl rfl) rfl rfl ?_
      refine tr_nil ?_
      refine tr_thenN ?_
      refine tr_cond rfl (fun g74 => ?_) (fun g74 => ?_)
      · replace H := H.1 g74
        refine tr_region ?_
        refine tr_p (f_build rfl (bd_34_ )) rfl rfl ?_
        refine tr_e (f_store (vs := (⟨0, (⟨#[]⟩ : ByteArray), 0⟩ : S_api_Cell).cells) Try.sizeOf34 rfl rfl cellsOfStruct rfl (by intro v hv; exact ones_S_api_Cell _ v hv) H) rfl rfl ?_
        rintro _ h75 ⟨rfl, H⟩
        refine tr_nil ?_
        refine tr_thenN ?_
        exact tr_join [(3, (.pointer (some a2))), (4, (.pointer (some a4))), (7, (.string r11)), (8, (.int .i64 r12)), (9, (.string r16)), (10, (.int .i64 r17)), (11, (.pointer (some a22))), (12, (.int .i64 r20)), (13, (.pointer (some a28))), (14, (.int .i64 r26))] ⟨rfl, rfl, rfl, rfl, rfl, rfl, rfl, rfl, rfl, rfl, trivial⟩ ⟨_, _, _, _, _, _, _, _, _, _, rfl, H⟩
      · replace H := H.2 g74
        refine tr_skip ?_
        refine tr_thenN ?_
        exact tr_join [(3, (.pointer (some a2))), (4, (.pointer (some a4))), (7, (.string r11)), (8, (.int .i64 r12)), (9, (.string r16)), (10, (.int .i64 r17)), (11, (.pointer (some a22))), (12, (.int .i64 r20)), (13, (.pointer (some a28))), (14, (.int .i64 r26))] ⟨rfl, rfl, rfl, rfl, rfl, rfl, rfl, rfl, rfl, rfl, trivial⟩ ⟨_, _, _, _, _, _, _, _, _, _, rfl, H⟩

def F.spatelaw8_within.j1 (Q : Int → H → Prop) (x5 : Int) (h : H) : Prop :=
  Q x5 h
/-- spate/spatelaw8.within -/
def F.spatelaw8_within (p0 : Int) (p1 : Int) (h : H) (Q : Int → H → Prop) : Prop :=
  (p1 : Int) ≠ 0 ∧
  ((decide ((Int.tmod p0 p1) < 0)) = true →
  F.spatelaw8_within.j1 Q (IntKind.wrap .i64 ((Int.tmod p0 p1) + p1)) h) ∧
  ((decide ((Int.tmod p0 p1) < 0)) = false →
  F.spatelaw8_within.j1 Q (Int.tmod p0 p1) h)
theorem F.spatelaw8_within_ok {p0 : Int} {p1 : Int} {h : H} {Q : Int → H → Prop} (H : F.spatelaw8_within p0 p1 h Q) : Fn PP 28 ([(.int .i64 p0), (.int .i64 p1)] : List Value).toArray h fun r h' => ∃ r0, r = (.int .i64 r0) ∧ Q r0 h' := by
  unfold F.spatelaw8_within at H
  refine fn_of Try.func28 Try.ntmps28 rfl rfl fun w0 => ?_
  refine tr_sub [(0, (.int .i64 p0)), (1, (.int .i64 p1))] ⟨rfl, rfl, trivial⟩ ?_
  refine tr_seq ?_
  refine tr_region ?_
  refine tr_p (y_assign rfl) rfl rfl ?_
  refine tr_nil ?_
  refine tr_thenN ?_
  refine tr_seq ?_
  refine tr_region ?_
  refine tr_p (y_move rfl) rfl rfl ?_
  refine tr_p (y_move rfl) rfl rfl ?_
  obtain ⟨e1, H⟩ := H
  refine tr_p (y_rem rfl rfl e1) rfl rfl ?_
  refine tr_p (y_assign rfl) rfl rfl ?_
  refine tr_nil ?_
  refine tr_thenN ?_
  refine tr_seq_j (fun L' h => ∃ (x5 : Int), L' = [(5, (.int .i64 x5))] ∧ F.spatelaw8_within.j1 Q x5 h) ?_ ?_
  · rintro L' h ⟨x5, rfl, H⟩
    unfold F.spatelaw8_within.j1 at H
    refine tr_seq ?_
    refine tr_region ?_
    refine tr_p (y_move rfl) rfl rfl ?_
    refine tr_p (y_assign rfl) rfl rfl ?_
    refine tr_nil ?_
    refine tr_thenN ?_
    refine tr_ret ?_
    exact tr_ret1 rfl rfl ⟨_, rfl, H⟩
  · refine tr_seq ?_
    refine tr_region ?_
    refine tr_p (y_move rfl) rfl rfl ?_
    refine tr_p (y_lss rfl rfl) rfl rfl ?_
    refine tr_nil ?_
    refine tr_thenN ?_
    refine tr_cond rfl (fun g2 => ?_) (fun g2 => ?_)
    · replace H := H.1 g2
      refine tr_region ?_
      refine tr_p (y_move rfl) rfl rfl ?_
      refine tr_p (y_move rfl) rfl rfl ?_
      refine tr_p (y_add rfl rfl) rfl rfl ?_
      refine tr_p (y_assign rfl) rfl rfl ?_
      refine tr_nil ?_
      refine tr_thenN ?_
      exact tr_join [(5, (.int .i64 (IntKind.wrap .i64 ((Int.tmod p0 p1) + p1))))] ⟨rfl, trivial⟩ ⟨_, rfl, H⟩
    · replace H := H.2 g2
      refine tr_skip ?_
      refine tr_thenN ?_
      exact tr_join [(5, (.int .i64 (Int.tmod p0 p1)))] ⟨rfl, trivial⟩ ⟨_, rfl, H⟩

def F.spatelaw8_MergeTurns.j1 (Q : Bool → H → Prop) (x3 : Int) (x4 : ByteArray) (x5 : Addr) (x11 : ByteArray) (x13 : Sl) (h : H) : Prop :=
  ld_S_api_Cell h x5 fun y22 =>
  ld_S_api_Cell h x5 fun y24 =>
  runT PP (convert 47 9 x13.enc) h fun s27 h26 =>
  Cells h26 x5 y24.cells ∧
  Cells h26 x5 y22.cells ∧
  F.spatelaw8_MergeKeys y22 y24 s27 h26 fun r31 h30 =>
  (r31 = true →
  ld_S_api_Cell h30 x5 fun y33 =>
  ld_S_api_Cell h30 x5 fun y35 =>
  F.spatelaw8_within x3 (IntKind.wrap .i64 ((x11.size : Int) + 1)) h30 fun r38 h37 =>
  Cells h37 x5 y35.cells ∧
  Cells h37 x5 y33.cells ∧
  cutS x11 0 r38 fun s42 =>
  F.spatelaw8_MergeKeys y33 y35 s42 h37 fun r44 h43 =>
  (r44 = true →
  ld_S_api_Cell h43 x5 fun y46 =>
  ld_S_api_Cell h43 x5 fun y48 =>
  ((x11.size + x4.size : Nat) : Int) ≤ 9223372036854775807 ∧
  F.spatelaw8_MergeKeys y46 y48 (x11 ++ x4) h43 fun r52 h51 =>
  Q r52 h51) ∧
  (r44 = false →
  Q false h43)) ∧
  (r31 = false →
  Q false h30)
/-- spate/spatelaw8.MergeTurns -/
def F.spatelaw8_MergeTurns (p0 : S_api_Cell) (p1 : Int) (p2 : Int) (p3 : Int) (p4 : ByteArray) (h : H) (Q : Bool → H → Prop) : Prop :=
  new h p0.cells.toArray ty_34 fun a2 h1 =>
  ld_S_api_Cell h1 a2 fun y3 =>
  F.spateref8_Key y3 h1 fun r6 r7 h5 =>
  (((r7 != 0)) = true →
  F.spatelaw8_known  h5 fun r10 h9 =>
  Q r10 h9) ∧
  (((r7 != 0)) = false →
  runL PP (convert 9 47 (.string r6)) h5 fun s12 h11 =>
  F.spatelaw8_within p1 (s12.len : Int) h11 fun r14 h13 =>
  idxA s12 r14 1 fun a15 =>
  ldI .u8 h13 a15 fun y17 =>
  idxA s12 r14 1 fun a19 =>
  stH h13 a19 [(.int .u8 (IntKind.wrap .u8 (y17 + p2)))] fun h21 =>
  ((decide ((p4.size : Int) > 40)) = true →
  cutS p4 0 40 fun s55 =>
  F.spatelaw8_MergeTurns.j1 Q p3 s55 a2 r6 s12 h21) ∧
  ((decide ((p4.size : Int) > 40)) = false →
  F.spatelaw8_MergeTurns.j1 Q p3 p4 a2 r6 s12 h21))
theorem F.spatelaw8_MergeTurns_ok {p0 : S_api_Cell} {p1 : Int} {p2 : Int} {p3 : Int} {p4 : ByteArray} {h : H} {Q : Bool → H → Prop} (H : F.spatelaw8_MergeTurns p0 p1 p2 p3 p4 h Q) : Fn PP 7 ([(.agg p0.cells.toArray), (.int .i64 p1), (.int .u8 p2), (.int .i64 p3), (.string p4)] : List Value).toArray h fun r h' => ∃ r0, r = (.bool r0) ∧ Q r0 h' := by
  unfold F.spatelaw8_MergeTurns at H
  refine fn_of Try.func7 Try.ntmps7 rfl rfl fun w0 => ?_
  refine tr_sub [(0, (.agg p0.cells.toArray)), (1, (.int .i64 p1)), (2, (.int .u8 p2)), (3, (.int .i64 p3)), (4, (.string p4))] ⟨rfl, rfl, rfl, rfl, rfl, trivial⟩ ?_
  refine tr_seq ?_
  refine tr_region ?_
  refine tr_e (f_box (cs := p0.cells.toArray) rfl rfl H) rfl rfl ?_
  rintro _ h1 ⟨a2, rfl, H⟩
  refine tr_p (y_assign rfl) rfl rfl ?_
  refine tr_nil ?_
  refine tr_thenN ?_
  refine tr_seq ?_
  refine tr_region ?_
  obtain ⟨y3, k4, H⟩ := H
  refine tr_h (y_ldS Try.isAgg34 Try.sizeOf34 rfl rfl) k4 rfl rfl ?_
  refine tr_e (e_call Try.call24 rfl (F.spateref8_Key_ok H)) rfl rfl ?_
  rintro _ h5 ⟨r6, r7, rfl, H⟩
  refine tr_p (y_move rfl) rfl rfl ?_
  refine tr_p (y_ext rfl rfl) rfl rfl ?_
  refine tr_p (y_ext rfl rfl) rfl rfl ?_
  refine tr_p (y_assign rfl) rfl rfl ?_
  refine tr_p (y_assign rfl) rfl rfl ?_
  refine tr_nil ?_
  refine tr_thenN ?_
  refine tr_seq ?_
  refine tr_seq ?_
  refine tr_region ?_
  refine tr_p (y_move rfl) rfl rfl ?_
  refine tr_p (y_neq rfl rfl) rfl rfl ?_
  refine tr_nil ?_
  refine tr_thenN ?_
  refine tr_cond rfl (fun g8 => ?_) (fun g8 => ?_)
  · replace H := H.1 g8
    refine tr_seq ?_
    refine tr_region ?_
    refine tr_e (e_call Try.call15 rfl (F.spatelaw8_known_ok H)) rfl rfl ?_
    rintro _ h9 ⟨r10, rfl, H⟩
    refine tr_p (y_assign rfl) rfl rfl ?_
    refine tr_nil ?_
    refine tr_thenN ?_
    refine tr_ret ?_
    refine tr_thenR ?_
    exact tr_ret1 rfl rfl ⟨_, rfl, H⟩
  · replace H := H.2 g8
    refine tr_skip ?_
    refine tr_thenN ?_
    refine tr_seq ?_
    refine tr_region ?_
    refine tr_p (y_move rfl) rfl rfl ?_
    refine tr_e (f_cvtL rfl H) rfl rfl ?_
    rintro _ h11 ⟨s12, rfl, H⟩
    refine tr_p (y_assign rfl) rfl rfl ?_
    refine tr_nil ?_
    refine tr_thenN ?_
    refine tr_seq ?_
    refine tr_region ?_
    refine tr_p (y_move rfl) rfl rfl ?_
    refine tr_p (y_move rfl) rfl rfl ?_
    refine tr_p (y_move rfl) rfl rfl ?_
    refine tr_p (y_len (ts := #[]) Try.runUnderlying47 (o := s12.ptr) (n := s12.len) (cap := s12.cap) rfl) rfl rfl ?_
    refine tr_e (e_call Try.call28 rfl (F.spatelaw8_within_ok H)) rfl rfl ?_
    rintro _ h13 ⟨r14, rfl, H⟩
    obtain ⟨a15, e16, H⟩ := H
    refine tr_p (f_idx (s := s12) Try.runUnderlying47 Try.sizeOf5 rfl rfl e16) rfl rfl ?_
    obtain ⟨y17, k18, H⟩ := H
    refine tr_h (y_ld Try.isAgg5 rfl) k18 rfl rfl ?_
    refine tr_p (y_move rfl) rfl rfl ?_
    refine tr_p (y_add rfl rfl) rfl rfl ?_
    obtain ⟨a19, e20, H⟩ := H
    refine tr_p (f_idx (s := s12) Try.runUnderlying47 Try.sizeOf5 rfl rfl e20) rfl rfl ?_
    refine tr_e (f_store (vs := [(.int .u8 (IntKind.wrap .u8 (y17 + p2)))]) Try.sizeOf5 rfl rfl rfl rfl (one1 rfl) H) rfl rfl ?_
    rintro _ h21 ⟨rfl, H⟩
    refine tr_nil ?_
    refine tr_thenN ?_
    refine tr_seq_j (fun L' h => ∃ (x3 : Int) (x4 : ByteArray) (x5 : Addr) (x11 : ByteArray) (x13 : Sl), L' = [(3, (.int .i64 x3)), (4, (.string x4)), (5, (.pointer (some x5))), (11, (.string x11)), (13, x13.enc)] ∧ F.spatelaw8_MergeTurns.j1 Q x3 x4 x5 x11 x13 h) ?_ ?_
    · rintro L' h ⟨x3, x4, x5, x11, x13, rfl, H⟩
      unfold F.spatelaw8_MergeTurns.j1 at H
      refine tr_seq ?_
      refine tr_draw mixed [0, 0, 0, 4, 15, 31, 63, 63, 63, 63, 63, 1087, 3135, 7743, 16191, 32767, 65535, 131071, 262143, 262143, 262143, 262143, 3407871, 8388607, 16777215, 33554431] (by kernel_rfl) ?_
      obtain ⟨y22, k23, H⟩ := H
      refine g_h 0 1 rfl (by kernel_rfl) (y_ldS Try.isAgg34 Try.sizeOf34 rfl rfl) k23 rfl rfl ?_
      obtain ⟨y24, k25, H⟩ := H
      refine g_h 1 3 rfl (by kernel_rfl) (y_ldS Try.isAgg34 Try.sizeOf34 rfl rfl) k25 rfl rfl ?_
      refine g_p 2 7 rfl (by kernel_rfl) (y_move rfl) rfl rfl ?_
      refine g_e 3 15 [(1, fun h => Cells h x5 y24.cells), (0, fun h => Cells h x5 y22.cells)] (by kernel_rfl) rfl (by kernel_rfl) (f_cvtT rfl H) rfl rfl ?_
      rintro _ h26 ⟨s27, rfl, H⟩
      obtain ⟨k28, k29, H⟩ := H
      refine ⟨And.intro k28 (And.intro k29 trivial), ?_⟩
      refine g_e 4 31 [] (by kernel_rfl) rfl (by kernel_rfl) (e_call Try.call6 rfl (F.spatelaw8_MergeKeys_ok H)) rfl rfl ?_
      rintro _ h30 ⟨r31, rfl, H⟩
      refine ⟨trivial, ?_⟩
      refine g_p 5 63 rfl (by kernel_rfl) (y_move rfl) rfl rfl ?_
      refine g_split (t := 44) rfl (fun g32 => ?_) (fun g32 => ?_)
      · replace H := H.1 g32
        obtain ⟨y33, k34, H⟩ := H
        refine g_h 6 127 rfl (by kernel_rfl) (y_ldS Try.isAgg34 Try.sizeOf34 rfl rfl) k34 rfl rfl ?_
        obtain ⟨y35, k36, H⟩ := H
        refine g_h 7 255 rfl (by kernel_rfl) (y_ldS Try.isAgg34 Try.sizeOf34 rfl rfl) k36 rfl rfl ?_
        refine g_p 8 511 rfl (by kernel_rfl) (y_move rfl) rfl rfl ?_
        refine g_p 9 1023 rfl (by kernel_rfl) (y_move rfl) rfl rfl ?_
        refine g_p 10 2047 rfl (by kernel_rfl) (y_move rfl) rfl rfl ?_
        refine g_p 11 4095 rfl (by kernel_rfl) (y_lenS Try.runUnderlying9 rfl) rfl rfl ?_
        refine g_p 12 8191 rfl (by kernel_rfl) (y_add rfl rfl) rfl rfl ?_
        refine g_e 13 16383 [(7, fun h => Cells h x5 y35.cells), (6, fun h => Cells h x5 y33.cells)] (by kernel_rfl) rfl (by kernel_rfl) (e_call Try.call28 rfl (F.spatelaw8_within_ok H)) rfl rfl ?_
        rintro _ h37 ⟨r38, rfl, H⟩
        obtain ⟨k39, k40, H⟩ := H
        refine ⟨And.intro k39 (And.intro k40 trivial), ?_⟩
        obtain ⟨s42, e41, H⟩ := H
        refine g_p 14 32767 rfl (by kernel_rfl) (f_cutS (s := x11) none (some (.i64, r38)) Try.runUnderlying9 rfl rfl rfl e41) rfl rfl ?_
        refine g_e 15 65535 [] (by kernel_rfl) rfl (by kernel_rfl) (e_call Try.call6 rfl (F.spatelaw8_MergeKeys_ok H)) rfl rfl ?_
        rintro _ h43 ⟨r44, rfl, H⟩
        refine ⟨trivial, ?_⟩
        refine g_p 16 131071 rfl (by kernel_rfl) (y_pick_t rfl rfl) rfl rfl ?_
        refine g_p 17 262143 rfl (by kernel_rfl) (y_move rfl) rfl rfl ?_
        refine g_split (t := 56) rfl (fun g45 => ?_) (fun g45 => ?_)
        · replace H := H.1 g45
          obtain ⟨y46, k47, H⟩ := H
          refine g_h 18 524287 rfl (by kernel_rfl) (y_ldS Try.isAgg34 Try.sizeOf34 rfl rfl) k47 rfl rfl ?_
          obtain ⟨y48, k49, H⟩ := H
          refine g_h 19 1048575 rfl (by kernel_rfl) (y_ldS Try.isAgg34 Try.sizeOf34 rfl rfl) k49 rfl rfl ?_
          refine g_p 20 2097151 rfl (by kernel_rfl) (y_move rfl) rfl rfl ?_
          refine g_p 21 4194303 rfl (by kernel_rfl) (y_move rfl) rfl rfl ?_
          obtain ⟨e50, H⟩ := H
          refine g_p 22 8388607 rfl (by kernel_rfl) (y_sadd rfl rfl e50) rfl rfl ?_
          refine g_e 23 16777215 [] (by kernel_rfl) rfl (by kernel_rfl) (e_call Try.call6 rfl (F.spatelaw8_MergeKeys_ok H)) rfl rfl ?_
          rintro _ h51 ⟨r52, rfl, H⟩
          refine ⟨trivial, ?_⟩
          refine g_p 24 33554431 rfl (by kernel_rfl) (y_pick_t rfl rfl) rfl rfl ?_
          refine g_p 25 67108863 rfl (by kernel_rfl) (y_assign rfl) rfl rfl ?_
          refine g_d (by kernel_rfl) ?_
          refine tr_thenN ?_
          refine tr_ret ?_
          exact tr_ret1 rfl rfl ⟨_, rfl, H⟩
        · replace H := H.2 g45
          refine g_s 18 524287 rfl (by kernel_rfl) rfl rfl ?_
          refine g_s 19 1048575 rfl (by kernel_rfl) rfl rfl ?_
          refine g_s 20 2097151 rfl (by kernel_rfl) rfl rfl ?_
          refine g_s 21 4194303 rfl (by kernel_rfl) rfl rfl ?_
          refine g_s 22 8388607 rfl (by kernel_rfl) rfl rfl ?_
          refine g_s 23 16777215 rfl (by kernel_rfl) rfl rfl ?_
          refine g_p 24 33554431 rfl (by kernel_rfl) (y_pick_f rfl rfl) rfl rfl ?_
          refine g_p 25 67108863 rfl (by kernel_rfl) (y_assign rfl) rfl rfl ?_
          refine g_d (by kernel_rfl) ?_
          refine tr_thenN ?_
          refine tr_ret ?_
          exact tr_ret1 rfl rfl ⟨_, rfl, H⟩
      · replace H := H.2 g32
        refine g_s 6 127 rfl (by kernel_rfl) rfl rfl ?_
        refine g_s 7 255 rfl (by kernel_rfl) rfl rfl ?_
        refine g_s 8 511 rfl (by kernel_rfl) rfl rfl ?_
        refine g_s 9 1023 rfl (by kernel_rfl) rfl rfl ?_
        refine g_s 10 2047 rfl (by kernel_rfl) rfl rfl ?_
        refine g_s 11 4095 rfl (by kernel_rfl) rfl rfl ?_
        refine g_s 12 8191 rfl (by kernel_rfl) rfl rfl ?_
        refine g_s 13 16383 rfl (by kernel_rfl) rfl rfl ?_
        refine g_s 14 32767 rfl (by kernel_rfl) rfl rfl ?_
        refine g_s 15 65535 rfl (by kernel_rfl) rfl rfl ?_
        refine g_p 16 131071 rfl (by kernel_rfl) (y_pick_f rfl rfl) rfl rfl ?_
        refine g_p 17 262143 rfl (by kernel_rfl) (y_move rfl) rfl rfl ?_
        refine g_s 18 524287 rfl (by kernel_rfl) rfl rfl ?_
        refine g_s 19 1048575 rfl (by kernel_rfl) rfl rfl ?_
        refine g_s 20 2097151 rfl (by kernel_rfl) rfl rfl ?_
        refine g_s 21 4194303 rfl (by kernel_rfl) rfl rfl ?_
        refine g_s 22 8388607 rfl (by kernel_rfl) rfl rfl ?_
        refine g_s 23 16777215 rfl (by kernel_rfl) rfl rfl ?_
        refine g_p 24 33554431 rfl (by kernel_rfl) (y_pick_f rfl rfl) rfl rfl ?_
        refine g_p 25 67108863 rfl (by kernel_rfl) (y_assign rfl) rfl rfl ?_
        refine g_d (by kernel_rfl) ?_
        refine tr_thenN ?_
        refine tr_ret ?_
        exact tr_ret1 rfl rfl ⟨_, rfl, H⟩
    · refine tr_seq ?_
      refine tr_region ?_
      refine tr_p (y_move rfl) rfl rfl ?_
      refine tr_p (y_lenS Try.runUnderlying9 rfl) rfl rfl ?_
      refine tr_p (y_gtr rfl rfl) rfl rfl ?_
      refine tr_nil ?_
      refine tr_thenN ?_
      refine tr_cond rfl (fun g53 => ?_) (fun g53 => ?_)
      · replace H := H.1 g53
        refine tr_region ?_
        refine tr_p (y_move rfl) rfl rfl ?_
        obtain ⟨s55, e54, H⟩ := H
        refine tr_p (f_cutS (s := p4) none (some (.i64, 40)) Try.runUnderlying9 rfl rfl rfl e54) rfl rfl ?_
        refine tr_p (y_assign rfl) rfl rfl ?_
        refine tr_nil ?_
        refine tr_thenN ?_
        exact tr_join [(3, (.int .i64 p3)), (4, (.string s55)), (5, (.pointer (some a2))), (11, (.string r6)), (13, s12.enc)] ⟨rfl, rfl, rfl, rfl, rfl, trivial⟩ ⟨_, _, _, _, _, rfl, H⟩
      · replace H := H.2 g53
        refine tr_skip ?_
        refine tr_thenN ?_
        exact tr_join [(3, (.int .i64 p3)), (4, (.string p4)), (5, (.pointer (some a2))), (11, (.string r6)), (13, s12.enc)] ⟨rfl, rfl, rfl, rfl, rfl, trivial⟩ ⟨_, _, _, _, _, rfl, H⟩

def F.spatelaw8_MergeOrder.j5 (Q : Bool → H → Prop) (x122 : Bool) (h : H) : Prop :=
  (x122 = true →
  Q false h) ∧
  (x122 = false →
  Q true h)
def F.spatelaw8_MergeOrder.j4 (Q : Bool → H → Prop) (x3 : Addr) (x4 : Addr) (h : H) : Prop :=
  ldI .i64 h (x3.add 0) fun y21 =>
  ldI .i64 h (x4.add 0) fun y23 =>
  (((y21 == y23)) = true →
  ldS h (x3.add 1) fun y26 =>
  ldS h (x4.add 1) fun y28 =>
  ((y26.toList == y28.toList) = true →
  ld_S_api_Cell h x3 fun y31 =>
  ld_S_api_Cell h x4 fun y33 =>
  ldI .i64 h (x3.add 2) fun y35 =>
  ldI .i64 h (x4.add 2) fun y37 =>
  F.merge_Compare y31 y33 h fun r40 h39 =>
  cellH h39 (x4.add 2) = some (.int .i64 y37) ∧
  cellH h39 (x3.add 2) = some (.int .i64 y35) ∧
  F.spatelaw8_MergeOrder.j5 Q (!((decide (r40 < 0)) == (decide (y35 < y37)))) h39) ∧
  ((y26.toList == y28.toList) = false →
  F.spatelaw8_MergeOrder.j5 Q false h)) ∧
  (((y21 == y23)) = false →
  F.spatelaw8_MergeOrder.j5 Q false h)
def F.spatelaw8_MergeOrder.j6 (Q : Bool → H → Prop) (x3 : Addr) (x4 : Addr) (x98 : Bool) (h : H) : Prop :=
  (x98 = true →
  Q false h) ∧
  (x98 = false →
  F.spatelaw8_MergeOrder.j4 Q x3 x4 h)
def F.spatelaw8_MergeOrder.j3 (Q : Bool → H → Prop) (x3 : Addr) (x4 : Addr) (x5 : Addr) (h : H) : Prop :=
  ld_S_api_Cell h x3 fun y44 =>
  ld_S_api_Cell h x4 fun y46 =>
  F.merge_Compare y44 y46 h fun r49 h48 =>
  ((decide (r49 ≤ 0)) = true →
  ld_S_api_Cell h48 x4 fun y51 =>
  ld_S_api_Cell h48 x5 fun y53 =>
  F.merge_Compare y51 y53 h48 fun r56 h55 =>
  ((decide (r56 ≤ 0)) = true →
  ld_S_api_Cell h55 x3 fun y58 =>
  ld_S_api_Cell h55 x5 fun y60 =>
  F.merge_Compare y58 y60 h55 fun r63 h62 =>
  F.spatelaw8_MergeOrder.j6 Q x3 x4 (decide (r63 > 0)) h62) ∧
  ((decide (r56 ≤ 0)) = false →
  F.spatelaw8_MergeOrder.j6 Q x3 x4 false h55)) ∧
  ((decide (r49 ≤ 0)) = false →
  F.spatelaw8_MergeOrder.j6 Q x3 x4 false h48)
def F.spatelaw8_MergeOrder.j7 (Q : Bool → H → Prop) (x3 : Addr) (x4 : Addr) (x5 : Addr) (x82 : Bool) (h : H) : Prop :=
  (x82 = true →
  Q false h) ∧
  (x82 = false →
  F.spatelaw8_MergeOrder.j3 Q x3 x4 x5 h)
def F.spatelaw8_MergeOrder.j2 (Q : Bool → H → Prop) (x3 : Addr) (x4 : Addr) (x5 : Addr) (h : H) : Prop :=
  ld_S_api_Cell h x3 fun y65 =>
  ld_S_api_Cell h x4 fun y67 =>
  ld_S_api_Cell h x4 fun y69 =>
  ld_S_api_Cell h x3 fun y71 =>
  F.merge_Compare y65 y67 h fun r74 h73 =>
  Cells h73 x3 y71.cells ∧
  Cells h73 x4 y69.cells ∧
  F.merge_Compare y69 y71 h73 fun r78 h77 =>
  (((r74 != (IntKind.wrap .i64 (0 - r78)))) = true →
  F.spatelaw8_MergeOrder.j7 Q x3 x4 x5 true h77) ∧
  (((r74 != (IntKind.wrap .i64 (0 - r78)))) = false →
  ld_S_api_Cell h77 x3 fun y80 =>
  ld_S_api_Cell h77 x4 fun y82 =>
  ld_S_api_Cell h77 x3 fun y84 =>
  ld_S_api_Cell h77 x4 fun y86 =>
  F.merge_Compare y80 y82 h77 fun r89 h88 =>
  Cells h88 x4 y86.cells ∧
  Cells h88 x3 y84.cells ∧
  F.spatelaw8_MergeOrder.j7 Q x3 x4 x5 (!(((r89 == 0)) == ((y84.View == y86.View) && ((y84.Key.toList == y86.Key.toList) && ((y84.Start == y86.Start) && true))))) h88)
def F.spatelaw8_MergeOrder.j8 (Q : Bool → H → Prop) (x3 : Addr) (x4 : Addr) (x5 : Addr) (x64 : Bool) (h : H) : Prop :=
  (x64 = true →
  Q false h) ∧
  (x64 = false →
  F.spatelaw8_MergeOrder.j2 Q x3 x4 x5 h)
def F.spatelaw8_MergeOrder.j1 (Q : Bool → H → Prop) (x3 : Addr) (x4 : Addr) (x5 : Addr) (x7 : ByteArray) (x8 : Int) (x9 : ByteArray) (x10 : Int) (h : H) : Prop :=
  (((x8 == 0)) = true →
  (((x10 == 0)) = true →
  ld_S_api_Cell h x3 fun y95 =>
  ld_S_api_Cell h x4 fun y97 =>
  F.merge_Compare y95 y97 h fun r100 h99 =>
  ((!((Op.bytesLess x7.toList x9.toList) == (decide (r100 < 0)))) = true →
  F.spatelaw8_MergeOrder.j8 Q x3 x4 x5 true h99) ∧
  ((!((Op.bytesLess x7.toList x9.toList) == (decide (r100 < 0)))) = false →
  ld_S_api_Cell h99 x3 fun y102 =>
  ld_S_api_Cell h99 x4 fun y104 =>
  F.merge_Compare y102 y104 h99 fun r107 h106 =>
  F.spatelaw8_MergeOrder.j8 Q x3 x4 x5 (!((x7.toList == x9.toList) == ((r107 == 0)))) h106)) ∧
  (((x10 == 0)) = false →
  F.spatelaw8_MergeOrder.j8 Q x3 x4 x5 false h)) ∧
  (((x8 == 0)) = false →
  F.spatelaw8_MergeOrder.j8 Q x3 x4 x5 false h)
def F.spatelaw8_MergeOrder.j9 (Q : Bool → H → Prop) (x3 : Addr) (x4 : Addr) (x5 : Addr) (x7 : ByteArray) (x8 : Int) (x9 : ByteArray) (x10 : Int) (x38 : Bool) (h : H) : Prop :=
  (x38 = true →
  Q false h) ∧
  (x38 = false →
  F.spatelaw8_MergeOrder.j1 Q x3 x4 x5 x7 x8 x9 x10 h)
/-- spate/spatelaw8.MergeOrder -/
def F.spatelaw8_MergeOrder (p0 : S_api_Cell) (p1 : S_api_Cell) (p2 : S_api_Cell) (h : H) (Q : Bool → H → Prop) : Prop :=
  new h p0.cells.toArray ty_34 fun a2 h1 =>
  new h1 p1.cells.toArray ty_34 fun a4 h3 =>
  new h3 p2.cells.toArray ty_34 fun a6 h5 =>
  F.spatelaw8_known  h5 fun r8 h7 =>
  ((!r8) = true →
  Q false h7) ∧
  ((!r8) = false →
  ld_S_api_Cell h7 a2 fun y10 =>
  F.merge_Key y10 h7 fun r13 r14 h12 =>
  ld_S_api_Cell h12 a4 fun y15 =>
  F.merge_Key y15 h12 fun r18 r19 h17 =>
  (((r14 == 0)) = true →
  F.merge_Cell r13 h17 fun r110 r111 h109 =>
  new h109 (((⟨0, (⟨#[]⟩ : ByteArray), 0⟩ : S_api_Cell) : S_api_Cell).cells.toArray) ty_34 fun a113 h112 =>
  stH h112 a113 r110.cells fun h114 =>
  (((r111 != 0)) = true →
  F.spatelaw8_MergeOrder.j9 Q a2 a4 a6 r13 r14 r18 r19 true h114) ∧
  (((r111 != 0)) = false →
  ld_S_api_Cell h114 a113 fun y117 =>
  ld_S_api_Cell h114 a2 fun y119 =>
  F.spatelaw8_MergeOrder.j9 Q a2 a4 a6 r13 r14 r18 r19 (!((y117.View == y119.View) && ((y117.Key.toList == y119.Key.toList) && ((y117.Start == y119.Start) && true)))) h114)) ∧
  (((r14 == 0)) = false →
  F.spatelaw8_MergeOrder.j1 Q a2 a4 a6 r13 r14 r18 r19 h17))
theorem F.spatelaw8_MergeOrder_ok {p0 : S_api_Cell} {p1 : S_api_Cell} {p2 : S_api_Cell} {h : H} {Q : Bool → H → Prop} (H : F.spatelaw8_MergeOrder p0 p1 p2 h Q) : Fn PP 8 ([(.agg p0.cells.toArray), (.agg p1.cells.toArray), (.agg p2.cells.toArray)] : List Value).toArray h fun r h' => ∃ r0, r = (.bool r0) ∧ Q r0 h' := by
  unfold F.spatelaw8_MergeOrder at H
  refine fn_of Try.func8 Try.ntmps8 rfl rfl fun w0 => ?_
  refine tr_sub [(0, (.agg p0.cells.toArray)), (1, (.agg p1.cells.toArray)), (2, (.agg p2.cells.toArray))] ⟨rfl, rfl, rfl, trivial⟩ ?_
  refine tr_seq ?_
  refine tr_region ?_
  refine tr_e (f_box (cs := p0.cells.toArray) rfl rfl H) rfl rfl ?_
  rintro _ h1 ⟨a2, rfl, H⟩
  refine tr_e (f_box (cs := p1.cells.toArray) rfl rfl H) rfl rfl ?_
  rintro _ h3 ⟨a4, rfl, H⟩
  refine tr_e (f_box (cs := p2.cells.toArray) rfl rfl H) rfl rfl ?_
  rintro _ h5 ⟨a6, rfl, H⟩
  refine tr_p (y_assign rfl) rfl rfl ?_
  refine tr_nil ?_
  refine tr_thenN ?_
  refine tr_seq ?_
  refine tr_seq ?_
  refine tr_region ?_
  refine tr_e (e_call Try.call15 rfl (F.spatelaw8_known_ok H)) rfl rfl ?_
  rintro _ h7 ⟨r8, rfl, H⟩
  refine tr_p (y_not rfl) rfl rfl ?_
  refine tr_nil ?_
  refine tr_thenN ?_
  refine tr_cond rfl (fun g9 => ?_) (fun g9 => ?_)
  · replace H := H.1 g9
    refine tr_seq ?_
    refine tr_region ?_
    refine tr_p (y_assign rfl) rfl rfl ?_
    refine tr_nil ?_
    refine tr_thenN ?_
    refine tr_ret ?_
    refine tr_thenR ?_
    exact tr_ret1 rfl rfl ⟨_, rfl, H⟩
  · replace H := H.2 g9
    refine tr_skip ?_
    refine tr_thenN ?_
    refine tr_seq ?_
    refine tr_region ?_
    obtain ⟨y10, k11, H⟩ := H
    refine tr_h (y_ldS Try.isAgg34 Try.sizeOf34 rfl rfl) k11 rfl rfl ?_
    refine tr_e (e_call Try.call23 rfl (F.merge_Key_ok H)) rfl rfl ?_
    rintro _ h12 ⟨r13, r14, rfl, H⟩
    refine tr_p (y_move rfl) rfl rfl ?_
    refine tr_p (y_ext rfl rfl) rfl rfl ?_
    refine tr_p (y_ext rfl rfl) rfl rfl ?_
    refine tr_p (y_assign rfl) rfl rfl ?_
    refine tr_p (y_assign rfl) rfl rfl ?_
    refine tr_nil ?_
    refine tr_thenN ?_
    refine tr_seq ?_
    refine tr_region ?_
    obtain ⟨y15, k16, H⟩ := H
    refine tr_h (y_ldS Try.isAgg34 Try.sizeOf34 rfl rfl) k16 rfl rfl ?_
    refine tr_e (e_call Try.call23 rfl (F.merge_Key_ok H)) rfl rfl ?_
    rintro _ h17 ⟨r18, r19, rfl, H⟩
    refine tr_p (y_move rfl) rfl rfl ?_
    refine tr_p (y_ext rfl rfl) rfl rfl ?_
    refine tr_p (y_ext rfl rfl) rfl rfl ?_
    refine tr_p (y_assign rfl) rfl rfl ?_
    refine tr_p (y_assign rfl) rfl rfl ?_
    refine tr_nil ?_
    refine tr_thenN ?_
    refine tr_seq_j (fun L' h => ∃ (x3 : Addr) (x4 : Addr) (x5 : Addr) (x7 : ByteArray) (x8 : Int) (x9 : ByteArray) (x10 : Int), L' = [(3, (.pointer (some x3))), (4, (.pointer (some x4))), (5, (.pointer (some x5))), (7, (.string x7)), (8, (.int .i64 x8)), (9, (.string x9)), (10, (.int .i64 x10))] ∧ F.spatelaw8_MergeOrder.j1 Q x3 x4 x5 x7 x8 x9 x10 h) ?_ ?_
    · rintro L' h ⟨x3, x4, x5, x7, x8, x9, x10, rfl, H⟩
      unfold F.spatelaw8_MergeOrder.j1 at H
      refine tr_seq_j (fun L' h => ∃ (x3 : Addr) (x4 : Addr) (x5 : Addr), L' = [(3, (.pointer (some x3))), (4, (.pointer (some x4))), (5, (.pointer (some x5)))] ∧ F.spatelaw8_MergeOrder.j2 Q x3 x4 x5 h) ?_ ?_
      · rintro L' h ⟨x3, x4, x5, rfl, H⟩
        unfold F.spatelaw8_MergeOrder.j2 at H
        refine tr_seq_j (fun L' h => ∃ (x3 : Addr) (x4 : Addr) (x5 : Addr), L' = [(3, (.pointer (some x3))), (4, (.pointer (some x4))), (5, (.pointer (some x5)))] ∧ F.spatelaw8_MergeOrder.j3 Q x3 x4 x5 h) ?_ ?_
        · rintro L' h ⟨x3, x4, x5, rfl, H⟩
          unfold F.spatelaw8_MergeOrder.j3 at H
          refine tr_seq_j (fun L' h => ∃ (x3 : Addr) (x4 : Addr), L' = [(3, (.pointer (some x3))), (4, (.pointer (some x4)))] ∧ F.spatelaw8_MergeOrder.j4 Q x3 x4 h) ?_ ?_
          · rintro L' h ⟨x3, x4, rfl, H⟩
            unfold F.spatelaw8_MergeOrder.j4 at H
            refine tr_seq ?_
            refine tr_seq_j (fun L' h => ∃ (x122 : Bool), L' = [(122, (.bool x122))] ∧ F.spatelaw8_MergeOrder.j5 Q x122 h) ?_ ?_
            · rintro L' h ⟨x122, rfl, H⟩
              unfold F.spatelaw8_MergeOrder.j5 at H
              refine tr_cond rfl (fun g20 => ?_) (fun g20 => ?_)
              · replace H := H.1 g20
                refine tr_seq ?_
                refine tr_region ?_
                refine tr_p (y_assign rfl) rfl rfl ?_
                refine tr_nil ?_
                refine tr_thenN ?_
                refine tr_ret ?_
                refine tr_thenR ?_
                exact tr_ret1 rfl rfl ⟨_, rfl, H⟩
              · replace H := H.2 g20
                refine tr_skip ?_
                refine tr_thenN ?_
                refine tr_seq ?_
                refine tr_region ?_
                refine tr_p (y_assign rfl) rfl rfl ?_
                refine tr_nil ?_
                refine tr_thenN ?_
                refine tr_ret ?_
                exact tr_ret1 rfl rfl ⟨_, rfl, H⟩
            · refine tr_draw mixed [0, 1, 0, 4, 15, 31, 63, 127, 63, 319, 1023, 2047, 4095, 8191, 8191, 32767, 65535, 8191, 139263, 8191, 532479, 1974271, 4194303, 8388607] (by kernel_rfl) ?_
              refine g_p 0 1 rfl (by kernel_rfl) (y_fa (off := 0) Try.runUnderlying34 fo_34_0 rfl) rfl rfl ?_
              obtain ⟨y21, k22, H⟩ := H
              refine g_h 1 3 rfl (by kernel_rfl) (y_ld Try.isAgg3 rfl) k22 rfl rfl ?_
              refine g_p 2 7 rfl (by kernel_rfl) (y_fa (off := 0) Try.runUnderlying34 fo_34_0 rfl) rfl rfl ?_
              obtain ⟨y23, k24, H⟩ := H
              refine g_h 3 15 rfl (by kernel_rfl) (y_ld Try.isAgg3 rfl) k24 rfl rfl ?_
              refine g_p 4 31 rfl (by kernel_rfl) (y_eql rfl rfl) rfl rfl ?_
              refine g_p 5 63 rfl (by kernel_rfl) (y_move rfl) rfl rfl ?_
              refine g_split (t := 104) rfl (fun g25 => ?_) (fun g25 => ?_)
              · replace H := H.1 g25
                refine g_p 6 127 rfl (by kernel_rfl) (y_fa (off := 1) Try.runUnderlying34 fo_34_1 rfl) rfl rfl ?_
                obtain ⟨y26, k27, H⟩ := H
                refine g_h 7 255 rfl (by kernel_rfl) (y_ld Try.isAgg9 rfl) k27 rfl rfl ?_
                refine g_p 8 511 rfl (by kernel_rfl) (y_fa (off := 1) Try.runUnderlying34 fo_34_1 rfl) rfl rfl ?_
                obtain ⟨y28, k29, H⟩ := H
                refine g_h 9 1023 rfl (by kernel_rfl) (y_ld Try.isAgg9 rfl) k29 rfl rfl ?_
                refine g_p 10 2047 rfl (by kernel_rfl) (y_seql rfl rfl) rfl rfl ?_
                refine g_p 11 4095 rfl (by kernel_rfl) (y_pick_t rfl rfl) rfl rfl ?_
                refine g_p 12 8191 rfl (by kernel_rfl) (y_move rfl) rfl rfl ?_
                refine g_split (t := 111) rfl (fun g30 => ?_) (fun g30 => ?_)
                · replace H := H.1 g30
                  obtain ⟨y31, k32, H⟩ := H
                  refine g_h 13 16383 rfl (by kernel_rfl) (y_ldS Try.isAgg34 Try.sizeOf34 rfl rfl) k32 rfl rfl ?_
                  obtain ⟨y33, k34, H⟩ := H
                  refine g_h 14 32767 rfl (by kernel_rfl) (y_ldS Try.isAgg34 Try.sizeOf34 rfl rfl) k34 rfl rfl ?_
                  refine g_p 17 163839 rfl (by kernel_rfl) (y_fa (off := 2) Try.runUnderlying34 fo_34_2 rfl) rfl rfl ?_
                  obtain ⟨y35, k36, H⟩ := H
                  refine g_h 18 425983 rfl (by kernel_rfl) (y_ld Try.isAgg2 rfl) k36 rfl rfl ?_
                  refine g_p 19 950271 rfl (by kernel_rfl) (y_fa (off := 2) Try.runUnderlying34 fo_34_2 rfl) rfl rfl ?_
                  obtain ⟨y37, k38, H⟩ := H
                  refine g_h 20 1998847 rfl (by kernel_rfl) (y_ld Try.isAgg2 rfl) k38 rfl rfl ?_
                  refine g_p 21 4095999 rfl (by kernel_rfl) (y_lss rfl rfl) rfl rfl ?_
                  refine g_e 15 4128767 [(20, fun h => cellH h (x4.add 2) = some (.int .i64 y37)), (18, fun h => cellH h (x3.add 2) = some (.int .i64 y35))] (by kernel_rfl) rfl (by kernel_rfl) (e_call Try.call26 rfl (F.merge_Compare_ok H)) rfl rfl ?_
                  rintro _ h39 ⟨r40, rfl, H⟩
                  obtain ⟨k41, k42, H⟩ := H
                  refine ⟨And.intro k41 (And.intro k42 trivial), ?_⟩
                  refine g_p 16 4194303 rfl (by kernel_rfl) (y_lss rfl rfl) rfl rfl ?_
                  refine g_p 22 8388607 rfl (by kernel_rfl) (y_bneq Try.underlying4 rfl rfl) rfl rfl ?_
                  refine g_p 23 16777215 rfl (by kernel_rfl) (y_pick_t rfl rfl) rfl rfl ?_
                  refine g_d (by kernel_rfl) ?_
                  refine tr_thenN ?_
                  exact tr_join [(122, (.bool (!((decide (r40 < 0)) == (decide (y35 < y37))))))] ⟨rfl, trivial⟩ ⟨_, rfl, H⟩
                · replace H := H.2 g30
                  refine g_s 13 16383 rfl (by kernel_rfl) rfl rfl ?_
                  refine g_s 14 32767 rfl (by kernel_rfl) rfl rfl ?_
                  refine g_s 15 65535 rfl (by kernel_rfl) rfl rfl ?_
                  refine g_s 16 131071 rfl (by kernel_rfl) rfl rfl ?_
                  refine g_s 17 262143 rfl (by kernel_rfl) rfl rfl ?_
                  refine g_s 18 524287 rfl (by kernel_rfl) rfl rfl ?_
                  refine g_s 19 1048575 rfl (by kernel_rfl) rfl rfl ?_
                  refine g_s 20 2097151 rfl (by kernel_rfl) rfl rfl ?_
                  refine g_s 21 4194303 rfl (by kernel_rfl) rfl rfl ?_
                  refine g_s 22 8388607 rfl (by kernel_rfl) rfl rfl ?_
                  refine g_p 23 16777215 rfl (by kernel_rfl) (y_pick_f rfl rfl) rfl rfl ?_
                  refine g_d (by kernel_rfl) ?_
                  refine tr_thenN ?_
                  exact tr_join [(122, (.bool false))] ⟨rfl, trivial⟩ ⟨_, rfl, H⟩
              · replace H := H.2 g25
                refine g_s 6 127 rfl (by kernel_rfl) rfl rfl ?_
                refine g_s 7 255 rfl (by kernel_rfl) rfl rfl ?_
                refine g_s 8 511 rfl (by kernel_rfl) rfl rfl ?_
                refine g_s 9 1023 rfl (by kernel_rfl) rfl rfl ?_
                refine g_s 10 2047 rfl (by kernel_rfl) rfl rfl ?_
                refine g_p 11 4095 rfl (by kernel_rfl) (y_pick_f rfl rfl) rfl rfl ?_
                refine g_p 12 8191 rfl (by kernel_rfl) (y_move rfl) rfl rfl ?_
                refine g_s 13 16383 rfl (by kernel_rfl) rfl rfl ?_
                refine g_s 14 32767 rfl (by kernel_rfl) rfl rfl ?_
                refine g_s 15 65535 rfl (by kernel_rfl) rfl rfl ?_
                refine g_s 16 131071 rfl (by kernel_rfl) rfl rfl ?_
                refine g_s 17 262143 rfl (by kernel_rfl) rfl rfl ?_
                refine g_s 18 524287 rfl (by kernel_rfl) rfl rfl ?_
                refine g_s 19 1048575 rfl (by kernel_rfl) rfl rfl ?_
                refine g_s 20 2097151 rfl (by kernel_rfl) rfl rfl ?_
                refine g_s 21 4194303 rfl (by kernel_rfl) rfl rfl ?_
                refine g_s 22 8388607 rfl (by kernel_rfl) rfl rfl ?_
                refine g_p 23 16777215 rfl (by kernel_rfl) (y_pick_f rfl rfl) rfl rfl ?_
                refine g_d (by kernel_rfl) ?_
                refine tr_thenN ?_
                exact tr_join [(122, (.bool false))] ⟨rfl, trivial⟩ ⟨_, rfl, H⟩
          · refine tr_seq_j (fun L' h => ∃ (x3 : Addr) (x4 : Addr) (x98 : Bool), L' = [(3, (.pointer (some x3))), (4, (.pointer (some x4))), (98, (.bool x98))] ∧ F.spatelaw8_MergeOrder.j6 Q x3 x4 x98 h) ?_ ?_
            · rintro L' h ⟨x3, x4, x98, rfl, H⟩
              unfold F.spatelaw8_MergeOrder.j6 at H
              refine tr_cond rfl (fun g43 => ?_) (fun g43 => ?_)
              · replace H := H.1 g43
                refine tr_seq ?_
                refine tr_region ?_
                refine tr_p (y_assign rfl) rfl rfl ?_
                refine tr_nil ?_
                refine tr_thenN ?_
                refine tr_ret ?_
                refine tr_thenR ?_
                exact tr_ret1 rfl rfl ⟨_, rfl, H⟩
              · replace H := H.2 g43
                refine tr_skip ?_
                refine tr_thenN ?_
                exact tr_join [(3, (.pointer (some x3))), (4, (.pointer (some x4)))] ⟨rfl, rfl, trivial⟩ ⟨_, _, rfl, H⟩
            · refine tr_region ?_
              obtain ⟨y44, k45, H⟩ := H
              refine tr_h (y_ldS Try.isAgg34 Try.sizeOf34 rfl rfl) k45 rfl rfl ?_
              obtain ⟨y46, k47, H⟩ := H
              refine tr_h (y_ldS Try.isAgg34 Try.sizeOf34 rfl rfl) k47 rfl rfl ?_
              refine tr_e (e_call Try.call26 rfl (F.merge_Compare_ok H)) rfl rfl ?_
              rintro _ h48 ⟨r49, rfl, H⟩
              refine tr_p (y_leq rfl rfl) rfl rfl ?_
              refine tr_p (y_move rfl) rfl rfl ?_
              refine tr_split (t := 87) rfl (fun g50 => ?_) (fun g50 => ?_)
              · replace H := H.1 g50
                obtain ⟨y51, k52, H⟩ := H
                refine tr_h (y_ldS Try.isAgg34 Try.sizeOf34 rfl rfl) k52 rfl rfl ?_
                obtain ⟨y53, k54, H⟩ := H
                refine tr_h (y_ldS Try.isAgg34 Try.sizeOf34 rfl rfl) k54 rfl rfl ?_
                refine tr_e (e_call Try.call26 rfl (F.merge_Compare_ok H)) rfl rfl ?_
                rintro _ h55 ⟨r56, rfl, H⟩
                refine tr_p (y_leq rfl rfl) rfl rfl ?_
                refine tr_p (y_pick_t rfl rfl) rfl rfl ?_
                refine tr_p (y_move rfl) rfl rfl ?_
                refine tr_split (t := 93) rfl (fun g57 => ?_) (fun g57 => ?_)
                · replace H := H.1 g57
                  obtain ⟨y58, k59, H⟩ := H
                  refine tr_h (y_ldS Try.isAgg34 Try.sizeOf34 rfl rfl) k59 rfl rfl ?_
                  obtain ⟨y60, k61, H⟩ := H
                  refine tr_h (y_ldS Try.isAgg34 Try.sizeOf34 rfl rfl) k61 rfl rfl ?_
                  refine tr_e (e_call Try.call26 rfl (F.merge_Compare_ok H)) rfl rfl ?_
                  rintro _ h62 ⟨r63, rfl, H⟩
                  refine tr_p (y_gtr rfl rfl) rfl rfl ?_
                  refine tr_p (y_pick_t rfl rfl) rfl rfl ?_
                  refine tr_nil ?_
                  refine tr_thenN ?_
                  exact tr_join [(3, (.pointer (some x3))), (4, (.pointer (some x4))), (98, (.bool (decide (r63 > 0))))] ⟨rfl, rfl, rfl, trivial⟩ ⟨_, _, _, rfl, H⟩
                · replace H := H.2 g57
                  refine tr_s rfl rfl ?_
                  refine tr_s rfl rfl ?_
                  refine tr_s rfl rfl ?_
                  refine tr_s rfl rfl ?_
                  refine tr_p (y_pick_f rfl rfl) rfl rfl ?_
                  refine tr_nil ?_
                  refine tr_thenN ?_
                  exact tr_join [(3, (.pointer (some x3))), (4, (.pointer (some x4))), (98, (.bool false))] ⟨rfl, rfl, rfl, trivial⟩ ⟨_, _, _, rfl, H⟩
              · replace H := H.2 g50
                refine tr_s rfl rfl ?_
                refine tr_s rfl rfl ?_
                refine tr_s rfl rfl ?_
                refine tr_s rfl rfl ?_
                refine tr_p (y_pick_f rfl rfl) rfl rfl ?_
                refine tr_p (y_move rfl) rfl rfl ?_
                refine tr_s rfl rfl ?_
                refine tr_s rfl rfl ?_
                refine tr_s rfl rfl ?_
                refine tr_s rfl rfl ?_
                refine tr_p (y_pick_f rfl rfl) rfl rfl ?_
                refine tr_nil ?_
                refine tr_thenN ?_
                exact tr_join [(3, (.pointer (some x3))), (4, (.pointer (some x4))), (98, (.bool false))] ⟨rfl, rfl, rfl, trivial⟩ ⟨_, _, _, rfl, H⟩
        · refine tr_seq_j (fun L' h => ∃ (x3 : Addr) (x4 : Addr) (x5 : Addr) (x82 : Bool), L' = [(3, (.pointer (some x3))), (4, (.pointer (some x4))), (5, (.pointer (some x5))), (82, (.bool x82))] ∧ F.spatelaw8_MergeOrder.j7 Q x3 x4 x5 x82 h) ?_ ?_
          · rintro L' h ⟨x3, x4, x5, x82, rfl, H⟩
            unfold F.spatelaw8_MergeOrder.j7 at H
            refine tr_cond rfl (fun g64 => ?_) (fun g64 => ?_)
            · replace H := H.1 g64
              refine tr_seq ?_
              refine tr_region ?_
              refine tr_p (y_assign rfl) rfl rfl ?_
              refine tr_nil ?_
              refine tr_thenN ?_
              refine tr_ret ?_
              refine tr_thenR ?_
              exact tr_ret1 rfl rfl ⟨_, rfl, H⟩
            · replace H := H.2 g64
              refine tr_skip ?_
              refine tr_thenN ?_
              exact tr_join [(3, (.pointer (some x3))), (4, (.pointer (some x4))), (5, (.pointer (some x5)))] ⟨rfl, rfl, rfl, trivial⟩ ⟨_, _, _, rfl, H⟩
          · refine tr_draw mixed [0, 0, 3, 0, 0, 31, 63, 127, 255, 511, 511, 2047, 4095, 511, 511, 25087, 65535, 131071] (by kernel_rfl) ?_
            obtain ⟨y65, k66, H⟩ := H
            refine g_h 0 1 rfl (by kernel_rfl) (y_ldS Try.isAgg34 Try.sizeOf34 rfl rfl) k66 rfl rfl ?_
            obtain ⟨y67, k68, H⟩ := H
            refine g_h 1 3 rfl (by kernel_rfl) (y_ldS Try.isAgg34 Try.sizeOf34 rfl rfl) k68 rfl rfl ?_
            obtain ⟨y69, k70, H⟩ := H
            refine g_h 3 11 rfl (by kernel_rfl) (y_ldS Try.isAgg34 Try.sizeOf34 rfl rfl) k70 rfl rfl ?_
            obtain ⟨y71, k72, H⟩ := H
            refine g_h 4 27 rfl (by kernel_rfl) (y_ldS Try.isAgg34 Try.sizeOf34 rfl rfl) k72 rfl rfl ?_
            refine g_e 2 31 [(4, fun h => Cells h x3 y71.cells), (3, fun h => Cells h x4 y69.cells)] (by kernel_rfl) rfl (by kernel_rfl) (e_call Try.call26 rfl (F.merge_Compare_ok H)) rfl rfl ?_
            rintro _ h73 ⟨r74, rfl, H⟩
            obtain ⟨k75, k76, H⟩ := H
            refine ⟨And.intro k75 (And.intro k76 trivial), ?_⟩
            refine g_e 5 63 [] (by kernel_rfl) rfl (by kernel_rfl) (e_call Try.call26 rfl (F.merge_Compare_ok H)) rfl rfl ?_
            rintro _ h77 ⟨r78, rfl, H⟩
            refine ⟨trivial, ?_⟩
            refine g_p 6 127 rfl (by kernel_rfl) (y_sub rfl rfl) rfl rfl ?_
            refine g_p 7 255 rfl (by kernel_rfl) (y_neq rfl rfl) rfl rfl ?_
            refine g_p 8 511 rfl (by kernel_rfl) (y_move rfl) rfl rfl ?_
            refine g_split (t := 73) rfl (fun g79 => ?_) (fun g79 => ?_)
            · replace H := H.1 g79
              refine g_s 9 1023 rfl (by kernel_rfl) rfl rfl ?_
              refine g_s 10 2047 rfl (by kernel_rfl) rfl rfl ?_
              refine g_s 11 4095 rfl (by kernel_rfl) rfl rfl ?_
              refine g_s 12 8191 rfl (by kernel_rfl) rfl rfl ?_
              refine g_s 13 16383 rfl (by kernel_rfl) rfl rfl ?_
              refine g_s 14 32767 rfl (by kernel_rfl) rfl rfl ?_
              refine g_s 15 65535 rfl (by kernel_rfl) rfl rfl ?_
              refine g_s 16 131071 rfl (by kernel_rfl) rfl rfl ?_
              refine g_p 17 262143 rfl (by kernel_rfl) (y_pick_t rfl rfl) rfl rfl ?_
              refine g_d (by kernel_rfl) ?_
              refine tr_thenN ?_
              exact tr_join [(3, (.pointer (some x3))), (4, (.pointer (some x4))), (5, (.pointer (some x5))), (82, (.bool true))] ⟨rfl, rfl, rfl, rfl, trivial⟩ ⟨_, _, _, _, rfl, H⟩
            · replace H := H.2 g79
              obtain ⟨y80, k81, H⟩ := H
              refine g_h 9 1023 rfl (by kernel_rfl) (y_ldS Try.isAgg34 Try.sizeOf34 rfl rfl) k81 rfl rfl ?_
              obtain ⟨y82, k83, H⟩ := H
              refine g_h 10 2047 rfl (by kernel_rfl) (y_ldS Try.isAgg34 Try.sizeOf34 rfl rfl) k83 rfl rfl ?_
              obtain ⟨y84, k85, H⟩ := H
              refine g_h 13 10239 rfl (by kernel_rfl) (y_ldS Try.isAgg34 Try.sizeOf34 rfl rfl) k85 rfl rfl ?_
              obtain ⟨y86, k87, H⟩ := H
              refine g_h 14 26623 rfl (by kernel_rfl) (y_ldS Try.isAgg34 Try.sizeOf34 rfl rfl) k87 rfl rfl ?_
              refine g_p 15 59391 rfl (by kernel_rfl) (st_eql (b := ((y84.View == y86.View) && ((y84.Key.toList == y86.Key.toList) && ((y84.Start == y86.Start) && true)))) eqg_34 (fun w => eqst_34 y84 y86 9998 w) rfl rfl) rfl rfl ?_
              refine g_e 11 61439 [(14, fun h => Cells h x4 y86.cells), (13, fun h => Cells h x3 y84.cells)] (by kernel_rfl) rfl (by kernel_rfl) (e_call Try.call26 rfl (F.merge_Compare_ok H)) rfl rfl ?_
              rintro _ h88 ⟨r89, rfl, H⟩
              obtain ⟨k90, k91, H⟩ := H
              refine ⟨And.intro k90 (And.intro k91 trivial), ?_⟩
              refine g_p 12 65535 rfl (by kernel_rfl) (y_eql rfl rfl) rfl rfl ?_
              refine g_p 16 131071 rfl (by kernel_rfl) (y_bneq Try.underlying4 rfl rfl) rfl rfl ?_
              refine g_p 17 262143 rfl (by kernel_rfl) (y_pick_f rfl rfl) rfl rfl ?_
              refine g_d (by kernel_rfl) ?_
              refine tr_thenN ?_
              exact tr_join [(3, (.pointer (some x3))), (4, (.pointer (some x4))), (5, (.pointer (some x5))), (82, (.bool (!(((r89 == 0)) == ((y84.View == y86.View) && ((y84.Key.toList == y86.Key.toList) && ((y84.Start == y86.Start) && true)))))))] ⟨rfl, rfl, rfl, rfl, trivial⟩ ⟨_, _, _, _, rfl, H⟩
      · refine tr_seq_j (fun L' h => ∃ (x3 : Addr) (x4 : Addr) (x5 : Addr) (x64 : Bool), L' = [(3, (.pointer (some x3))), (4, (.pointer (some x4))), (5, (.pointer (some x5))), (64, (.bool x64))] ∧ F.spatelaw8_MergeOrder.j8 Q x3 x4 x5 x64 h) ?_ ?_
        · rintro L' h ⟨x3, x4, x5, x64, rfl, H⟩
          unfold F.spatelaw8_MergeOrder.j8 at H
          refine tr_cond rfl (fun g92 => ?_) (fun g92 => ?_)
          · replace H := H.1 g92
            refine tr_seq ?_
            refine tr_region ?_
            refine tr_p (y_assign rfl) rfl rfl ?_
            refine tr_nil ?_
            refine tr_thenN ?_
            refine tr_ret ?_
            refine tr_thenR ?_
            exact tr_ret1 rfl rfl ⟨_, rfl, H⟩
          · replace H := H.2 g92
            refine tr_skip ?_
            refine tr_thenN ?_
            exact tr_join [(3, (.pointer (some x3))), (4, (.pointer (some x4))), (5, (.pointer (some x5)))] ⟨rfl, rfl, rfl, trivial⟩ ⟨_, _, _, rfl, H⟩
        · refine tr_region ?_
          refine tr_p (y_move rfl) rfl rfl ?_
          refine tr_p (y_eql rfl rfl) rfl rfl ?_
          refine tr_p (y_move rfl) rfl rfl ?_
          refine tr_split (t := 41) rfl (fun g93 => ?_) (fun g93 => ?_)
          · replace H := H.1 g93
            refine tr_p (y_move rfl) rfl rfl ?_
            refine tr_p (y_eql rfl rfl) rfl rfl ?_
            refine tr_p (y_pick_t rfl rfl) rfl rfl ?_
            refine tr_p (y_move rfl) rfl rfl ?_
            refine tr_split (t := 45) rfl (fun g94 => ?_) (fun g94 => ?_)
            · replace H := H.1 g94
              refine tr_p (y_move rfl) rfl rfl ?_
              refine tr_p (y_move rfl) rfl rfl ?_
              refine tr_p (y_slss rfl rfl) rfl rfl ?_
              obtain ⟨y95, k96, H⟩ := H
              refine tr_h (y_ldS Try.isAgg34 Try.sizeOf34 rfl rfl) k96 rfl rfl ?_
              obtain ⟨y97, k98, H⟩ := H
              refine tr_h (y_ldS Try.isAgg34 Try.sizeOf34 rfl rfl) k98 rfl rfl ?_
              refine tr_e (e_call Try.call26 rfl (F.merge_Compare_ok H)) rfl rfl ?_
              rintro _ h99 ⟨r100, rfl, H⟩
              refine tr_p (y_lss rfl rfl) rfl rfl ?_
              refine tr_p (y_bneq Try.underlying4 rfl rfl) rfl rfl ?_
              refine tr_p (y_move rfl) rfl rfl ?_
              refine tr_split (t := 54) rfl (fun g101 => ?_) (fun g101 => ?_)
              · replace H := H.1 g101
                refine tr_s rfl rfl ?_
                refine tr_s rfl rfl ?_
                refine tr_s rfl rfl ?_
                refine tr_s rfl rfl ?_
                refine tr_s rfl rfl ?_
                refine tr_s rfl rfl ?_
                refine tr_s rfl rfl ?_
                refine tr_s rfl rfl ?_
                refine tr_p (y_pick_t rfl rfl) rfl rfl ?_
                refine tr_p (y_pick_t rfl rfl) rfl rfl ?_
                refine tr_nil ?_
                refine tr_thenN ?_
                exact tr_join [(3, (.pointer (some x3))), (4, (.pointer (some x4))), (5, (.pointer (some x5))), (64, (.bool true))] ⟨rfl, rfl, rfl, rfl, trivial⟩ ⟨_, _, _, _, rfl, H⟩
              · replace H := H.2 g101
                refine tr_p (y_move rfl) rfl rfl ?_
                refine tr_p (y_move rfl) rfl rfl ?_
                refine tr_p (y_seql rfl rfl) rfl rfl ?_
                obtain ⟨y102, k103, H⟩ := H
                refine tr_h (y_ldS Try.isAgg34 Try.sizeOf34 rfl rfl) k103 rfl rfl ?_
                obtain ⟨y104, k105, H⟩ := H
                refine tr_h (y_ldS Try.isAgg34 Try.sizeOf34 rfl rfl) k105 rfl rfl ?_
                refine tr_e (e_call Try.call26 rfl (F.merge_Compare_ok H)) rfl rfl ?_
                rintro _ h106 ⟨r107, rfl, H⟩
                refine tr_p (y_eql rfl rfl) rfl rfl ?_
                refine tr_p (y_bneq Try.underlying4 rfl rfl) rfl rfl ?_
                refine tr_p (y_pick_f rfl rfl) rfl rfl ?_
                refine tr_p (y_pick_t rfl rfl) rfl rfl ?_
                refine tr_nil ?_
                refine tr_thenN ?_
                exact tr_join [(3, (.pointer (some x3))), (4, (.pointer (some x4))), (5, (.pointer (some x5))), (64, (.bool (!((x7.toList == x9.toList) == ((r107 == 0))))))] ⟨rfl, rfl, rfl, rfl, trivial⟩ ⟨_, _, _, _, rfl, H⟩
            · replace H := H.2 g94
              refine tr_s rfl rfl ?_
              refine tr_s rfl rfl ?_
              refine tr_s rfl rfl ?_
              refine tr_s rfl rfl ?_
              refine tr_s rfl rfl ?_
              refine tr_s rfl rfl ?_
              refine tr_s rfl rfl ?_
              refine tr_s rfl rfl ?_
              refine tr_s rfl rfl ?_
              refine tr_s rfl rfl ?_
              refine tr_s rfl rfl ?_
              refine tr_s rfl rfl ?_
              refine tr_s rfl rfl ?_
              refine tr_s rfl rfl ?_
              refine tr_s rfl rfl ?_
              refine tr_s rfl rfl ?_
              refine tr_s rfl rfl ?_
              refine tr_s rfl rfl ?_
              refine tr_p (y_pick_f rfl rfl) rfl rfl ?_
              refine tr_nil ?_
              refine tr_thenN ?_
              exact tr_join [(3, (.pointer (some x3))), (4, (.pointer (some x4))), (5, (.pointer (some x5))), (64, (.bool false))] ⟨rfl, rfl, rfl, rfl, trivial⟩ ⟨_, _, _, _, rfl, H⟩
          · replace H := H.2 g93
            refine tr_s rfl rfl ?_
            refine tr_s rfl rfl ?_
            refine tr_p (y_pick_f rfl rfl) rfl rfl ?_
            refine tr_p (y_move rfl) rfl rfl ?_
            refine tr_s rfl rfl ?_
            refine tr_s rfl rfl ?_
            refine tr_s rfl rfl ?_
            refine tr_s rfl rfl ?_
            refine tr_s rfl rfl ?_
            refine tr_s rfl rfl ?_
            refine tr_s rfl rfl ?_
            refine tr_s rfl rfl ?_
            refine tr_s rfl rfl ?_
            refine tr_s rfl rfl ?_
            refine tr_s rfl rfl ?_
            refine tr_s rfl rfl ?_
            refine tr_s rfl rfl ?_
            refine tr_s rfl rfl ?_
            refine tr_s rfl rfl ?_
            refine tr_s rfl rfl ?_
            refine tr_s rfl rfl ?_
            refine tr_s rfl rfl ?_
            refine tr_p (y_pick_f rfl rfl) rfl rfl ?_
            refine tr_nil ?_
            refine tr_thenN ?_
            exact tr_join [(3, (.pointer (some x3))), (4, (.pointer (some x4))), (5, (.pointer (some x5))), (64, (.bool false))] ⟨rfl, rfl, rfl, rfl, trivial⟩ ⟨_, _, _, _, rfl, H⟩
    · refine tr_seq ?_
      refine tr_region ?_
      refine tr_p (y_move rfl) rfl rfl ?_
      refine tr_p (y_eql rfl rfl) rfl rfl ?_
      refine tr_nil ?_
      refine tr_thenN ?_
      refine tr_cond rfl (fun g108 => ?_) (fun g108 => ?_)
      · replace H := H.1 g108
        refine tr_seq ?_
        refine tr_region ?_
        refine tr_p (y_move rfl) rfl rfl ?_
        refine tr_e (e_call Try.call22 rfl (F.merge_Cell_ok H)) rfl rfl ?_
        rintro _ h109 ⟨r110, r111, rfl, H⟩
        refine tr_p (y_move rfl) rfl rfl ?_
        refine tr_p (y_ext rfl rfl) rfl rfl ?_
        refine tr_p (y_ext rfl rfl) rfl rfl ?_
        refine tr_e (f_alloc (cs := ((⟨0, (⟨#[]⟩ : ByteArray), 0⟩ : S_api_Cell) : S_api_Cell).cells.toArray) Try.zeroValue34 rfl H) rfl rfl ?_
        rintro _ h112 ⟨a113, rfl, H⟩
        refine tr_e (f_store (vs := r110.cells) Try.sizeOf34 rfl rfl cellsOfStruct rfl (by intro v hv; exact ones_S_api_Cell _ v hv) H) rfl rfl ?_
        rintro _ h114 ⟨rfl, H⟩
        refine tr_p (y_assign rfl) rfl rfl ?_
        refine tr_nil ?_
        refine tr_thenN ?_
        refine tr_seq_j (fun L' h => ∃ (x3 : Addr) (x4 : Addr) (x5 : Addr) (x7 : ByteArray) (x8 : Int) (x9 : ByteArray) (x10 : Int) (x38 : Bool), L' = [(3, (.pointer (some x3))), (4, (.pointer (some x4))), (5, (.pointer (some x5))), (7, (.string x7)), (8, (.int .i64 x8)), (9, (.string x9)), (10, (.int .i64 x10)), (38, (.bool x38))] ∧ F.spatelaw8_MergeOrder.j9 Q x3 x4 x5 x7 x8 x9 x10 x38 h) ?_ ?_
        · rintro L' h ⟨x3, x4, x5, x7, x8, x9, x10, x38, rfl, H⟩
          unfold F.spatelaw8_MergeOrder.j9 at H
          refine tr_cond rfl (fun g115 => ?_) (fun g115 => ?_)
          · replace H := H.1 g115
            refine tr_seq ?_
            refine tr_region ?_
            refine tr_p (y_assign rfl) rfl rfl ?_
            refine tr_nil ?_
            refine tr_thenN ?_
            refine tr_ret ?_
            refine tr_thenR ?_
            exact tr_ret1 rfl rfl ⟨_, rfl, H⟩
          · replace H := H.2 g115
            refine tr_skip ?_
            refine tr_thenN ?_
            exact tr_join [(3, (.pointer (some x3))), (4, (.pointer (some x4))), (5, (.pointer (some x5))), (7, (.string x7)), (8, (.int .i64 x8)), (9, (.string x9)), (10, (.int .i64 x10))] ⟨rfl, rfl, rfl, rfl, rfl, rfl, rfl, trivial⟩ ⟨_, _, _, _, _, _, _, rfl, H⟩
        · refine tr_region ?_
          refine tr_p (y_move rfl) rfl rfl ?_
          refine tr_p (y_neq rfl rfl) rfl rfl ?_
          refine tr_p (y_move rfl) rfl rfl ?_
          refine tr_split (t := 34) rfl (fun g116 => ?_) (fun g116 => ?_)
          · replace H := H.1 g116
            refine tr_s rfl rfl ?_
            refine tr_s rfl rfl ?_
            refine tr_s rfl rfl ?_
            refine tr_p (y_pick_t rfl rfl) rfl rfl ?_
            refine tr_nil ?_
            refine tr_thenN ?_
            exact tr_join [(3, (.pointer (some a2))), (4, (.pointer (some a4))), (5, (.pointer (some a6))), (7, (.string r13)), (8, (.int .i64 r14)), (9, (.string r18)), (10, (.int .i64 r19)), (38, (.bool true))] ⟨rfl, rfl, rfl, rfl, rfl, rfl, rfl, rfl, trivial⟩ ⟨_, _, _, _, _, _, _, _, rfl, H⟩
          · replace H := H.2 g116
            obtain ⟨y117, k118, H⟩ := H
            refine tr_h (y_ldS Try.isAgg34 Try.sizeOf34 rfl rfl) k118 rfl rfl ?_
            obtain ⟨y119, k120, H⟩ := H
            refine tr_h (y_ldS Try.isAgg34 Try.sizeOf34 rfl rfl) k120 rfl rfl ?_
            refine tr_p (st_neq (b := ((y117.View == y119.View) && ((y117.Key.toList == y119.Key.toList) && ((y117.Start == y119.Start) && true)))) eqg_34 (fun w => eqst_34 y117 y119 9998 w) rfl rfl) rfl rfl ?_
            refine tr_p (y_pick_f rfl rfl) rfl rfl ?_
            refine tr_nil ?_
            refine tr_thenN ?_
            exact tr_join [(3, (.pointer (some a2))), (4, (.pointer (some a4))), (5, (.pointer (some a6))), (7, (.string r13)), (8, (.int .i64 r14)), (9, (.string r18)), (10, (.int .i64 r19)), (38, (.bool (!((y117.View == y119.View) && ((y117.Key.toList == y119.Key.toList) && ((y117.Start == y119.Start) && true))))))] ⟨rfl, rfl, rfl, rfl, rfl, rfl, rfl, rfl, trivial⟩ ⟨_, _, _, _, _, _, _, _, rfl, H⟩
      · replace H := H.2 g108
        refine tr_skip ?_
        refine tr_thenN ?_
        exact tr_join [(3, (.pointer (some a2))), (4, (.pointer (some a4))), (5, (.pointer (some a6))), (7, (.string r13)), (8, (.int .i64 r14)), (9, (.string r18)), (10, (.int .i64 r19))] ⟨rfl, rfl, rfl, rfl, rfl, rfl, rfl, trivial⟩ ⟨_, _, _, _, _, _, _, rfl, H⟩

def F.spatelaw8_ordered.j3 (Q : Sl → H → Prop) (C1 : Sl → Sl → Int → H → Prop) (x0 : Sl) (x3 : Sl) (x4 : Int) (h : H) : Prop :=
  C1 x0 x3 (IntKind.wrap .i64 (x4 + 1)) h
def F.spatelaw8_ordered.j5 (Q : Sl → H → Prop) (C1 : Sl → Sl → Int → H → Prop) (C2 : Sl → Sl → Int → Int → H → Prop) (x0 : Sl) (x3 : Sl) (x4 : Int) (x5 : Int) (h : H) : Prop :=
  C2 x0 x3 x4 (IntKind.wrap .i64 (x5 + 1)) h
def F.spatelaw8_ordered.j7 (Q : Sl → H → Prop) (C1 : Sl → Sl → Int → H → Prop) (x0 : Sl) (x3 : Sl) (x4 : Int) (x5 : Int) (h : H) : Prop :=
  cutL x3 0 x5 7 fun s3 =>
  runL PP (Builtin.append_ #[51, 51] 51 #[(⟨none, 0, 0⟩ : Sl).enc, s3.enc]) h fun s5 h4 =>
  idxA x0 x4 7 fun a6 =>
  ld_S_api_Row h4 a6 fun y8 =>
  newL h4 ((y8.cells).toArray) ty_66 1 fun s11 h10 =>
  runL PP (Builtin.append_ #[51, 51] 51 #[s5.enc, s11.enc]) h10 fun s13 h12 =>
  cutL x3 x5 (x3.len : Int) 7 fun s15 =>
  runL PP (Builtin.append_ #[51, 51] 51 #[s13.enc, s15.enc]) h12 fun s17 h16 =>
  F.spatelaw8_ordered.j3 Q C1 x0 s17 x4 h16
def F.spatelaw8_ordered.j8 (Q : Sl → H → Prop) (C1 : Sl → Sl → Int → H → Prop) (x0 : Sl) (x3 : Sl) (x4 : Int) (x5 : Int) (x53 : Bool) (h : H) : Prop :=
  (x53 = true →
  F.spatelaw8_ordered.j3 Q C1 x0 x3 x4 h) ∧
  (x53 = false →
  F.spatelaw8_ordered.j7 Q C1 x0 x3 x4 x5 h)
def F.spatelaw8_ordered.j6 (Q : Sl → H → Prop) (C1 : Sl → Sl → Int → H → Prop) (C2 : Sl → Sl → Int → Int → H → Prop) (x0 : Sl) (x3 : Sl) (x4 : Int) (x5 : Int) (x34 : Bool) (h : H) : Prop :=
  (x34 = true →
  F.spatelaw8_ordered.j5 Q C1 C2 x0 x3 x4 x5 h) ∧
  (x34 = false →
  ((decide (x5 < (x3.len : Int))) = true →
  idxA x3 x5 7 fun a20 =>
  ld_S_api_Cell h (a20.add 0) fun y22 =>
  idxA x0 x4 7 fun a24 =>
  ld_S_api_Cell h (a24.add 0) fun y26 =>
  F.spatelaw8_ordered.j8 Q C1 x0 x3 x4 x5 ((y22.View == y26.View) && ((y22.Key.toList == y26.Key.toList) && ((y22.Start == y26.Start) && true))) h) ∧
  ((decide (x5 < (x3.len : Int))) = false →
  F.spatelaw8_ordered.j8 Q C1 x0 x3 x4 x5 false h))
def F.spatelaw8_ordered.l4 (Q : Sl → H → Prop) (C1 : Sl → Sl → Int → H → Prop) : Nat → Sl → Sl → Int → Int → H → Prop
  | 0, _, _, _, _, _ => False
  | q4 + 1, x0, x3, x4, x5, h =>
    ((decide (x5 < (x3.len : Int))) = true →
    idxA x3 x5 7 fun a29 =>
    ld_S_api_Cell h (a29.add 0) fun y31 =>
    idxA x0 x4 7 fun a33 =>
    ld_S_api_Cell h (a33.add 0) fun y35 =>
    F.spateref8_Compare y31 y35 h fun r38 h37 =>
    F.spatelaw8_ordered.j6 Q C1 (F.spatelaw8_ordered.l4 Q C1 q4) x0 x3 x4 x5 (decide (r38 < 0)) h37) ∧
    ((decide (x5 < (x3.len : Int))) = false →
    F.spatelaw8_ordered.j6 Q C1 (F.spatelaw8_ordered.l4 Q C1 q4) x0 x3 x4 x5 false h)
def F.spatelaw8_ordered.j2 (Q : Sl → H → Prop) (C1 : Sl → Sl → Int → H → Prop) (x0 : Sl) (x3 : Sl) (x4 : Int) (h : H) : Prop :=
  ∃ m, F.spatelaw8_ordered.l4 Q C1 m x0 x3 x4 0 h
def F.spatelaw8_ordered.j9 (Q : Sl → H → Prop) (C1 : Sl → Sl → Int → H → Prop) (x0 : Sl) (x3 : Sl) (x4 : Int) (x14 : Bool) (h : H) : Prop :=
  (x14 = true →
  F.spatelaw8_ordered.j2 Q C1 x0 x3 x4 h) ∧
  (x14 = false →
  Q x3 h)
def F.spatelaw8_ordered.l1 (Q : Sl → H → Prop) : Nat → Sl → Sl → Int → H → Prop
  | 0, _, _, _, _ => False
  | q1 + 1, x0, x3, x4, h =>
    ((decide (x4 < (x0.len : Int))) = true →
    F.spatelaw8_ordered.j9 Q (F.spatelaw8_ordered.l1 Q q1) x0 x3 x4 (decide (x4 < 200)) h) ∧
    ((decide (x4 < (x0.len : Int))) = false →
    F.spatelaw8_ordered.j9 Q (F.spatelaw8_ordered.l1 Q q1) x0 x3 x4 false h)
/-- spate/spatelaw8.ordered -/
def F.spatelaw8_ordered (p0 : Sl) (h : H) (Q : Sl → H → Prop) : Prop :=
  ∃ m, F.spatelaw8_ordered.l1 Q m p0 (⟨none, 0, 0⟩ : Sl) 0 h
theorem F.spatelaw8_ordered_ok {p0 : Sl} {h : H} {Q : Sl → H → Prop} (H : F.spatelaw8_ordered p0 h Q) : Fn PP 29 ([p0.enc] : List Value).toArray h fun r h' => ∃ r0, r = r0.enc ∧ Q r0 h' := by
  unfold F.spatelaw8_ordered at H
  refine fn_of Try.func29 Try.ntmps29 rfl rfl fun w0 => ?_
  refine tr_sub [(0, p0.enc)] ⟨rfl, trivial⟩ ?_
  refine tr_seq ?_
  refine tr_region ?_
  refine tr_p (y_assign rfl) rfl rfl ?_
  refine tr_nil ?_
  refine tr_thenN ?_
  refine tr_seq ?_
  refine tr_region ?_
  refine tr_p (y_assign rfl) rfl rfl ?_
  refine tr_nil ?_
  refine tr_thenN ?_
  refine tr_seq ?_
  refine tr_seq ?_
  refine tr_region ?_
  refine tr_p (y_assign rfl) rfl rfl ?_
  refine tr_nil ?_
  refine tr_thenN ?_
  refine tr_block ?_
  obtain ⟨m42, H⟩ := H
  refine tr_sub [(0, p0.enc), (3, (⟨none, 0, 0⟩ : Sl).enc), (4, (.int .i64 0))] ⟨rfl, rfl, rfl, trivial⟩ ?_
  refine tr_loop_j (fun m L' h => ∃ (x0 : Sl) (x3 : Sl) (x4 : Int), L' = [(0, x0.enc), (3, x3.enc), (4, (.int .i64 x4))] ∧ F.spatelaw8_ordered.l1 Q m x0 x3 x4 h) ?_ ?_ m42 ⟨_, _, _, rfl, H⟩
  · rintro L' h ⟨_, _, _, _, H⟩; exact H
  · rintro q1 L' h ⟨x0, x3, x4, rfl, H⟩
    unfold F.spatelaw8_ordered.l1 at H
    refine tr_seq_j (fun L' h => ∃ (x0 : Sl) (x3 : Sl) (x4 : Int), L' = [(0, x0.enc), (3, x3.enc), (4, (.int .i64 x4))] ∧ F.spatelaw8_ordered.j2 Q (F.spatelaw8_ordered.l1 Q q1) x0 x3 x4 h) ?_ ?_
    · rintro L' h ⟨x0, x3, x4, rfl, H⟩
      unfold F.spatelaw8_ordered.j2 at H
      refine tr_seq_j (fun L' h => ∃ (x0 : Sl) (x3 : Sl) (x4 : Int), L' = [(0, x0.enc), (3, x3.enc), (4, (.int .i64 x4))] ∧ F.spatelaw8_ordered.j3 Q (F.spatelaw8_ordered.l1 Q q1) x0 x3 x4 h) ?_ ?_
      · rintro L' h ⟨x0, x3, x4, rfl, H⟩
        unfold F.spatelaw8_ordered.j3 at H
        refine tr_region ?_
        refine tr_p (y_move rfl) rfl rfl ?_
        refine tr_p (y_add rfl rfl) rfl rfl ?_
        refine tr_p (y_assign rfl) rfl rfl ?_
        refine tr_nil ?_
        refine tr_thenN ?_
        exact tr_join [(0, x0.enc), (3, x3.enc), (4, (.int .i64 (IntKind.wrap .i64 (x4 + 1))))] ⟨rfl, rfl, rfl, trivial⟩ ⟨_, _, _, rfl, H⟩
      · refine tr_block ?_
        refine tr_seq ?_
        refine tr_region ?_
        refine tr_p (y_assign rfl) rfl rfl ?_
        refine tr_nil ?_
        refine tr_thenN ?_
        refine tr_seq ?_
        refine tr_block ?_
        obtain ⟨m39, H⟩ := H
        refine tr_sub [(0, x0.enc), (3, x3.enc), (4, (.int .i64 x4)), (5, (.int .i64 0))] ⟨rfl, rfl, rfl, rfl, trivial⟩ ?_
        refine tr_loop_j (fun m L' h => ∃ (x0 : Sl) (x3 : Sl) (x4 : Int) (x5 : Int), L' = [(0, x0.enc), (3, x3.enc), (4, (.int .i64 x4)), (5, (.int .i64 x5))] ∧ F.spatelaw8_ordered.l4 Q (F.spatelaw8_ordered.l1 Q q1) m x0 x3 x4 x5 h) ?_ ?_ m39 ⟨_, _, _, _, rfl, H⟩
        · rintro L' h ⟨_, _, _, _, _, H⟩; exact H
        · rintro q4 L' h ⟨x0, x3, x4, x5, rfl, H⟩
          unfold F.spatelaw8_ordered.l4 at H
          refine tr_seq_j (fun L' h => ∃ (x0 : Sl) (x3 : Sl) (x4 : Int) (x5 : Int), L' = [(0, x0.enc), (3, x3.enc), (4, (.int .i64 x4)), (5, (.int .i64 x5))] ∧ F.spatelaw8_ordered.j5 Q (F.spatelaw8_ordered.l1 Q q1) (F.spatelaw8_ordered.l4 Q (F.spatelaw8_ordered.l1 Q q1) q4) x0 x3 x4 x5 h) ?_ ?_
          · rintro L' h ⟨x0, x3, x4, x5, rfl, H⟩
            unfold F.spatelaw8_ordered.j5 at H
            refine tr_block ?_
            refine tr_region ?_
            refine tr_p (y_move rfl) rfl rfl ?_
            refine tr_p (y_add rfl rfl) rfl rfl ?_
            refine tr_p (y_assign rfl) rfl rfl ?_
            refine tr_nil ?_
            refine tr_blockN ?_
            refine tr_thenN ?_
            exact tr_join [(0, x0.enc), (3, x3.enc), (4, (.int .i64 x4)), (5, (.int .i64 (IntKind.wrap .i64 (x5 + 1))))] ⟨rfl, rfl, rfl, rfl, trivial⟩ ⟨_, _, _, _, rfl, H⟩
          · refine tr_seq_j (fun L' h => ∃ (x0 : Sl) (x3 : Sl) (x4 : Int) (x5 : Int) (x34 : Bool), L' = [(0, x0.enc), (3, x3.enc), (4, (.int .i64 x4)), (5, (.int .i64 x5)), (34, (.bool x34))] ∧ F.spatelaw8_ordered.j6 Q (F.spatelaw8_ordered.l1 Q q1) (F.spatelaw8_ordered.l4 Q (F.spatelaw8_ordered.l1 Q q1) q4) x0 x3 x4 x5 x34 h) ?_ ?_
            · rintro L' h ⟨x0, x3, x4, x5, x34, rfl, H⟩
              unfold F.spatelaw8_ordered.j6 at H
              refine tr_cond rfl (fun g1 => ?_) (fun g1 => ?_)
              · replace H := H.1 g1
                refine tr_skip ?_
                refine tr_thenN ?_
                exact tr_join [(0, x0.enc), (3, x3.enc), (4, (.int .i64 x4)), (5, (.int .i64 x5))] ⟨rfl, rfl, rfl, rfl, trivial⟩ ⟨_, _, _, _, rfl, H⟩
              · replace H := H.2 g1
                refine tr_exit ?_
                refine tr_thenE ?_
                refine tr_thenE ?_
                refine tr_hit ?_
                refine tr_thenN ?_
                refine tr_seq_j (fun L' h => ∃ (x0 : Sl) (x3 : Sl) (x4 : Int) (x5 : Int), L' = [(0, x0.enc), (3, x3.enc), (4, (.int .i64 x4)), (5, (.int .i64 x5))] ∧ F.spatelaw8_ordered.j7 Q (F.spatelaw8_ordered.l1 Q q1) x0 x3 x4 x5 h) ?_ ?_
                · rintro L' h ⟨x0, x3, x4, x5, rfl, H⟩
                  unfold F.spatelaw8_ordered.j7 at H
                  refine tr_seq ?_
                  refine tr_region ?_
                  refine tr_p (y_assign rfl) rfl rfl ?_
                  refine tr_nil ?_
                  refine tr_thenN ?_
                  refine tr_seq ?_
                  refine tr_region ?_
                  refine tr_p (y_move rfl) rfl rfl ?_
                  refine tr_p (y_move rfl) rfl rfl ?_
                  refine tr_p (y_move rfl) rfl rfl ?_
                  obtain ⟨s3, e2, H⟩ := H
                  refine tr_p (f_cutL (s := x3) none (some (.i64, x5)) Try.runUnderlying51 Try.sizeOf66 rfl rfl rfl e2) rfl rfl ?_
                  refine tr_e (f_app rfl H) rfl rfl ?_
                  rintro _ h4 ⟨s5, rfl, H⟩
                  refine tr_p (y_assign rfl) rfl rfl ?_
                  refine tr_nil ?_
                  refine tr_thenN ?_
                  refine tr_seq ?_
                  refine tr_region ?_
                  refine tr_p (y_move rfl) rfl rfl ?_
                  refine tr_p (y_move rfl) rfl rfl ?_
                  refine tr_p (y_move rfl) rfl rfl ?_
                  obtain ⟨a6, e7, H⟩ := H
                  refine tr_p (f_idx (s := x0) Try.runUnderlying51 Try.sizeOf66 rfl rfl e7) rfl rfl ?_
                  obtain ⟨y8, k9, H⟩ := H
                  refine tr_h (y_ldS Try.isAgg66 Try.sizeOf66 rfl rfl) k9 rfl rfl ?_
                  refine tr_e (f_buildL (cs := (y8.cells).toArray) rfl rfl (bl_51_1_0 y8) H) rfl rfl ?_
                  rintro _ h10 ⟨s11, rfl, H⟩
                  refine tr_e (f_app rfl H) rfl rfl ?_
                  rintro _ h12 ⟨s13, rfl, H⟩
                  refine tr_p (y_assign rfl) rfl rfl ?_
                  refine tr_nil ?_
                  refine tr_thenN ?_
                  refine tr_region ?_
                  refine tr_p (y_move rfl) rfl rfl ?_
                  refine tr_p (y_move rfl) rfl rfl ?_
                  refine tr_p (y_move rfl) rfl rfl ?_
                  obtain ⟨s15, e14, H⟩ := H
                  refine tr_p (f_cutL (s := x3) (some (.i64, x5)) none Try.runUnderlying51 Try.sizeOf66 rfl rfl rfl e14) rfl rfl ?_
                  refine tr_e (f_app rfl H) rfl rfl ?_
                  rintro _ h16 ⟨s17, rfl, H⟩
                  refine tr_p (y_assign rfl) rfl rfl ?_
                  refine tr_nil ?_
                  refine tr_blockN ?_
                  refine tr_thenN ?_
                  exact tr_join [(0, x0.enc), (3, s17.enc), (4, (.int .i64 x4))] ⟨rfl, rfl, rfl, trivial⟩ ⟨_, _, _, rfl, H⟩
                · refine tr_seq_j (fun L' h => ∃ (x0 : Sl) (x3 : Sl) (x4 : Int) (x5 : Int) (x53 : Bool), L' = [(0, x0.enc), (3, x3.enc), (4, (.int .i64 x4)), (5, (.int .i64 x5)), (53, (.bool x53))] ∧ F.spatelaw8_ordered.j8 Q (F.spatelaw8_ordered.l1 Q q1) x0 x3 x4 x5 x53 h) ?_ ?_
                  · rintro L' h ⟨x0, x3, x4, x5, x53, rfl, H⟩
                    unfold F.spatelaw8_ordered.j8 at H
                    refine tr_cond rfl (fun g18 => ?_) (fun g18 => ?_)
                    · replace H := H.1 g18
                      refine tr_exit ?_
                      refine tr_thenE ?_
                      refine tr_hit ?_
                      refine tr_thenN ?_
                      exact tr_join [(0, x0.enc), (3, x3.enc), (4, (.int .i64 x4))] ⟨rfl, rfl, rfl, trivial⟩ ⟨_, _, _, rfl, H⟩
                    · replace H := H.2 g18
                      refine tr_skip ?_
                      refine tr_thenN ?_
                      exact tr_join [(0, x0.enc), (3, x3.enc), (4, (.int .i64 x4)), (5, (.int .i64 x5))] ⟨rfl, rfl, rfl, rfl, trivial⟩ ⟨_, _, _, _, rfl, H⟩
                  · refine tr_draw mixed [0, 0, 2, 7, 15, 31, 31, 127, 255, 511, 31, 31, 3103, 7199, 15391, 32767, 65535] (by kernel_rfl) ?_
                    refine g_p 0 1 rfl (by kernel_rfl) (y_move rfl) rfl rfl ?_
                    refine g_p 1 3 rfl (by kernel_rfl) (y_move rfl) rfl rfl ?_
                    refine g_p 2 7 rfl (by kernel_rfl) (y_len (ts := #[]) Try.runUnderlying51 (o := x3.ptr) (n := x3.len) (cap := x3.cap) rfl) rfl rfl ?_
                    refine g_p 3 15 rfl (by kernel_rfl) (y_lss rfl rfl) rfl rfl ?_
                    refine g_p 4 31 rfl (by kernel_rfl) (y_move rfl) rfl rfl ?_
                    refine g_split (t := 41) rfl (fun g19 => ?_) (fun g19 => ?_)
                    · replace H := H.1 g19
                      refine g_p 5 63 rfl (by kernel_rfl) (y_move rfl) rfl rfl ?_
                      refine g_p 6 127 rfl (by kernel_rfl) (y_move rfl) rfl rfl ?_
                      obtain ⟨a20, e21, H⟩ := H
                      refine g_p 7 255 rfl (by kernel_rfl) (f_idx (s := x3) Try.runUnderlying51 Try.sizeOf66 rfl rfl e21) rfl rfl ?_
                      refine g_p 8 511 rfl (by kernel_rfl) (y_fa (off := 0) Try.runUnderlying66 fo_66_0 rfl) rfl rfl ?_
                      obtain ⟨y22, k23, H⟩ := H
                      refine g_h 9 1023 rfl (by kernel_rfl) (y_ldS Try.isAgg34 Try.sizeOf34 rfl rfl) k23 rfl rfl ?_
                      refine g_p 10 2047 rfl (by kernel_rfl) (y_move rfl) rfl rfl ?_
                      refine g_p 11 4095 rfl (by kernel_rfl) (y_move rfl) rfl rfl ?_
                      obtain ⟨a24, e25, H⟩ := H
                      refine g_p 12 8191 rfl (by kernel_rfl) (f_idx (s := x0) Try.runUnderlying51 Try.sizeOf66 rfl rfl e25) rfl rfl ?_
                      refine g_p 13 16383 rfl (by kernel_rfl) (y_fa (off := 0) Try.runUnderlying66 fo_66_0 rfl) rfl rfl ?_
                      obtain ⟨y26, k27, H⟩ := H
                      refine g_h 14 32767 rfl (by kernel_rfl) (y_ldS Try.isAgg34 Try.sizeOf34 rfl rfl) k27 rfl rfl ?_
                      refine g_p 15 65535 rfl (by kernel_rfl) (st_eql (b := ((y22.View == y26.View) && ((y22.Key.toList == y26.Key.toList) && ((y22.Start == y26.Start) && true)))) eqg_34 (fun w => eqst_34 y22 y26 9998 w) rfl rfl) rfl rfl ?_
                      refine g_p 16 131071 rfl (by kernel_rfl) (y_pick_t rfl rfl) rfl rfl ?_
                      refine g_d (by kernel_rfl) ?_
                      refine tr_thenN ?_
                      exact tr_join [(0, x0.enc), (3, x3.enc), (4, (.int .i64 x4)), (5, (.int .i64 x5)), (53, (.bool ((y22.View == y26.View) && ((y22.Key.toList == y26.Key.toList) && ((y22.Start == y26.Start) && true)))))] ⟨rfl, rfl, rfl, rfl, rfl, trivial⟩ ⟨_, _, _, _, _, rfl, H⟩
                    · replace H := H.2 g19
                      refine g_s 5 63 rfl (by kernel_rfl) rfl rfl ?_
                      refine g_s 6 127 rfl (by kernel_rfl) rfl rfl ?_
                      refine g_s 7 255 rfl (by kernel_rfl) rfl rfl ?_
                      refine g_s 8 511 rfl (by kernel_rfl) rfl rfl ?_
                      refine g_s 9 1023 rfl (by kernel_rfl) rfl rfl ?_
                      refine g_s 10 2047 rfl (by kernel_rfl) rfl rfl ?_
                      refine g_s 11 4095 rfl (by kernel_rfl) rfl rfl ?_
                      refine g_s 12 8191 rfl (by kernel_rfl) rfl rfl ?_
                      refine g_s 13 16383 rfl (by kernel_rfl) rfl rfl ?_
                      refine g_s 14 32767 rfl (by kernel_rfl) rfl rfl ?_
                      refine g_s 15 65535 rfl (by kernel_rfl) rfl rfl ?_
                      refine g_p 16 131071 rfl (by kernel_rfl) (y_pick_f rfl rfl) rfl rfl ?_
                      refine g_d (by kernel_rfl) ?_
                      refine tr_thenN ?_
                      exact tr_join [(0, x0.enc), (3, x3.enc), (4, (.int .i64 x4)), (5, (.int .i64 x5)), (53, (.bool false))] ⟨rfl, rfl, rfl, rfl, rfl, trivial⟩ ⟨_, _, _, _, _, rfl, H⟩
            · refine tr_draw mixed [0, 0, 2, 7, 15, 31, 31, 127, 255, 511, 31, 31, 3103, 7199, 15391, 32767, 65535, 131071] (by kernel_rfl) ?_
              refine g_p 0 1 rfl (by kernel_rfl) (y_move rfl) rfl rfl ?_
              refine g_p 1 3 rfl (by kernel_rfl) (y_move rfl) rfl rfl ?_
              refine g_p 2 7 rfl (by kernel_rfl) (y_len (ts := #[]) Try.runUnderlying51 (o := x3.ptr) (n := x3.len) (cap := x3.cap) rfl) rfl rfl ?_
              refine g_p 3 15 rfl (by kernel_rfl) (y_lss rfl rfl) rfl rfl ?_
              refine g_p 4 31 rfl (by kernel_rfl) (y_move rfl) rfl rfl ?_
              refine g_split (t := 21) rfl (fun g28 => ?_) (fun g28 => ?_)
              · replace H := H.1 g28
                refine g_p 5 63 rfl (by kernel_rfl) (y_move rfl) rfl rfl ?_
                refine g_p 6 127 rfl (by kernel_rfl) (y_move rfl) rfl rfl ?_
                obtain ⟨a29, e30, H⟩ := H
                refine g_p 7 255 rfl (by kernel_rfl) (f_idx (s := x3) Try.runUnderlying51 Try.sizeOf66 rfl rfl e30) rfl rfl ?_
                refine g_p 8 511 rfl (by kernel_rfl) (y_fa (off := 0) Try.runUnderlying66 fo_66_0 rfl) rfl rfl ?_
                obtain ⟨y31, k32, H⟩ := H
                refine g_h 9 1023 rfl (by kernel_rfl) (y_ldS Try.isAgg34 Try.sizeOf34 rfl rfl) k32 rfl rfl ?_
                refine g_p 10 2047 rfl (by kernel_rfl) (y_move rfl) rfl rfl ?_
                refine g_p 11 4095 rfl (by kernel_rfl) (y_move rfl) rfl rfl ?_
                obtain ⟨a33, e34, H⟩ := H
                refine g_p 12 8191 rfl (by kernel_rfl) (f_idx (s := x0) Try.runUnderlying51 Try.sizeOf66 rfl rfl e34) rfl rfl ?_
                refine g_p 13 16383 rfl (by kernel_rfl) (y_fa (off := 0) Try.runUnderlying66 fo_66_0 rfl) rfl rfl ?_
                obtain ⟨y35, k36, H⟩ := H
                refine g_h 14 32767 rfl (by kernel_rfl) (y_ldS Try.isAgg34 Try.sizeOf34 rfl rfl) k36 rfl rfl ?_
                refine g_e 15 65535 [] (by kernel_rfl) rfl (by kernel_rfl) (e_call Try.call27 rfl (F.spateref8_Compare_ok H)) rfl rfl ?_
                rintro _ h37 ⟨r38, rfl, H⟩
                refine ⟨trivial, ?_⟩
                refine g_p 16 131071 rfl (by kernel_rfl) (y_lss rfl rfl) rfl rfl ?_
                refine g_p 17 262143 rfl (by kernel_rfl) (y_pick_t rfl rfl) rfl rfl ?_
                refine g_d (by kernel_rfl) ?_
                refine tr_thenN ?_
                exact tr_join [(0, x0.enc), (3, x3.enc), (4, (.int .i64 x4)), (5, (.int .i64 x5)), (34, (.bool (decide (r38 < 0))))] ⟨rfl, rfl, rfl, rfl, rfl, trivial⟩ ⟨_, _, _, _, _, rfl, H⟩
              · replace H := H.2 g28
                refine g_s 5 63 rfl (by kernel_rfl) rfl rfl ?_
                refine g_s 6 127 rfl (by kernel_rfl) rfl rfl ?_
                refine g_s 7 255 rfl (by kernel_rfl) rfl rfl ?_
                refine g_s 8 511 rfl (by kernel_rfl) rfl rfl ?_
                refine g_s 9 1023 rfl (by kernel_rfl) rfl rfl ?_
                refine g_s 10 2047 rfl (by kernel_rfl) rfl rfl ?_
                refine g_s 11 4095 rfl (by kernel_rfl) rfl rfl ?_
                refine g_s 12 8191 rfl (by kernel_rfl) rfl rfl ?_
                refine g_s 13 16383 rfl (by kernel_rfl) rfl rfl ?_
                refine g_s 14 32767 rfl (by kernel_rfl) rfl rfl ?_
                refine g_s 15 65535 rfl (by kernel_rfl) rfl rfl ?_
                refine g_s 16 131071 rfl (by kernel_rfl) rfl rfl ?_
                refine g_p 17 262143 rfl (by kernel_rfl) (y_pick_f rfl rfl) rfl rfl ?_
                refine g_d (by kernel_rfl) ?_
                refine tr_thenN ?_
                exact tr_join [(0, x0.enc), (3, x3.enc), (4, (.int .i64 x4)), (5, (.int .i64 x5)), (34, (.bool false))] ⟨rfl, rfl, rfl, rfl, rfl, trivial⟩ ⟨_, _, _, _, _, rfl, H⟩
    · refine tr_seq_j (fun L' h => ∃ (x0 : Sl) (x3 : Sl) (x4 : Int) (x14 : Bool), L' = [(0, x0.enc), (3, x3.enc), (4, (.int .i64 x4)), (14, (.bool x14))] ∧ F.spatelaw8_ordered.j9 Q (F.spatelaw8_ordered.l1 Q q1) x0 x3 x4 x14 h) ?_ ?_
      · rintro L' h ⟨x0, x3, x4, x14, rfl, H⟩
        unfold F.spatelaw8_ordered.j9 at H
        refine tr_cond rfl (fun g40 => ?_) (fun g40 => ?_)
        · replace H := H.1 g40
          refine tr_skip ?_
          refine tr_thenN ?_
          exact tr_join [(0, x0.enc), (3, x3.enc), (4, (.int .i64 x4))] ⟨rfl, rfl, rfl, trivial⟩ ⟨_, _, _, rfl, H⟩
        · replace H := H.2 g40
          refine tr_exit ?_
          refine tr_thenE ?_
          refine tr_thenE ?_
          refine tr_hit ?_
          refine tr_thenN ?_
          refine tr_seq ?_
          refine tr_region ?_
          refine tr_p (y_move rfl) rfl rfl ?_
          refine tr_p (y_assign rfl) rfl rfl ?_
          refine tr_nil ?_
          refine tr_thenN ?_
          refine tr_ret ?_
          exact tr_ret1 rfl rfl ⟨_, rfl, H⟩
      · refine tr_region ?_
        refine tr_p (y_move rfl) rfl rfl ?_
        refine tr_p (y_move rfl) rfl rfl ?_
        refine tr_p (y_len (ts := #[]) Try.runUnderlying51 (o := x0.ptr) (n := x0.len) (cap := x0.cap) rfl) rfl rfl ?_
        refine tr_p (y_lss rfl rfl) rfl rfl ?_
        refine tr_p (y_move rfl) rfl rfl ?_
        refine tr_split (t := 11) rfl (fun g41 => ?_) (fun g41 => ?_)
        · replace H := H.1 g41
          refine tr_p (y_move rfl) rfl rfl ?_
          refine tr_p (y_lss rfl rfl) rfl rfl ?_
          refine tr_p (y_pick_t rfl rfl) rfl rfl ?_
          refine tr_nil ?_
          refine tr_thenN ?_
          exact tr_join [(0, x0.enc), (3, x3.enc), (4, (.int .i64 x4)), (14, (.bool (decide (x4 < 200))))] ⟨rfl, rfl, rfl, rfl, trivial⟩ ⟨_, _, _, _, rfl, H⟩
        · replace H := H.2 g41
          refine tr_s rfl rfl ?_
          refine tr_s rfl rfl ?_
          refine tr_p (y_pick_f rfl rfl) rfl rfl ?_
          refine tr_nil ?_
          refine tr_thenN ?_
          exact tr_join [(0, x0.enc), (3, x3.enc), (4, (.int .i64 x4)), (14, (.bool false))] ⟨rfl, rfl, rfl, rfl, trivial⟩ ⟨_, _, _, _, rfl, H⟩

/-- spate/spatelaw2.mark -/
def F.spatelaw2_mark  (h : H) (Q : S_api_Cell → H → Prop) : Prop :=
  new h (((⟨0, (⟨#[]⟩ : ByteArray), 0⟩ : S_api_Cell) : S_api_Cell).cells.toArray) ty_34 fun a2 h1 =>
  stH h1 a2 ((⟨(-9), (⟨#[109, 97, 114, 107]⟩ : ByteArray), 9⟩ : S_api_Cell).cells) fun h3 =>
  ld_S_api_Cell h3 a2 fun y4 =>
  Q y4 h3
theorem F.spatelaw2_mark_ok  {h : H} {Q : S_api_Cell → H → Prop} (H : F.spatelaw2_mark  h Q) : Fn PP 47 ([] : List Value).toArray h fun r h' => ∃ r0, r = (.agg r0.cells.toArray) ∧ Q r0 h' := by
  unfold F.spatelaw2_mark at H
  refine fn_of Try.func47 Try.ntmps47 rfl rfl fun w0 => ?_
  refine tr_sub [] trivial ?_
  refine tr_seq ?_
  refine tr_region ?_
  refine tr_e (f_alloc (cs := ((⟨0, (⟨#[]⟩ : ByteArray), 0⟩ : S_api_Cell) : S_api_Cell).cells.toArray) Try.zeroValue34 rfl H) rfl rfl ?_
  rintro _ h1 ⟨a2, rfl, H⟩
  refine tr_nil ?_
  refine tr_thenN ?_
  refine tr_seq ?_
  refine tr_region ?_
  refine tr_p (f_build rfl (bd_34_0_1_2 (-9) (⟨#[109, 97, 114, 107]⟩ : ByteArray) 9)) rfl rfl ?_
  refine tr_e (f_store (vs := (⟨(-9), (⟨#[109, 97, 114, 107]⟩ : ByteArray), 9⟩ : S_api_Cell).cells) Try.sizeOf34 rfl rfl cellsOfStruct rfl (by intro v hv; exact ones_S_api_Cell _ v hv) H) rfl rfl ?_
  rintro _ h3 ⟨rfl, H⟩
  refine tr_nil ?_
  refine tr_thenN ?_
  refine tr_ret ?_
  obtain ⟨y4, k5, H⟩ := H
  exact tr_rv1 rfl (rv_cellS Try.isAgg34 Try.sizeOf34 rfl rfl k5) ⟨_, rfl, H⟩

def F.spatelaw2_LendResponse.l1 (Q : S_api_Response → H → Prop) : Nat → Addr → Addr → Sl → Int → H → Prop
  | 0, _, _, _, _, _ => False
  | q1 + 1, x1, x2, x3, x4, h =>
    ((decide (x4 < (x3.len : Int))) = true →
    F.spatelaw2_mark  h fun r17 h16 =>
    idxA x3 x4 7 fun a18 =>
    stH h16 (a18.add 0) r17.cells fun h20 =>
    (F.spatelaw2_LendResponse.l1 Q q1) x1 x2 x3 (IntKind.wrap .i64 (x4 + 1)) h20) ∧
    ((decide (x4 < (x3.len : Int))) = false →
    ldL h (x1.add 4) fun y21 =>
    cutL x3 0 (y21.len : Int) 7 fun s24 =>
    stH h (x1.add 4) [s24.enc] fun h25 =>
    ld_S_api_Response h25 x1 fun y26 =>
    stH h25 x2 y26.cells fun h28 =>
    ld_S_api_Response h28 x2 fun y29 =>
    Q y29 h28)
/-- spate/spatelaw2.LendResponse -/
def F.spatelaw2_LendResponse (p0 : S_api_Response) (h : H) (Q : S_api_Response → H → Prop) : Prop :=
  new h p0.cells.toArray ty_57 fun a2 h1 =>
  new h1 (((⟨0, 0, 0, 0, (⟨none, 0, 0⟩ : Sl), (⟨0, 0, 0, 0, 0, 0⟩ : S_api_Stats)⟩ : S_api_Response) : S_api_Response).cells.toArray) ty_57 fun a4 h3 =>
  ldL h3 (a2.add 4) fun y5 =>
  runL PP (Instr.makeSlice 51 (.int .i64 (IntKind.wrap .i64 ((y5.len : Int) + 3))) (.int .i64 (IntKind.wrap .i64 ((y5.len : Int) + 3)))) h3 fun s8 h7 =>
  ldL h7 (a2.add 4) fun y9 =>
  runI PP (Builtin.copy_ #[51, 51] 3 #[s8.enc, y9.enc]) h7 .i64 fun s12 h11 =>
  ldL h11 (a2.add 4) fun y13 =>
  ∃ m, F.spatelaw2_LendResponse.l1 Q m a2 a4 s8 (y13.len : Int) h11
theorem F.spatelaw2_LendResponse_ok {p0 : S_api_Response} {h : H} {Q : S_api_Response → H → Prop} (H : F.spatelaw2_LendResponse p0 h Q) : Fn PP 30 ([(.agg p0.cells.toArray)] : List Value).toArray h fun r h' => ∃ r0, r = (.agg r0.cells.toArray) ∧ Q r0 h' := by
  unfold F.spatelaw2_LendResponse at H
  refine fn_of Try.func30 Try.ntmps30 rfl rfl fun w0 => ?_
  refine tr_sub [(0, (.agg p0.cells.toArray))] ⟨rfl, trivial⟩ ?_
  refine tr_seq ?_
  refine tr_region ?_
  refine tr_e (f_box (cs := p0.cells.toArray) rfl rfl H) rfl rfl ?_
  rintro _ h1 ⟨a2, rfl, H⟩
  refine tr_e (f_alloc (cs := ((⟨0, 0, 0, 0, (⟨none, 0, 0⟩ : Sl), (⟨0, 0, 0, 0, 0, 0⟩ : S_api_Stats)⟩ : S_api_Response) : S_api_Response).cells.toArray) Try.zeroValue57 rfl H) rfl rfl ?_
  rintro _ h3 ⟨a4, rfl, H⟩
  refine tr_nil ?_
  refine tr_thenN ?_
  refine tr_seq ?_
  refine tr_region ?_
  refine tr_p (y_fa (off := 4) Try.runUnderlying57 fo_57_4 rfl) rfl rfl ?_
  obtain ⟨y5, k6, H⟩ := H
  refine tr_h (y_ld Try.isAgg51 rfl) k6 rfl rfl ?_
  refine tr_p (y_len (ts := #[]) Try.runUnderlying51 (o := y5.ptr) (n := y5.len) (cap := y5.cap) rfl) rfl rfl ?_
  refine tr_p (y_add rfl rfl) rfl rfl ?_
  refine tr_e (f_make rfl rfl H) rfl rfl ?_
  rintro _ h7 ⟨s8, rfl, H⟩
  refine tr_p (y_assign rfl) rfl rfl ?_
  refine tr_nil ?_
  refine tr_thenN ?_
  refine tr_seq ?_
  refine tr_region ?_
  refine tr_p (y_move rfl) rfl rfl ?_
  refine tr_p (y_fa (off := 4) Try.runUnderlying57 fo_57_4 rfl) rfl rfl ?_
  obtain ⟨y9, k10, H⟩ := H
  refine tr_h (y_ld Try.isAgg51 rfl) k10 rfl rfl ?_
  refine tr_e (f_copy rfl H) rfl rfl ?_
  rintro _ h11 ⟨s12, rfl, H⟩
  refine tr_nil ?_
  refine tr_thenN ?_
  refine tr_seq ?_
  refine tr_seq ?_
  refine tr_region ?_
  refine tr_p (y_fa (off := 4) Try.runUnderlying57 fo_57_4 rfl) rfl rfl ?_
  obtain ⟨y13, k14, H⟩ := H
  refine tr_h (y_ld Try.isAgg51 rfl) k14 rfl rfl ?_
  refine tr_p (y_len (ts := #[]) Try.runUnderlying51 (o := y13.ptr) (n := y13.len) (cap := y13.cap) rfl) rfl rfl ?_
  refine tr_p (y_assign rfl) rfl rfl ?_
  refine tr_nil ?_
  refine tr_thenN ?_
  refine tr_block ?_
  obtain ⟨m31, H⟩ := H
  refine tr_sub [(1, (.pointer (some a2))), (2, (.pointer (some a4))), (3, s8.enc), (4, (.int .i64 (y13.len : Int)))] ⟨rfl, rfl, rfl, rfl, trivial⟩ ?_
  refine tr_loop_j (fun m L' h => ∃ (x1 : Addr) (x2 : Addr) (x3 : Sl) (x4 : Int), L' = [(1, (.pointer (some x1))), (2, (.pointer (some x2))), (3, x3.enc), (4, (.int .i64 x4))] ∧ F.spatelaw2_LendResponse.l1 Q m x1 x2 x3 x4 h) ?_ ?_ m31 ⟨_, _, _, _, rfl, H⟩
  · rintro L' h ⟨_, _, _, _, _, H⟩; exact H
  · rintro q1 L' h ⟨x1, x2, x3, x4, rfl, H⟩
    unfold F.spatelaw2_LendResponse.l1 at H
    refine tr_seq ?_
    refine tr_seq ?_
    refine tr_region ?_
    refine tr_p (y_move rfl) rfl rfl ?_
    refine tr_p (y_move rfl) rfl rfl ?_
    refine tr_p (y_len (ts := #[]) Try.runUnderlying51 (o := x3.ptr) (n := x3.len) (cap := x3.cap) rfl) rfl rfl ?_
    refine tr_p (y_lss rfl rfl) rfl rfl ?_
    refine tr_nil ?_
    refine tr_thenN ?_
    refine tr_cond rfl (fun g15 => ?_) (fun g15 => ?_)
    · replace H := H.1 g15
      refine tr_skip ?_
      refine tr_thenN ?_
      refine tr_seq ?_
      refine tr_block ?_
      refine tr_region ?_
      refine tr_p (y_move rfl) rfl rfl ?_
      refine tr_p (y_move rfl) rfl rfl ?_
      refine tr_e (e_call Try.call47 rfl (F.spatelaw2_mark_ok H)) rfl rfl ?_
      rintro _ h16 ⟨r17, rfl, H⟩
      obtain ⟨a18, e19, H⟩ := H
      refine tr_p (f_idx (s := x3) Try.runUnderlying51 Try.sizeOf66 rfl rfl e19) rfl rfl ?_
      refine tr_p (y_fa (off := 0) Try.runUnderlying66 fo_66_0 rfl) rfl rfl ?_
      refine tr_e (f_store (vs := r17.cells) Try.sizeOf34 rfl rfl cellsOfStruct rfl (by intro v hv; exact ones_S_api_Cell _ v hv) H) rfl rfl ?_
      rintro _ h20 ⟨rfl, H⟩
      refine tr_nil ?_
      refine tr_blockN ?_
      refine tr_thenN ?_
      refine tr_region ?_
      refine tr_p (y_move rfl) rfl rfl ?_
      refine tr_p (y_add rfl rfl) rfl rfl ?_
      refine tr_p (y_assign rfl) rfl rfl ?_
      refine tr_nil ?_
      refine tr_thenN ?_
      exact tr_join [(1, (.pointer (some x1))), (2, (.pointer (some x2))), (3, x3.enc), (4, (.int .i64 (IntKind.wrap .i64 (x4 + 1))))] ⟨rfl, rfl, rfl, rfl, trivial⟩ ⟨_, _, _, _, rfl, H⟩
    · replace H := H.2 g15
      refine tr_exit ?_
      refine tr_thenE ?_
      refine tr_thenE ?_
      refine tr_hit ?_
      refine tr_thenN ?_
      refine tr_seq ?_
      refine tr_region ?_
      refine tr_p (y_move rfl) rfl rfl ?_
      refine tr_p (y_fa (off := 4) Try.runUnderlying57 fo_57_4 rfl) rfl rfl ?_
      obtain ⟨y21, k22, H⟩ := H
      refine tr_h (y_ld Try.isAgg51 rfl) k22 rfl rfl ?_
      refine tr_p (y_len (ts := #[]) Try.runUnderlying51 (o := y21.ptr) (n := y21.len) (cap := y21.cap) rfl) rfl rfl ?_
      obtain ⟨s24, e23, H⟩ := H
      refine tr_p (f_cutL (s := x3) none (some (.i64, (y21.len : Int))) Try.runUnderlying51 Try.sizeOf66 rfl rfl rfl e23) rfl rfl ?_
      refine tr_p (y_fa (off := 4) Try.runUnderlying57 fo_57_4 rfl) rfl rfl ?_
      refine tr_e (f_store (vs := [s24.enc]) Try.sizeOf51 rfl rfl rfl rfl (one1 rfl) H) rfl rfl ?_
      rintro _ h25 ⟨rfl, H⟩
      refine tr_nil ?_
      refine tr_thenN ?_
      refine tr_seq ?_
      refine tr_region ?_
      obtain ⟨y26, k27, H⟩ := H
      refine tr_h (y_ldS Try.isAgg57 Try.sizeOf57 rfl rfl) k27 rfl rfl ?_
      refine tr_e (f_store (vs := y26.cells) Try.sizeOf57 rfl rfl cellsOfStruct rfl (by intro v hv; exact ones_S_api_Response _ v hv) H) rfl rfl ?_
      rintro _ h28 ⟨rfl, H⟩
      refine tr_nil ?_
      refine tr_thenN ?_
      refine tr_ret ?_
      obtain ⟨y29, k30, H⟩ := H
      exact tr_rv1 rfl (rv_cellS Try.isAgg57 Try.sizeOf57 rfl rfl k30) ⟨_, rfl, H⟩

/-- (spate/merge.fronts).Len -/
def F.merge_fronts_Len (p0 : Sl) (h : H) (Q : Int → H → Prop) : Prop :=
  Q (p0.len : Int) h
theorem F.merge_fronts_Len_ok {p0 : Sl} {h : H} {Q : Int → H → Prop} (H : F.merge_fronts_Len p0 h Q) : Fn PP 74 ([p0.enc] : List Value).toArray h fun r h' => ∃ r0, r = (.int .i64 r0) ∧ Q r0 h' := by
  unfold F.merge_fronts_Len at H
  refine fn_of Try.func74 Try.ntmps74 rfl rfl fun w0 => ?_
  refine tr_sub [(0, p0.enc)] ⟨rfl, trivial⟩ ?_
  refine tr_seq ?_
  refine tr_region ?_
  refine tr_p (y_assign rfl) rfl rfl ?_
  refine tr_nil ?_
  refine tr_thenN ?_
  refine tr_seq ?_
  refine tr_region ?_
  refine tr_p (y_move rfl) rfl rfl ?_
  refine tr_p (y_len (ts := #[]) Try.runUnderlying86 (o := p0.ptr) (n := p0.len) (cap := p0.cap) rfl) rfl rfl ?_
  refine tr_p (y_assign rfl) rfl rfl ?_
  refine tr_nil ?_
  refine tr_thenN ?_
  refine tr_ret ?_
  exact tr_ret1 rfl rfl ⟨_, rfl, H⟩

/-- (spate/merge.fronts).Less -/
def F.merge_fronts_Less (p0 : Sl) (p1 : Int) (p2 : Int) (h : H) (Q : Bool → H → Prop) : Prop :=
  idxA p0 p1 2 fun a1 =>
  ldL h (a1.add 0) fun y3 =>
  idxA y3 0 7 fun a5 =>
  ld_S_api_Cell h (a5.add 0) fun y7 =>
  idxA p0 p2 2 fun a9 =>
  ldL h (a9.add 0) fun y11 =>
  idxA y11 0 7 fun a13 =>
  ld_S_api_Cell h (a13.add 0) fun y15 =>
  idxA p0 p1 2 fun a17 =>
  ldI .i64 h (a17.add 1) fun y19 =>
  idxA p0 p2 2 fun a21 =>
  ldI .i64 h (a21.add 1) fun y23 =>
  F.merge_Compare y7 y15 h fun r26 h25 =>
  cellH h25 (a21.add 1) = some (.int .i64 y23) ∧
  cellH h25 (a17.add 1) = some (.int .i64 y19) ∧
  F.cmp_Compare_int y19 y23 h25 fun r30 h29 =>
  newL h29 #[(.int .i64 r26), (.int .i64 r30)] ty_3 2 fun s32 h31 =>
  F.cmp_Or_int s32 h31 fun r34 h33 =>
  Q (decide (r34 < 0)) h33
theorem F.merge_fronts_Less_ok {p0 : Sl} {p1 : Int} {p2 : Int} {h : H} {Q : Bool → H → Prop} (H : F.merge_fronts_Less p0 p1 p2 h Q) : Fn PP 75 ([p0.enc, (.int .i64 p1), (.int .i64 p2)] : List Value).toArray h fun r h' => ∃ r0, r = (.bool r0) ∧ Q r0 h' := by
  unfold F.merge_fronts_Less at H
  refine fn_of Try.func75 Try.ntmps75 rfl rfl fun w0 => ?_
  refine tr_sub [(0, p0.enc), (1, (.int .i64 p1)), (2, (.int .i64 p2))] ⟨rfl, rfl, rfl, trivial⟩ ?_
  refine tr_seq ?_
  refine tr_region ?_
  refine tr_p (y_assign rfl) rfl rfl ?_
  refine tr_nil ?_
  refine tr_thenN ?_
  refine tr_seq ?_
  refine tr_draw mixed [0, 0, 3, 7, 15, 31, 63, 127, 0, 0, 768, 1792, 3840, 7936, 16128, 32512, 65535, 0, 0, 393216, 917504, 1966080, 0, 0, 12582912, 29360128, 62914560, 134217727, 268435455, 536870911, 1073741823, 2147483647] (by kernel_rfl) ?_
  refine g_p 0 1 rfl (by kernel_rfl) (y_move rfl) rfl rfl ?_
  refine g_p 1 3 rfl (by kernel_rfl) (y_move rfl) rfl rfl ?_
  obtain ⟨a1, e2, H⟩ := H
  refine g_p 2 7 rfl (by kernel_rfl) (f_idx (s := p0) Try.runUnderlying86 Try.sizeOf88 rfl rfl e2) rfl rfl ?_
  refine g_p 3 15 rfl (by kernel_rfl) (y_fa (off := 0) Try.runUnderlying88 fo_88_0 rfl) rfl rfl ?_
  obtain ⟨y3, k4, H⟩ := H
  refine g_h 4 31 rfl (by kernel_rfl) (y_ld Try.isAgg51 rfl) k4 rfl rfl ?_
  obtain ⟨a5, e6, H⟩ := H
  refine g_p 5 63 rfl (by kernel_rfl) (f_idx (s := y3) Try.runUnderlying51 Try.sizeOf66 rfl rfl e6) rfl rfl ?_
  refine g_p 6 127 rfl (by kernel_rfl) (y_fa (off := 0) Try.runUnderlying66 fo_66_0 rfl) rfl rfl ?_
  obtain ⟨y7, k8, H⟩ := H
  refine g_h 7 255 rfl (by kernel_rfl) (y_ldS Try.isAgg34 Try.sizeOf34 rfl rfl) k8 rfl rfl ?_
  refine g_p 8 511 rfl (by kernel_rfl) (y_move rfl) rfl rfl ?_
  refine g_p 9 1023 rfl (by kernel_rfl) (y_move rfl) rfl rfl ?_
  obtain ⟨a9, e10, H⟩ := H
  refine g_p 10 2047 rfl (by kernel_rfl) (f_idx (s := p0) Try.runUnderlying86 Try.sizeOf88 rfl rfl e10) rfl rfl ?_
  refine g_p 11 4095 rfl (by kernel_rfl) (y_fa (off := 0) Try.runUnderlying88 fo_88_0 rfl) rfl rfl ?_
  obtain ⟨y11, k12, H⟩ := H
  refine g_h 12 8191 rfl (by kernel_rfl) (y_ld Try.isAgg51 rfl) k12 rfl rfl ?_
  obtain ⟨a13, e14, H⟩ := H
  refine g_p 13 16383 rfl (by kernel_rfl) (f_idx (s := y11) Try.runUnderlying51 Try.sizeOf66 rfl rfl e14) rfl rfl ?_
  refine g_p 14 32767 rfl (by kernel_rfl) (y_fa (off := 0) Try.runUnderlying66 fo_66_0 rfl) rfl rfl ?_
  obtain ⟨y15, k16, H⟩ := H
  refine g_h 15 65535 rfl (by kernel_rfl) (y_ldS Try.isAgg34 Try.sizeOf34 rfl rfl) k16 rfl rfl ?_
  refine g_p 17 196607 rfl (by kernel_rfl) (y_move rfl) rfl rfl ?_
  refine g_p 18 458751 rfl (by kernel_rfl) (y_move rfl) rfl rfl ?_
  obtain ⟨a17, e18, H⟩ := H
  refine g_p 19 983039 rfl (by kernel_rfl) (f_idx (s := p0) Try.runUnderlying86 Try.sizeOf88 rfl rfl e18) rfl rfl ?_
  refine g_p 20 2031615 rfl (by kernel_rfl) (y_fa (off := 1) Try.runUnderlying88 fo_88_1 rfl) rfl rfl ?_
  obtain ⟨y19, k20, H⟩ := H
  refine g_h 21 4128767 rfl (by kernel_rfl) (y_ld Try.isAgg3 rfl) k20 rfl rfl ?_
  refine g_p 22 8323071 rfl (by kernel_rfl) (y_move rfl) rfl rfl ?_
  refine g_p 23 16711679 rfl (by kernel_rfl) (y_move rfl) rfl rfl ?_
  obtain ⟨a21, e22, H⟩ := H
  refine g_p 24 33488895 rfl (by kernel_rfl) (f_idx (s := p0) Try.runUnderlying86 Try.sizeOf88 rfl rfl e22) rfl rfl ?_
  refine g_p 25 67043327 rfl (by kernel_rfl) (y_fa (off := 1) Try.runUnderlying88 fo_88_1 rfl) rfl rfl ?_
  obtain ⟨y23, k24, H⟩ := H
  refine g_h 26 134152191 rfl (by kernel_rfl) (y_ld Try.isAgg3 rfl) k24 rfl rfl ?_
  refine g_e 16 134217727 [(26, fun h => cellH h (a21.add 1) = some (.int .i64 y23)), (21, fun h => cellH h (a17.add 1) = some (.int .i64 y19))] (by kernel_rfl) rfl (by kernel_rfl) (e_call Try.call26 rfl (F.merge_Compare_ok H)) rfl rfl ?_
  rintro _ h25 ⟨r26, rfl, H⟩
  obtain ⟨k27, k28, H⟩ := H
  refine ⟨And.intro k27 (And.intro k28 trivial), ?_⟩
  refine g_e 27 268435455 [] (by kernel_rfl) rfl (by kernel_rfl) (e_call Try.call43 rfl (F.cmp_Compare_int_ok H)) rfl rfl ?_
  rintro _ h29 ⟨r30, rfl, H⟩
  refine ⟨trivial, ?_⟩
  refine g_e 28 536870911 [] (by kernel_rfl) rfl (by kernel_rfl) (f_buildL (cs := #[(.int .i64 r26), (.int .i64 r30)]) rfl rfl (bl_23_2_0_1 r26 r30) H) rfl rfl ?_
  rintro _ h31 ⟨s32, rfl, H⟩
  refine ⟨trivial, ?_⟩
  refine g_e 29 1073741823 [] (by kernel_rfl) rfl (by kernel_rfl) (e_call Try.call42 rfl (F.cmp_Or_int_ok H)) rfl rfl ?_
  rintro _ h33 ⟨r34, rfl, H⟩
  refine ⟨trivial, ?_⟩
  refine g_p 30 2147483647 rfl (by kernel_rfl) (y_lss rfl rfl) rfl rfl ?_
  refine g_p 31 4294967295 rfl (by kernel_rfl) (y_assign rfl) rfl rfl ?_
  refine g_d (by kernel_rfl) ?_
  refine tr_thenN ?_
  refine tr_ret ?_
  exact tr_ret1 rfl rfl ⟨_, rfl, H⟩

/-- (spate/merge.fronts).Swap -/
def F.merge_fronts_Swap (p0 : Sl) (p1 : Int) (p2 : Int) (h : H) (Q : H → Prop) : Prop :=
  idxA p0 p2 2 fun a1 =>
  ld_S_merge_front h a1 fun y3 =>
  idxA p0 p1 2 fun a5 =>
  ld_S_merge_front h a5 fun y7 =>
  idxA p0 p1 2 fun a9 =>
  stH h a9 y3.cells fun h11 =>
  idxA p0 p2 2 fun a12 =>
  stH h11 a12 y7.cells fun h14 =>
  Q h14
theorem F.merge_fronts_Swap_ok {p0 : Sl} {p1 : Int} {p2 : Int} {h : H} {Q : H → Prop} (H : F.merge_fronts_Swap p0 p1 p2 h Q) : Fn PP 76 ([p0.enc, (.int .i64 p1), (.int .i64 p2)] : List Value).toArray h fun r h' => r = .tuple #[] ∧ Q  h' := by
  unfold F.merge_fronts_Swap at H
  refine fn_of Try.func76 Try.ntmps76 rfl rfl fun w0 => ?_
  refine tr_sub [(0, p0.enc), (1, (.int .i64 p1)), (2, (.int .i64 p2))] ⟨rfl, rfl, rfl, trivial⟩ ?_
  refine tr_draw mixed [0, 0, 0, 0, 0, 0, 48, 112, 0, 0, 768, 1792, 4083, 8179, 16383, 32767] (by kernel_rfl) ?_
  refine g_p 0 1 rfl (by kernel_rfl) (y_move rfl) rfl rfl ?_
  refine g_p 1 3 rfl (by kernel_rfl) (y_move rfl) rfl rfl ?_
  refine g_p 2 7 rfl (by kernel_rfl) (y_move rfl) rfl rfl ?_
  refine g_p 3 15 rfl (by kernel_rfl) (y_move rfl) rfl rfl ?_
  refine g_p 4 31 rfl (by kernel_rfl) (y_move rfl) rfl rfl ?_
  refine g_p 5 63 rfl (by kernel_rfl) (y_move rfl) rfl rfl ?_
  obtain ⟨a1, e2, H⟩ := H
  refine g_p 6 127 rfl (by kernel_rfl) (f_idx (s := p0) Try.runUnderlying86 Try.sizeOf88 rfl rfl e2) rfl rfl ?_
  obtain ⟨y3, k4, H⟩ := H
  refine g_h 7 255 rfl (by kernel_rfl) (y_ldS Try.isAgg88 Try.sizeOf88 rfl rfl) k4 rfl rfl ?_
  refine g_p 8 511 rfl (by kernel_rfl) (y_move rfl) rfl rfl ?_
  refine g_p 9 1023 rfl (by kernel_rfl) (y_move rfl) rfl rfl ?_
  obtain ⟨a5, e6, H⟩ := H
  refine g_p 10 2047 rfl (by kernel_rfl) (f_idx (s := p0) Try.runUnderlying86 Try.sizeOf88 rfl rfl e6) rfl rfl ?_
  obtain ⟨y7, k8, H⟩ := H
  refine g_h 11 4095 rfl (by kernel_rfl) (y_ldS Try.isAgg88 Try.sizeOf88 rfl rfl) k8 rfl rfl ?_
  obtain ⟨a9, e10, H⟩ := H
  refine g_p 12 8191 rfl (by kernel_rfl) (f_idx (s := p0) Try.runUnderlying86 Try.sizeOf88 rfl rfl e10) rfl rfl ?_
  refine g_e 13 16383 [] (by kernel_rfl) rfl (by kernel_rfl) (f_store (vs := y3.cells) Try.sizeOf88 rfl rfl cellsOfStruct rfl (by intro v hv; exact ones_S_merge_front _ v hv) H) rfl rfl ?_
  rintro _ h11 ⟨rfl, H⟩
  refine ⟨trivial, ?_⟩
  obtain ⟨a12, e13, H⟩ := H
  refine g_p 14 32767 rfl (by kernel_rfl) (f_idx (s := p0) Try.runUnderlying86 Try.sizeOf88 rfl rfl e13) rfl rfl ?_
  refine g_e 15 65535 [] (by kernel_rfl) rfl (by kernel_rfl) (f_store (vs := y7.cells) Try.sizeOf88 rfl rfl cellsOfStruct rfl (by intro v hv; exact ones_S_merge_front _ v hv) H) rfl rfl ?_
  rintro _ h14 ⟨rfl, H⟩
  refine ⟨trivial, ?_⟩
  refine g_d (by kernel_rfl) ?_
  exact tr_end0 rfl ⟨rfl, H⟩

def F.container_heap_down.j1 (Q : Bool → H → Prop) (x1 : Int) (x7 : Int) (h : H) : Prop :=
  Q (decide (x7 > x1)) h
def F.container_heap_down.j4 (Q : Bool → H → Prop) (C1 : (Option Addr) → Int → Int → Int → H → Prop) (x0 : Option Addr) (x1 : Int) (x2 : Int) (x7 : Int) (x9 : Int) (h : H) : Prop :=
  nn x0 fun a2 =>
  ldL h a2 fun y3 =>
  F.merge_fronts_Less y3 x9 x7 h fun r4 h1 =>
  ((!r4) = true →
  F.container_heap_down.j1 Q x1 x7 h1) ∧
  ((!r4) = false →
  nn x0 fun a7 =>
  ldL h1 a7 fun y8 =>
  F.merge_fronts_Swap y8 x7 x9 h1 fun h6 =>
  C1 x0 x1 x2 x9 h6)
def F.container_heap_down.j5 (Q : Bool → H → Prop) (C1 : (Option Addr) → Int → Int → Int → H → Prop) (x0 : Option Addr) (x1 : Int) (x2 : Int) (x7 : Int) (x9 : Int) (x10 : Int) (x33 : Bool) (h : H) : Prop :=
  (x33 = true →
  F.container_heap_down.j4 Q C1 x0 x1 x2 x7 x10 h) ∧
  (x33 = false →
  F.container_heap_down.j4 Q C1 x0 x1 x2 x7 x9 h)
def F.container_heap_down.j3 (Q : Bool → H → Prop) (C1 : (Option Addr) → Int → Int → Int → H → Prop) (x0 : Option Addr) (x1 : Int) (x2 : Int) (x7 : Int) (x8 : Int) (h : H) : Prop :=
  ((decide ((IntKind.wrap .i64 (x8 + 1)) < x2)) = true →
  nn x0 fun a12 =>
  ldL h a12 fun y13 =>
  F.merge_fronts_Less y13 (IntKind.wrap .i64 (x8 + 1)) x8 h fun r14 h11 =>
  F.container_heap_down.j5 Q C1 x0 x1 x2 x7 x8 (IntKind.wrap .i64 (x8 + 1)) r14 h11) ∧
  ((decide ((IntKind.wrap .i64 (x8 + 1)) < x2)) = false →
  F.container_heap_down.j5 Q C1 x0 x1 x2 x7 x8 (IntKind.wrap .i64 (x8 + 1)) false h)
def F.container_heap_down.j6 (Q : Bool → H → Prop) (C1 : (Option Addr) → Int → Int → Int → H → Prop) (x0 : Option Addr) (x1 : Int) (x2 : Int) (x7 : Int) (x8 : Int) (x21 : Bool) (h : H) : Prop :=
  (x21 = true →
  F.container_heap_down.j1 Q x1 x7 h) ∧
  (x21 = false →
  F.container_heap_down.j3 Q C1 x0 x1 x2 x7 x8 h)
def F.container_heap_down.l2 (Q : Bool → H → Prop) : Nat → (Option Addr) → Int → Int → Int → H → Prop
  | 0, _, _, _, _, _ => False
  | q2 + 1, x0, x1, x2, x7, h =>
    ((decide ((IntKind.wrap .i64 ((IntKind.wrap .i64 (2 * x7)) + 1)) ≥ x2)) = true →
    F.container_heap_down.j6 Q (F.container_heap_down.l2 Q q2) x0 x1 x2 x7 (IntKind.wrap .i64 ((IntKind.wrap .i64 (2 * x7)) + 1)) true h) ∧
    ((decide ((IntKind.wrap .i64 ((IntKind.wrap .i64 (2 * x7)) + 1)) ≥ x2)) = false →
    F.container_heap_down.j6 Q (F.container_heap_down.l2 Q q2) x0 x1 x2 x7 (IntKind.wrap .i64 ((IntKind.wrap .i64 (2 * x7)) + 1)) (decide ((IntKind.wrap .i64 ((IntKind.wrap .i64 (2 * x7)) + 1)) < 0)) h)
/-- container/heap.down -/
def F.container_heap_down (p0 : Option Addr) (p1 : Int) (p2 : Int) (h : H) (Q : Bool → H → Prop) : Prop :=
  ∃ m, F.container_heap_down.l2 Q m p0 p1 p2 p1 h
theorem F.container_heap_down_ok {p0 : Option Addr} {p1 : Int} {p2 : Int} {h : H} {Q : Bool → H → Prop} (H : F.container_heap_down p0 p1 p2 h Q) : Fn PP 54 ([(.iface 90 (.pointer p0)), (.int .i64 p1), (.int .i64 p2)] : List Value).toArray h fun r h' => ∃ r0, r = (.bool r0) ∧ Q r0 h' := by
  unfold F.container_heap_down at H
  refine fn_of Try.func54 Try.ntmps54 rfl rfl fun w0 => ?_
  refine tr_sub [(0, (.iface 90 (.pointer p0))), (1, (.int .i64 p1)), (2, (.int .i64 p2))] ⟨rfl, rfl, rfl, trivial⟩ ?_
  refine tr_seq ?_
  refine tr_region ?_
  refine tr_p (y_assign rfl) rfl rfl ?_
  refine tr_nil ?_
  refine tr_thenN ?_
  refine tr_seq ?_
  refine tr_region ?_
  refine tr_p (y_move rfl) rfl rfl ?_
  refine tr_p (y_assign rfl) rfl rfl ?_
  refine tr_nil ?_
  refine tr_thenN ?_
  refine tr_seq_j (fun L' h => ∃ (x1 : Int) (x7 : Int), L' = [(1, (.int .i64 x1)), (7, (.int .i64 x7))] ∧ F.container_heap_down.j1 Q x1 x7 h) ?_ ?_
  · rintro L' h ⟨x1, x7, rfl, H⟩
    unfold F.container_heap_down.j1 at H
    refine tr_seq ?_
    refine tr_region ?_
    refine tr_p (y_move rfl) rfl rfl ?_
    refine tr_p (y_move rfl) rfl rfl ?_
    refine tr_p (y_gtr rfl rfl) rfl rfl ?_
    refine tr_p (y_assign rfl) rfl rfl ?_
    refine tr_nil ?_
    refine tr_thenN ?_
    refine tr_ret ?_
    exact tr_ret1 rfl rfl ⟨_, rfl, H⟩
  · refine tr_block ?_
    obtain ⟨m17, H⟩ := H
    refine tr_sub [(0, (.iface 90 (.pointer p0))), (1, (.int .i64 p1)), (2, (.int .i64 p2)), (7, (.int .i64 p1))] ⟨rfl, rfl, rfl, rfl, trivial⟩ ?_
    refine tr_loop_j (fun m L' h => ∃ (x0 : Option Addr) (x1 : Int) (x2 : Int) (x7 : Int), L' = [(0, (.iface 90 (.pointer x0))), (1, (.int .i64 x1)), (2, (.int .i64 x2)), (7, (.int .i64 x7))] ∧ F.container_heap_down.l2 Q m x0 x1 x2 x7 h) ?_ ?_ m17 ⟨_, _, _, _, rfl, H⟩
    · rintro L' h ⟨_, _, _, _, _, H⟩; exact H
    · rintro q2 L' h ⟨x0, x1, x2, x7, rfl, H⟩
      unfold F.container_heap_down.l2 at H
      refine tr_block ?_
      refine tr_seq ?_
      refine tr_region ?_
      refine tr_p (y_move rfl) rfl rfl ?_
      refine tr_p (y_mul rfl rfl) rfl rfl ?_
      refine tr_p (y_add rfl rfl) rfl rfl ?_
      refine tr_p (y_assign rfl) rfl rfl ?_
      refine tr_nil ?_
      refine tr_thenN ?_
      refine tr_seq_j (fun L' h => ∃ (x0 : Option Addr) (x1 : Int) (x2 : Int) (x7 : Int) (x8 : Int), L' = [(0, (.iface 90 (.pointer x0))), (1, (.int .i64 x1)), (2, (.int .i64 x2)), (7, (.int .i64 x7)), (8, (.int .i64 x8))] ∧ F.container_heap_down.j3 Q (F.container_heap_down.l2 Q q2) x0 x1 x2 x7 x8 h) ?_ ?_
      · rintro L' h ⟨x0, x1, x2, x7, x8, rfl, H⟩
        unfold F.container_heap_down.j3 at H
        refine tr_seq ?_
        refine tr_region ?_
        refine tr_p (y_move rfl) rfl rfl ?_
        refine tr_p (y_assign rfl) rfl rfl ?_
        refine tr_nil ?_
        refine tr_thenN ?_
        refine tr_seq_j (fun L' h => ∃ (x0 : Option Addr) (x1 : Int) (x2 : Int) (x7 : Int) (x9 : Int), L' = [(0, (.iface 90 (.pointer x0))), (1, (.int .i64 x1)), (2, (.int .i64 x2)), (7, (.int .i64 x7)), (9, (.int .i64 x9))] ∧ F.container_heap_down.j4 Q (F.container_heap_down.l2 Q q2) x0 x1 x2 x7 x9 h) ?_ ?_
        · rintro L' h ⟨x0, x1, x2, x7, x9, rfl, H⟩
          unfold F.container_heap_down.j4 at H
          refine tr_seq ?_
          refine tr_seq ?_
          refine tr_region ?_
          refine tr_p (y_move rfl) rfl rfl ?_
          refine tr_p (y_move rfl) rfl rfl ?_
          refine tr_p (y_move rfl) rfl rfl ?_
          refine tr_e (e_invL mt_90_Less Try.isAgg86 Try.call75 rfl rfl (inv_map (fun y3 H => (F.merge_fronts_Less_ok H)) H)) rfl rfl ?_
          rintro _ h1 ⟨r4, rfl, H⟩
          refine tr_p (y_not rfl) rfl rfl ?_
          refine tr_nil ?_
          refine tr_thenN ?_
          refine tr_cond rfl (fun g5 => ?_) (fun g5 => ?_)
          · replace H := H.1 g5
            refine tr_exit ?_
            refine tr_thenE ?_
            refine tr_miss rfl ?_
            refine tr_thenE ?_
            refine tr_hit ?_
            refine tr_thenN ?_
            exact tr_join [(1, (.int .i64 x1)), (7, (.int .i64 x7))] ⟨rfl, rfl, trivial⟩ ⟨_, _, rfl, H⟩
          · replace H := H.2 g5
            refine tr_skip ?_
            refine tr_thenN ?_
            refine tr_seq ?_
            refine tr_region ?_
            refine tr_p (y_move rfl) rfl rfl ?_
            refine tr_p (y_move rfl) rfl rfl ?_
            refine tr_p (y_move rfl) rfl rfl ?_
            refine tr_e (e_invL mt_90_Swap Try.isAgg86 Try.call76 rfl rfl (inv_map (fun y8 H => (F.merge_fronts_Swap_ok H)) H)) rfl rfl ?_
            rintro _ h6 ⟨rfl, H⟩
            refine tr_nil ?_
            refine tr_thenN ?_
            refine tr_region ?_
            refine tr_p (y_move rfl) rfl rfl ?_
            refine tr_p (y_assign rfl) rfl rfl ?_
            refine tr_nil ?_
            refine tr_blockN ?_
            refine tr_thenN ?_
            exact tr_join [(0, (.iface 90 (.pointer x0))), (1, (.int .i64 x1)), (2, (.int .i64 x2)), (7, (.int .i64 x9))] ⟨rfl, rfl, rfl, rfl, trivial⟩ ⟨_, _, _, _, rfl, H⟩
        · refine tr_seq ?_
          refine tr_region ?_
          refine tr_p (y_move rfl) rfl rfl ?_
          refine tr_p (y_add rfl rfl) rfl rfl ?_
          refine tr_p (y_assign rfl) rfl rfl ?_
          refine tr_nil ?_
          refine tr_thenN ?_
          refine tr_seq_j (fun L' h => ∃ (x0 : Option Addr) (x1 : Int) (x2 : Int) (x7 : Int) (x9 : Int) (x10 : Int) (x33 : Bool), L' = [(0, (.iface 90 (.pointer x0))), (1, (.int .i64 x1)), (2, (.int .i64 x2)), (7, (.int .i64 x7)), (9, (.int .i64 x9)), (10, (.int .i64 x10)), (33, (.bool x33))] ∧ F.container_heap_down.j5 Q (F.container_heap_down.l2 Q q2) x0 x1 x2 x7 x9 x10 x33 h) ?_ ?_
          · rintro L' h ⟨x0, x1, x2, x7, x9, x10, x33, rfl, H⟩
            unfold F.container_heap_down.j5 at H
            refine tr_cond rfl (fun g9 => ?_) (fun g9 => ?_)
            · replace H := H.1 g9
              refine tr_region ?_
              refine tr_p (y_move rfl) rfl rfl ?_
              refine tr_p (y_assign rfl) rfl rfl ?_
              refine tr_nil ?_
              refine tr_thenN ?_
              exact tr_join [(0, (.iface 90 (.pointer x0))), (1, (.int .i64 x1)), (2, (.int .i64 x2)), (7, (.int .i64 x7)), (9, (.int .i64 x10))] ⟨rfl, rfl, rfl, rfl, rfl, trivial⟩ ⟨_, _, _, _, _, rfl, H⟩
            · replace H := H.2 g9
              refine tr_skip ?_
              refine tr_thenN ?_
              exact tr_join [(0, (.iface 90 (.pointer x0))), (1, (.int .i64 x1)), (2, (.int .i64 x2)), (7, (.int .i64 x7)), (9, (.int .i64 x9))] ⟨rfl, rfl, rfl, rfl, rfl, trivial⟩ ⟨_, _, _, _, _, rfl, H⟩
          · refine tr_region ?_
            refine tr_p (y_move rfl) rfl rfl ?_
            refine tr_p (y_move rfl) rfl rfl ?_
            refine tr_p (y_lss rfl rfl) rfl rfl ?_
            refine tr_p (y_move rfl) rfl rfl ?_
            refine tr_split (t := 28) rfl (fun g10 => ?_) (fun g10 => ?_)
            · replace H := H.1 g10
              refine tr_p (y_move rfl) rfl rfl ?_
              refine tr_p (y_move rfl) rfl rfl ?_
              refine tr_p (y_move rfl) rfl rfl ?_
              refine tr_e (e_invL mt_90_Less Try.isAgg86 Try.call75 rfl rfl (inv_map (fun y13 H => (F.merge_fronts_Less_ok H)) H)) rfl rfl ?_
              rintro _ h11 ⟨r14, rfl, H⟩
              refine tr_p (y_pick_t rfl rfl) rfl rfl ?_
              refine tr_nil ?_
              refine tr_thenN ?_
              exact tr_join [(0, (.iface 90 (.pointer x0))), (1, (.int .i64 x1)), (2, (.int .i64 x2)), (7, (.int .i64 x7)), (9, (.int .i64 x8)), (10, (.int .i64 (IntKind.wrap .i64 (x8 + 1)))), (33, (.bool r14))] ⟨rfl, rfl, rfl, rfl, rfl, rfl, rfl, trivial⟩ ⟨_, _, _, _, _, _, _, rfl, H⟩
            · replace H := H.2 g10
              refine tr_s rfl rfl ?_
              refine tr_s rfl rfl ?_
              refine tr_s rfl rfl ?_
              refine tr_s rfl rfl ?_
              refine tr_p (y_pick_f rfl rfl) rfl rfl ?_
              refine tr_nil ?_
              refine tr_thenN ?_
              exact tr_join [(0, (.iface 90 (.pointer x0))), (1, (.int .i64 x1)), (2, (.int .i64 x2)), (7, (.int .i64 x7)), (9, (.int .i64 x8)), (10, (.int .i64 (IntKind.wrap .i64 (x8 + 1)))), (33, (.bool false))] ⟨rfl, rfl, rfl, rfl, rfl, rfl, rfl, trivial⟩ ⟨_, _, _, _, _, _, _, rfl, H⟩
      · refine tr_seq_j (fun L' h => ∃ (x0 : Option Addr) (x1 : Int) (x2 : Int) (x7 : Int) (x8 : Int) (x21 : Bool), L' = [(0, (.iface 90 (.pointer x0))), (1, (.int .i64 x1)), (2, (.int .i64 x2)), (7, (.int .i64 x7)), (8, (.int .i64 x8)), (21, (.bool x21))] ∧ F.container_heap_down.j6 Q (F.container_heap_down.l2 Q q2) x0 x1 x2 x7 x8 x21 h) ?_ ?_
        · rintro L' h ⟨x0, x1, x2, x7, x8, x21, rfl, H⟩
          unfold F.container_heap_down.j6 at H
          refine tr_cond rfl (fun g15 => ?_) (fun g15 => ?_)
          · replace H := H.1 g15
            refine tr_exit ?_
            refine tr_thenE ?_
            refine tr_miss rfl ?_
            refine tr_thenE ?_
            refine tr_hit ?_
            refine tr_thenN ?_
            exact tr_join [(1, (.int .i64 x1)), (7, (.int .i64 x7))] ⟨rfl, rfl, trivial⟩ ⟨_, _, rfl, H⟩
          · replace H := H.2 g15
            refine tr_skip ?_
            refine tr_thenN ?_
            exact tr_join [(0, (.iface 90 (.pointer x0))), (1, (.int .i64 x1)), (2, (.int .i64 x2)), (7, (.int .i64 x7)), (8, (.int .i64 x8))] ⟨rfl, rfl, rfl, rfl, rfl, trivial⟩ ⟨_, _, _, _, _, rfl, H⟩
        · refine tr_region ?_
          refine tr_p (y_move rfl) rfl rfl ?_
          refine tr_p (y_move rfl) rfl rfl ?_
          refine tr_p (y_geq rfl rfl) rfl rfl ?_
          refine tr_p (y_move rfl) rfl rfl ?_
          refine tr_split (t := 18) rfl (fun g16 => ?_) (fun g16 => ?_)
          · replace H := H.1 g16
            refine tr_s rfl rfl ?_
            refine tr_s rfl rfl ?_
            refine tr_p (y_pick_t rfl rfl) rfl rfl ?_
            refine tr_nil ?_
            refine tr_thenN ?_
            exact tr_join [(0, (.iface 90 (.pointer x0))), (1, (.int .i64 x1)), (2, (.int .i64 x2)), (7, (.int .i64 x7)), (8, (.int .i64 (IntKind.wrap .i64 ((IntKind.wrap .i64 (2 * x7)) + 1)))), (21, (.bool true))] ⟨rfl, rfl, rfl, rfl, rfl, rfl, trivial⟩ ⟨_, _, _, _, _, _, rfl, H⟩
          · replace H := H.2 g16
            refine tr_p (y_move rfl) rfl rfl ?_
            refine tr_p (y_lss rfl rfl) rfl rfl ?_
            refine tr_p (y_pick_f rfl rfl) rfl rfl ?_
            refine tr_nil ?_
            refine tr_thenN ?_
            exact tr_join [(0, (.iface 90 (.pointer x0))), (1, (.int .i64 x1)), (2, (.int .i64 x2)), (7, (.int .i64 x7)), (8, (.int .i64 (IntKind.wrap .i64 ((IntKind.wrap .i64 (2 * x7)) + 1)))), (21, (.bool (decide ((IntKind.wrap .i64 ((IntKind.wrap .i64 (2 * x7)) + 1)) < 0))))] ⟨rfl, rfl, rfl, rfl, rfl, rfl, trivial⟩ ⟨_, _, _, _, _, _, rfl, H⟩

def F.container_heap_Init.l1 (Q : H → Prop) : Nat → (Option Addr) → Int → Int → H → Prop
  | 0, _, _, _, _ => False
  | q1 + 1, x0, x2, x3, h =>
    ((decide (x3 ≥ 0)) = true →
    F.container_heap_down x0 x3 x2 h fun r8 h7 =>
    (F.container_heap_Init.l1 Q q1) x0 x2 (IntKind.wrap .i64 (x3 - 1)) h7) ∧
    ((decide (x3 ≥ 0)) = false →
    Q h)
/-- container/heap.Init -/
def F.container_heap_Init (p0 : Option Addr) (h : H) (Q : H → Prop) : Prop :=
  nn p0 fun a2 =>
  ldL h a2 fun y3 =>
  F.merge_fronts_Len y3 h fun r4 h1 =>
  (2 : Int) ≠ 0 ∧
  ∃ m, F.container_heap_Init.l1 Q m p0 r4 (IntKind.wrap .i64 ((IntKind.wrap .i64 (Int.tdiv r4 2)) - 1)) h1
theorem F.container_heap_Init_ok {p0 : Option Addr} {h : H} {Q : H → Prop} (H : F.container_heap_Init p0 h Q) : Fn PP 48 ([(.iface 90 (.pointer p0))] : List Value).toArray h fun r h' => r = .tuple #[] ∧ Q  h' := by
  unfold F.container_heap_Init at H
  refine fn_of Try.func48 Try.ntmps48 rfl rfl fun w0 => ?_
  refine tr_sub [(0, (.iface 90 (.pointer p0)))] ⟨rfl, trivial⟩ ?_
  refine tr_seq ?_
  refine tr_region ?_
  refine tr_p (y_move rfl) rfl rfl ?_
  refine tr_e (e_invL mt_90_Len Try.isAgg86 Try.call74 rfl rfl (inv_map (fun y3 H => (F.merge_fronts_Len_ok H)) H)) rfl rfl ?_
  rintro _ h1 ⟨r4, rfl, H⟩
  refine tr_p (y_assign rfl) rfl rfl ?_
  refine tr_nil ?_
  refine tr_thenN ?_
  refine tr_seq ?_
  refine tr_region ?_
  refine tr_p (y_move rfl) rfl rfl ?_
  obtain ⟨e5, H⟩ := H
  refine tr_p (y_quo rfl rfl e5) rfl rfl ?_
  refine tr_p (y_sub rfl rfl) rfl rfl ?_
  refine tr_p (y_assign rfl) rfl rfl ?_
  refine tr_nil ?_
  refine tr_thenN ?_
  refine tr_block ?_
  obtain ⟨m9, H⟩ := H
  refine tr_sub [(0, (.iface 90 (.pointer p0))), (2, (.int .i64 r4)), (3, (.int .i64 (IntKind.wrap .i64 ((IntKind.wrap .i64 (Int.tdiv r4 2)) - 1))))] ⟨rfl, rfl, rfl, trivial⟩ ?_
  refine tr_loop_j (fun m L' h => ∃ (x0 : Option Addr) (x2 : Int) (x3 : Int), L' = [(0, (.iface 90 (.pointer x0))), (2, (.int .i64 x2)), (3, (.int .i64 x3))] ∧ F.container_heap_Init.l1 Q m x0 x2 x3 h) ?_ ?_ m9 ⟨_, _, _, rfl, H⟩
  · rintro L' h ⟨_, _, _, _, H⟩; exact H
  · rintro q1 L' h ⟨x0, x2, x3, rfl, H⟩
    unfold F.container_heap_Init.l1 at H
    refine tr_seq ?_
    refine tr_seq ?_
    refine tr_region ?_
    refine tr_p (y_move rfl) rfl rfl ?_
    refine tr_p (y_geq rfl rfl) rfl rfl ?_
    refine tr_nil ?_
    refine tr_thenN ?_
    refine tr_cond rfl (fun g6 => ?_) (fun g6 => ?_)
    · replace H := H.1 g6
      refine tr_skip ?_
      refine tr_thenN ?_
      refine tr_seq ?_
      refine tr_block ?_
      refine tr_region ?_
      refine tr_p (y_move rfl) rfl rfl ?_
      refine tr_p (y_move rfl) rfl rfl ?_
      refine tr_p (y_move rfl) rfl rfl ?_
      refine tr_e (e_call Try.call54 rfl (F.container_heap_down_ok H)) rfl rfl ?_
      rintro _ h7 ⟨r8, rfl, H⟩
      refine tr_nil ?_
      refine tr_blockN ?_
      refine tr_thenN ?_
      refine tr_region ?_
      refine tr_p (y_move rfl) rfl rfl ?_
      refine tr_p (y_sub rfl rfl) rfl rfl ?_
      refine tr_p (y_assign rfl) rfl rfl ?_
      refine tr_nil ?_
      refine tr_thenN ?_
      exact tr_join [(0, (.iface 90 (.pointer x0))), (2, (.int .i64 x2)), (3, (.int .i64 (IntKind.wrap .i64 (x3 - 1))))] ⟨rfl, rfl, rfl, trivial⟩ ⟨_, _, _, rfl, H⟩
    · replace H := H.2 g6
      refine tr_exit ?_
      refine tr_thenE ?_
      refine tr_thenE ?_
      refine tr_hit ?_
      exact tr_end0 rfl ⟨rfl, H⟩

/-- (*spate/merge.fronts).Pop -/
def F.merge_fronts_Pop (p0 : Option Addr) (h : H) (Q : Value → H → Prop) : Prop :=
  nn p0 fun a1 =>
  ldL h a1 fun y3 =>
  idxA y3 (IntKind.wrap .i64 ((y3.len : Int) - 1)) 2 fun a5 =>
  ld_S_merge_front h a5 fun y7 =>
  new h (((⟨(⟨none, 0, 0⟩ : Sl), 0⟩ : S_merge_front) : S_merge_front).cells.toArray) ty_88 fun a10 h9 =>
  stH h9 a10 y7.cells fun h11 =>
  cutL y3 0 (IntKind.wrap .i64 ((y3.len : Int) - 1)) 2 fun s13 =>
  nn p0 fun a14 =>
  stH h11 a14 [s13.enc] fun h16 =>
  ld_S_merge_front h16 a10 fun y17 =>
  Q (.iface 88 (.agg y17.cells.toArray)) h16
theorem F.merge_fronts_Pop_ok {p0 : Option Addr} {h : H} {Q : Value → H → Prop} (H : F.merge_fronts_Pop p0 h Q) : Fn PP 77 ([(.pointer p0)] : List Value).toArray h fun r h' => ∃ r0, r = r0 ∧ Q r0 h' := by
  unfold F.merge_fronts_Pop at H
  refine fn_of Try.func77 Try.ntmps77 rfl rfl fun w0 => ?_
  refine tr_sub [(0, (.pointer p0))] ⟨rfl, trivial⟩ ?_
  refine tr_seq ?_
  refine tr_region ?_
  refine tr_p (y_assign rfl) rfl rfl ?_
  refine tr_nil ?_
  refine tr_thenN ?_
  refine tr_seq ?_
  refine tr_region ?_
  refine tr_p (y_move rfl) rfl rfl ?_
  obtain ⟨a1, e2, H⟩ := H
  refine tr_p (f_nn rfl e2) rfl rfl ?_
  obtain ⟨y3, k4, H⟩ := H
  refine tr_h (y_ld Try.isAgg86 rfl) k4 rfl rfl ?_
  refine tr_p (y_assign rfl) rfl rfl ?_
  refine tr_nil ?_
  refine tr_thenN ?_
  refine tr_seq ?_
  refine tr_region ?_
  refine tr_p (y_move rfl) rfl rfl ?_
  refine tr_p (y_move rfl) rfl rfl ?_
  refine tr_p (y_len (ts := #[]) Try.runUnderlying86 (o := y3.ptr) (n := y3.len) (cap := y3.cap) rfl) rfl rfl ?_
  refine tr_p (y_sub rfl rfl) rfl rfl ?_
  obtain ⟨a5, e6, H⟩ := H
  refine tr_p (f_idx (s := y3) Try.runUnderlying86 Try.sizeOf88 rfl rfl e6) rfl rfl ?_
  obtain ⟨y7, k8, H⟩ := H
  refine tr_h (y_ldS Try.isAgg88 Try.sizeOf88 rfl rfl) k8 rfl rfl ?_
  refine tr_e (f_alloc (cs := ((⟨(⟨none, 0, 0⟩ : Sl), 0⟩ : S_merge_front) : S_merge_front).cells.toArray) Try.zeroValue88 rfl H) rfl rfl ?_
  rintro _ h9 ⟨a10, rfl, H⟩
  refine tr_e (f_store (vs := y7.cells) Try.sizeOf88 rfl rfl cellsOfStruct rfl (by intro v hv; exact ones_S_merge_front _ v hv) H) rfl rfl ?_
  rintro _ h11 ⟨rfl, H⟩
  refine tr_nil ?_
  refine tr_thenN ?_
  refine tr_seq ?_
  refine tr_region ?_
  refine tr_p (y_move rfl) rfl rfl ?_
  refine tr_p (y_move rfl) rfl rfl ?_
  refine tr_p (y_move rfl) rfl rfl ?_
  refine tr_p (y_len (ts := #[]) Try.runUnderlying86 (o := y3.ptr) (n := y3.len) (cap := y3.cap) rfl) rfl rfl ?_
  refine tr_p (y_sub rfl rfl) rfl rfl ?_
  obtain ⟨s13, e12, H⟩ := H
  refine tr_p (f_cutL (s := y3) none (some (.i64, (IntKind.wrap .i64 ((y3.len : Int) - 1)))) Try.runUnderlying86 Try.sizeOf88 rfl rfl rfl e12) rfl rfl ?_
  obtain ⟨a14, e15, H⟩ := H
  refine tr_p (f_nn rfl e15) rfl rfl ?_
  refine tr_e (f_store (vs := [s13.enc]) Try.sizeOf86 rfl rfl rfl rfl (one1 rfl) H) rfl rfl ?_
  rintro _ h16 ⟨rfl, H⟩
  refine tr_nil ?_
  refine tr_thenN ?_
  refine tr_seq ?_
  refine tr_region ?_
  obtain ⟨y17, k18, H⟩ := H
  refine tr_h (y_ldS Try.isAgg88 Try.sizeOf88 rfl rfl) k18 rfl rfl ?_
  refine tr_p (y_mkif Try.runUnderlying88 rfl rfl) rfl rfl ?_
  refine tr_p (y_assign rfl) rfl rfl ?_
  refine tr_nil ?_
  refine tr_thenN ?_
  refine tr_ret ?_
  exact tr_ret1 rfl rfl ⟨_, rfl, H⟩

/-- container/heap.Pop -/
def F.container_heap_Pop (p0 : Option Addr) (h : H) (Q : Value → H → Prop) : Prop :=
  nn p0 fun a2 =>
  ldL h a2 fun y3 =>
  F.merge_fronts_Len y3 h fun r4 h1 =>
  nn p0 fun a6 =>
  ldL h1 a6 fun y7 =>
  F.merge_fronts_Swap y7 0 (IntKind.wrap .i64 (r4 - 1)) h1 fun h5 =>
  F.container_heap_down p0 0 (IntKind.wrap .i64 (r4 - 1)) h5 fun r9 h8 =>
  F.merge_fronts_Pop p0 h8 fun r11 h10 =>
  Q r11 h10
theorem F.container_heap_Pop_ok {p0 : Option Addr} {h : H} {Q : Value → H → Prop} (H : F.container_heap_Pop p0 h Q) : Fn PP 49 ([(.iface 90 (.pointer p0))] : List Value).toArray h fun r h' => ∃ r0, r = r0 ∧ Q r0 h' := by
  unfold F.container_heap_Pop at H
  refine fn_of Try.func49 Try.ntmps49 rfl rfl fun w0 => ?_
  refine tr_sub [(0, (.iface 90 (.pointer p0)))] ⟨rfl, trivial⟩ ?_
  refine tr_seq ?_
  refine tr_region ?_
  refine tr_p (y_assign rfl) rfl rfl ?_
  refine tr_nil ?_
  refine tr_thenN ?_
  refine tr_seq ?_
  refine tr_region ?_
  refine tr_p (y_move rfl) rfl rfl ?_
  refine tr_e (e_invL mt_90_Len Try.isAgg86 Try.call74 rfl rfl (inv_map (fun y3 H => (F.merge_fronts_Len_ok H)) H)) rfl rfl ?_
  rintro _ h1 ⟨r4, rfl, H⟩
  refine tr_p (y_sub rfl rfl) rfl rfl ?_
  refine tr_p (y_assign rfl) rfl rfl ?_
  refine tr_nil ?_
  refine tr_thenN ?_
  refine tr_seq ?_
  refine tr_region ?_
  refine tr_p (y_move rfl) rfl rfl ?_
  refine tr_p (y_move rfl) rfl rfl ?_
  refine tr_e (e_invL mt_90_Swap Try.isAgg86 Try.call76 rfl rfl (inv_map (fun y7 H => (F.merge_fronts_Swap_ok H)) H)) rfl rfl ?_
  rintro _ h5 ⟨rfl, H⟩
  refine tr_nil ?_
  refine tr_thenN ?_
  refine tr_seq ?_
  refine tr_region ?_
  refine tr_p (y_move rfl) rfl rfl ?_
  refine tr_p (y_move rfl) rfl rfl ?_
  refine tr_e (e_call Try.call54 rfl (F.container_heap_down_ok H)) rfl rfl ?_
  rintro _ h8 ⟨r9, rfl, H⟩
  refine tr_nil ?_
  refine tr_thenN ?_
  refine tr_seq ?_
  refine tr_region ?_
  refine tr_p (y_move rfl) rfl rfl ?_
  refine tr_e (e_invP mt_90_Pop Try.call77 rfl rfl (F.merge_fronts_Pop_ok H)) rfl rfl ?_
  rintro r11 h10 ⟨_, rfl, H⟩
  refine tr_p (y_assign rfl) rfl rfl ?_
  refine tr_nil ?_
  refine tr_thenN ?_
  refine tr_ret ?_
  exact tr_ret1 rfl rfl ⟨_, rfl, H⟩

def F.container_heap_up.j2 (Q : H → Prop) (C1 : (Option Addr) → Int → H → Prop) (x0 : Option Addr) (x1 : Int) (x4 : Int) (h : H) : Prop :=
  nn x0 fun a3 =>
  ldL h a3 fun y4 =>
  F.merge_fronts_Swap y4 x4 x1 h fun h2 =>
  C1 x0 x4 h2
def F.container_heap_up.j3 (Q : H → Prop) (C1 : (Option Addr) → Int → H → Prop) (x0 : Option Addr) (x1 : Int) (x4 : Int) (x17 : Bool) (h : H) : Prop :=
  (x17 = true →
  Q h) ∧
  (x17 = false →
  F.container_heap_up.j2 Q C1 x0 x1 x4 h)
def F.container_heap_up.l1 (Q : H → Prop) : Nat → (Option Addr) → Int → H → Prop
  | 0, _, _, _ => False
  | q1 + 1, x0, x1, h =>
    (2 : Int) ≠ 0 ∧
    ((((IntKind.wrap .i64 (Int.tdiv (IntKind.wrap .i64 (x1 - 1)) 2)) == x1)) = true →
    F.container_heap_up.j3 Q (F.container_heap_up.l1 Q q1) x0 x1 (IntKind.wrap .i64 (Int.tdiv (IntKind.wrap .i64 (x1 - 1)) 2)) true h) ∧
    ((((IntKind.wrap .i64 (Int.tdiv (IntKind.wrap .i64 (x1 - 1)) 2)) == x1)) = false →
    nn x0 fun a8 =>
    ldL h a8 fun y9 =>
    F.merge_fronts_Less y9 x1 (IntKind.wrap .i64 (Int.tdiv (IntKind.wrap .i64 (x1 - 1)) 2)) h fun r10 h7 =>
    F.container_heap_up.j3 Q (F.container_heap_up.l1 Q q1) x0 x1 (IntKind.wrap .i64 (Int.tdiv (IntKind.wrap .i64 (x1 - 1)) 2)) (!r10) h7)
/-- container/heap.up -/
def F.container_heap_up (p0 : Option Addr) (p1 : Int) (h : H) (Q : H → Prop) : Prop :=
  ∃ m, F.container_heap_up.l1 Q m p0 p1 h
theorem F.container_heap_up_ok {p0 : Option Addr} {p1 : Int} {h : H} {Q : H → Prop} (H : F.container_heap_up p0 p1 h Q) : Fn PP 55 ([(.iface 90 (.pointer p0)), (.int .i64 p1)] : List Value).toArray h fun r h' => r = .tuple #[] ∧ Q  h' := by
  unfold F.container_heap_up at H
  refine fn_of Try.func55 Try.ntmps55 rfl rfl fun w0 => ?_
  refine tr_sub [(0, (.iface 90 (.pointer p0))), (1, (.int .i64 p1))] ⟨rfl, rfl, trivial⟩ ?_
  refine tr_block ?_
  obtain ⟨m11, H⟩ := H
  refine tr_sub [(0, (.iface 90 (.pointer p0))), (1, (.int .i64 p1))] ⟨rfl, rfl, trivial⟩ ?_
  refine tr_loop_j (fun m L' h => ∃ (x0 : Option Addr) (x1 : Int), L' = [(0, (.iface 90 (.pointer x0))), (1, (.int .i64 x1))] ∧ F.container_heap_up.l1 Q m x0 x1 h) ?_ ?_ m11 ⟨_, _, rfl, H⟩
  · rintro L' h ⟨_, _, _, H⟩; exact H
  · rintro q1 L' h ⟨x0, x1, rfl, H⟩
    unfold F.container_heap_up.l1 at H
    refine tr_block ?_
    refine tr_seq ?_
    refine tr_region ?_
    refine tr_p (y_move rfl) rfl rfl ?_
    refine tr_p (y_sub rfl rfl) rfl rfl ?_
    obtain ⟨e1, H⟩ := H
    refine tr_p (y_quo rfl rfl e1) rfl rfl ?_
    refine tr_p (y_assign rfl) rfl rfl ?_
    refine tr_nil ?_
    refine tr_thenN ?_
    refine tr_seq_j (fun L' h => ∃ (x0 : Option Addr) (x1 : Int) (x4 : Int), L' = [(0, (.iface 90 (.pointer x0))), (1, (.int .i64 x1)), (4, (.int .i64 x4))] ∧ F.container_heap_up.j2 Q (F.container_heap_up.l1 Q q1) x0 x1 x4 h) ?_ ?_
    · rintro L' h ⟨x0, x1, x4, rfl, H⟩
      unfold F.container_heap_up.j2 at H
      refine tr_seq ?_
      refine tr_region ?_
      refine tr_p (y_move rfl) rfl rfl ?_
      refine tr_p (y_move rfl) rfl rfl ?_
      refine tr_p (y_move rfl) rfl rfl ?_
      refine tr_e (e_invL mt_90_Swap Try.isAgg86 Try.call76 rfl rfl (inv_map (fun y4 H => (F.merge_fronts_Swap_ok H)) H)) rfl rfl ?_
      rintro _ h2 ⟨rfl, H⟩
      refine tr_nil ?_
      refine tr_thenN ?_
      refine tr_region ?_
      refine tr_p (y_move rfl) rfl rfl ?_
      refine tr_p (y_assign rfl) rfl rfl ?_
      refine tr_nil ?_
      refine tr_blockN ?_
      refine tr_thenN ?_
      exact tr_join [(0, (.iface 90 (.pointer x0))), (1, (.int .i64 x4))] ⟨rfl, rfl, trivial⟩ ⟨_, _, rfl, H⟩
    · refine tr_seq_j (fun L' h => ∃ (x0 : Option Addr) (x1 : Int) (x4 : Int) (x17 : Bool), L' = [(0, (.iface 90 (.pointer x0))), (1, (.int .i64 x1)), (4, (.int .i64 x4)), (17, (.bool x17))] ∧ F.container_heap_up.j3 Q (F.container_heap_up.l1 Q q1) x0 x1 x4 x17 h) ?_ ?_
      · rintro L' h ⟨x0, x1, x4, x17, rfl, H⟩
        unfold F.container_heap_up.j3 at H
        refine tr_cond rfl (fun g5 => ?_) (fun g5 => ?_)
        · replace H := H.1 g5
          refine tr_exit ?_
          refine tr_thenE ?_
          refine tr_miss rfl ?_
          refine tr_thenE ?_
          refine tr_hit ?_
          exact tr_end0 rfl ⟨rfl, H⟩
        · replace H := H.2 g5
          refine tr_skip ?_
          refine tr_thenN ?_
          exact tr_join [(0, (.iface 90 (.pointer x0))), (1, (.int .i64 x1)), (4, (.int .i64 x4))] ⟨rfl, rfl, rfl, trivial⟩ ⟨_, _, _, rfl, H⟩
      · refine tr_region ?_
        refine tr_p (y_move rfl) rfl rfl ?_
        refine tr_p (y_move rfl) rfl rfl ?_
        refine tr_p (y_eql rfl rfl) rfl rfl ?_
        refine tr_p (y_move rfl) rfl rfl ?_
        refine tr_split (t := 11) rfl (fun g6 => ?_) (fun g6 => ?_)
        · replace H := H.1 g6
          refine tr_s rfl rfl ?_
          refine tr_s rfl rfl ?_
          refine tr_s rfl rfl ?_
          refine tr_s rfl rfl ?_
          refine tr_s rfl rfl ?_
          refine tr_p (y_pick_t rfl rfl) rfl rfl ?_
          refine tr_nil ?_
          refine tr_thenN ?_
          exact tr_join [(0, (.iface 90 (.pointer x0))), (1, (.int .i64 x1)), (4, (.int .i64 (IntKind.wrap .i64 (Int.tdiv (IntKind.wrap .i64 (x1 - 1)) 2)))), (17, (.bool true))] ⟨rfl, rfl, rfl, rfl, trivial⟩ ⟨_, _, _, _, rfl, H⟩
        · replace H := H.2 g6
          refine tr_p (y_move rfl) rfl rfl ?_
          refine tr_p (y_move rfl) rfl rfl ?_
          refine tr_p (y_move rfl) rfl rfl ?_
          refine tr_e (e_invL mt_90_Less Try.isAgg86 Try.call75 rfl rfl (inv_map (fun y9 H => (F.merge_fronts_Less_ok H)) H)) rfl rfl ?_
          rintro _ h7 ⟨r10, rfl, H⟩
          refine tr_p (y_not rfl) rfl rfl ?_
          refine tr_p (y_pick_f rfl rfl) rfl rfl ?_
          refine tr_nil ?_
          refine tr_thenN ?_
          exact tr_join [(0, (.iface 90 (.pointer x0))), (1, (.int .i64 x1)), (4, (.int .i64 (IntKind.wrap .i64 (Int.tdiv (IntKind.wrap .i64 (x1 - 1)) 2)))), (17, (.bool (!r10)))] ⟨rfl, rfl, rfl, rfl, trivial⟩ ⟨_, _, _, _, rfl, H⟩

/-- container/heap.Fix -/
def F.container_heap_Fix (p0 : Option Addr) (p1 : Int) (h : H) (Q : H → Prop) : Prop :=
  nn p0 fun a2 =>
  ldL h a2 fun y3 =>
  F.merge_fronts_Len y3 h fun r4 h1 =>
  F.container_heap_down p0 p1 r4 h1 fun r6 h5 =>
  ((!r6) = true →
  F.container_heap_up p0 p1 h5 fun h8 =>
  Q h8) ∧
  ((!r6) = false →
  Q h5)
theorem F.container_heap_Fix_ok {p0 : Option Addr} {p1 : Int} {h : H} {Q : H → Prop} (H : F.container_heap_Fix p0 p1 h Q) : Fn PP 50 ([(.iface 90 (.pointer p0)), (.int .i64 p1)] : List Value).toArray h fun r h' => r = .tuple #[] ∧ Q  h' := by
  unfold F.container_heap_Fix at H
  refine fn_of Try.func50 Try.ntmps50 rfl rfl fun w0 => ?_
  refine tr_sub [(0, (.iface 90 (.pointer p0))), (1, (.int .i64 p1))] ⟨rfl, rfl, trivial⟩ ?_
  refine tr_seq ?_
  refine tr_region ?_
  refine tr_p (y_move rfl) rfl rfl ?_
  refine tr_p (y_move rfl) rfl rfl ?_
  refine tr_p (y_move rfl) rfl rfl ?_
  refine tr_e (e_invL mt_90_Len Try.isAgg86 Try.call74 rfl rfl (inv_map (fun y3 H => (F.merge_fronts_Len_ok H)) H)) rfl rfl ?_
  rintro _ h1 ⟨r4, rfl, H⟩
  refine tr_e (e_call Try.call54 rfl (F.container_heap_down_ok H)) rfl rfl ?_
  rintro _ h5 ⟨r6, rfl, H⟩
  refine tr_p (y_not rfl) rfl rfl ?_
  refine tr_nil ?_
  refine tr_thenN ?_
  refine tr_cond rfl (fun g7 => ?_) (fun g7 => ?_)
  · replace H := H.1 g7
    refine tr_region ?_
    refine tr_p (y_move rfl) rfl rfl ?_
    refine tr_p (y_move rfl) rfl rfl ?_
    refine tr_e (e_call Try.call55 rfl (F.container_heap_up_ok H)) rfl rfl ?_
    rintro _ h8 ⟨rfl, H⟩
    refine tr_nil ?_
    exact tr_end0 rfl ⟨rfl, H⟩
  · replace H := H.2 g7
    refine tr_skip ?_
    exact tr_end0 rfl ⟨rfl, H⟩

def F.merge_Rows.j3 (Q : Sl → H → Prop) (C1 : Int → Addr → Sl → H → Prop) (x0 : Int) (x5 : Addr) (x8 : Sl) (h : H) : Prop :=
  ldL h x5 fun y17 =>
  idxA y17 0 2 fun a19 =>
  ldL h (a19.add 0) fun y21 =>
  idxA y21 0 7 fun a23 =>
  ld_S_api_Row h a23 fun y25 =>
  newL h ((y25.cells).toArray) ty_66 1 fun s28 h27 =>
  runL PP (Builtin.append_ #[51, 51] 51 #[x8.enc, s28.enc]) h27 fun s30 h29 =>
  ldL h29 x5 fun y31 =>
  ldL h29 x5 fun y33 =>
  idxA y33 0 2 fun a35 =>
  ldL h29 (a35.add 0) fun y37 =>
  cutL y37 1 (y37.len : Int) 7 fun s40 =>
  idxA y31 0 2 fun a41 =>
  stH h29 (a41.add 0) [s40.enc] fun h43 =>
  ldL h43 x5 fun y44 =>
  idxA y44 0 2 fun a46 =>
  ldL h43 (a46.add 0) fun y48 =>
  ((((y48.len : Int) == 0)) = true →
  F.container_heap_Pop (some x5) h43 fun r52 h51 =>
  C1 x0 x5 s30 h51) ∧
  ((((y48.len : Int) == 0)) = false →
  F.container_heap_Fix (some x5) 0 h43 fun h53 =>
  C1 x0 x5 s30 h53)
def F.merge_Rows.j4 (Q : Sl → H → Prop) (C1 : Int → Addr → Sl → H → Prop) (x0 : Int) (x5 : Addr) (x8 : Sl) (x36 : Bool) (h : H) : Prop :=
  (x36 = true →
  F.merge_Rows.j3 Q C1 x0 x5 x8 h) ∧
  (x36 = false →
  Q x8 h)
def F.merge_Rows.l2 (Q : Sl → H → Prop) : Nat → Int → Addr → Sl → H → Prop
  | 0, _, _, _, _ => False
  | q2 + 1, x0, x5, x8, h =>
    ldL h x5 fun y55 =>
    ((decide ((y55.len : Int) > 0)) = true →
    F.merge_Rows.j4 Q (F.merge_Rows.l2 Q q2) x0 x5 x8 (decide ((x8.len : Int) < x0)) h) ∧
    ((decide ((y55.len : Int) > 0)) = false →
    F.merge_Rows.j4 Q (F.merge_Rows.l2 Q q2) x0 x5 x8 false h)
def F.merge_Rows.l1 (Q : Sl → H → Prop) : Nat → Int → Addr → Sl → Int → Int → H → Prop
  | 0, _, _, _, _, _, _ => False
  | q1 + 1, x0, x5, x9, x10, x11, h =>
    ((decide (x11 < x10)) = true →
    idxA x9 x11 1 fun a4 =>
    ldL h a4 fun y6 =>
    ((decide ((y6.len : Int) > 0)) = true →
    ldL h x5 fun y9 =>
    newL h (((⟨y6, x11⟩ : S_merge_front).cells).toArray) ty_88 1 fun s12 h11 =>
    runL PP (Builtin.append_ #[86, 86] 86 #[y9.enc, s12.enc]) h11 fun s14 h13 =>
    stH h13 x5 [s14.enc] fun h15 =>
    (F.merge_Rows.l1 Q q1) x0 x5 x9 x10 (IntKind.wrap .i64 (x11 + 1)) h15) ∧
    ((decide ((y6.len : Int) > 0)) = false →
    (F.merge_Rows.l1 Q q1) x0 x5 x9 x10 (IntKind.wrap .i64 (x11 + 1)) h)) ∧
    ((decide (x11 < x10)) = false →
    F.container_heap_Init (some x5) h fun h16 =>
    ∃ m, F.merge_Rows.l2 Q m x0 x5 (⟨none, 0, 0⟩ : Sl) h16)
/-- spate/merge.Rows -/
def F.merge_Rows (p0 : Int) (p1 : Sl) (h : H) (Q : Sl → H → Prop) : Prop :=
  new h #[(⟨none, 0, 0⟩ : Sl).enc] ty_86 fun a2 h1 =>
  ∃ m, F.merge_Rows.l1 Q m p0 a2 p1 (p1.len : Int) 0 h1
theorem F.merge_Rows_ok {p0 : Int} {p1 : Sl} {h : H} {Q : Sl → H → Prop} (H : F.merge_Rows p0 p1 h Q) : Fn PP 31 ([(.int .i64 p0), p1.enc] : List Value).toArray h fun r h' => ∃ r0, r = r0.enc ∧ Q r0 h' := by
  unfold F.merge_Rows at H
  refine fn_of Try.func31 Try.ntmps31 rfl rfl fun w0 => ?_
  refine tr_sub [(0, (.int .i64 p0)), (1, p1.enc)] ⟨rfl, rfl, trivial⟩ ?_
  refine tr_seq ?_
  refine tr_region ?_
  refine tr_p (y_assign rfl) rfl rfl ?_
  refine tr_nil ?_
  refine tr_thenN ?_
  refine tr_seq ?_
  refine tr_region ?_
  refine tr_e (f_alloc (cs := #[(⟨none, 0, 0⟩ : Sl).enc]) Try.zeroValue86 rfl H) rfl rfl ?_
  rintro _ h1 ⟨a2, rfl, H⟩
  refine tr_nil ?_
  refine tr_thenN ?_
  refine tr_seq ?_
  refine tr_seq ?_
  refine tr_region ?_
  refine tr_p (y_move rfl) rfl rfl ?_
  refine tr_p (y_len (ts := #[]) Try.runUnderlying53 (o := p1.ptr) (n := p1.len) (cap := p1.cap) rfl) rfl rfl ?_
  refine tr_p (y_move rfl) rfl rfl ?_
  refine tr_nil ?_
  refine tr_thenN ?_
  refine tr_block ?_
  obtain ⟨m59, H⟩ := H
  refine tr_sub [(0, (.int .i64 p0)), (5, (.pointer (some a2))), (9, p1.enc), (10, (.int .i64 (p1.len : Int))), (11, (.int .i64 0))] ⟨rfl, rfl, rfl, rfl, rfl, trivial⟩ ?_
  refine tr_loop_j (fun m L' h => ∃ (x0 : Int) (x5 : Addr) (x9 : Sl) (x10 : Int) (x11 : Int), L' = [(0, (.int .i64 x0)), (5, (.pointer (some x5))), (9, x9.enc), (10, (.int .i64 x10)), (11, (.int .i64 x11))] ∧ F.merge_Rows.l1 Q m x0 x5 x9 x10 x11 h) ?_ ?_ m59 ⟨_, _, _, _, _, rfl, H⟩
  · rintro L' h ⟨_, _, _, _, _, _, H⟩; exact H
  · rintro q1 L' h ⟨x0, x5, x9, x10, x11, rfl, H⟩
    unfold F.merge_Rows.l1 at H
    refine tr_seq ?_
    refine tr_region ?_
    refine tr_p (y_lss rfl rfl) rfl rfl ?_
    refine tr_nil ?_
    refine tr_thenN ?_
    refine tr_seq ?_
    refine tr_cond rfl (fun g3 => ?_) (fun g3 => ?_)
    · replace H := H.1 g3
      refine tr_skip ?_
      refine tr_thenN ?_
      refine tr_seq ?_
      refine tr_block ?_
      refine tr_seq ?_
      refine tr_region ?_
      refine tr_p (y_move rfl) rfl rfl ?_
      obtain ⟨a4, e5, H⟩ := H
      refine tr_p (f_idx (s := x9) Try.runUnderlying53 Try.sizeOf51 rfl rfl e5) rfl rfl ?_
      obtain ⟨y6, k7, H⟩ := H
      refine tr_h (y_ld Try.isAgg51 rfl) k7 rfl rfl ?_
      refine tr_p (y_assign rfl) rfl rfl ?_
      refine tr_p (y_assign rfl) rfl rfl ?_
      refine tr_nil ?_
      refine tr_thenN ?_
      refine tr_seq ?_
      refine tr_region ?_
      refine tr_p (y_move rfl) rfl rfl ?_
      refine tr_p (y_len (ts := #[]) Try.runUnderlying51 (o := y6.ptr) (n := y6.len) (cap := y6.cap) rfl) rfl rfl ?_
      refine tr_p (y_gtr rfl rfl) rfl rfl ?_
      refine tr_nil ?_
      refine tr_thenN ?_
      refine tr_cond rfl (fun g8 => ?_) (fun g8 => ?_)
      · replace H := H.1 g8
        refine tr_region ?_
        obtain ⟨y9, k10, H⟩ := H
        refine tr_h (y_ld Try.isAgg86 rfl) k10 rfl rfl ?_
        refine tr_p (y_move rfl) rfl rfl ?_
        refine tr_p (y_move rfl) rfl rfl ?_
        refine tr_p (f_build rfl (bd_88_0_1 y6 x11)) rfl rfl ?_
        refine tr_e (f_buildL (cs := ((⟨y6, x11⟩ : S_merge_front).cells).toArray) rfl rfl (bl_86_1_0 (⟨y6, x11⟩ : S_merge_front)) H) rfl rfl ?_
        rintro _ h11 ⟨s12, rfl, H⟩
        refine tr_e (f_app rfl H) rfl rfl ?_
        rintro _ h13 ⟨s14, rfl, H⟩
        refine tr_e (f_store (vs := [s14.enc]) Try.sizeOf86 rfl rfl rfl rfl (one1 rfl) H) rfl rfl ?_
        rintro _ h15 ⟨rfl, H⟩
        refine tr_nil ?_
        refine tr_blockN ?_
        refine tr_thenN ?_
        refine tr_region ?_
        refine tr_p (y_add rfl rfl) rfl rfl ?_
        refine tr_p (y_move rfl) rfl rfl ?_
        refine tr_nil ?_
        refine tr_thenN ?_
        exact tr_join [(0, (.int .i64 x0)), (5, (.pointer (some x5))), (9, x9.enc), (10, (.int .i64 x10)), (11, (.int .i64 (IntKind.wrap .i64 (x11 + 1))))] ⟨rfl, rfl, rfl, rfl, rfl, trivial⟩ ⟨_, _, _, _, _, rfl, H⟩
      · replace H := H.2 g8
        refine tr_skip ?_
        refine tr_blockN ?_
        refine tr_thenN ?_
        refine tr_region ?_
        refine tr_p (y_add rfl rfl) rfl rfl ?_
        refine tr_p (y_move rfl) rfl rfl ?_
        refine tr_nil ?_
        refine tr_thenN ?_
        exact tr_join [(0, (.int .i64 x0)), (5, (.pointer (some x5))), (9, x9.enc), (10, (.int .i64 x10)), (11, (.int .i64 (IntKind.wrap .i64 (x11 + 1))))] ⟨rfl, rfl, rfl, rfl, rfl, trivial⟩ ⟨_, _, _, _, _, rfl, H⟩
    · replace H := H.2 g3
      refine tr_exit ?_
      refine tr_thenE ?_
      refine tr_thenE ?_
      refine tr_hit ?_
      refine tr_thenN ?_
      refine tr_seq ?_
      refine tr_region ?_
      refine tr_p (y_mkif Try.runUnderlying90 rfl rfl) rfl rfl ?_
      refine tr_e (e_call Try.call48 rfl (F.container_heap_Init_ok H)) rfl rfl ?_
      rintro _ h16 ⟨rfl, H⟩
      refine tr_nil ?_
      refine tr_thenN ?_
      refine tr_seq ?_
      refine tr_region ?_
      refine tr_p (y_assign rfl) rfl rfl ?_
      refine tr_nil ?_
      refine tr_thenN ?_
      refine tr_seq ?_
      refine tr_block ?_
      obtain ⟨m58, H⟩ := H
      refine tr_sub [(0, (.int .i64 x0)), (5, (.pointer (some x5))), (8, (⟨none, 0, 0⟩ : Sl).enc)] ⟨rfl, rfl, rfl, trivial⟩ ?_
      refine tr_loop_j (fun m L' h => ∃ (x0 : Int) (x5 : Addr) (x8 : Sl), L' = [(0, (.int .i64 x0)), (5, (.pointer (some x5))), (8, x8.enc)] ∧ F.merge_Rows.l2 Q m x0 x5 x8 h) ?_ ?_ m58 ⟨_, _, _, rfl, H⟩
      · rintro L' h ⟨_, _, _, _, H⟩; exact H
      · rintro q2 L' h ⟨x0, x5, x8, rfl, H⟩
        unfold F.merge_Rows.l2 at H
        refine tr_seq_j (fun L' h => ∃ (x0 : Int) (x5 : Addr) (x8 : Sl), L' = [(0, (.int .i64 x0)), (5, (.pointer (some x5))), (8, x8.enc)] ∧ F.merge_Rows.j3 Q (F.merge_Rows.l2 Q q2) x0 x5 x8 h) ?_ ?_
        · rintro L' h ⟨x0, x5, x8, rfl, H⟩
          unfold F.merge_Rows.j3 at H
          refine tr_block ?_
          refine tr_seq ?_
          refine tr_region ?_
          refine tr_p (y_move rfl) rfl rfl ?_
          obtain ⟨y17, k18, H⟩ := H
          refine tr_h (y_ld Try.isAgg86 rfl) k18 rfl rfl ?_
          obtain ⟨a19, e20, H⟩ := H
          refine tr_p (f_idx (s := y17) Try.runUnderlying86 Try.sizeOf88 rfl rfl e20) rfl rfl ?_
          refine tr_p (y_fa (off := 0) Try.runUnderlying88 fo_88_0 rfl) rfl rfl ?_
          obtain ⟨y21, k22, H⟩ := H
          refine tr_h (y_ld Try.isAgg51 rfl) k22 rfl rfl ?_
          obtain ⟨a23, e24, H⟩ := H
          refine tr_p (f_idx (s := y21) Try.runUnderlying51 Try.sizeOf66 rfl rfl e24) rfl rfl ?_
          obtain ⟨y25, k26, H⟩ := H
          refine tr_h (y_ldS Try.isAgg66 Try.sizeOf66 rfl rfl) k26 rfl rfl ?_
          refine tr_e (f_buildL (cs := (y25.cells).toArray) rfl rfl (bl_51_1_0 y25) H) rfl rfl ?_
          rintro _ h27 ⟨s28, rfl, H⟩
          refine tr_e (f_app rfl H) rfl rfl ?_
          rintro _ h29 ⟨s30, rfl, H⟩
          refine tr_p (y_assign rfl) rfl rfl ?_
          refine tr_nil ?_
          refine tr_thenN ?_
          refine tr_seq ?_
          refine tr_draw mixed [0, 0, 2, 6, 14, 30, 63, 127, 255] (by kernel_rfl) ?_
          obtain ⟨y31, k32, H⟩ := H
          refine g_h 0 1 rfl (by kernel_rfl) (y_ld Try.isAgg86 rfl) k32 rfl rfl ?_
          obtain ⟨y33, k34, H⟩ := H
          refine g_h 1 3 rfl (by kernel_rfl) (y_ld Try.isAgg86 rfl) k34 rfl rfl ?_
          obtain ⟨a35, e36, H⟩ := H
          refine g_p 2 7 rfl (by kernel_rfl) (f_idx (s := y33) Try.runUnderlying86 Try.sizeOf88 rfl rfl e36) rfl rfl ?_
          refine g_p 3 15 rfl (by kernel_rfl) (y_fa (off := 0) Try.runUnderlying88 fo_88_0 rfl) rfl rfl ?_
          obtain ⟨y37, k38, H⟩ := H
          refine g_h 4 31 rfl (by kernel_rfl) (y_ld Try.isAgg51 rfl) k38 rfl rfl ?_
          obtain ⟨s40, e39, H⟩ := H
          refine g_p 5 63 rfl (by kernel_rfl) (f_cutL (s := y37) (some (.i64, 1)) none Try.runUnderlying51 Try.sizeOf66 rfl rfl rfl e39) rfl rfl ?_
          obtain ⟨a41, e42, H⟩ := H
          refine g_p 6 127 rfl (by kernel_rfl) (f_idx (s := y31) Try.runUnderlying86 Try.sizeOf88 rfl rfl e42) rfl rfl ?_
          refine g_p 7 255 rfl (by kernel_rfl) (y_fa (off := 0) Try.runUnderlying88 fo_88_0 rfl) rfl rfl ?_
          refine g_e 8 511 [] (by kernel_rfl) rfl (by kernel_rfl) (f_store (vs := [s40.enc]) Try.sizeOf51 rfl rfl rfl rfl (one1 rfl) H) rfl rfl ?_
          rintro _ h43 ⟨rfl, H⟩
          refine ⟨trivial, ?_⟩
          refine g_d (by kernel_rfl) ?_
          refine tr_thenN ?_
          refine tr_seq ?_
          refine tr_region ?_
          obtain ⟨y44, k45, H⟩ := H
          refine tr_h (y_ld Try.isAgg86 rfl) k45 rfl rfl ?_
          obtain ⟨a46, e47, H⟩ := H
          refine tr_p (f_idx (s := y44) Try.runUnderlying86 Try.sizeOf88 rfl rfl e47) rfl rfl ?_
          refine tr_p (y_fa (off := 0) Try.runUnderlying88 fo_88_0 rfl) rfl rfl ?_
          obtain ⟨y48, k49, H⟩ := H
          refine tr_h (y_ld Try.isAgg51 rfl) k49 rfl rfl ?_
          refine tr_p (y_len (ts := #[]) Try.runUnderlying51 (o := y48.ptr) (n := y48.len) (cap := y48.cap) rfl) rfl rfl ?_
          refine tr_p (y_eql rfl rfl) rfl rfl ?_
          refine tr_nil ?_
          refine tr_thenN ?_
          refine tr_cond rfl (fun g50 => ?_) (fun g50 => ?_)
          · replace H := H.1 g50
            refine tr_region ?_
            refine tr_p (y_mkif Try.runUnderlying90 rfl rfl) rfl rfl ?_
            refine tr_e (e_call Try.call49 rfl (F.container_heap_Pop_ok H)) rfl rfl ?_
            rintro r52 h51 ⟨_, rfl, H⟩
            refine tr_nil ?_
            refine tr_blockN ?_
            refine tr_thenN ?_
            exact tr_join [(0, (.int .i64 x0)), (5, (.pointer (some x5))), (8, s30.enc)] ⟨rfl, rfl, rfl, trivial⟩ ⟨_, _, _, rfl, H⟩
          · replace H := H.2 g50
            refine tr_region ?_
            refine tr_p (y_mkif Try.runUnderlying90 rfl rfl) rfl rfl ?_
            refine tr_e (e_call Try.call50 rfl (F.container_heap_Fix_ok H)) rfl rfl ?_
            rintro _ h53 ⟨rfl, H⟩
            refine tr_nil ?_
            refine tr_blockN ?_
            refine tr_thenN ?_
            exact tr_join [(0, (.int .i64 x0)), (5, (.pointer (some x5))), (8, s30.enc)] ⟨rfl, rfl, rfl, trivial⟩ ⟨_, _, _, rfl, H⟩
        · refine tr_seq_j (fun L' h => ∃ (x0 : Int) (x5 : Addr) (x8 : Sl) (x36 : Bool), L' = [(0, (.int .i64 x0)), (5, (.pointer (some x5))), (8, x8.enc), (36, (.bool x36))] ∧ F.merge_Rows.j4 Q (F.merge_Rows.l2 Q q2) x0 x5 x8 x36 h) ?_ ?_
          · rintro L' h ⟨x0, x5, x8, x36, rfl, H⟩
            unfold F.merge_Rows.j4 at H
            refine tr_cond rfl (fun g54 => ?_) (fun g54 => ?_)
            · replace H := H.1 g54
              refine tr_skip ?_
              refine tr_thenN ?_
              exact tr_join [(0, (.int .i64 x0)), (5, (.pointer (some x5))), (8, x8.enc)] ⟨rfl, rfl, rfl, trivial⟩ ⟨_, _, _, rfl, H⟩
            · replace H := H.2 g54
              refine tr_exit ?_
              refine tr_thenE ?_
              refine tr_thenE ?_
              refine tr_hit ?_
              refine tr_thenN ?_
              refine tr_seq ?_
              refine tr_region ?_
              refine tr_p (y_move rfl) rfl rfl ?_
              refine tr_p (y_assign rfl) rfl rfl ?_
              refine tr_nil ?_
              refine tr_thenN ?_
              refine tr_ret ?_
              exact tr_ret1 rfl rfl ⟨_, rfl, H⟩
          · refine tr_region ?_
            obtain ⟨y55, k56, H⟩ := H
            refine tr_h (y_ld Try.isAgg86 rfl) k56 rfl rfl ?_
            refine tr_p (y_len (ts := #[]) Try.runUnderlying86 (o := y55.ptr) (n := y55.len) (cap := y55.cap) rfl) rfl rfl ?_
            refine tr_p (y_gtr rfl rfl) rfl rfl ?_
            refine tr_p (y_move rfl) rfl rfl ?_
            refine tr_split (t := 31) rfl (fun g57 => ?_) (fun g57 => ?_)
            · replace H := H.1 g57
              refine tr_p (y_move rfl) rfl rfl ?_
              refine tr_p (y_len (ts := #[]) Try.runUnderlying51 (o := x8.ptr) (n := x8.len) (cap := x8.cap) rfl) rfl rfl ?_
              refine tr_p (y_move rfl) rfl rfl ?_
              refine tr_p (y_lss rfl rfl) rfl rfl ?_
              refine tr_p (y_pick_t rfl rfl) rfl rfl ?_
              refine tr_nil ?_
              refine tr_thenN ?_
              exact tr_join [(0, (.int .i64 x0)), (5, (.pointer (some x5))), (8, x8.enc), (36, (.bool (decide ((x8.len : Int) < x0))))] ⟨rfl, rfl, rfl, rfl, trivial⟩ ⟨_, _, _, _, rfl, H⟩
            · replace H := H.2 g57
              refine tr_s rfl rfl ?_
              refine tr_s rfl rfl ?_
              refine tr_s rfl rfl ?_
              refine tr_s rfl rfl ?_
              refine tr_p (y_pick_f rfl rfl) rfl rfl ?_
              refine tr_nil ?_
              refine tr_thenN ?_
              exact tr_join [(0, (.int .i64 x0)), (5, (.pointer (some x5))), (8, x8.enc), (36, (.bool false))] ⟨rfl, rfl, rfl, rfl, trivial⟩ ⟨_, _, _, _, rfl, H⟩

end Go.Proofs.Ytidpbnbjpglhfaa.V
